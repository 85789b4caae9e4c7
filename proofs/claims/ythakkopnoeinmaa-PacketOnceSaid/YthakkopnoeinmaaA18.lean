import Derived.Test.YthakkopnoeinmaaA17
import Derived.Test.YthakkopnoeinmaaA11
set_option linter.unusedSimpArgs false
set_option linter.unusedVariables false
namespace Go.Proofs.Ythakkopnoeinmaa
open Go.Proofs
/-- One field is read. -/
def putF {β : Type} (p : Pr β) (f : β → CV) (i : Nat) (x : List CV × List UInt8) : Except Nat (List CV × List UInt8) :=
  match p x.2 with | .ok (a, r) => .ok (x.1.take i ++ f a :: x.1.drop (i + 1), r) | .error k => .error k
theorem on_len {α : Type} {p : Pr α} {e : α → List UInt8} (hp : ON p e) {s r : List UInt8} {a : α} (h : p s = .ok (a, r)) : r.length ≤ s.length := by
  rw [hp s a r h, List.length_append]; omega
theorem number_on : ON number (fun n : Nat => enc n) := fun _ _ _ h => (number_once h).1
theorem putF_good {β : Type} {p : Pr β} {e : β → List UInt8} (hp : ON p e) {f : β → CV} {i N : Nat} (hi : i < N) {x y : List CV × List UInt8} (hx : x.1.length = N ∧ x.2.length ≤ 1000000000) (h : putF p f i x = .ok y) : y.1.length = N ∧ y.2.length ≤ 1000000000 := by
  unfold putF at h
  rcases hq : p x.2 with k | ⟨a, r⟩
  · rw [hq] at h; cases h
  · rw [hq] at h; cases h
    have := on_len hp hq
    refine ⟨?_, by dsimp only; omega⟩
    simp only [List.length_append, List.length_cons, List.length_take, List.length_drop]; omega
theorem listP_le {α : Type} {p : Pr α} {e : α → List UInt8} (hp : ON p e) {s r : List UInt8} {l : List α} (h : listP p s = .ok (l, r)) : l.length ≤ 65536 := by
  unfold listP at h
  split at h
  · cases h
  · rename_i h1
    rw [(rep_on hp _ _ _ _ h).2]
    exact length_le h1
theorem textP_le {s r b : List UInt8} (h : textP s = .ok (b, r)) : b.length ≤ 65536 := by
  unfold textP at h
  split at h
  · cases h
  · rename_i h1
    unfold takeP at h
    split at h
    · cases h
    · cases h
      have := length_le h1
      rw [List.length_take]; omega
theorem openP_le {b s : List UInt8} (h : openP b = .ok s) : s.length ≤ 65536 := by
  unfold openP at h
  split at h
  · cases h
  · split at h
    · cases h
    · split at h
      · cases h; rw [List.length_take]; omega
      · cases h
def stpPk : Nat → List CV × List UInt8 → Except Nat (List CV × List UInt8)
  | 0 => putF number (fun n : Nat => ci n) 0
  | 1 => putF number (fun n : Nat => ci n) 1
  | 2 => putF number (fun n : Nat => ci n) 2
  | 3 => putF number (fun n : Nat => ci n) 3
  | 4 => putF number (fun n : Nat => ci n) 4
  | 5 => putF (listP extP) (fun l => .sl .sh 2 (l.map extC)) 5
  | 6 => putF textP (fun l => .sl .sh 1 (bs l)) 6
  | _ => fun x => .ok x
def pPk : Pr Pk := fun s0 =>
  match number s0 with
  | .error k => .error k
  | .ok (x0, s1) =>
   match number s1 with
   | .error k => .error k
   | .ok (x1, s2) =>
    match number s2 with
    | .error k => .error k
    | .ok (x2, s3) =>
     match number s3 with
     | .error k => .error k
     | .ok (x3, s4) =>
      match number s4 with
      | .error k => .error k
      | .ok (x4, s5) =>
       match (listP extP) s5 with
       | .error k => .error k
       | .ok (x5, s6) =>
        match textP s6 with
        | .error k => .error k
        | .ok (x6, s7) =>
         .ok (⟨x0, x1, x2, x3, x4, x5, x6⟩, s7)
theorem runPk (s : List UInt8) : runF stpPk 0 7 (pkZ, s) = match pPk s with | .ok (p, r) => .ok (pkC p, r) | .error k => .error k := by
  unfold pPk
  rw [runF, stpPk, putF]
  dsimp only
  rcases h0 : number s with k | ⟨x0, s1⟩
  · rfl
  dsimp only
  rw [runF, stpPk, putF]
  dsimp only
  rcases h1 : number s1 with k | ⟨x1, s2⟩
  · rfl
  dsimp only
  rw [runF, stpPk, putF]
  dsimp only
  rcases h2 : number s2 with k | ⟨x2, s3⟩
  · rfl
  dsimp only
  rw [runF, stpPk, putF]
  dsimp only
  rcases h3 : number s3 with k | ⟨x3, s4⟩
  · rfl
  dsimp only
  rw [runF, stpPk, putF]
  dsimp only
  rcases h4 : number s4 with k | ⟨x4, s5⟩
  · rfl
  dsimp only
  rw [runF, stpPk, putF]
  dsimp only
  rcases h5 : (listP extP) s5 with k | ⟨x5, s6⟩
  · rfl
  dsimp only
  rw [runF, stpPk, putF]
  dsimp only
  rcases h6 : textP s6 with k | ⟨x6, s7⟩
  · rfl
  dsimp only
  rfl
def goodPk (x : List CV × List UInt8) : Prop := x.1.length = 7 ∧ x.2.length ≤ 1000000000
theorem goodPk_step (i : Nat) (x y : List CV × List UInt8) (hx : goodPk x) (h : stpPk i x = .ok y) : goodPk y := by
  match i with
  | 0 => exact putF_good number_on (by omega) hx h
  | 1 => exact putF_good number_on (by omega) hx h
  | 2 => exact putF_good number_on (by omega) hx h
  | 3 => exact putF_good number_on (by omega) hx h
  | 4 => exact putF_good number_on (by omega) hx h
  | 5 => exact putF_good (list_on ext_on) (by omega) hx h
  | 6 => exact putF_good text_on (by omega) hx h
  | n + 7 => cases h; exact hx
def fnsPk (H : Hp) : List CV := [.fn 72 [.ptr (H.length + 3) 0, .ptr (H.length + 4) 0], .fn 72 [.ptr (H.length + 5) 0, .ptr (H.length + 6) 0], .fn 72 [.ptr (H.length + 7) 0, .ptr (H.length + 8) 0], .fn 72 [.ptr (H.length + 9) 0, .ptr (H.length + 10) 0], .fn 72 [.ptr (H.length + 11) 0, .ptr (H.length + 12) 0], .fn 74 [.ptr (H.length + 13) 0, .ptr (H.length + 14) 0], .fn 76 [.ptr (H.length + 15) 0, .ptr (H.length + 16) 0]]
/-- The boxes while the fields are read. -/
def HsPk (H : Hp) (x : List CV × List UInt8) : Hp := H ++ [some x.1, some [ci 0], some [.sl .sh 1 (bs x.2), .sl .ti 1 ((fnsPk H).map fun c => [c])], some [.ptr (H.length + 2) 0], some [.ptr H.length 0], some [.ptr (H.length + 2) 0], some [.ptr H.length 1], some [.ptr (H.length + 2) 0], some [.ptr H.length 2], some [.ptr (H.length + 2) 0], some [.ptr H.length 3], some [.ptr (H.length + 2) 0], some [.ptr H.length 4], some [.ptr (H.length + 2) 0], some [.ptr H.length 5], some [.ptr (H.length + 2) 0], some [.ptr H.length 6]]
theorem fnsPk_len (H : Hp) : (fnsPk H).length = 7 := rfl
theorem stpPk_cx (H : Hp) (V : List Nat) (i : Nat) (h : i < (fnsPk H).length) (x : List CV × List UInt8) (hx : goodPk x) : hcallx Try.prog (HsPk H x) V (StK (HsPk H) stpPk i x V) (StE (HsPk H) stpPk i x V) (fnsPk H)[i] [] := by
  obtain ⟨hx1, hx2⟩ := hx
  match i, h with
  | 0, _ =>
    show CX Try.prog 72 [.ptr (H.length + 3) 0, .ptr (H.length + 4) 0] _ _ _ _
    refine CX.mono (int1_cx (HsPk H x) V (H.length + 3) (H.length + 4) (H.length + 2) H.length 0 .sh x.2 _ x.1 (by rw [HsPk, at_len_add]; rfl) (by rw [HsPk, at_len_add]; rfl) (by rw [HsPk, at_len_add]; rfl) (by rw [HsPk, at_len]; rfl) (by omega) (by omega) (by omega) hx2) ?_ ?_
    · rintro _ _ _ ⟨a, r, h1, rfl, rfl⟩
      refine ⟨(x.1.take 0 ++ (fun n : Nat => ci n) a :: x.1.drop (0 + 1), r), by rw [stpPk, putF, h1], ?_, rfl⟩
      simp [HsPk, go_sem]
    · rintro _ _ _ ⟨k, h1, rfl, rfl, rfl⟩
      exact ⟨k, by rw [stpPk, putF, h1], rfl, rfl, rfl⟩
  | 1, _ =>
    show CX Try.prog 72 [.ptr (H.length + 5) 0, .ptr (H.length + 6) 0] _ _ _ _
    refine CX.mono (int1_cx (HsPk H x) V (H.length + 5) (H.length + 6) (H.length + 2) H.length 1 .sh x.2 _ x.1 (by rw [HsPk, at_len_add]; rfl) (by rw [HsPk, at_len_add]; rfl) (by rw [HsPk, at_len_add]; rfl) (by rw [HsPk, at_len]; rfl) (by omega) (by omega) (by omega) hx2) ?_ ?_
    · rintro _ _ _ ⟨a, r, h1, rfl, rfl⟩
      refine ⟨(x.1.take 1 ++ (fun n : Nat => ci n) a :: x.1.drop (1 + 1), r), by rw [stpPk, putF, h1], ?_, rfl⟩
      simp [HsPk, go_sem]
    · rintro _ _ _ ⟨k, h1, rfl, rfl, rfl⟩
      exact ⟨k, by rw [stpPk, putF, h1], rfl, rfl, rfl⟩
  | 2, _ =>
    show CX Try.prog 72 [.ptr (H.length + 7) 0, .ptr (H.length + 8) 0] _ _ _ _
    refine CX.mono (int1_cx (HsPk H x) V (H.length + 7) (H.length + 8) (H.length + 2) H.length 2 .sh x.2 _ x.1 (by rw [HsPk, at_len_add]; rfl) (by rw [HsPk, at_len_add]; rfl) (by rw [HsPk, at_len_add]; rfl) (by rw [HsPk, at_len]; rfl) (by omega) (by omega) (by omega) hx2) ?_ ?_
    · rintro _ _ _ ⟨a, r, h1, rfl, rfl⟩
      refine ⟨(x.1.take 2 ++ (fun n : Nat => ci n) a :: x.1.drop (2 + 1), r), by rw [stpPk, putF, h1], ?_, rfl⟩
      simp [HsPk, go_sem]
    · rintro _ _ _ ⟨k, h1, rfl, rfl, rfl⟩
      exact ⟨k, by rw [stpPk, putF, h1], rfl, rfl, rfl⟩
  | 3, _ =>
    show CX Try.prog 72 [.ptr (H.length + 9) 0, .ptr (H.length + 10) 0] _ _ _ _
    refine CX.mono (int1_cx (HsPk H x) V (H.length + 9) (H.length + 10) (H.length + 2) H.length 3 .sh x.2 _ x.1 (by rw [HsPk, at_len_add]; rfl) (by rw [HsPk, at_len_add]; rfl) (by rw [HsPk, at_len_add]; rfl) (by rw [HsPk, at_len]; rfl) (by omega) (by omega) (by omega) hx2) ?_ ?_
    · rintro _ _ _ ⟨a, r, h1, rfl, rfl⟩
      refine ⟨(x.1.take 3 ++ (fun n : Nat => ci n) a :: x.1.drop (3 + 1), r), by rw [stpPk, putF, h1], ?_, rfl⟩
      simp [HsPk, go_sem]
    · rintro _ _ _ ⟨k, h1, rfl, rfl, rfl⟩
      exact ⟨k, by rw [stpPk, putF, h1], rfl, rfl, rfl⟩
  | 4, _ =>
    show CX Try.prog 72 [.ptr (H.length + 11) 0, .ptr (H.length + 12) 0] _ _ _ _
    refine CX.mono (int1_cx (HsPk H x) V (H.length + 11) (H.length + 12) (H.length + 2) H.length 4 .sh x.2 _ x.1 (by rw [HsPk, at_len_add]; rfl) (by rw [HsPk, at_len_add]; rfl) (by rw [HsPk, at_len_add]; rfl) (by rw [HsPk, at_len]; rfl) (by omega) (by omega) (by omega) hx2) ?_ ?_
    · rintro _ _ _ ⟨a, r, h1, rfl, rfl⟩
      refine ⟨(x.1.take 4 ++ (fun n : Nat => ci n) a :: x.1.drop (4 + 1), r), by rw [stpPk, putF, h1], ?_, rfl⟩
      simp [HsPk, go_sem]
    · rintro _ _ _ ⟨k, h1, rfl, rfl, rfl⟩
      exact ⟨k, by rw [stpPk, putF, h1], rfl, rfl, rfl⟩
  | 5, _ =>
    show CX Try.prog 74 [.ptr (H.length + 13) 0, .ptr (H.length + 14) 0] _ _ _ _
    refine CX.mono (exts1_cx (HsPk H x) V (H.length + 13) (H.length + 14) (H.length + 2) H.length 5 .sh x.2 _ x.1 (by rw [HsPk, at_len_add]; rfl) (by rw [HsPk, at_len_add]; rfl) (by rw [HsPk, at_len_add]; rfl) (by rw [HsPk, at_len]; rfl) (by omega) (by omega) (by omega) hx2) ?_ ?_
    · rintro _ _ _ ⟨a, r, h1, rfl, rfl⟩
      refine ⟨(x.1.take 5 ++ (fun l => .sl .sh 2 (l.map extC)) a :: x.1.drop (5 + 1), r), by rw [stpPk, putF, h1], ?_, rfl⟩
      simp [HsPk, go_sem]
    · rintro _ _ _ ⟨k, h1, rfl, rfl, rfl⟩
      exact ⟨k, by rw [stpPk, putF, h1], rfl, rfl, rfl⟩
  | 6, _ =>
    show CX Try.prog 76 [.ptr (H.length + 15) 0, .ptr (H.length + 16) 0] _ _ _ _
    refine CX.mono (bytes1_cx (HsPk H x) V (H.length + 15) (H.length + 16) (H.length + 2) H.length 6 .sh x.2 _ x.1 (by rw [HsPk, at_len_add]; rfl) (by rw [HsPk, at_len_add]; rfl) (by rw [HsPk, at_len_add]; rfl) (by rw [HsPk, at_len]; rfl) (by omega) (by omega) (by omega) hx2) ?_ ?_
    · rintro _ _ _ ⟨a, r, h1, rfl, rfl⟩
      refine ⟨(x.1.take 6 ++ (fun l => .sl .sh 1 (bs l)) a :: x.1.drop (6 + 1), r), by rw [stpPk, putF, h1], ?_, rfl⟩
      simp [HsPk, go_sem]
    · rintro _ _ _ ⟨k, h1, rfl, rfl, rfl⟩
      exact ⟨k, by rw [stpPk, putF, h1], rfl, rfl, rfl⟩
  | n + 7, h => exact absurd h (by rw [fnsPk_len]; omega)
theorem lePk {s r : List UInt8} {p : Pk} (h : pPk s = .ok (p, r)) : p.sel.length ≤ 65536 ∧ p.payload.length ≤ 65536 := by
  unfold pPk at h
  split at h
  · cases h
  rename_i q0
  split at h
  · cases h
  rename_i q1
  split at h
  · cases h
  rename_i q2
  split at h
  · cases h
  rename_i q3
  split at h
  · cases h
  rename_i q4
  split at h
  · cases h
  rename_i q5
  split at h
  · cases h
  rename_i q6
  cases h
  exact ⟨listP_le ext_on q5, textP_le q6⟩
def decPk (b : List UInt8) : Except Nat Pk :=
  match openP b with
  | .error k => .error k
  | .ok s => match pPk s with
    | .error k => .error k
    | .ok (p, r) => if r ≠ [] then .error 3 else if checkP p ≠ 0 then .error (checkP p) else .ok p
def dvPk : Except Nat Pk → CV
  | .ok p => .tup [.agg (pkC p), er 0]
  | .error k => .tup [.agg pkZ, er k]
def stpMs : Nat → List CV × List UInt8 → Except Nat (List CV × List UInt8)
  | 0 => putF number (fun n : Nat => ci n) 0
  | 1 => putF number (fun n : Nat => ci n) 1
  | 2 => putF number (fun n : Nat => ci n) 2
  | 3 => putF number (fun n : Nat => ci n) 3
  | 4 => putF number (fun n : Nat => ci n) 4
  | 5 => putF number (fun n : Nat => ci n) 5
  | 6 => putF (listP intP) (fun l => .sl .sh 1 (l.map ic)) 6
  | 7 => putF textP (fun l => .sl .sh 1 (bs l)) 7
  | _ => fun x => .ok x
def pMs : Pr Ms := fun s0 =>
  match number s0 with
  | .error k => .error k
  | .ok (x0, s1) =>
   match number s1 with
   | .error k => .error k
   | .ok (x1, s2) =>
    match number s2 with
    | .error k => .error k
    | .ok (x2, s3) =>
     match number s3 with
     | .error k => .error k
     | .ok (x3, s4) =>
      match number s4 with
      | .error k => .error k
      | .ok (x4, s5) =>
       match number s5 with
       | .error k => .error k
       | .ok (x5, s6) =>
        match (listP intP) s6 with
        | .error k => .error k
        | .ok (x6, s7) =>
         match textP s7 with
         | .error k => .error k
         | .ok (x7, s8) =>
          .ok (⟨x0, x1, x2, x3, x4, x5, x6, x7⟩, s8)
theorem runMs (s : List UInt8) : runF stpMs 0 8 (msZ, s) = match pMs s with | .ok (p, r) => .ok (msC p, r) | .error k => .error k := by
  unfold pMs
  rw [runF, stpMs, putF]
  dsimp only
  rcases h0 : number s with k | ⟨x0, s1⟩
  · rfl
  dsimp only
  rw [runF, stpMs, putF]
  dsimp only
  rcases h1 : number s1 with k | ⟨x1, s2⟩
  · rfl
  dsimp only
  rw [runF, stpMs, putF]
  dsimp only
  rcases h2 : number s2 with k | ⟨x2, s3⟩
  · rfl
  dsimp only
  rw [runF, stpMs, putF]
  dsimp only
  rcases h3 : number s3 with k | ⟨x3, s4⟩
  · rfl
  dsimp only
  rw [runF, stpMs, putF]
  dsimp only
  rcases h4 : number s4 with k | ⟨x4, s5⟩
  · rfl
  dsimp only
  rw [runF, stpMs, putF]
  dsimp only
  rcases h5 : number s5 with k | ⟨x5, s6⟩
  · rfl
  dsimp only
  rw [runF, stpMs, putF]
  dsimp only
  rcases h6 : (listP intP) s6 with k | ⟨x6, s7⟩
  · rfl
  dsimp only
  rw [runF, stpMs, putF]
  dsimp only
  rcases h7 : textP s7 with k | ⟨x7, s8⟩
  · rfl
  dsimp only
  rfl
def goodMs (x : List CV × List UInt8) : Prop := x.1.length = 8 ∧ x.2.length ≤ 1000000000
theorem goodMs_step (i : Nat) (x y : List CV × List UInt8) (hx : goodMs x) (h : stpMs i x = .ok y) : goodMs y := by
  match i with
  | 0 => exact putF_good number_on (by omega) hx h
  | 1 => exact putF_good number_on (by omega) hx h
  | 2 => exact putF_good number_on (by omega) hx h
  | 3 => exact putF_good number_on (by omega) hx h
  | 4 => exact putF_good number_on (by omega) hx h
  | 5 => exact putF_good number_on (by omega) hx h
  | 6 => exact putF_good (list_on int_on) (by omega) hx h
  | 7 => exact putF_good text_on (by omega) hx h
  | n + 8 => cases h; exact hx
def fnsMs (H : Hp) : List CV := [.fn 72 [.ptr (H.length + 3) 0, .ptr (H.length + 4) 0], .fn 72 [.ptr (H.length + 5) 0, .ptr (H.length + 6) 0], .fn 72 [.ptr (H.length + 7) 0, .ptr (H.length + 8) 0], .fn 72 [.ptr (H.length + 9) 0, .ptr (H.length + 10) 0], .fn 72 [.ptr (H.length + 11) 0, .ptr (H.length + 12) 0], .fn 72 [.ptr (H.length + 13) 0, .ptr (H.length + 14) 0], .fn 81 [.ptr (H.length + 15) 0, .ptr (H.length + 16) 0], .fn 76 [.ptr (H.length + 17) 0, .ptr (H.length + 18) 0]]
/-- The boxes while the fields are read. -/
def HsMs (H : Hp) (x : List CV × List UInt8) : Hp := H ++ [some x.1, some [ci 0], some [.sl .sh 1 (bs x.2), .sl .ti 1 ((fnsMs H).map fun c => [c])], some [.ptr (H.length + 2) 0], some [.ptr H.length 0], some [.ptr (H.length + 2) 0], some [.ptr H.length 1], some [.ptr (H.length + 2) 0], some [.ptr H.length 2], some [.ptr (H.length + 2) 0], some [.ptr H.length 3], some [.ptr (H.length + 2) 0], some [.ptr H.length 4], some [.ptr (H.length + 2) 0], some [.ptr H.length 5], some [.ptr (H.length + 2) 0], some [.ptr H.length 6], some [.ptr (H.length + 2) 0], some [.ptr H.length 7]]
theorem fnsMs_len (H : Hp) : (fnsMs H).length = 8 := rfl
theorem stpMs_cx (H : Hp) (V : List Nat) (i : Nat) (h : i < (fnsMs H).length) (x : List CV × List UInt8) (hx : goodMs x) : hcallx Try.prog (HsMs H x) V (StK (HsMs H) stpMs i x V) (StE (HsMs H) stpMs i x V) (fnsMs H)[i] [] := by
  obtain ⟨hx1, hx2⟩ := hx
  match i, h with
  | 0, _ =>
    show CX Try.prog 72 [.ptr (H.length + 3) 0, .ptr (H.length + 4) 0] _ _ _ _
    refine CX.mono (int1_cx (HsMs H x) V (H.length + 3) (H.length + 4) (H.length + 2) H.length 0 .sh x.2 _ x.1 (by rw [HsMs, at_len_add]; rfl) (by rw [HsMs, at_len_add]; rfl) (by rw [HsMs, at_len_add]; rfl) (by rw [HsMs, at_len]; rfl) (by omega) (by omega) (by omega) hx2) ?_ ?_
    · rintro _ _ _ ⟨a, r, h1, rfl, rfl⟩
      refine ⟨(x.1.take 0 ++ (fun n : Nat => ci n) a :: x.1.drop (0 + 1), r), by rw [stpMs, putF, h1], ?_, rfl⟩
      simp [HsMs, go_sem]
    · rintro _ _ _ ⟨k, h1, rfl, rfl, rfl⟩
      exact ⟨k, by rw [stpMs, putF, h1], rfl, rfl, rfl⟩
  | 1, _ =>
    show CX Try.prog 72 [.ptr (H.length + 5) 0, .ptr (H.length + 6) 0] _ _ _ _
    refine CX.mono (int1_cx (HsMs H x) V (H.length + 5) (H.length + 6) (H.length + 2) H.length 1 .sh x.2 _ x.1 (by rw [HsMs, at_len_add]; rfl) (by rw [HsMs, at_len_add]; rfl) (by rw [HsMs, at_len_add]; rfl) (by rw [HsMs, at_len]; rfl) (by omega) (by omega) (by omega) hx2) ?_ ?_
    · rintro _ _ _ ⟨a, r, h1, rfl, rfl⟩
      refine ⟨(x.1.take 1 ++ (fun n : Nat => ci n) a :: x.1.drop (1 + 1), r), by rw [stpMs, putF, h1], ?_, rfl⟩
      simp [HsMs, go_sem]
    · rintro _ _ _ ⟨k, h1, rfl, rfl, rfl⟩
      exact ⟨k, by rw [stpMs, putF, h1], rfl, rfl, rfl⟩
  | 2, _ =>
    show CX Try.prog 72 [.ptr (H.length + 7) 0, .ptr (H.length + 8) 0] _ _ _ _
    refine CX.mono (int1_cx (HsMs H x) V (H.length + 7) (H.length + 8) (H.length + 2) H.length 2 .sh x.2 _ x.1 (by rw [HsMs, at_len_add]; rfl) (by rw [HsMs, at_len_add]; rfl) (by rw [HsMs, at_len_add]; rfl) (by rw [HsMs, at_len]; rfl) (by omega) (by omega) (by omega) hx2) ?_ ?_
    · rintro _ _ _ ⟨a, r, h1, rfl, rfl⟩
      refine ⟨(x.1.take 2 ++ (fun n : Nat => ci n) a :: x.1.drop (2 + 1), r), by rw [stpMs, putF, h1], ?_, rfl⟩
      simp [HsMs, go_sem]
    · rintro _ _ _ ⟨k, h1, rfl, rfl, rfl⟩
      exact ⟨k, by rw [stpMs, putF, h1], rfl, rfl, rfl⟩
  | 3, _ =>
    show CX Try.prog 72 [.ptr (H.length + 9) 0, .ptr (H.length + 10) 0] _ _ _ _
    refine CX.mono (int1_cx (HsMs H x) V (H.length + 9) (H.length + 10) (H.length + 2) H.length 3 .sh x.2 _ x.1 (by rw [HsMs, at_len_add]; rfl) (by rw [HsMs, at_len_add]; rfl) (by rw [HsMs, at_len_add]; rfl) (by rw [HsMs, at_len]; rfl) (by omega) (by omega) (by omega) hx2) ?_ ?_
    · rintro _ _ _ ⟨a, r, h1, rfl, rfl⟩
      refine ⟨(x.1.take 3 ++ (fun n : Nat => ci n) a :: x.1.drop (3 + 1), r), by rw [stpMs, putF, h1], ?_, rfl⟩
      simp [HsMs, go_sem]
    · rintro _ _ _ ⟨k, h1, rfl, rfl, rfl⟩
      exact ⟨k, by rw [stpMs, putF, h1], rfl, rfl, rfl⟩
  | 4, _ =>
    show CX Try.prog 72 [.ptr (H.length + 11) 0, .ptr (H.length + 12) 0] _ _ _ _
    refine CX.mono (int1_cx (HsMs H x) V (H.length + 11) (H.length + 12) (H.length + 2) H.length 4 .sh x.2 _ x.1 (by rw [HsMs, at_len_add]; rfl) (by rw [HsMs, at_len_add]; rfl) (by rw [HsMs, at_len_add]; rfl) (by rw [HsMs, at_len]; rfl) (by omega) (by omega) (by omega) hx2) ?_ ?_
    · rintro _ _ _ ⟨a, r, h1, rfl, rfl⟩
      refine ⟨(x.1.take 4 ++ (fun n : Nat => ci n) a :: x.1.drop (4 + 1), r), by rw [stpMs, putF, h1], ?_, rfl⟩
      simp [HsMs, go_sem]
    · rintro _ _ _ ⟨k, h1, rfl, rfl, rfl⟩
      exact ⟨k, by rw [stpMs, putF, h1], rfl, rfl, rfl⟩
  | 5, _ =>
    show CX Try.prog 72 [.ptr (H.length + 13) 0, .ptr (H.length + 14) 0] _ _ _ _
    refine CX.mono (int1_cx (HsMs H x) V (H.length + 13) (H.length + 14) (H.length + 2) H.length 5 .sh x.2 _ x.1 (by rw [HsMs, at_len_add]; rfl) (by rw [HsMs, at_len_add]; rfl) (by rw [HsMs, at_len_add]; rfl) (by rw [HsMs, at_len]; rfl) (by omega) (by omega) (by omega) hx2) ?_ ?_
    · rintro _ _ _ ⟨a, r, h1, rfl, rfl⟩
      refine ⟨(x.1.take 5 ++ (fun n : Nat => ci n) a :: x.1.drop (5 + 1), r), by rw [stpMs, putF, h1], ?_, rfl⟩
      simp [HsMs, go_sem]
    · rintro _ _ _ ⟨k, h1, rfl, rfl, rfl⟩
      exact ⟨k, by rw [stpMs, putF, h1], rfl, rfl, rfl⟩
  | 6, _ =>
    show CX Try.prog 81 [.ptr (H.length + 15) 0, .ptr (H.length + 16) 0] _ _ _ _
    refine CX.mono (ints1_cx (HsMs H x) V (H.length + 15) (H.length + 16) (H.length + 2) H.length 6 .sh x.2 _ x.1 (by rw [HsMs, at_len_add]; rfl) (by rw [HsMs, at_len_add]; rfl) (by rw [HsMs, at_len_add]; rfl) (by rw [HsMs, at_len]; rfl) (by omega) (by omega) (by omega) hx2) ?_ ?_
    · rintro _ _ _ ⟨a, r, h1, rfl, rfl⟩
      refine ⟨(x.1.take 6 ++ (fun l => .sl .sh 1 (l.map ic)) a :: x.1.drop (6 + 1), r), by rw [stpMs, putF, h1], ?_, rfl⟩
      simp [HsMs, go_sem]
    · rintro _ _ _ ⟨k, h1, rfl, rfl, rfl⟩
      exact ⟨k, by rw [stpMs, putF, h1], rfl, rfl, rfl⟩
  | 7, _ =>
    show CX Try.prog 76 [.ptr (H.length + 17) 0, .ptr (H.length + 18) 0] _ _ _ _
    refine CX.mono (bytes1_cx (HsMs H x) V (H.length + 17) (H.length + 18) (H.length + 2) H.length 7 .sh x.2 _ x.1 (by rw [HsMs, at_len_add]; rfl) (by rw [HsMs, at_len_add]; rfl) (by rw [HsMs, at_len_add]; rfl) (by rw [HsMs, at_len]; rfl) (by omega) (by omega) (by omega) hx2) ?_ ?_
    · rintro _ _ _ ⟨a, r, h1, rfl, rfl⟩
      refine ⟨(x.1.take 7 ++ (fun l => .sl .sh 1 (bs l)) a :: x.1.drop (7 + 1), r), by rw [stpMs, putF, h1], ?_, rfl⟩
      simp [HsMs, go_sem]
    · rintro _ _ _ ⟨k, h1, rfl, rfl, rfl⟩
      exact ⟨k, by rw [stpMs, putF, h1], rfl, rfl, rfl⟩
  | n + 8, h => exact absurd h (by rw [fnsMs_len]; omega)
theorem leMs {s r : List UInt8} {p : Ms} (h : pMs s = .ok (p, r)) : p.values.length ≤ 65536 ∧ p.body.length ≤ 65536 := by
  unfold pMs at h
  split at h
  · cases h
  rename_i q0
  split at h
  · cases h
  rename_i q1
  split at h
  · cases h
  rename_i q2
  split at h
  · cases h
  rename_i q3
  split at h
  · cases h
  rename_i q4
  split at h
  · cases h
  rename_i q5
  split at h
  · cases h
  rename_i q6
  split at h
  · cases h
  rename_i q7
  cases h
  exact ⟨listP_le int_on q6, textP_le q7⟩
def decMs (b : List UInt8) : Except Nat Ms :=
  match openP b with
  | .error k => .error k
  | .ok s => match pMs s with
    | .error k => .error k
    | .ok (p, r) => if r ≠ [] then .error 3 else if checkM p ≠ 0 then .error (checkM p) else .ok p
def dvMs : Except Nat Ms → CV
  | .ok p => .tup [.agg (msC p), er 0]
  | .error k => .tup [.agg msZ, er k]
end Go.Proofs.Ythakkopnoeinmaa
namespace Go.Proofs.Ythakkopnoeinmaa
open Go.Proofs
set_option maxRecDepth 10000 in
theorem DecPk_cc (H : Hp) (V : List Nat) (tk : Tk) (b : List UInt8) (hl : b.length ≤ 800000000) : CC Try.prog 22 [.sl tk 1 (bs b)] H V (Pu (dvPk (decPk b)) H V) := by
  refine CC.of_deferX (pre := [_]) Try.func22 rfl (by kernel_rfl) (by rw [Try.ntmps22]; exact len_le _ _ rfl) ret45 fun hok hokH => Wp.s ?_
  clear hok
  simp -implicitDefEqProofs [go_sem, args0]
  refine SWp.seq (SWp.callx (pre := [_]) (post := [_]) ?_)
  simp -implicitDefEqProofs [go_sem]
  refine (open_cx _ _ _ _ hl).mono ?_ ?_
  rotate_left
  · rintro ch H' V' ⟨k, h1, rfl, rfl, hV⟩
    have e : decPk b = .error k := by rw [decPk, h1]
    refine (catch45 _ _ _ _ k _ (ci 0) (by rw [at_len]; rfl) (by rw [at_len_add]; rfl) (by omega) rfl).mono ?_
    rintro _ _ ⟨rfl, rfl⟩
    simp -implicitDefEqProofs [go_sem, pkZ]
    refine Fin.pure ⟨by rw [e]; rfl, rfl, rfl⟩ (by simp) ?_ (.refl _) (by simp [go_sem]) hokH
    simpa using hV
  rintro _ H' V' ⟨s, h1, rfl, rfl, e3⟩
  rw [← e3]
  clear e3
  have hsl := openP_le h1
  simp -implicitDefEqProofs [go_sem]
  refine SWp.seq (SWp.drawnF [] [(0, .pl), (1, .pl), (2, .pl), (3, .pl), (4, .pl), (6, .pl), (7, .pl), (8, .pl), (9, .pl), (11, .pl), (12, .pl), (13, .pl), (14, .pl), (16, .pl), (17, .pl), (18, .pl), (19, .pl), (21, .pl), (22, .pl), (23, .pl), (24, .pl), (26, .pl), (27, .pl), (28, .pl), (29, .pl), (31, .pl), (32, .pl), (33, .pl), (34, .pl), (5, .pl), (10, .pl), (15, .pl), (20, .pl), (25, .pl), (30, .pl), (35, .pl), (36, .pl), (37, .pl), (38, .pl), (39, .st)] (by kernel_rfl) (by kernel_rfl) rfl ?_)
  simp -implicitDefEqProofs [go_sem]
  refine CC.mono (intF_cc _ _ _ _ rfl rfl rfl rfl) ?_
  rintro _ _ _ ⟨rfl, rfl, rfl⟩
  simp -implicitDefEqProofs [go_sem]
  refine CC.mono (intF_cc _ _ _ _ rfl rfl rfl rfl) ?_
  rintro _ _ _ ⟨rfl, rfl, rfl⟩
  simp -implicitDefEqProofs [go_sem]
  refine CC.mono (intF_cc _ _ _ _ rfl rfl rfl rfl) ?_
  rintro _ _ _ ⟨rfl, rfl, rfl⟩
  simp -implicitDefEqProofs [go_sem]
  refine CC.mono (intF_cc _ _ _ _ rfl rfl rfl rfl) ?_
  rintro _ _ _ ⟨rfl, rfl, rfl⟩
  simp -implicitDefEqProofs [go_sem]
  refine CC.mono (intF_cc _ _ _ _ rfl rfl rfl rfl) ?_
  rintro _ _ _ ⟨rfl, rfl, rfl⟩
  simp -implicitDefEqProofs [go_sem]
  refine CC.mono (extsF_cc _ _ _ _ rfl rfl rfl rfl) ?_
  rintro _ _ _ ⟨rfl, rfl, rfl⟩
  simp -implicitDefEqProofs [go_sem]
  refine CC.mono (bytesF_cc _ _ _ _ rfl rfl rfl rfl) ?_
  rintro _ _ _ ⟨rfl, rfl, rfl⟩
  simp -implicitDefEqProofs [go_sem]
  refine SWp.seq (SWp.callx (pre := [_]) (post := []) ?_)
  simp -implicitDefEqProofs [go_sem]
  refine CX.mono (read_cx (HsPk H) Prod.snd goodPk stpPk (H.length + 2) .ti (fnsPk H) V (fun x => by rw [HsPk, at_len_add]; rfl) goodPk_step (stpPk_cx H V) (by rw [fnsPk_len]; decide) (pkZ, s) ⟨rfl, by dsimp only; omega⟩) ?_ ?_
  rotate_left
  · rintro ch H' V' ⟨k, ⟨cs, s'⟩, hg, rfl, rfl, rfl, hr⟩
    have e : decPk b = .error k := by
      rw [fnsPk_len, runPk] at hr
      rw [decPk, h1]
      dsimp only
      rcases hp : pPk s with k' | ⟨p, r⟩
      · rw [hp] at hr
        rcases hr with hr | ⟨z, hr, _⟩
        · cases hr; rfl
        · cases hr
      · rw [hp] at hr
        rcases hr with hr | ⟨z, hr, hz, rfl⟩
        · cases hr
        · cases hr; dsimp only at hz ⊢; rw [if_pos hz]
    have hcs : cs.length = 7 := hg.1
    unfold HsPk
    refine (catch45 _ _ _ _ k _ (ci 0) (by rw [at_len]; rfl) (by rw [at_len_add]; rfl) (by omega) hcs).mono ?_
    rintro _ _ ⟨rfl, rfl⟩
    simp -implicitDefEqProofs [go_sem, pkZ]
    refine Fin.pure ⟨by rw [e]; rfl, rfl, rfl⟩ (by simp) ?_ (.refl _) (by simp [go_sem]) hokH
    simp
  rintro _ H' V' ⟨y, hr, hy, rfl, e3⟩
  rw [← e3]
  clear e3
  rw [fnsPk_len, runPk] at hr
  rcases hp : pPk s with k' | ⟨p, r⟩
  · rw [hp] at hr; cases hr
  rw [hp] at hr
  cases hr
  dsimp only at hy
  subst hy
  have hle := lePk hp
  unfold HsPk
  simp -implicitDefEqProofs [go_sem]
  refine SWp.seq (SWp.callx (pre := [_, _]) (post := []) ?_)
  simp -implicitDefEqProofs [go_sem]
  refine CC.mono (Check_cc _ _ p (by omega)) ?_
  rintro _ _ _ ⟨rfl, rfl, rfl⟩
  simp -implicitDefEqProofs [go_sem]
  refine cx_err (checkP p) rfl rfl (fun h0 => ?_) (fun h0 => ?_)
  · have e : decPk b = .ok p := by
      rw [decPk, h1]
      dsimp only
      rw [hp]
      dsimp only
      rw [if_neg (by simp), if_neg (by simp [h0])]
    simp -implicitDefEqProofs [go_sem]
    refine Wp.s ?_
    simp -implicitDefEqProofs [go_sem]
    refine Fin.pure ⟨by rw [e]; rfl, rfl, rfl⟩ (by simp) (by simp) (.refl _) (by simp [go_sem]) hokH
  · have e : decPk b = .error (checkP p) := by
      rw [decPk, h1]
      dsimp only
      rw [hp]
      dsimp only
      rw [if_neg (by simp), if_pos h0]
    refine (catch45 _ _ _ _ (checkP p) _ (ci 0) (by rw [at_len]; rfl) (by rw [at_len_add]; rfl) (by omega) rfl).mono ?_
    rintro _ _ ⟨rfl, rfl⟩
    simp -implicitDefEqProofs [go_sem, pkZ]
    refine Fin.pure ⟨by rw [e]; rfl, rfl, rfl⟩ (by simp) ?_ (.refl _) (by simp [go_sem]) hokH
    simp
set_option maxRecDepth 10000 in
theorem DecMs_cc (H : Hp) (V : List Nat) (tk : Tk) (b : List UInt8) (hl : b.length ≤ 800000000) : CC Try.prog 24 [.sl tk 1 (bs b)] H V (Pu (dvMs (decMs b)) H V) := by
  refine CC.of_deferX (pre := [_]) Try.func24 rfl (by kernel_rfl) (by rw [Try.ntmps24]; exact len_le _ _ rfl) ret57 fun hok hokH => Wp.s ?_
  clear hok
  simp -implicitDefEqProofs [go_sem, args0]
  refine SWp.seq (SWp.callx (pre := [_]) (post := [_]) ?_)
  simp -implicitDefEqProofs [go_sem]
  refine (open_cx _ _ _ _ hl).mono ?_ ?_
  rotate_left
  · rintro ch H' V' ⟨k, h1, rfl, rfl, hV⟩
    have e : decMs b = .error k := by rw [decMs, h1]
    refine (catch57 _ _ _ _ k _ (ci 0) (by rw [at_len]; rfl) (by rw [at_len_add]; rfl) (by omega) rfl).mono ?_
    rintro _ _ ⟨rfl, rfl⟩
    simp -implicitDefEqProofs [go_sem, msZ]
    refine Fin.pure ⟨by rw [e]; rfl, rfl, rfl⟩ (by simp) ?_ (.refl _) (by simp [go_sem]) hokH
    simpa using hV
  rintro _ H' V' ⟨s, h1, rfl, rfl, e3⟩
  rw [← e3]
  clear e3
  have hsl := openP_le h1
  simp -implicitDefEqProofs [go_sem]
  refine SWp.seq (SWp.drawnF [] [(0, .pl), (1, .pl), (2, .pl), (3, .pl), (4, .pl), (6, .pl), (7, .pl), (8, .pl), (9, .pl), (11, .pl), (12, .pl), (13, .pl), (14, .pl), (16, .pl), (17, .pl), (18, .pl), (19, .pl), (21, .pl), (22, .pl), (23, .pl), (24, .pl), (26, .pl), (27, .pl), (28, .pl), (29, .pl), (31, .pl), (32, .pl), (33, .pl), (34, .pl), (36, .pl), (37, .pl), (38, .pl), (39, .pl), (5, .pl), (10, .pl), (15, .pl), (20, .pl), (25, .pl), (30, .pl), (35, .pl), (40, .pl), (41, .pl), (42, .pl), (43, .pl), (44, .st)] (by kernel_rfl) (by kernel_rfl) rfl ?_)
  simp -implicitDefEqProofs [go_sem]
  refine CC.mono (intF_cc _ _ _ _ rfl rfl rfl rfl) ?_
  rintro _ _ _ ⟨rfl, rfl, rfl⟩
  simp -implicitDefEqProofs [go_sem]
  refine CC.mono (intF_cc _ _ _ _ rfl rfl rfl rfl) ?_
  rintro _ _ _ ⟨rfl, rfl, rfl⟩
  simp -implicitDefEqProofs [go_sem]
  refine CC.mono (intF_cc _ _ _ _ rfl rfl rfl rfl) ?_
  rintro _ _ _ ⟨rfl, rfl, rfl⟩
  simp -implicitDefEqProofs [go_sem]
  refine CC.mono (intF_cc _ _ _ _ rfl rfl rfl rfl) ?_
  rintro _ _ _ ⟨rfl, rfl, rfl⟩
  simp -implicitDefEqProofs [go_sem]
  refine CC.mono (intF_cc _ _ _ _ rfl rfl rfl rfl) ?_
  rintro _ _ _ ⟨rfl, rfl, rfl⟩
  simp -implicitDefEqProofs [go_sem]
  refine CC.mono (intF_cc _ _ _ _ rfl rfl rfl rfl) ?_
  rintro _ _ _ ⟨rfl, rfl, rfl⟩
  simp -implicitDefEqProofs [go_sem]
  refine CC.mono (intsF_cc _ _ _ _ rfl rfl rfl rfl) ?_
  rintro _ _ _ ⟨rfl, rfl, rfl⟩
  simp -implicitDefEqProofs [go_sem]
  refine CC.mono (bytesF_cc _ _ _ _ rfl rfl rfl rfl) ?_
  rintro _ _ _ ⟨rfl, rfl, rfl⟩
  simp -implicitDefEqProofs [go_sem]
  refine SWp.seq (SWp.callx (pre := [_]) (post := []) ?_)
  simp -implicitDefEqProofs [go_sem]
  refine CX.mono (read_cx (HsMs H) Prod.snd goodMs stpMs (H.length + 2) .ti (fnsMs H) V (fun x => by rw [HsMs, at_len_add]; rfl) goodMs_step (stpMs_cx H V) (by rw [fnsMs_len]; decide) (msZ, s) ⟨rfl, by dsimp only; omega⟩) ?_ ?_
  rotate_left
  · rintro ch H' V' ⟨k, ⟨cs, s'⟩, hg, rfl, rfl, rfl, hr⟩
    have e : decMs b = .error k := by
      rw [fnsMs_len, runMs] at hr
      rw [decMs, h1]
      dsimp only
      rcases hp : pMs s with k' | ⟨p, r⟩
      · rw [hp] at hr
        rcases hr with hr | ⟨z, hr, _⟩
        · cases hr; rfl
        · cases hr
      · rw [hp] at hr
        rcases hr with hr | ⟨z, hr, hz, rfl⟩
        · cases hr
        · cases hr; dsimp only at hz ⊢; rw [if_pos hz]
    have hcs : cs.length = 8 := hg.1
    unfold HsMs
    refine (catch57 _ _ _ _ k _ (ci 0) (by rw [at_len]; rfl) (by rw [at_len_add]; rfl) (by omega) hcs).mono ?_
    rintro _ _ ⟨rfl, rfl⟩
    simp -implicitDefEqProofs [go_sem, msZ]
    refine Fin.pure ⟨by rw [e]; rfl, rfl, rfl⟩ (by simp) ?_ (.refl _) (by simp [go_sem]) hokH
    simp
  rintro _ H' V' ⟨y, hr, hy, rfl, e3⟩
  rw [← e3]
  clear e3
  rw [fnsMs_len, runMs] at hr
  rcases hp : pMs s with k' | ⟨p, r⟩
  · rw [hp] at hr; cases hr
  rw [hp] at hr
  cases hr
  dsimp only at hy
  subst hy
  have hle := leMs hp
  unfold HsMs
  simp -implicitDefEqProofs [go_sem]
  refine SWp.seq (SWp.callx (pre := [_, _]) (post := []) ?_)
  simp -implicitDefEqProofs [go_sem]
  refine CC.mono (checkMessage_cc _ _ p (by omega)) ?_
  rintro _ _ _ ⟨rfl, rfl, rfl⟩
  simp -implicitDefEqProofs [go_sem]
  refine cx_err (checkM p) rfl rfl (fun h0 => ?_) (fun h0 => ?_)
  · have e : decMs b = .ok p := by
      rw [decMs, h1]
      dsimp only
      rw [hp]
      dsimp only
      rw [if_neg (by simp), if_neg (by simp [h0])]
    simp -implicitDefEqProofs [go_sem]
    refine Wp.s ?_
    simp -implicitDefEqProofs [go_sem]
    refine Fin.pure ⟨by rw [e]; rfl, rfl, rfl⟩ (by simp) (by simp) (.refl _) (by simp [go_sem]) hokH
  · have e : decMs b = .error (checkM p) := by
      rw [decMs, h1]
      dsimp only
      rw [hp]
      dsimp only
      rw [if_neg (by simp), if_pos h0]
    refine (catch57 _ _ _ _ (checkM p) _ (ci 0) (by rw [at_len]; rfl) (by rw [at_len_add]; rfl) (by omega) rfl).mono ?_
    rintro _ _ ⟨rfl, rfl⟩
    simp -implicitDefEqProofs [go_sem, msZ]
    refine Fin.pure ⟨by rw [e]; rfl, rfl, rfl⟩ (by simp) ?_ (.refl _) (by simp [go_sem]) hokH
    simp
end Go.Proofs.Ythakkopnoeinmaa
