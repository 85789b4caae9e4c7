import Derived.Test.YtbnkggbpocaaiaaGreatDoorE5
import Derived.Test.YtbnkggbpocaaiaaGreatDoorE7
import Derived.Test.YtbnkggbpocaaiaaGreatDoorE4
import Derived.Test.YtbnkggbpocaaiaaGreatDoorE6
set_option linter.unusedSimpArgs false
set_option linter.unusedVariables false
set_option linter.unusedSectionVars false
namespace Go.Proofs.YtbnkggbpocaaiaaGreatDoor
theorem encN_pos : ∀ n, 0 < (encN n).length := fun n => by
  by_cases h : n < 128
  · rw [encN_lt h]; simp
  · rw [encN_ge (by omega)]; simp
theorem numG_enc : ∀ (m f i n : Nat) (r : List UInt8), (0 < i → 0 < m) → n + m * 128 ^ i ≤ 9007199254740991 → (encN m).length ≤ f → numG f i n (encN m ++ r) = .ok (n + m * 128 ^ i, r) := by
  intro m
  induction m using Nat.strongRecOn with
  | ind m ih =>
    intro f i n r h0 h1 h2
    cases f with
    | zero => have := encN_pos m; omega
    | succ f =>
      by_cases hm : m < 128
      · have hb : (UInt8.ofNat m).toNat = m := by rw [UInt8.toNat_ofNat']; omega
        rw [encN_lt hm, List.cons_append, List.nil_append, numG, hb, if_pos hm, if_neg (by omega)]
      · have hb : (UInt8.ofNat (m % 128 + 128)).toNat = m % 128 + 128 := by rw [UInt8.toNat_ofNat']; omega
        have e1 : (m % 128 + 128) % 128 = m % 128 := by omega
        have e2 : n + m % 128 * 128 ^ i + m / 128 * 128 ^ (i + 1) = n + m * 128 ^ i := by
          have h3 : m = m % 128 + m / 128 * 128 := by omega
          have h4 : m * 128 ^ i = m % 128 * 128 ^ i + m / 128 * 128 * 128 ^ i := by rw [← Nat.add_mul, ← h3]
          have h5 : m / 128 * 128 ^ (i + 1) = m / 128 * 128 * 128 ^ i := by rw [Nat.pow_succ, Nat.mul_comm (128 ^ i), Nat.mul_assoc]
          omega
        rw [encN_ge (n := m) (by omega), List.length_cons] at h2
        rw [encN_ge (n := m) (by omega), List.cons_append, numG, hb, if_neg (by omega), e1, ih (m / 128) (by omega) f (i + 1) _ r (by omega) (by rw [e2]; exact h1) (by omega), e2]
theorem number_enc (n : Int) (r : List UInt8) : number (enc n ++ r) = .ok (norm n, r) := by
  have h := numG_enc (norm n) 8 0 0 r (by omega) (by have := norm_lt n; omega) (enc_len n)
  rw [number, enc, h]; simp
theorem numG_once : ∀ (f i n : Nat) (s : List UInt8) {m : Nat} {r : List UInt8}, numG f i n s = .ok (m, r) → ∃ q, m = n + q * 128 ^ i ∧ s = encN q ++ r ∧ (0 < i → 0 < q) ∧ m ≤ 9007199254740991
  | 0, _, _, _, _, _, h => by rw [numG] at h; cases h
  | f + 1, _, _, [], _, _, h => by rw [numG] at h; cases h
  | f + 1, i, n, b :: s, m, r, h => by
    rw [numG] at h
    have hb := b.toNat_lt
    split at h
    · rename_i h1
      split at h
      · cases h
      · rename_i h2
        cases h
        refine ⟨b.toNat, rfl, ?_, by omega, by omega⟩
        rw [encN_lt h1, UInt8.ofNat_toNat]; rfl
    · rename_i h1
      obtain ⟨q, h3, h4, h5, h6⟩ := numG_once f _ _ s h
      have hq : 0 < q := h5 (by omega)
      refine ⟨b.toNat % 128 + q * 128, ?_, ?_, by omega, h6⟩
      · rw [h3, Nat.add_mul, Nat.pow_succ, Nat.mul_comm (128 ^ i), Nat.mul_assoc]; omega
      · rw [encN_ge (by omega), show (b.toNat % 128 + q * 128) % 128 + 128 = b.toNat by omega, show (b.toNat % 128 + q * 128) / 128 = q by omega, UInt8.ofNat_toNat, h4]; rfl
theorem enc_nat {m : Nat} (h : m ≤ 9007199254740991) : enc (m : Int) = encN m := by
  rw [enc, norm, if_neg (by omega)]; rfl
theorem number_once {s r : List UInt8} {m : Nat} (h : number s = .ok (m, r)) : s = enc m ++ r ∧ m ≤ 9007199254740991 := by
  obtain ⟨q, h1, h2, _, h4⟩ := numG_once 8 0 0 s h
  have : m = q := by simpa using h1
  subst this
  exact ⟨by rw [enc_nat h4]; exact h2, h4⟩
def RT {α : Type} (p : Pr α) (e : α → List UInt8) (h : α → α) (A : α → Prop) : Prop := ∀ a r, A a → p (e a ++ r) = .ok (h a, r)
def ON {α : Type} (p : Pr α) (e : α → List UInt8) : Prop := ∀ s a r, p s = .ok (a, r) → s = e a ++ r
section
variable {α : Type} {p : Pr α} {e : α → List UInt8} {h : α → α} {A : α → Prop}
theorem rep_rt (hp : RT p e h A) : ∀ (l : List α) (r : List UInt8), (∀ a ∈ l, A a) → repP p l.length (l.flatMap e ++ r) = .ok (l.map h, r)
  | [], r, _ => by rw [List.length_nil, repP]; rfl
  | a :: l, r, hA => by
    rw [List.length_cons, repP, List.flatMap_cons, List.append_assoc, hp _ _ (hA a (by simp))]
    dsimp only
    rw [rep_rt hp l r fun b hb => hA b (List.mem_cons_of_mem _ hb)]; rfl
theorem rep_on (hp : ON p e) : ∀ (n : Nat) (s : List UInt8) (l : List α) (r : List UInt8), repP p n s = .ok (l, r) → s = l.flatMap e ++ r ∧ l.length = n
  | 0, s, l, r, hq => by rw [repP] at hq; cases hq; exact ⟨rfl, rfl⟩
  | n + 1, s, l, r, hq => by
    rw [repP] at hq
    split at hq
    · cases hq
    · rename_i a s1 h1
      split at hq
      · cases hq
      · rename_i l1 s2 h2
        cases hq
        obtain ⟨h3, h4⟩ := rep_on hp n _ _ _ h2
        exact ⟨by rw [hp _ _ _ h1, h3, List.flatMap_cons, List.append_assoc], by rw [List.length_cons, h4]⟩
theorem length_rt (n : Nat) (r : List UInt8) (hn : n ≤ 65536) : lengthP (enc n ++ r) = .ok (n, r) := by
  unfold lengthP
  rw [number_enc]
  have : norm (n : Int) = n := by unfold norm; rw [if_neg (by omega)]; rfl
  dsimp only
  rw [this, if_neg (by omega)]
theorem length_on {s r : List UInt8} {n : Nat} (h : lengthP s = .ok (n, r)) : s = enc n ++ r := by
  unfold lengthP at h
  split at h
  · cases h
  · rename_i h1
    split at h
    · cases h
    · cases h; exact (number_once h1).1
theorem list_rt (hp : RT p e h A) : ∀ (l : List α) (r : List UInt8), (l.length ≤ 65536 ∧ ∀ a ∈ l, A a) → listP p ((enc l.length ++ l.flatMap e) ++ r) = .ok (l.map h, r) := by
  intro l r ⟨hl, hA⟩
  unfold listP
  rw [List.append_assoc, length_rt _ _ hl]
  dsimp only
  exact rep_rt hp l r hA
theorem list_on (hp : ON p e) : ON (listP p) fun l => enc l.length ++ l.flatMap e := by
  intro s l r hq
  unfold listP at hq
  split at hq
  · cases hq
  · rename_i h1
    obtain ⟨h2, h3⟩ := rep_on hp _ _ _ _ hq
    rw [length_on h1, h2, ← h3, List.append_assoc]
end
theorem Sec.same {a b : Sec} (h : a.val = b.val) : a = b := by
  cases a; cases b; cases h; rfl
theorem sec_rt : RT secP Sec.val id fun _ => True := fun a r _ => by
  have := a.len
  unfold secP
  rw [dif_neg (by rw [List.length_append]; omega)]
  have h1 : (a.val ++ r).take 8 = a.val := by rw [List.take_append_of_le_length (by omega), List.take_of_length_le (by omega)]
  have h2 : (a.val ++ r).drop 8 = r := by rw [← a.len, List.drop_left]
  rw [h2]
  congr 2
  exact Sec.same h1
theorem sec_on : ON secP Sec.val := fun s a r h => by
  unfold secP at h
  split at h
  · cases h
  · cases h; exact (List.take_append_drop 8 s).symm
theorem pair_rt (a b : Int) (r : List UInt8) : pairP (enc a ++ enc b ++ r) = .ok ((norm a, norm b), r) := by
  unfold pairP
  rw [List.append_assoc, number_enc]
  dsimp only
  rw [number_enc]
theorem pair_on {s r : List UInt8} {a b : Nat} (h : pairP s = .ok ((a, b), r)) : s = enc a ++ enc b ++ r := by
  unfold pairP at h
  split at h
  · cases h
  · rename_i h1
    split at h
    · cases h
    · rename_i h2; cases h
      rw [(number_once h1).1, (number_once h2).1, List.append_assoc]
theorem wr_rt : RT wrP encWr (fun x => ⟨norm x.volume, norm x.start, x.data⟩) fun x => x.data.length ≤ 65536 := fun x r hx => by
  unfold wrP encWr encSecs
  rw [List.append_assoc, pair_rt]
  dsimp only
  rw [list_rt sec_rt _ _ ⟨hx, fun _ _ => trivial⟩, List.map_id]
theorem wr_on : ON wrP encWr := fun s a r h => by
  unfold wrP at h
  split at h
  · cases h
  · rename_i h1
    split at h
    · cases h
    · rename_i h2; cases h
      unfold encWr encSecs
      rw [pair_on h1, list_on sec_on _ _ _ h2]
      simp only [List.append_assoc]
end Go.Proofs.YtbnkggbpocaaiaaGreatDoor
namespace Go.Proofs.YtbnkggbpocaaiaaGreatDoor
open Go.Proofs
end Go.Proofs.YtbnkggbpocaaiaaGreatDoor
namespace Go.Proofs.YtbnkggbpocaaiaaGreatDoor
open Go.Proofs
end Go.Proofs.YtbnkggbpocaaiaaGreatDoor
namespace Go.Proofs.YtbnkggbpocaaiaaGreatDoor
open Go.Proofs
end Go.Proofs.YtbnkggbpocaaiaaGreatDoor
namespace Go.Proofs.YtbnkggbpocaaiaaGreatDoor
open Go.Proofs
end Go.Proofs.YtbnkggbpocaaiaaGreatDoor
namespace Go.Proofs.YtbnkggbpocaaiaaGreatDoor
open Go.Proofs
end Go.Proofs.YtbnkggbpocaaiaaGreatDoor
namespace Go.Proofs.YtbnkggbpocaaiaaGreatDoor
open Go.Proofs
structure Stq where
  v : UInt8
  s : UInt8
  c : UInt8
  f : UInt8
  fl : Bool
def stqC (x : Stq) : List CV := [.v (.int .u8 (x.v.toNat : Int)), .v (.int .u8 (x.s.toNat : Int)), .v (.int .u8 (x.c.toNat : Int)), .v (.int .u8 (x.f.toNat : Int)), .v (.bool x.fl)]
@[go_sem, simp] theorem stqC_len (x : Stq) : (stqC x).length = 5 := rfl
@[go_sem, simp] theorem stqC_take (x : Stq) : (stqC x).take 5 = stqC x := rfl
@[go_sem, simp] theorem stqC_drop (x : Stq) : (stqC x).drop 5 = [] := rfl
@[go_sem, simp] theorem stqC_all (x : Stq) : allOne (stqC x) = true := rfl
@[go_sem] theorem okL_stqC (i j : Nat) (x : Stq) : okL i j (stqC x) = True := by simp [stqC, go_sem, okL, okV]
@[go_sem] theorem okE_stqs (i j : Nat) (l : List Stq) : okE i j (l.map stqC) = True := eq_true (okE_map stqC l fun x => by rw [okL_stqC]; trivial)
def zqN (x : Stq) : Nat := if x.v.toNat % 2 = 0 then 6 else 3
def atN (x : Stq) : Nat := x.s.toNat % zqN x
def cntN (x : Stq) : Nat := x.c.toNat % (zqN x - atN x) + 1
def secN (x : Stq) (i : Nat) : Sec := ⟨[x.f, UInt8.ofNat i, 0, 0, 0, 0, 0, 0], rfl⟩
def dataQ (x : Stq) : Wr := ⟨((x.v.toNat % 2 : Nat) : Int), (atN x : Int), (List.range (cntN x)).map (secN x)⟩
theorem zqN_r (x : Stq) : 3 ≤ zqN x ∧ zqN x ≤ 6 := by unfold zqN; split <;> omega
theorem atN_lt (x : Stq) : atN x < zqN x := Nat.mod_lt _ (by have := (zqN_r x).1; omega)
theorem cntN_r (x : Stq) : 1 ≤ cntN x ∧ atN x + cntN x ≤ zqN x := by
  have h := atN_lt x
  have := Nat.mod_lt x.c.toNat (show 0 < zqN x - atN x by omega)
  unfold cntN; omega
def dqU (x : Stq) (i : Nat) : List Sec := (List.range i).map (secN x)
theorem dqU_len (x : Stq) (i : Nat) : (dqU x i).length = i := by simp [dqU]
theorem dqU_s (x : Stq) (i : Nat) : dqU x (i + 1) = dqU x i ++ [secN x i] := by rw [dqU, List.range_succ, List.map_append]; rfl
theorem sizesQ_cc (H : Hp) (V : List Nat)  : CC Tryz.prog 35 [] H V (Pu (.sl .sh 1 (([6, 3] : List Int).map ic)) H V) := by
  refine CC.of_swp Tryz.func35 rfl (by kernel_rfl) (by rw [Tryz.ntmps35]; exact len_le _ _ rfl) fun hok hokH => ?_
  clear hok
  refine sW ?_
  simp -implicitDefEqProofs [go_sem, args0]
  refine sW ?_
  simp -implicitDefEqProofs [go_sem]
  refine Wp.s ?_
  simp -implicitDefEqProofs [go_sem]
  exact Fin.pu (.sh _ _ _) (by simp [go_sem, okE, okL, okV, ic]) hokH (by simp) (by simp)
theorem dataQ_cc (H : Hp) (V : List Nat) (x : Stq) : CC Tryz.prog 36 [.agg (stqC x)] H V (Pu (.agg (wrC (dataQ x))) H V) := by
  refine CC.of_swp Tryz.func36 rfl (by kernel_rfl) (by rw [Tryz.ntmps36]; exact len_le _ _ rfl) fun hok hokH => ?_
  clear hok
  have hz := zqN_r x
  have ha := atN_lt x
  have hc := cntN_r x
  refine sW ?_
  simp -implicitDefEqProofs [go_sem, args0]
  refine SWp.seq (SWp.drawnT [] [] (.s 1 .pl <| .s 2 .pl <| .s 3 .pl <| .s 0 .pl <| .s 4 .pl <| .s 5 .pl <| .s 6 .pl <| .n) (by kernel_rfl) (by kernel_rfl) ?_)
  obtain ⟨q, hq⟩ : ∃ q, q = x.v.toNat % 2 := ⟨_, rfl⟩
  have hq2 : q < 2 := by omega
  have hzq : zqN x = if q = 0 then 6 else 3 := by rw [hq]; rfl
  have hdq : dataQ x = ⟨(q : Int), (atN x : Int), dqU x (cntN x)⟩ := by rw [hq]; rfl
  obtain ⟨z, hz'⟩ : ∃ z, z = zqN x := ⟨_, rfl⟩
  obtain ⟨a, ha'⟩ : ∃ a, a = atN x := ⟨_, rfl⟩
  obtain ⟨k, hk'⟩ : ∃ k, k = cntN x - 1 := ⟨_, rfl⟩
  have m1 : (x.v.toNat : Int).tmod 2 = (q : Int) := by rw [Int.tmod_eq_emod_of_nonneg (by omega)]; omega
  have m1' : (x.v.toNat : Int) % 2 = (q : Int) := by omega
  have m2 : IntKind.u8.wrap (q : Int) = (q : Int) := by rw [IntKind.wrap_u8]; omega
  have m3 : IntKind.i64.wrap (q : Int) = (q : Int) := IntWalk.i64_in _ ⟨by omega, by omega⟩
  have m4' : (x.s.toNat : Int) % (z : Int) = (a : Int) := by rw [ha', hz']; unfold atN; omega
  have m4 : (x.s.toNat : Int).tmod (z : Int) = (a : Int) := by rw [Int.tmod_eq_emod_of_nonneg (by omega), m4']
  have m5 : IntKind.i64.wrap (x.s.toNat : Int) = (x.s.toNat : Int) := IntWalk.i64_in _ ⟨by omega, by have := x.s.toNat_lt; omega⟩
  have m6 : IntKind.i64.wrap (x.c.toNat : Int) = (x.c.toNat : Int) := IntWalk.i64_in _ ⟨by omega, by have := x.c.toNat_lt; omega⟩
  have m7 : IntKind.i64.wrap ((z : Int) - (a : Int)) = (z : Int) - (a : Int) := IntWalk.i64_in _ ⟨by omega, by omega⟩
  have m8' : (x.c.toNat : Int) % ((z : Int) - (a : Int)) = (k : Int) := by
    have : (z : Int) - (a : Int) = ((z - a : Nat) : Int) := by omega
    rw [this, hk', hz', ha']; unfold cntN; omega
  have m8 : (x.c.toNat : Int).tmod ((z : Int) - (a : Int)) = (k : Int) := by rw [Int.tmod_eq_emod_of_nonneg (by omega), m8']
  have mz : ¬ z = 0 := by omega
  have mza : ¬ (z : Int) - (a : Int) = 0 := by omega
  have mw4 : IntKind.i64.wrap (a : Int) = (a : Int) := IntWalk.i64_in _ ⟨by omega, by omega⟩
  have mwk : IntKind.i64.wrap (k : Int) = (k : Int) := IntWalk.i64_in _ ⟨by omega, by omega⟩
  have hg : ∀ (h : q < [ic 6, ic 3].length), [ic 6, ic 3][q] = ic (z : Int) := fun h => by
    rw [hz', hzq]
    match q, hq2 with
    | 0, _ => rfl
    | 1, _ => rfl
  simp -implicitDefEqProofs [go_sem, stqC, m1, m1', m2, m3]
  refine CC.mono (sizesQ_cc _ _) ?_
  rintro _ _ _ ⟨rfl, rfl, rfl⟩
  simp -implicitDefEqProofs [go_sem, m1, m2, m3, hg, hq2]
  refine sW ?_
  simp -implicitDefEqProofs [go_sem, m1, m1', m2, m3, m4, m4', m5, mz, mw4]
  refine sW ?_
  simp -implicitDefEqProofs [go_sem, m1, m1', m2, m3]
  have hk1 : k + 1 = cntN x := by omega
  refine SWp.join (α := Unit) (fun _ => ([(1, .ptr H.length 0), (2, .ptr (H.length + 1) 0), (5, .ptr (H.length + 2) 0)], H ++ [some (stqC x), some [ci 0, ci 0, .v (.slice none 0 0)], some [ci q, ci a, .sl (.own V.length (k + 1)) 8 ((dqU x (k + 1)).map secC)]], V ++ [k + 1])) (fun _ => True) ?_ ?_
  · refine sW ?_
    simp -implicitDefEqProofs [go_sem]
    refine SWp.block ?_
    refine SWp.loop (α := Nat) (fun i => ([(1, .ptr H.length 0), (2, .ptr (H.length + 1) 0), (3, ci z), (4, ci a), (5, .ptr (H.length + 2) 0), (6, ci i)], H ++ [some (stqC x), some [ci 0, ci 0, .v (.slice none 0 0)], some [ci q, ci a, .sl (.own V.length i) 8 ((dqU x i).map secC)]], V ++ [i])) (fun i => i ≤ k + 1) (fun i => k + 1 - i) 0 (Nat.zero_le _) ?_ ?_
    · refine Sh.tokL (b := H.length + 2) (ds := [ci q, ci a, .sl (.own V.length 0) 8 []]) (by simp [go_sem]; rfl) (by simp [go_sem]) (by simp [CV.isObj]) (by simp [go_sem]) ?_ rfl
      simp [dqU, stqC]
    intro i hi
    dsimp only
    refine SWp.seq (sW ?_)
    simp -implicitDefEqProofs [go_sem, stqC, m6, m7, m8, m8', mwk, mza]
    refine Wp.s ?_
    simp -implicitDefEqProofs [go_sem]
    refine ⟨fun h => ?_, fun h => ?_⟩
    case refine_2 =>
      obtain rfl : i = k + 1 := by omega
      exact Sh.forget (by simp [go_sem]) rfl rfl
    have w5 : IntKind.i64.wrap ((i : Int) + 1) = (i : Int) + 1 := IntWalk.i64_in _ ⟨by omega, by omega⟩
    have w6 : IntKind.u8.wrap (i : Int) = (i : Int) := by rw [IntKind.wrap_u8]; omega
    have hsec : secC (secN x i) = [.v (.int .u8 (x.f.toNat : Int)), .v (.int .u8 (i : Int)), .v (.int .u8 0), .v (.int .u8 0), .v (.int .u8 0), .v (.int .u8 0), .v (.int .u8 0), .v (.int .u8 0)] := by
      have : ((UInt8.ofNat i).toNat : Int) = (i : Int) := by rw [UInt8.toNat_ofNat']; omega
      show [CV.v (.int .u8 (x.f.toNat : Int)), .v (.int .u8 ((UInt8.ofNat i).toNat : Int)), .v (.int .u8 0), .v (.int .u8 0), .v (.int .u8 0), .v (.int .u8 0), .v (.int .u8 0), .v (.int .u8 0)] = _
      rw [this]
    refine SWp.seq (SWp.block (Wp.s ?_))
    simp -implicitDefEqProofs [go_sem, w6, dqU_len]
    refine ⟨by omega, ?_⟩
    refine Wp.s ?_
    simp -implicitDefEqProofs [go_sem, w5]
    refine ⟨i + 1, by omega, by omega, Sh.forget (by simp [go_sem]) ?_ (by simp)⟩
    rw [dqU_s, List.map_append, List.map_singleton, hsec]
  rintro _ -
  dsimp only
  refine sW ?_
  simp -implicitDefEqProofs [go_sem]
  refine Wp.s ?_
  simp -implicitDefEqProofs [go_sem]
  rw [hdq]
  rw [← hk1, ← ha']
  refine Fin.pu (.agg ?_) (by simp [go_sem, okL_wrC]) hokH (by simp) (by simp)
  exact .cons (.refl _) (.cons (.refl _) (.cons (.sh _ _ _) .nil))
end Go.Proofs.YtbnkggbpocaaiaaGreatDoor
namespace Go.Proofs.YtbnkggbpocaaiaaGreatDoor
open Go.Proofs
def qS0 : Sto := (fmtV [6, 3] 40).1
def qO0 : List Opn := (fmtV [6, 3] 40).2.1
def qD0 : Dk := (newR 49).1
def qD1 : Dk := (runR qD0 qO0).1
def qI0 : Img := imOf [6, 3]
theorem qf1 : (fmtV [6, 3] 40).2.2 = 0 := by kernel_rfl
theorem qf2 : (newR 49).2 = 0 := by kernel_rfl
theorem qf3 : (runR qD0 qO0).2.2 = 0 := by kernel_rfl
theorem qf4 : sizesE [6, 3] = 0 := by kernel_rfl
theorem qD0_l : Nat.ble qD0.stable.length 1000 = true ∧ Nat.ble qD0.cache.length 1000 = true ∧ Nat.ble (tot qO0) 1000 = true ∧ Nat.ble qO0.length 1000 = true := ⟨by kernel_rfl, by kernel_rfl, by kernel_rfl, by kernel_rfl⟩
def bgV : CV := .tup [.agg (dkC qD1), .agg (stoC qS0), imV qI0, cb true]
theorem begin_cc (H : Hp) (V : List Nat)  : CC Tryz.prog 23 [] H V (Pu bgV H V) := by
  refine CC.of_swp Tryz.func23 rfl (by kernel_rfl) (by rw [Tryz.ntmps23]; exact len_le _ _ rfl) fun hok hokH => ?_
  clear hok
  obtain ⟨b1, b2, b3, b4⟩ := qD0_l
  have b1 := Nat.le_of_ble_eq_true b1
  have b2 := Nat.le_of_ble_eq_true b2
  have b3 := Nat.le_of_ble_eq_true b3
  have b4 := Nat.le_of_ble_eq_true b4
  refine sW ?_
  simp -implicitDefEqProofs [go_sem, args0]
  refine sW ?_
  simp -implicitDefEqProofs [go_sem]
  refine CC.mono (sizesQ_cc _ _) ?_
  rintro _ _ _ ⟨rfl, rfl, rfl⟩
  simp -implicitDefEqProofs [go_sem]
  refine CC.mono (vFormat_cc _ _ [6, 3] 40 (by decide)) ?_
  rintro _ _ _ ⟨rfl, rfl, rfl⟩
  rw [show fmtV [6, 3] 40 = (qS0, qO0, 0) from Prod.ext rfl (Prod.ext rfl qf1)]
  simp -implicitDefEqProofs [go_sem, flV]
  refine sW ?_
  simp -implicitDefEqProofs [go_sem]
  refine CC.mono (sNew_cc _ _ 49) ?_
  rintro _ _ _ ⟨rfl, rfl, rfl⟩
  rw [show newR 49 = (qD0, 0) from Prod.ext rfl qf2]
  simp -implicitDefEqProofs [go_sem]
  refine sW ?_
  simp -implicitDefEqProofs [go_sem]
  refine CC.mono (sRun_cc _ _ qD0 qO0 (by omega) (by omega) (by omega)) ?_
  rintro _ _ _ ⟨rfl, rfl, rfl⟩
  rw [show runR qD0 qO0 = (qD1, (runR qD0 qO0).2.1, 0) from Prod.ext rfl (Prod.ext rfl qf3)]
  simp -implicitDefEqProofs [go_sem, runV]
  refine sW ?_
  simp -implicitDefEqProofs [go_sem]
  refine CC.mono (sizesQ_cc _ _) ?_
  rintro _ _ _ ⟨rfl, rfl, rfl⟩
  simp -implicitDefEqProofs [go_sem]
  refine CC.mono (New_cc _ _ .sh [6, 3] (by decide)) ?_
  rintro _ _ _ ⟨rfl, rfl, rfl⟩
  rw [show (if sizesE [6, 3] ≠ 0 then [] else imOf [6, 3]) = qI0 by rw [if_neg (by rw [qf4]; decide)]; rfl, qf4]
  simp -implicitDefEqProofs [go_sem]
  refine SWp.seq (SWp.drawnT [H.length + 2] [17, 18] (.s 0 .pl <| .s 1 .ld <| .s 2 .pl <| .s 3 .pl <| .s 4 .pl <| .s 5 .pl <| .s 6 .pl <| .s 7 .pl <| .s 8 .pl <| .s 9 .pl <| .s 10 .pl <| .s 11 .pl <| .s 12 .pl <| .s 13 .pl <| .s 14 .pl <| .s 15 .pl <| .s 16 .pl <| .s 17 .st <| .s 18 .st <| .s 19 .pl <| .s 20 .pl <| .n) (by kernel_rfl) (by kernel_rfl) ?_)
  simp -implicitDefEqProofs [go_sem]
  have hkp : ∀ (a b c d a' b' : Option (List CV)), Kp [H.length + 2] (H ++ [a, b, c, d]) (H ++ [a', b', c, d]) := fun a b c d a' b' => Kp.keep fun x hx => by
    obtain rfl : x = H.length + 2 := by simpa using hx
    rw [hget, hget]; rfl
  refine ⟨hkp _ _ _ _ _ _, hkp _ _ _ _ _ _, ?_⟩
  refine Wp.s ?_
  simp -implicitDefEqProofs [go_sem]
  exact Fin.pu (.refl _) (by simp [bgV, go_sem, okL, okV, okL_dkC, okL_stoC, okE_ims]) hokH (by simp) (by simp)
def nextQ (d : Dk) (s : Sto) (im : Img) (x : Stq) : Sto × List Opn × Img × Bool :=
  if x.fl = true then ((flushV d s).1, (flushV d s).2.1, im, decide ((flushV d s).2.2 = 0))
  else if (writeV s (dataQ x)).2.2.2 = 11 then (s, [], im, true)
  else ((writeV s (dataQ x)).1, (writeV s (dataQ x)).2.2.1, (apR im [dataQ x]).1, decide ((writeV s (dataQ x)).2.2.2 = 0) && decide ((apR im [dataQ x]).2.2 = 0))
def nxQV (r : Sto × List Opn × Img × Bool) : CV := .tup [.agg (stoC r.1), opsV r.2.1, imV r.2.2.1, cb r.2.2.2]
theorem okV_nxQ (i j : Nat) (r : Sto × List Opn × Img × Bool) : okV i j (nxQV r) := by
  simp [nxQV, go_sem, okL, okV, okL_stoC, okE_ims, okE_ops]
theorem dataQ_len (x : Stq) : (dataQ x).data.length ≤ 6 := by
  have := cntN_r x; have := zqN_r x
  simp [dataQ]; omega
@[go_sem, simp] theorem stqC_4 (x : Stq) (h : 4 < (stqC x).length) : (stqC x)[4] = CV.v (.bool x.fl) := rfl
set_option maxRecDepth 8000 in
theorem nextQ_cc (H : Hp) (V : List Nat) (d : Dk) (s : Sto) (im : Img) (x : Stq) (hd : DkS d) (hs : StS s) (hi : im.length ≤ 1000000000) : CC Tryz.prog 24 [.agg (dkC d), .agg (stoC s), imV im, .agg (stqC x)] H V (Pu (nxQV (nextQ d s im x)) H V) := by
  refine CC.of_swp Tryz.func24 rfl (by kernel_rfl) (by rw [Tryz.ntmps24]; exact len_le _ _ rfl) fun hok hokH => ?_
  clear hok
  have hdl := dataQ_len x
  refine sW ?_
  simp -implicitDefEqProofs [go_sem, args0]
  refine SWp.seq (sW ?_)
  cases hfl : x.fl with
  | true =>
    simp -implicitDefEqProofs [go_sem, hfl]
    refine Wp.s ?_
    simp -implicitDefEqProofs [go_sem]
    refine CC.mono (vFlush_cc _ _ d s hd hs) ?_
    rintro _ _ _ ⟨rfl, rfl, rfl⟩
    have hn : nextQ d s im x = ((flushV d s).1, (flushV d s).2.1, im, decide ((flushV d s).2.2 = 0)) := by rw [nextQ, if_pos hfl]
    generalize flushV d s = r at hn ⊢
    obtain ⟨s', A, e⟩ := r
    dsimp only at hn ⊢
    simp -implicitDefEqProofs [go_sem, flV]
    rw [hn]
    exact Fin.pu (.refl _) (okV_nxQ _ _ (s', A, im, decide (e = 0))) hokH (by simp) (by simp)
  | false =>
    simp -implicitDefEqProofs [go_sem, hfl]
    refine Wp.s ?_
    simp -implicitDefEqProofs [go_sem]
    refine SWp.seq (SWp.drawnT [] [10] (.s 0 .pl <| .s 1 .pl <| .c 2 <| .c 3 <| .s 4 .pl <| .s 5 .pl <| .s 6 .pl <| .s 7 .pl <| .s 8 .pl <| .s 9 .pl <| .s 10 .st <| .s 11 .pl <| .s 12 .pl <| .s 13 .pl <| .n) (by kernel_rfl) (by kernel_rfl) ?_)
    simp -implicitDefEqProofs [go_sem]
    refine ⟨_, fun H V => dataQ_cc H V x, ?_⟩
    simp -implicitDefEqProofs [go_sem]
    refine ⟨_, fun H V => vWrite_cc H V s (dataQ x) hs (by omega), ?_⟩
    have hn : nextQ d s im x = if (writeV s (dataQ x)).2.2.2 = 11 then (s, [], im, true)
      else ((writeV s (dataQ x)).1, (writeV s (dataQ x)).2.2.1, (apR im [dataQ x]).1, decide ((writeV s (dataQ x)).2.2.2 = 0) && decide ((apR im [dataQ x]).2.2 = 0)) := by rw [nextQ, if_neg (by simp [hfl])]
    generalize writeV s (dataQ x) = r at hn ⊢
    obtain ⟨s', q, A, e⟩ := r
    dsimp only at hn ⊢
    simp -implicitDefEqProofs [go_sem, wtV]
    refine SWp.seq (sW ?_)
    by_cases h11 : e = 11
    · subst h11
      rw [if_pos rfl] at hn
      simp -implicitDefEqProofs [go_sem]
      refine Wp.s ?_
      simp -implicitDefEqProofs [go_sem]
      rw [hn]
      exact Fin.pu (.tup (.cons (.refl _) (.cons (.nil 3 (by decide)) (.cons (.refl _) (.cons (.refl _) .nil))))) (okV_nxQ _ _ (s, [], im, true)) hokH (by simp) (by simp)
    rw [if_neg h11] at hn
    have h11' : ¬ (e : Int) = 11 := by omega
    simp -implicitDefEqProofs [go_sem, h11, h11']
    refine Wp.s ?_
    simp -implicitDefEqProofs [go_sem]
    refine sW ?_
    simp -implicitDefEqProofs [go_sem]
    refine CC.mono (dataQ_cc _ _ x) ?_
    rintro _ _ _ ⟨rfl, rfl, rfl⟩
    simp -implicitDefEqProofs [go_sem]
    refine CC.le (ys := [.sl .sh 1 (im.map imE), .sl .sh 3 ([dataQ x].map wrC)]) (.cons (.refl _) (.cons (.sh _ _ _) .nil)) ?_
    have hw1 : ∀ w ∈ [dataQ x], w.data.length ≤ 1000000000 := fun w hw => by
      rw [List.mem_singleton] at hw; subst hw; omega
    refine CC.mono (imApply_cc _ _ .sh im [dataQ x] hi (by simp) hw1) ?_
    rintro _ _ _ ⟨rfl, rfl, rfl⟩
    generalize apR im [dataQ x] = ar at hn ⊢
    obtain ⟨im', n', e'⟩ := ar
    dsimp only at hn ⊢
    simp -implicitDefEqProofs [go_sem, apV]
    refine sW ?_
    by_cases he : e = 0
    · by_cases he' : e' = 0
      · simp -implicitDefEqProofs [go_sem, he, he']
        refine Wp.s ?_
        simp -implicitDefEqProofs [go_sem]
        rw [hn, decide_eq_true he, decide_eq_true he']
        exact Fin.pu (.refl _) (okV_nxQ _ _ (s', A, im', true)) hokH (by simp) (by simp)
      · have he'' : ¬ (e' : Int) = 0 := by omega
        simp -implicitDefEqProofs [go_sem, he, he', he'']
        refine Wp.s ?_
        simp -implicitDefEqProofs [go_sem]
        rw [hn, decide_eq_true he, decide_eq_false he']
        exact Fin.pu (.refl _) (okV_nxQ _ _ (s', A, im', false)) hokH (by simp) (by simp)
    · have he2 : ¬ (e : Int) = 0 := by omega
      simp -implicitDefEqProofs [go_sem, he, he2]
      refine Wp.s ?_
      simp -implicitDefEqProofs [go_sem]
      rw [hn, decide_eq_false he, Bool.false_and]
      exact Fin.pu (.refl _) (okV_nxQ _ _ (s', A, im', false)) hokH (by simp) (by simp)
end Go.Proofs.YtbnkggbpocaaiaaGreatDoor
namespace Go.Proofs.YtbnkggbpocaaiaaGreatDoor
open Go.Proofs
def apF (l : Img) (ws : List Wr) : Img := ws.foldl ap1 l
theorem apF_nil (l : Img) : apF l [] = l := rfl
theorem apF_snoc (l : Img) (ws : List Wr) (w : Wr) : apF l (ws ++ [w]) = ap1 (apF l ws) w := by rw [apF, List.foldl_append]; rfl
theorem imgSz_eq (x : Img) : imgSz x = (x.map List.length).map (fun n : Nat => (n : Int)) := by rw [imgSz, List.map_map]; rfl
theorem imgSz_ap1 {l : Img} {w : Wr} (h : fitsS (imgSz l) w = 0) : imgSz (ap1 l w) = imgSz l := by rw [imgSz_eq, ap1_sz h, ← imgSz_eq]
theorem apF_sz : ∀ (ws : List Wr) (l : Img), (∀ w ∈ ws, fitsS (imgSz l) w = 0) → imgSz (apF l ws) = imgSz l
  | [], l, _ => rfl
  | w :: ws, l, h => by
    have h0 := h w (by simp)
    show imgSz (apF (ap1 l w) ws) = _
    rw [apF_sz ws _ (fun x hx => by rw [imgSz_ap1 h0]; exact h x (by simp [hx])), imgSz_ap1 h0]
theorem apI_F : ∀ (ws : List Wr) (l : Img) (i : Nat), (∀ w ∈ ws, fitsS (imgSz l) w = 0) → apI l ws i = (apF l ws, 0, 0)
  | [], l, i, _ => rfl
  | w :: ws, l, i, h => by
    have h0 := h w (by simp)
    rw [apI, if_neg (by simp [h0]), apI_F ws _ _ (fun x hx => by rw [imgSz_ap1 h0]; exact h x (by simp [hx]))]
    rfl
theorem apR_F {l : Img} {ws : List Wr} (hs : sizesE (imgSz l) = 0) (h : ∀ w ∈ ws, fitsS (imgSz l) w = 0) : apR l ws = (apF l ws, 0, 0) := by
  rw [apR, if_neg (by simp [hs]), apI_F _ _ _ h]
def sat (l : Img) (v p : Nat) : Option Sec := (l[v]?).bind (fun x => x[p]?)
def cov (w : Wr) (v p : Nat) : Prop := w.volume = (v : Int) ∧ w.start ≤ (p : Int) ∧ (p : Int) < w.start + w.data.length
instance (w : Wr) (v p : Nat) : Decidable (cov w v p) := by unfold cov; infer_instance
theorem putV_get {u : List Sec} {q : Nat} {d : List Sec} (h : q + d.length ≤ u.length) (p : Nat) : (putV u q d)[p]? = if q ≤ p ∧ p < q + d.length then d[p - q]? else u[p]? := by
  rw [putV, List.getElem?_append, List.getElem?_append]
  simp only [List.length_append, List.length_take, List.getElem?_take, List.getElem?_drop]
  by_cases h1 : p < q
  · rw [if_pos (by omega), if_pos (by omega), if_pos h1, if_neg (by omega)]
  · by_cases h2 : p < q + d.length
    · rw [if_pos (by omega), if_neg (by omega), if_pos (by omega)]
      congr 1; omega
    · rw [if_neg (by omega), if_neg (by omega)]
      congr 1; omega
theorem sat_ap1 {l : Img} {w : Wr} (h : fitsS (imgSz l) w = 0) (v p : Nat) : sat (ap1 l w) v p = if cov w v p then w.data[p - w.start.toNat]? else sat l v p := by
  obtain ⟨n, hvn, hnk, hd0, q, hpn, hpl⟩ := fitsI_0 h
  have e : ap1 l w = l.set n (putV l[n] q w.data) := by
    rw [ap1, hvn, hpn, Int.toNat_natCast, Int.toNat_natCast, List.getD_eq_getElem?_getD, List.getElem?_eq_getElem hnk, Option.getD_some]
  rw [e, sat, sat, List.getElem?_set]
  by_cases e1 : n = v
  · subst e1
    rw [if_pos rfl, if_pos hnk, Option.bind_some, putV_get hpl, List.getElem?_eq_getElem hnk, Option.bind_some]
    by_cases e2 : q ≤ p ∧ p < q + w.data.length
    · rw [if_pos e2, if_pos ⟨hvn, by omega, by omega⟩, hpn, Int.toNat_natCast]
    · rw [if_neg e2, if_neg (by rintro ⟨-, q1, q2⟩; exact e2 ⟨by omega, by omega⟩)]
  · rw [if_neg e1, if_neg (by rintro ⟨q1, -, -⟩; omega)]
theorem img_ext {a b : Img} (hs : imgSz a = imgSz b) (h : ∀ v p, sat a v p = sat b v p) : a = b := by
  have hl : a.length = b.length := by have := congrArg List.length hs; rwa [imgSz_len, imgSz_len] at this
  refine List.ext_getElem hl fun v h1 h2 => ?_
  have hv := imgSz_at hs v h1 h2
  refine List.ext_getElem hv fun p g1 g2 => ?_
  have := h v p
  rw [sat, sat, List.getElem?_eq_getElem h1, List.getElem?_eq_getElem h2, Option.bind_some, Option.bind_some, List.getElem?_eq_getElem g1, List.getElem?_eq_getElem g2] at this
  exact Option.some.inj this
theorem sat_apF : ∀ (ws : List Wr) (l k : Img) (v p : Nat), imgSz l = imgSz k → (∀ w ∈ ws, fitsS (imgSz l) w = 0) → sat l v p = sat k v p → sat (apF l ws) v p = sat (apF k ws) v p
  | [], l, k, v, p, _, _, h => h
  | w :: ws, l, k, v, p, hs, hf, h => by
    have h0 := hf w (by simp)
    have h0' : fitsS (imgSz k) w = 0 := by rw [← hs]; exact h0
    show sat (apF (ap1 l w) ws) v p = sat (apF (ap1 k w) ws) v p
    refine sat_apF ws _ _ v p (by rw [imgSz_ap1 h0, imgSz_ap1 h0', hs]) (fun x hx => by rw [imgSz_ap1 h0]; exact hf x (by simp [hx])) ?_
    rw [sat_ap1 h0, sat_ap1 h0', h]
theorem apF_again {l : Img} {ws : List Wr} {w : Wr} (hf : ∀ x ∈ ws, fitsS (imgSz l) x = 0) (hw : fitsS (imgSz l) w = 0) (h : apF l ws = l) : apF (ap1 l w) (ws ++ [w]) = ap1 l w := by
  have hz := imgSz_ap1 hw
  have hf' : ∀ x ∈ ws, fitsS (imgSz (ap1 l w)) x = 0 := fun x hx => by rw [hz]; exact hf x hx
  have hz2 := apF_sz ws _ hf'
  have hw2 : fitsS (imgSz (apF (ap1 l w) ws)) w = 0 := by rw [hz2, hz]; exact hw
  rw [apF_snoc]
  refine img_ext (by rw [imgSz_ap1 hw2, hz2]) fun v p => ?_
  rw [sat_ap1 hw2, sat_ap1 hw]
  by_cases c : cov w v p
  · rw [if_pos c, if_pos c]
  · rw [if_neg c, if_neg c, sat_apF ws (ap1 l w) l v p hz hf' (by rw [sat_ap1 hw, if_neg c]), h]
theorem stOk_chk {s : Sto} (h : StOk s) : chkV s = 0 := by
  rw [chkV, if_neg (by simp [h.sz]), if_neg (by simp [h.A.j]), if_neg h.A.a, if_neg h.A.b, if_neg (by simp [h.e1]), if_neg (by simp [h.im]), if_neg (by simp [h.e2, h.e3])]
theorem stOk_fits {s : Sto} (h : StOk s) : ∀ w ∈ s.pend, fitsS s.sizes w = 0 := fun w hw => by
  have := apR_fits h.e1 hw
  rwa [imgSz_of h.sz] at this
theorem stOk_F {s : Sto} (h : StOk s) : apF s.img s.pend = s.img := by
  have := h.e3
  rw [apR_F (by rw [h.im]; exact h.sz) (by rw [h.im]; exact stOk_fits h)] at this
  exact this
theorem stOk_of {s : Sto} (hz : sizesE s.sizes = 0) (hA : ChkA s) (hf : ∀ w ∈ s.pend, fitsS s.sizes w = 0) (hi : imgSz s.img = s.sizes) (ha : apF s.img s.pend = s.img) : StOk s := by
  have e1 : apR (imOf s.sizes) s.pend = (apF (imOf s.sizes) s.pend, 0, 0) := apR_F (by rw [imgSz_of hz]; exact hz) (by rw [imgSz_of hz]; exact hf)
  have e2 : apR s.img s.pend = (apF s.img s.pend, 0, 0) := apR_F (by rw [hi]; exact hz) (by rw [hi]; exact hf)
  exact ⟨hz, hA, by rw [e1], hi, by rw [e2], by rw [e2]; exact ha⟩
end Go.Proofs.YtbnkggbpocaaiaaGreatDoor
namespace Go.Proofs.YtbnkggbpocaaiaaGreatDoor
open Go.Proofs
theorem gn_eq (s : Sec) : gn s = ((sb s 3 * 256 + sb s 2) * 256 + sb s 1) * 256 + sb s 0 := by
  simp [gn, gi]
theorem gn_secOf {n : Nat} {p : List UInt8} (hn : n < 4294967296) (hp : p.length ≤ 31) {i : Nat} (hi : i < 8) : gn (secOf n p i) = n := by
  have h : ∀ j, j < 4 → sb (secOf n p i) j = n / 256 ^ j % 256 := fun j hj => by
    rw [sb, secOf_val n hp hi]
    rcases j with _ | _ | _ | _ | j
    · simp [le4]
    · simp [le4]
    · simp [le4]
    · simp [le4]
    · omega
  rw [gn_eq, h 3 (by omega), h 2 (by omega), h 1 (by omega), h 0 (by omega)]
  omega
theorem copyS_get (n : Nat) (p : List UInt8) (j : Nat) (h : j < 8) : (copyS n p)[j]? = some (secOf n p j) := by
  rw [copyS, List.getElem?_map, List.getElem?_range h]; rfl
theorem parts_take (D : List UInt8) : ∀ k, (List.range k).flatMap (fun i => (D.drop (4 * i)).take 4) = D.take (4 * k)
  | 0 => rfl
  | k + 1 => by
    rw [List.range_succ, List.flatMap_append, parts_take D k, Nat.mul_succ, List.take_add]
    simp
theorem dataS_copy {n : Nat} {p : List UInt8} (hp : p.length ≤ 31) : dataS (copyS n p) = dataOf p := by
  have h : dataS (copyS n p) = (List.range 8).flatMap (fun i => ((dataOf p).drop (4 * i)).take 4) := by
    rw [dataS, copyS, List.flatMap_map, List.flatMap_def, List.flatMap_def]
    congr 1
    refine List.map_congr_left fun i hi => ?_
    rw [List.mem_range] at hi
    rw [secOf_val n hp hi, List.drop_append_of_le_length (by rw [le4_len]; exact Nat.le_refl _), List.drop_of_length_le (by rw [le4_len]; exact Nat.le_refl _), List.nil_append]
    rfl
  rw [h, parts_take, List.take_of_length_le (by rw [dataOf_len hp]; decide)]
theorem dataOf_0 {p : List UInt8} (hp : p.length ≤ 31) : ((dataOf p).getD 0 0).toNat = p.length := by
  simp [dataOf]; omega
theorem okData_of {p : List UInt8} (hp : p.length ≤ 31) : okData (dataOf p) = true := by
  rw [okData, dataOf_0 hp]
  simp only [Bool.and_eq_true, decide_eq_true_eq]
  refine ⟨hp, ?_⟩
  rw [dataOf, List.cons_append, List.drop_succ_cons, List.drop_append_of_le_length (Nat.le_refl _), List.drop_length, List.nil_append]
  simp
theorem g0_copy {n : Nat} {p : List UInt8} (hn : n < 4294967296) (hp : p.length ≤ 31) : g0 (copyS n p) = n := by
  rw [g0, List.getD_eq_getElem?_getD, copyS_get n p 0 (by decide)]
  exact gn_secOf hn hp (by decide)
theorem parse_copy {n : Nat} {p : List UInt8} (hn : n < 4294967296) (hp : p.length ≤ 31) : parseS (copyS n p) = (n, p) := by
  have hv : valid (copyS n p) = true := by
    rw [valid, g0_copy hn hp, dataS_copy hp, okData_of hp, Bool.and_true, List.all_eq_true]
    intro s hs
    obtain ⟨i, hi, rfl⟩ := List.mem_map.1 hs
    rw [List.mem_range] at hi
    simp [gn_secOf hn hp hi]
  rw [parseS, if_pos hv, g0_copy hn hp, pay, dataS_copy hp, dataOf_0 hp, dataOf, List.cons_append, List.drop_succ_cons, List.drop_zero, List.take_append_of_le_length (Nat.le_refl _), List.take_length]
theorem puts_get (a : Nat) (l s : List Sec) : ∀ i, i ≤ l.length → a + l.length ≤ s.length → ∀ j, ((puts a (l.take i)).foldl setC s)[j]? = if a ≤ j ∧ j < a + i then l[j - a]? else s[j]?
  | 0, _, _, j => by
    rw [if_neg (by omega)]; rfl
  | i + 1, h1, h2, j => by
    have ih := puts_get a l s i (by omega) h2 j
    rw [puts_succ _ _ _ (by omega), List.foldl_append, List.foldl_cons, List.foldl_nil, setC]
    have hp : ((a : Int) + (i : Int)).toNat = a + i := by omega
    dsimp only
    rw [hp, List.getElem?_set]
    by_cases e : a + i = j
    · subst e
      rw [if_pos rfl, if_pos (by rw [foldl_setC_len]; omega), if_pos (by omega), Nat.add_sub_cancel_left, List.getElem?_eq_getElem (by omega)]
    · rw [if_neg e, ih]
      by_cases h : a ≤ j ∧ j < a + i
      · rw [if_pos h, if_pos (by omega)]
      · rw [if_neg h, if_neg (by omega)]
def patS (s : List Sec) (a : Nat) (l : List Sec) : List Sec := (puts a l).foldl setC s
theorem patS_len (s : List Sec) (a : Nat) (l : List Sec) : (patS s a l).length = s.length := foldl_setC_len _ _
theorem patS_get {s : List Sec} {a : Nat} {l : List Sec} (h : a + l.length ≤ s.length) (j : Nat) : (patS s a l)[j]? = if a ≤ j ∧ j < a + l.length then l[j - a]? else s[j]? := by
  have := puts_get a l s l.length (Nat.le_refl _) h j
  rwa [List.take_length] at this
theorem inside_ok {s : List Sec} {c : List Cach} {a : Nat} {l : List Sec} (h : a + l.length ≤ s.length) : insideB ⟨s, c⟩ a l.length = true := by
  simp only [insideB, Bool.and_eq_true, decide_eq_true_eq]; omega
theorem runD_s {s : List Sec} {c : List Cach} (r : List Opn) (i : Nat) : runD ⟨s, c⟩ (opS :: r) i = runD ⟨newestD ⟨s, c⟩, []⟩ r (i + 1) := by
  rw [runD, stepD, if_neg (by simp [opS]), if_neg (by simp [opS])]
theorem chk_nil {s : List Sec} (h : s.length ≤ 4096) : checkD ⟨s, []⟩ = 0 := by
  rw [checkD_iff]; exact ⟨h, fun c hc => by cases hc⟩
structure Mx (s s' : List Sec) (a : Nat) (l : List Sec) : Prop where
  len : s'.length = s.length
  get : ∀ j : Nat, s'[j]? = s[j]? ∨ (a ≤ j ∧ j < a + l.length ∧ s'[j]? = l[j - a]?)
theorem Mx.refl (s : List Sec) (a : Nat) (l : List Sec) : Mx s s a l := ⟨rfl, fun _ => .inl rfl⟩
theorem Mx.pat {s : List Sec} {a : Nat} {l : List Sec} (h : a + l.length ≤ s.length) : Mx s (patS s a l) a l :=
  ⟨patS_len _ _ _, fun j => by
    rw [patS_get h]
    by_cases hj : a ≤ j ∧ j < a + l.length
    · rw [if_pos hj]; exact .inr ⟨hj.1, hj.2, rfl⟩
    · rw [if_neg hj]; exact .inl rfl⟩
theorem valid_gn {l : List Sec} (h : valid l = true) : ∀ s ∈ l, gn s = g0 l := fun s hs => by
  rw [valid, Bool.and_eq_true, List.all_eq_true] at h
  simpa using h.1 s hs
theorem parse_bad {l : List Sec} {s t : Sec} (hs : s ∈ l) (ht : t ∈ l) (h : gn s ≠ gn t) : (parseS l).1 = 0 := by
  by_cases hv : valid l = true
  · exact absurd ((valid_gn hv s hs).trans (valid_gn hv t ht).symm) h
  · rw [parseS, if_neg hv]
theorem parse_gn {l : List Sec} (h : 1 ≤ (parseS l).1) : ∀ s ∈ l, gn s = (parseS l).1 := fun s hs => by
  by_cases hv : valid l = true
  · rw [parseS, if_pos hv]; exact valid_gn hv s hs
  · rw [parseS, if_neg hv] at h; cases h
theorem half {h h' : List Sec} {n : Nat} {p : List UInt8} (hn : n < 4294967296) (hp : p.length ≤ 31) (l1 : h.length = 8) (l2 : h'.length = 8) (hg : ∀ s ∈ h, gn s < n) (hx : ∀ j, j < 8 → h'[j]? = h[j]? ∨ h'[j]? = some (secOf n p j)) :
    parseS h' = (n, p) ∨ parseS h' = parseS h ∨ (parseS h').1 = 0 := by
  by_cases a : ∀ j, j < 8 → h'[j]? = h[j]?
  · right; left
    congr 1
    refine List.ext_getElem? fun j => ?_
    rcases Nat.lt_or_ge j 8 with hj | hj
    · exact a j hj
    · rw [List.getElem?_eq_none (by omega), List.getElem?_eq_none (by omega)]
  by_cases b : ∀ j, j < 8 → h'[j]? = some (secOf n p j)
  · left
    have : h' = copyS n p := by
      refine List.ext_getElem? fun j => ?_
      rcases Nat.lt_or_ge j 8 with hj | hj
      · rw [b j hj, copyS_get n p j hj]
      · rw [List.getElem?_eq_none (by omega), List.getElem?_eq_none (by rw [copyS_len]; exact hj)]
    rw [this, parse_copy hn hp]
  · right; right
    obtain ⟨i, hi⟩ := Classical.not_forall.1 a
    obtain ⟨hi8, hi⟩ := Classical.not_imp.1 hi
    obtain ⟨j, hj⟩ := Classical.not_forall.1 b
    obtain ⟨hj8, hj⟩ := Classical.not_imp.1 hj
    have e1 : h'[i]? = some (secOf n p i) := (hx i hi8).resolve_left hi
    have e2 : h'[j]? = h[j]? := (hx j hj8).resolve_right hj
    rw [List.getElem?_eq_getElem (by omega : j < h.length)] at e2
    refine parse_bad (List.mem_of_getElem? e1) (List.mem_of_getElem? e2) ?_
    rw [gn_secOf hn hp hi8]
    have := hg _ (List.getElem_mem (by omega : j < h.length))
    omega
theorem half_full {h' : List Sec} {n : Nat} {p : List UInt8} (hn : n < 4294967296) (hp : p.length ≤ 31) (l2 : h'.length = 8) (b : ∀ j, j < 8 → h'[j]? = some (secOf n p j)) : parseS h' = (n, p) := by
  have : h' = copyS n p := by
    refine List.ext_getElem? fun j => ?_
    rcases Nat.lt_or_ge j 8 with hj | hj
    · rw [b j hj, copyS_get n p j hj]
    · rw [List.getElem?_eq_none (by omega), List.getElem?_eq_none (by rw [copyS_len]; exact hj)]
  rw [this, parse_copy hn hp]
def win (o : Nat) (s : List Sec) : List Sec := (s.drop o).take 16
def hA (o : Nat) (s : List Sec) : List Sec := (s.drop o).take 8
def hB (o : Nat) (s : List Sec) : List Sec := (s.drop (o + 8)).take 8
theorem win_A (o : Nat) (s : List Sec) : (win o s).take 8 = hA o s := by rw [win, hA, List.take_take]; rfl
theorem win_B (o : Nat) (s : List Sec) : (win o s).drop 8 = hB o s := by rw [win, hB, List.drop_take, List.drop_drop]
theorem hA_len {o : Nat} {s : List Sec} (h : o + 16 ≤ s.length) : (hA o s).length = 8 := by rw [hA, List.length_take, List.length_drop]; omega
theorem hB_len {o : Nat} {s : List Sec} (h : o + 16 ≤ s.length) : (hB o s).length = 8 := by rw [hB, List.length_take, List.length_drop]; omega
theorem hA_get (o : Nat) (s : List Sec) (j : Nat) (h : j < 8) : (hA o s)[j]? = s[o + j]? := by rw [hA, List.getElem?_take, if_pos h, List.getElem?_drop]
theorem hB_get (o : Nat) (s : List Sec) (j : Nat) (h : j < 8) : (hB o s)[j]? = s[o + 8 + j]? := by rw [hB, List.getElem?_take, if_pos h, List.getElem?_drop]
def pA (o : Nat) (s : List Sec) : Nat × List UInt8 := parseS (hA o s)
def pB (o : Nat) (s : List Sec) : Nat × List UInt8 := parseS (hB o s)
theorem bestw_eq (o : Nat) (s : List Sec) : best (win o s) = if (pA o s).1 < (pB o s).1 then pB o s else pA o s := by
  rw [best, cA, cB, win_A, win_B]; rfl
theorem new1_eq (o : Nat) (s : List Sec) : new1 (win o s) = if (pA o s).1 < (pB o s).1 then 1 else 0 := by
  rw [new1, cA, cB, win_A, win_B]; rfl
theorem mem_win {o : Nat} {s : List Sec} {x : Sec} : x ∈ win o s ↔ ∃ j, o ≤ j ∧ j < o + 16 ∧ s[j]? = some x := by
  constructor
  · intro h
    obtain ⟨i, hi, rfl⟩ := List.getElem_of_mem h
    have hi2 := hi
    rw [win, List.length_take, List.length_drop] at hi2
    refine ⟨o + i, by omega, by omega, ?_⟩
    rw [List.getElem?_eq_getElem (by omega)]
    simp [win]
  · rintro ⟨j, h1, h2, h3⟩
    refine List.mem_of_getElem? (i := j - o) ?_
    rw [win, List.getElem?_take, if_pos (by omega), List.getElem?_drop, ← h3]
    congr 1; omega
theorem mxS_le : ∀ (l : List Sec) (m k : Nat), mxS m l ≤ k ↔ m ≤ k ∧ ∀ s ∈ l, gn s ≤ k
  | [], m, k => by simp [mxS]
  | a :: l, m, k => by
    have := mxS_le l (max m (gn a)) k
    rw [mxS] at this ⊢
    rw [List.foldl_cons, this]
    simp only [List.mem_cons, forall_eq_or_imp, Nat.max_le, and_assoc]
theorem top_le (l : List Sec) (k : Nat) : topS l ≤ k ↔ ∀ s ∈ l, gn s ≤ k := by
  rw [topS_eq, mxS_le]; simp
theorem mem_hA {o : Nat} {s : List Sec} {x : Sec} (h : x ∈ hA o s) : x ∈ win o s := by rw [← win_A] at h; exact List.mem_of_mem_take h
theorem mem_hB {o : Nat} {s : List Sec} {x : Sec} (h : x ∈ hB o s) : x ∈ win o s := by rw [← win_B] at h; exact List.mem_of_mem_drop h
structure Gd (o : Nat) (s : List Sec) (g : Nat) (v : List UInt8) (T : Nat) : Prop where
  l1 : o + 16 ≤ s.length
  l2 : s.length ≤ 4096
  bst : best (win o s) = (g, v)
  pos : 1 ≤ g
  top : topS (win o s) ≤ T
theorem find_nil {o : Nat} {s : List Sec} (h1 : o + 16 ≤ s.length) (h2 : s.length ≤ 4096) : findE ⟨s, []⟩ o = 0 ∧ findL ⟨s, []⟩ o = win o s := by
  have hc := chk_nil h2
  have hi : insideB ⟨s, []⟩ o 16 = true := by simp only [insideB, Bool.and_eq_true, decide_eq_true_eq]; omega
  have : readD ⟨s, []⟩ o 16 = (win o s, 0) := by
    rw [readD, if_neg (by simp [hc]), if_neg (by simp [hi])]; rfl
  rw [findE, findL, this]; exact ⟨rfl, rfl⟩
theorem Gd.load {o : Nat} {s : List Sec} {g : Nat} {v : List UInt8} {T : Nat} (h : Gd o s g v T) : loadS ⟨s, []⟩ o = (v, g, 0) := by
  obtain ⟨f1, f2⟩ := find_nil h.l1 h.l2
  have := h.pos
  rw [loadS, if_neg (by simp [f1]), f2, h.bst, if_neg (by dsimp only; omega)]
theorem Gd.store {o : Nat} {s : List Sec} {g : Nat} {v p : List UInt8} {T : Nat} (h : Gd o s g v T) (hp : p.length ≤ 31) (hT : T < 4294967295) :
    storeS ⟨s, []⟩ o p = ([opW ((if (pA o s).1 < (pB o s).1 then o else o + 8 : Nat) : Int) (copyS (topS (win o s) + 1) p), opS], 0) := by
  obtain ⟨f1, f2⟩ := find_nil h.l1 h.l2
  have h1 := h.pos
  have h2 := h.top
  rw [storeS, if_neg (by simp [f1]), f2, h.bst, if_neg (by dsimp only; omega), if_neg (by omega), if_neg (by omega), new1_eq]
  split
  · rw [show (o : Int) + 8 - 8 * ((1 : Nat) : Int) = (o : Int) by omega]
  · rw [show (o : Int) + 8 - 8 * ((0 : Nat) : Int) = ((o + 8 : Nat) : Int) by omega]
theorem Gd.mx {o : Nat} {s s' : List Sec} {g : Nat} {v p : List UInt8} {T : Nat} (h : Gd o s g v T) (hp : p.length ≤ 31) (hT : T < 4294967295)
    (hm : Mx s s' (if (pA o s).1 < (pB o s).1 then o else o + 8) (copyS (topS (win o s) + 1) p)) :
    (Gd o s' g v (T + 1) ∨ Gd o s' (topS (win o s) + 1) p (T + 1)) ∧ (∀ x, x = pA o s' ∨ x = pB o s' → x.1 = 0 ∨ x = pA o s ∨ x = pB o s ∨ x.2 = p) ∧ (∀ j, j < o ∨ o + 16 ≤ j → s'[j]? = s[j]?) ∧ g < topS (win o s) + 1 ∧
    ((∀ j, (if (pA o s).1 < (pB o s).1 then o else o + 8) ≤ j → j < (if (pA o s).1 < (pB o s).1 then o else o + 8) + 8 → s'[j]? = (copyS (topS (win o s) + 1) p)[j - (if (pA o s).1 < (pB o s).1 then o else o + 8)]?) → Gd o s' (topS (win o s) + 1) p (T + 1)) := by
  have h1 := h.l1
  have h2 := h.l2
  have hl := hm.len
  have hpos := h.pos
  have hb := h.bst
  rw [bestw_eq] at hb
  have htop := h.top
  have hall := (top_le (win o s) (topS (win o s))).1 (Nat.le_refl _)
  generalize hn : topS (win o s) + 1 = n at *
  have hn32 : n < 4294967296 := by omega
  have hget := hm.get
  rw [copyS_len] at hget
  have htop' : topS (win o s') ≤ T + 1 := by
    rw [top_le]
    intro x hx
    obtain ⟨j, a1, a2, a3⟩ := mem_win.1 hx
    rcases hget j with e | ⟨e1, e2, e3⟩
    · rw [e] at a3
      have := hall x (mem_win.2 ⟨j, a1, a2, a3⟩)
      omega
    · rw [a3, copyS_get _ _ _ (by omega)] at e3
      rw [Option.some.inj e3, gn_secOf hn32 hp (by omega)]
      omega
  have hout : ∀ j, j < o ∨ o + 16 ≤ j → s'[j]? = s[j]? := fun j hj => by
    rcases hget j with e | ⟨e1, e2, e3⟩
    · exact e
    · split at e1 <;> split at e2 <;> omega
  by_cases hlt : (pA o s).1 < (pB o s).1
  · simp only [if_pos hlt] at hget hb ⊢
    have hBe : pB o s' = pB o s := by
      rw [pB, pB]; congr 1
      refine List.ext_getElem? fun j => ?_
      rcases Nat.lt_or_ge j 8 with hj | hj
      · rw [hB_get _ _ _ hj, hB_get _ _ _ hj]
        rcases hget (o + 8 + j) with e | ⟨e1, e2, e3⟩
        · exact e
        · omega
      · rw [List.getElem?_eq_none (by rw [hB_len (by omega)]; exact hj), List.getElem?_eq_none (by rw [hB_len (by omega)]; exact hj)]
    have hgn : g < n := by
      have h0l : 0 < (hB o s).length := by rw [hB_len h1]; decide
      have hm0 : (hB o s)[0] ∈ hB o s := List.getElem_mem h0l
      have h1g : 1 ≤ (parseS (hB o s)).1 := by show 1 ≤ (pB o s).1; rw [hb]; exact hpos
      have e1 := parse_gn h1g _ hm0
      have e2 := hall _ (mem_hB hm0)
      have e3 : (parseS (hB o s)).1 = g := by show (pB o s).1 = g; rw [hb]
      omega
    have hAh := half (h := hA o s) (h' := hA o s') (n := n) (p := p) hn32 hp (hA_len h1) (hA_len (by omega)) (fun x hx => by have := hall x (mem_hA hx); omega) (fun j hj => by
      rw [hA_get _ _ _ hj, hA_get _ _ _ hj]
      rcases hget (o + j) with e | ⟨e1, e2, e3⟩
      · exact .inl e
      · right; rw [e3, Nat.add_sub_cancel_left, copyS_get _ _ _ hj])
    refine ⟨?_, ?_, hout, hgn, fun hf => ⟨by omega, by omega, ?_, by omega, htop'⟩⟩
    · rcases hAh with e | e | e
      · right; refine ⟨by omega, by omega, ?_, by omega, htop'⟩
        rw [bestw_eq, hBe, hb, pA, e, if_neg (by dsimp only; omega)]
      · left; refine ⟨by omega, by omega, ?_, by omega, htop'⟩
        rw [bestw_eq, hBe, pA, e]
        show (if (pA o s).1 < (pB o s).1 then pB o s else pA o s) = _
        rw [if_pos hlt, hb]
      · left; refine ⟨by omega, by omega, ?_, by omega, htop'⟩
        rw [bestw_eq, hBe, hb, pA, e, if_pos (by dsimp only; omega)]
    · rintro x (rfl | rfl)
      · rcases hAh with e | e | e
        · right; right; right; rw [pA, e]
        · right; left; exact e
        · left; exact e
      · right; right; left; exact hBe
    · have := half_full (h' := hA o s') (n := n) (p := p) hn32 hp (hA_len (by omega)) (fun j hj => by
        rw [hA_get _ _ _ hj, hf (o + j) (by omega) (by omega), Nat.add_sub_cancel_left, copyS_get _ _ _ hj])
      rw [bestw_eq, hBe, hb, pA, this, if_neg (by dsimp only; omega)]
  · simp only [if_neg hlt] at hget hb ⊢
    have hAe : pA o s' = pA o s := by
      rw [pA, pA]; congr 1
      refine List.ext_getElem? fun j => ?_
      rcases Nat.lt_or_ge j 8 with hj | hj
      · rw [hA_get _ _ _ hj, hA_get _ _ _ hj]
        rcases hget (o + j) with e | ⟨e1, e2, e3⟩
        · exact e
        · omega
      · rw [List.getElem?_eq_none (by rw [hA_len (by omega)]; exact hj), List.getElem?_eq_none (by rw [hA_len (by omega)]; exact hj)]
    have hgn : g < n := by
      have h0l : 0 < (hA o s).length := by rw [hA_len h1]; decide
      have hm0 : (hA o s)[0] ∈ hA o s := List.getElem_mem h0l
      have h1g : 1 ≤ (parseS (hA o s)).1 := by show 1 ≤ (pA o s).1; rw [hb]; exact hpos
      have e1 := parse_gn h1g _ hm0
      have e2 := hall _ (mem_hA hm0)
      have e3 : (parseS (hA o s)).1 = g := by show (pA o s).1 = g; rw [hb]
      omega
    have hBh := half (h := hB o s) (h' := hB o s') (n := n) (p := p) hn32 hp (hB_len h1) (hB_len (by omega)) (fun x hx => by have := hall x (mem_hB hx); omega) (fun j hj => by
      rw [hB_get _ _ _ hj, hB_get _ _ _ hj]
      rcases hget (o + 8 + j) with e | ⟨e1, e2, e3⟩
      · exact .inl e
      · right; rw [e3, Nat.add_sub_cancel_left, copyS_get _ _ _ hj])
    refine ⟨?_, ?_, hout, hgn, fun hf => ⟨by omega, by omega, ?_, by omega, htop'⟩⟩
    · rcases hBh with e | e | e
      · right; refine ⟨by omega, by omega, ?_, by omega, htop'⟩
        rw [bestw_eq, hAe, hb, pB, e, if_pos (by dsimp only; omega)]
      · left; refine ⟨by omega, by omega, ?_, by omega, htop'⟩
        rw [bestw_eq, hAe, pB, e]
        show (if (pA o s).1 < (pB o s).1 then pB o s else pA o s) = _
        rw [if_neg hlt, hb]
      · left; refine ⟨by omega, by omega, ?_, by omega, htop'⟩
        rw [bestw_eq, hAe, hb, pB, e, if_neg (by dsimp only; omega)]
    · rintro x (rfl | rfl)
      · right; left; exact hAe
      · rcases hBh with e | e | e
        · right; right; right; rw [pB, e]
        · right; right; left; exact e
        · left; exact e
    · have := half_full (h' := hB o s') (n := n) (p := p) hn32 hp (hB_len (by omega)) (fun j hj => by
        rw [hB_get _ _ _ hj, hf (o + 8 + j) (by omega) (by omega), Nat.add_sub_cancel_left, copyS_get _ _ _ hj])
      rw [bestw_eq, hAe, hb, pB, this, if_pos (by dsimp only; omega)]
end Go.Proofs.YtbnkggbpocaaiaaGreatDoor
namespace Go.Proofs.YtbnkggbpocaaiaaGreatDoor
open Go.Proofs
def OpOk (n : Nat) (o : Opn) : Prop := o = opS ∨ ∃ (a : Nat) (l : List Sec), o = opW a l ∧ a + l.length ≤ n
def execS : List Sec → List Opn → List Sec
  | s, [] => s
  | s, o :: os => execS (if o.kind = 0 then patS s o.pos.toNat o.data else s) os
theorem execS_w (s : List Sec) (a : Nat) (l : List Sec) (os : List Opn) : execS s (opW a l :: os) = execS (patS s a l) os := rfl
theorem execS_s (s : List Sec) (os : List Opn) : execS s (opS :: os) = execS s os := rfl
theorem execS_app : ∀ (a b : List Opn) (s : List Sec), execS s (a ++ b) = execS (execS s a) b
  | [], b, s => rfl
  | o :: a, b, s => by rw [List.cons_append, execS, execS_app a b, execS]
theorem execS_len : ∀ (os : List Opn) (s : List Sec), (execS s os).length = s.length
  | [], s => rfl
  | o :: os, s => by
    rw [execS, execS_len os]
    split
    · exact patS_len _ _ _
    · rfl
theorem execS_get : ∀ (os : List Opn) (s : List Sec), (∀ o ∈ os, OpOk s.length o) → ∀ j, (∀ o ∈ os, ∀ (a : Nat) (l : List Sec), o = opW a l → j < a ∨ a + l.length ≤ j) → (execS s os)[j]? = s[j]?
  | [], s, _, j, _ => rfl
  | o :: os, s, h, j, hj => by
    rcases h o (by simp) with rfl | ⟨a, l, rfl, hl⟩
    · rw [execS_s]
      exact execS_get os s (fun x hx => h x (by simp [hx])) j (fun x hx => hj x (by simp [hx]))
    · rw [execS_w, execS_get os _ (fun x hx => by rw [patS_len]; exact h x (by simp [hx])) j (fun x hx => hj x (by simp [hx])), patS_get hl, if_neg]
      have := hj _ (by simp) a l rfl
      omega
theorem runD_exec : ∀ (os : List Opn) (s : List Sec) (c : List Cach) (i : Nat), (∀ o ∈ os, OpOk s.length o) → ∃ d', runD ⟨s, c⟩ os i = .ok (d', i + os.length) ∧ d'.stable.length = s.length ∧ newestD d' = execS (newestD ⟨s, c⟩) os ∧ (os.getLast? = some opS → d'.cache = []) ∧ (os = [] → d' = ⟨s, c⟩)
  | [], s, c, i, _ => ⟨⟨s, c⟩, rfl, rfl, rfl, fun h => (by cases h), fun _ => rfl⟩
  | o :: os, s, c, i, h => by
    have ht : ∀ o ∈ os, OpOk s.length o := fun x hx => h x (by simp [hx])
    rcases h o (by simp) with rfl | ⟨a, l, rfl, hl⟩
    · obtain ⟨d', h1, h2, h3, h4, h5⟩ := runD_exec os (newestD ⟨s, c⟩) [] (i + 1) (by rw [newestD_len]; exact ht)
      refine ⟨d', ?_, by rw [h2, newestD_len], by rw [h3, execS_s]; rfl, fun q => ?_, fun q => by cases q⟩
      · rw [runD_s, h1, List.length_cons, show i + 1 + os.length = i + (os.length + 1) by omega]
      · cases os with
        | nil => rw [h5 rfl]
        | cons x os => exact h4 (by rw [List.getLast?_cons_cons] at q; exact q)
    · have hst : stepD ⟨s, c⟩ (opW a l) = .ok ⟨s, c ++ puts a l⟩ := by
        rw [stepD, if_neg (by simp [opW]), if_pos (by rfl)]
        show (match writeD ⟨s, c⟩ a l with | some d' => Except.ok d' | none => Except.error 2) = _
        rw [writeD, if_pos (inside_ok hl)]; rfl
      obtain ⟨d', h1, h2, h3, h4, h5⟩ := runD_exec os s (c ++ puts a l) (i + 1) ht
      refine ⟨d', ?_, h2, ?_, fun q => ?_, fun q => by cases q⟩
      · rw [runD, hst]
        show runD _ os (i + 1) = _
        rw [h1, List.length_cons, show i + 1 + os.length = i + (os.length + 1) by omega]
      · rw [h3, execS_w]
        congr 1
        rw [newestD, List.foldl_append]; rfl
      · cases os with
        | nil => rw [List.getLast?_singleton] at q; cases q
        | cons x os => exact h4 (by rw [List.getLast?_cons_cons] at q; exact q)
theorem runR_exec {s : List Sec} {os : List Opn} (h : s.length ≤ 4096) (ho : ∀ o ∈ os, OpOk s.length o) (hl : os = [] ∨ os.getLast? = some opS) : runR ⟨s, []⟩ os = (⟨execS s os, []⟩, os.length, 0) := by
  obtain ⟨d', h1, h2, h3, h4, h5⟩ := runD_exec os s [] 0 ho
  rw [runR, if_neg (by simp [chk_nil h]), h1]
  have hc : d'.cache = [] := by
    rcases hl with rfl | hl
    · rw [h5 rfl]
    · exact h4 hl
  have : d' = ⟨execS s os, []⟩ := by
    obtain ⟨st, ca⟩ := d'
    dsimp only at hc
    subst hc
    congr 1
  rw [this, Nat.zero_add]
end Go.Proofs.YtbnkggbpocaaiaaGreatDoor
namespace Go.Proofs.YtbnkggbpocaaiaaGreatDoor
open Go.Proofs
theorem enc_sz {r : Rcd} {l : List Sec} (h : encR r = .ok l) : okSz l.length = true := by
  rw [encR] at h
  split at h
  · cases h
  · split at h
    · cases h
    · cases h
      rw [okSz_iff, secsR, List.length_map, List.length_range, strm_len]
      omega
theorem chkJ_app {j : Jrn} {n : Nat} (h : chkJ j = true) (h1 : ¬ 1073741824 ≤ nextJ j) (h2 : ¬ freeJ j < (n : Int)) (hz : okSz n = true) :
    chkJ ⟨j.start, j.count, j.head, (j.tail + n) % (j.count - 16), j.first, j.sizes ++ [(n : Int)]⟩ = true := by
  have g := (chkJ_iff j).1 h
  have g2 := (preJ_iff j).1 g.2.1
  have hv := (validJ_iff _ _).1 g.1
  rw [chkJ_iff, preJ_iff]
  unfold nextJ at h1
  unfold freeJ at h2
  refine ⟨g.1, ⟨g2.1, g2.2.1, g2.2.2.1, g2.2.2.2.1, by simp; omega⟩, ?_, ?_, ?_⟩
  · show (j.sizes ++ [(n : Int)]).all okSz = true
    rw [List.all_append, g.2.2.1, List.all_cons, hz]; rfl
  · show sumI (j.sizes ++ [(n : Int)]) ≤ j.count - 16
    rw [sumI_snoc]; omega
  · show (j.tail + (n : Int)) % (j.count - 16) = (j.head + sumI (j.sizes ++ [(n : Int)])) % (j.count - 16)
    rw [sumI_snoc, g.2.2.2.2, Int.emod_add_emod, Int.add_assoc]
theorem chkJ_drop {j : Jrn} {n : Nat} (h : chkJ j = true) (hn : n ≤ j.sizes.length) :
    chkJ ⟨j.start, j.count, (j.head + sumI (j.sizes.take n)) % (j.count - 16), j.tail, j.first + n, j.sizes.drop n⟩ = true := by
  have g := (chkJ_iff j).1 h
  have g2 := (preJ_iff j).1 g.2.1
  have hv := (validJ_iff _ _).1 g.1
  have hall := g.2.2.1
  have e3 := sumI_app (j.sizes.take n) (j.sizes.drop n)
  rw [List.take_append_drop] at e3
  have e1 := sumI_ge (j.sizes.take n) (List.all_eq_true.2 fun x hx => List.all_eq_true.1 hall x (List.mem_of_mem_take hx))
  have hall2 : (j.sizes.drop n).all okSz = true := List.all_eq_true.2 fun x hx => List.all_eq_true.1 hall x (List.mem_of_mem_drop hx)
  rw [chkJ_iff, preJ_iff]
  refine ⟨g.1, ⟨Int.emod_nonneg _ (by show j.count - 16 ≠ 0; omega), Int.emod_lt_of_pos _ (by show 0 < j.count - 16; omega), ?_, ?_, ?_⟩, hall2, ?_, ?_⟩
  · show 1 ≤ j.first + (n : Int); omega
  · show j.first + (n : Int) ≤ 1073741824; omega
  · show (((j.sizes.drop n).length : Nat) : Int) ≤ 1073741824 - (j.first + (n : Int))
    rw [List.length_drop]; omega
  · show sumI (j.sizes.drop n) ≤ j.count - 16; omega
  · show j.tail = ((j.head + sumI (j.sizes.take n)) % (j.count - 16) + sumI (j.sizes.drop n)) % (j.count - 16)
    rw [Int.emod_add_emod, g.2.2.2.2, Int.add_assoc, ← e3]
theorem super_len (h f : Int) : (superJ h f).length ≤ 31 := by
  have := enc_len h; have := enc_len f
  rw [superJ, List.length_append]; omega
theorem Gd.keep {o : Nat} {s s' : List Sec} {g : Nat} {v : List UInt8} {T : Nat} (h : Gd o s g v T) (hl : s'.length = s.length) (hk : ∀ j, o ≤ j → j < o + 16 → s'[j]? = s[j]?) : Gd o s' g v T := by
  have hw : win o s' = win o s := by
    rw [win, win]
    refine List.ext_getElem? fun i => ?_
    rw [List.getElem?_take, List.getElem?_take]
    split
    · rw [List.getElem?_drop, List.getElem?_drop, hk _ (by omega) (by omega)]
    · rfl
  exact ⟨by rw [hl]; exact h.l1, by rw [hl]; exact h.l2, by rw [hw]; exact h.bst, h.pos, by rw [hw]; exact h.top⟩
structure JD (s : List Sec) (j : Jrn) (T : Nat) : Prop where
  chk : chkJ j = true
  len : j.start.toNat + j.count.toNat ≤ s.length
  gd : ∃ g, Gd j.start.toNat s g (superJ j.head j.first) T
theorem JD.val {s : List Sec} {j : Jrn} {T : Nat} (h : JD s j T) : ∃ st n : Nat, j.start = st ∧ j.count = (n : Int) + 16 ∧ 4 ≤ n ∧ n ≤ 4096 ∧ st ≤ 4096 ∧ st + 16 + n ≤ s.length ∧ s.length ≤ 4096 := by
  have hv := (validJ_iff _ _).1 (chkJ_val h.chk)
  have hl := h.len
  obtain ⟨g, hg⟩ := h.gd
  exact ⟨j.start.toNat, (j.count - 16).toNat, by omega, by omega, by omega, by omega, by omega, by omega, hg.l2⟩
theorem wrapW_ok {s : List Sec} {j : Jrn} {T : Nat} (h : JD s j T) {l : List Sec} (hl : ¬ freeJ j < l.length) :
    ∀ o ∈ wrapW j.start j.count j.tail l, ∃ (a : Nat) (m : List Sec), o = opW a m ∧ j.start.toNat + 16 ≤ a ∧ a + m.length ≤ j.start.toNat + j.count.toNat := by
  obtain ⟨st, n, e1, e2, h4, h5, h6, h7, h8⟩ := h.val
  have ht := chkJ_tail h.chk
  have hsu := chkJ_sum h.chk
  unfold freeJ at hl
  intro o ho
  by_cases hk : kW j.count j.tail l < l.length
  · rw [wrapW_1 hk] at ho
    simp only [List.mem_cons, List.not_mem_nil, or_false] at ho
    unfold kW at hk ho
    rcases ho with rfl | rfl
    · refine ⟨st + 16 + j.tail.toNat, l.take (min l.length (j.count - 16 - j.tail).toNat), ?_, by omega, by rw [List.length_take]; omega⟩
      rw [e1, show ((st + 16 + j.tail.toNat : Nat) : Int) = (st : Int) + 16 + j.tail by omega]
    · exact ⟨st + 16, _, by rw [e1]; rfl, by omega, by rw [List.length_drop]; omega⟩
  · rw [wrapW_0 hk] at ho
    obtain rfl : o = _ := by simpa using ho
    unfold kW at hk
    refine ⟨st + 16 + j.tail.toNat, l.take (kW j.count j.tail l), ?_, by omega, by rw [List.length_take]; unfold kW; omega⟩
    rw [e1, show ((st + 16 + j.tail.toNat : Nat) : Int) = (st : Int) + 16 + j.tail by omega]
theorem JD.app {s : List Sec} {j : Jrn} {T : Nat} (h : JD s j T) {k : Int} {p : List UInt8} (he : (appJ j k p).2.2 = 0) :
    JD (execS s (appJ j k p).2.1) (appJ j k p).1 T ∧ (∀ o ∈ (appJ j k p).2.1, OpOk s.length o) ∧ (appJ j k p).2.1.getLast? = some opS ∧
    (∀ i, i < j.start.toNat + 16 ∨ j.start.toNat + j.count.toNat ≤ i → (execS s (appJ j k p).2.1)[i]? = s[i]?) ∧
    ∃ l, encR ⟨k, nextJ j, p⟩ = .ok l ∧ ¬ 1073741824 ≤ nextJ j ∧ ¬ freeJ j < l.length ∧ (appJ j k p).1 = ⟨j.start, j.count, j.head, (j.tail + l.length) % (j.count - 16), j.first, j.sizes ++ [(l.length : Int)]⟩ ∧ (appJ j k p).2.1 = wrapW j.start j.count j.tail l ++ [opS] := by
  cases hen : encR ⟨k, nextJ j, p⟩ with
  | error e =>
    rw [appJ_err h.chk hen] at he
    have := enc_err hen
    dsimp only at he
    omega
  | ok l =>
    by_cases h1 : 1073741824 ≤ nextJ j
    · rw [appJ_many h.chk hen h1] at he; cases he
    by_cases h2 : freeJ j < l.length
    · rw [appJ_full h.chk hen h1 h2] at he; cases he
    rw [appJ_ok h.chk hen h1 h2]
    dsimp only
    have hw := wrapW_ok h h2
    have hlen := h.len
    have hops : ∀ o ∈ wrapW j.start j.count j.tail l ++ [opS], OpOk s.length o := fun o ho => by
      rcases List.mem_append.1 ho with ho | ho
      · obtain ⟨a, m, rfl, a1, a2⟩ := hw o ho
        exact .inr ⟨a, m, rfl, by omega⟩
      · rw [List.mem_singleton] at ho; exact .inl ho
    have hout : ∀ i, i < j.start.toNat + 16 ∨ j.start.toNat + j.count.toNat ≤ i → (execS s (wrapW j.start j.count j.tail l ++ [opS]))[i]? = s[i]? := fun i hi => by
      refine execS_get _ s hops i fun o ho a m e => ?_
      rcases List.mem_append.1 ho with ho | ho
      · obtain ⟨a', m', e', a1, a2⟩ := hw o ho
        rw [e] at e'
        obtain ⟨q1, q2⟩ : (a : Int) = a' ∧ m = m' := by
          simp only [opW, Opn.mk.injEq] at e'
          exact ⟨e'.2.1, e'.2.2⟩
        have : a = a' := by omega
        subst this q2
        omega
      · rw [List.mem_singleton] at ho
        rw [e] at ho
        simp [opW, opS] at ho
    refine ⟨⟨chkJ_app h.chk h1 h2 (enc_sz hen), by rw [execS_len]; exact hlen, ?_⟩, hops, by simp, hout, l, rfl, h1, h2, rfl, rfl⟩
    obtain ⟨g, hg⟩ := h.gd
    exact ⟨g, hg.keep (execS_len _ _) fun i i1 i2 => hout i (.inl i2)⟩
theorem JD.rel {s : List Sec} {j : Jrn} {T : Nat} (h : JD s j T) (hT : T < 4294967295) {n : Nat} (hn : n ≤ j.sizes.length) :
    ∃ ops, relJ ⟨s, []⟩ j (j.first - 1 + n) = (if n = 0 then j else ⟨j.start, j.count, (j.head + sumI (j.sizes.take n)) % (j.count - 16), j.tail, j.first + n, j.sizes.drop n⟩, ops, 0) ∧
      JD (execS s ops) (if n = 0 then j else ⟨j.start, j.count, (j.head + sumI (j.sizes.take n)) % (j.count - 16), j.tail, j.first + n, j.sizes.drop n⟩) (T + 1) ∧
      (∀ o ∈ ops, OpOk s.length o) ∧ (ops = [] ∨ ops.getLast? = some opS) ∧ (∀ o ∈ ops, ∀ (a : Nat) (l : List Sec), o = opW a l → j.start.toNat ≤ a ∧ a + l.length ≤ j.start.toNat + 16) := by
  obtain ⟨g, hg⟩ := h.gd
  have hc := chk_nil hg.l2
  have hnx : nextJ j = j.first + j.sizes.length := rfl
  have hr : relJ ⟨s, []⟩ j (j.first - 1 + n) = if (j.first - 1 + n : Int) = j.first - 1 then (j, [], 0) else
      if (storeS ⟨s, []⟩ j.start (superJ ((j.head + sumI (j.sizes.take n)) % (j.count - 16)) (j.first + n))).2 ≠ 0 then (zjr, [], (storeS ⟨s, []⟩ j.start (superJ ((j.head + sumI (j.sizes.take n)) % (j.count - 16)) (j.first + n))).2)
      else (⟨j.start, j.count, (j.head + sumI (j.sizes.take n)) % (j.count - 16), j.tail, j.first + n, j.sizes.drop n⟩, (storeS ⟨s, []⟩ j.start (superJ ((j.head + sumI (j.sizes.take n)) % (j.count - 16)) (j.first + n))).1, 0) := by
    rw [relJ, if_neg (by simp [hc]), if_neg (by simp [h.chk]), if_neg (by omega)]
    have : (j.first - 1 + n + 1 - j.first).toNat = n := by omega
    rw [this, show j.first - 1 + (n : Int) + 1 = j.first + n by omega]
  by_cases h0 : n = 0
  · subst h0
    refine ⟨[], ?_, ?_, fun o ho => (by cases ho), .inl rfl, fun o ho => (by cases ho)⟩
    · rw [hr, if_pos (by simp), if_pos rfl]
    · rw [if_pos rfl]
      exact ⟨h.chk, h.len, g, hg.l1, hg.l2, hg.bst, hg.pos, Nat.le_succ_of_le hg.top⟩
  · rw [if_neg h0]
    have hp := super_len ((j.head + sumI (j.sizes.take n)) % (j.count - 16)) (j.first + n)
    obtain ⟨st, m, e1, e2, h4, h5, h6, h7, h8⟩ := h.val
    rw [e1, Int.toNat_natCast] at hg
    have hst := hg.store hp hT
    rw [e1, hst, if_neg (by omega), if_neg (by simp)] at hr
    generalize hv : superJ ((j.head + sumI (j.sizes.take n)) % (j.count - 16)) (j.first + n) = v at *
    obtain ⟨a, ha⟩ : ∃ a, a = if (pA st s).1 < (pB st s).1 then st else st + 8 := ⟨_, rfl⟩
    rw [← ha] at hr
    have ha2 : st ≤ a ∧ a + 8 ≤ st + 16 := by rw [ha]; split <;> omega
    have hcl := copyS_len (topS (win st s) + 1) v
    have hfit : a + (copyS (topS (win st s) + 1) v).length ≤ s.length := by rw [hcl]; omega
    have hm := hg.mx hp hT (s' := patS s a (copyS (topS (win st s) + 1) v)) (by rw [← ha]; exact .pat hfit)
    refine ⟨[opW a (copyS (topS (win st s) + 1) v), opS], by rw [hr, e1], ⟨?_, ?_, topS (win st s) + 1, ?_⟩, ?_, .inr rfl, ?_⟩
    · have := chkJ_drop h.chk hn
      rwa [e1] at this ⊢
    · rw [execS_len]; exact h.len
    · show Gd j.start.toNat _ _ (superJ _ _) _
      rw [e1, Int.toNat_natCast, hv]
      refine hm.2.2.2.2 fun i i1 i2 => ?_
      rw [← ha] at i1 i2 ⊢
      rw [patS_get hfit, if_pos ⟨i1, by rw [hcl]; exact i2⟩]
    · intro o ho
      simp only [List.mem_cons, List.not_mem_nil, or_false] at ho
      rcases ho with rfl | rfl
      · exact .inr ⟨a, _, rfl, hfit⟩
      · exact .inl rfl
    · intro o ho b l e
      simp only [List.mem_cons, List.not_mem_nil, or_false] at ho
      rcases ho with rfl | rfl
      · simp only [opW, Opn.mk.injEq] at e
        obtain ⟨-, q1, rfl⟩ := e
        rw [hcl, e1]
        omega
      · simp [opW, opS] at e
end Go.Proofs.YtbnkggbpocaaiaaGreatDoor
namespace Go.Proofs.YtbnkggbpocaaiaaGreatDoor
open Go.Proofs
end Go.Proofs.YtbnkggbpocaaiaaGreatDoor
namespace Go.Proofs.YtbnkggbpocaaiaaGreatDoor
open Go.Proofs
theorem JD.mono {s : List Sec} {j : Jrn} {T T' : Nat} (h : JD s j T) (ht : T ≤ T') : JD s j T' := by
  obtain ⟨g, hg⟩ := h.gd
  exact ⟨h.chk, h.len, g, hg.l1, hg.l2, hg.bst, hg.pos, Nat.le_trans hg.top ht⟩
theorem dq_fits (x : Stq) : fitsS [6, 3] (dataQ x) = 0 := by
  have hz := zqN_r x
  have ha := atN_lt x
  have hc := cntN_r x
  have hl : (dataQ x).data.length = cntN x := by simp [dataQ]
  have hq : x.v.toNat % 2 < 2 := Nat.mod_lt _ (by decide)
  have hg : ([6, 3] : List Int).getD (dataQ x).volume.toNat 0 = (zqN x : Int) := by
    show ([6, 3] : List Int).getD ((x.v.toNat % 2 : Nat) : Int).toNat 0 = _
    rw [Int.toNat_natCast]
    unfold zqN
    rcases Nat.mod_two_eq_zero_or_one x.v.toNat with e | e <;> rw [e] <;> simp
  have hv : (dataQ x).volume = ((x.v.toNat % 2 : Nat) : Int) := rfl
  have hs : (dataQ x).start = (atN x : Int) := rfl
  rw [fitsS, if_neg (by rw [hv]; simp; omega), if_neg (by omega), hg, if_neg (by rw [hs, hl]; omega)]
theorem dq_pay (x : Stq) : (encWrs [dataQ x]).length ≤ 4096 := by
  have hl := dataQ_len x
  have h1 := enc_len ([dataQ x].length : Int)
  have h2 := enc_len (dataQ x).volume
  have h3 := enc_len (dataQ x).start
  have h4 := enc_len ((dataQ x).data.length : Int)
  have h5 := encSecs_len (dataQ x).data
  rw [encWrs, List.length_append, List.flatMap_cons, List.flatMap_nil, List.append_nil, encWr, List.length_append, List.length_append]
  omega
end Go.Proofs.YtbnkggbpocaaiaaGreatDoor
namespace Go.Proofs.YtbnkggbpocaaiaaGreatDoor
open Go.Proofs
def qs1 : List Sec := qD1.stable
theorem qD1_c : qD1.cache = [] := by kernel_rfl
theorem qD1_eq : qD1 = ⟨qs1, []⟩ := by
  have := qD1_c
  unfold qs1
  generalize qD1 = d at *
  obtain ⟨a, b⟩ := d
  dsimp only at this
  rw [this]
def qZ0 : List Sec × Sto × Img := (qs1, qS0, qI0)
end Go.Proofs.YtbnkggbpocaaiaaGreatDoor
namespace Go.Proofs.YtbnkggbpocaaiaaGreatDoor
open Go.Proofs
theorem secR_gn {sq : Nat} (hs : sq < 4294967296) (st : List UInt8) (i : Nat) : gn (secR sq st i) = sq := by
  have h : ∀ j, j < 4 → sb (secR sq st i) j = sq / 256 ^ j % 256 := fun j hj => by
    rw [sb, secR_val]
    rcases j with _ | _ | _ | _ | j
    · simp [le4]
    · simp [le4]
    · simp [le4]
    · simp [le4]
    · omega
  rw [gn_eq, h 3 (by omega), h 2 (by omega), h 1 (by omega), h 0 (by omega)]
  omega
theorem secsR_ln (sq : Nat) (st : List UInt8) : (secsR sq st).length = (st.length + 3) / 4 := by rw [secsR, List.length_map, List.length_range]
theorem secsR_gn {sq : Nat} (hs : sq < 4294967296) {st : List UInt8} {x : Sec} (hx : x ∈ secsR sq st) : gn x = sq := by
  obtain ⟨i, -, rfl⟩ := List.mem_map.1 hx; exact secR_gn hs _ _
theorem dataS_R (sq : Nat) (st : List UInt8) : ∀ k, k ≤ (st.length + 3) / 4 → dataS ((List.range k).map (secR sq st)) = st.take (4 * k) ++ List.replicate (4 * k - st.length) 0
  | 0, _ => by simp [dataS]
  | k + 1, h => by
    have ih := dataS_R sq st k (by omega)
    have e : dataS ((List.range (k + 1)).map (secR sq st)) = dataS ((List.range k).map (secR sq st)) ++ (secR sq st k).val.drop 4 := by
      rw [List.range_succ, List.map_append, dataS, List.flatMap_append]; simp [dataS]
    have hk : 4 * k < st.length := by omega
    rw [e, ih, secR_val, List.drop_append_of_le_length (by rw [le4_len]; exact Nat.le_refl _), List.drop_of_length_le (by rw [le4_len]; exact Nat.le_refl _), List.nil_append]
    rw [show 4 * k - st.length = 0 by omega, List.replicate_zero, List.append_nil, ← List.append_assoc]
    have e2 : st.take (4 * k) ++ pcOf st 4 k = st.take (4 * (k + 1)) := by rw [pcOf, Nat.mul_succ, List.take_add]
    rw [e2]
    congr 2
    rw [pcOf, List.length_take, List.length_drop]; omega
theorem leV_le4 {x : Nat} (h : x < 4294967296) : leV (le4 x) = x := by
  simp [leV, le4]; omega
theorem secsR_cons (sq : Nat) {st : List UInt8} (h : 1 ≤ st.length) : ∃ tl, secsR sq st = secR sq st 0 :: tl := by
  obtain ⟨m, hm⟩ : ∃ m, (st.length + 3) / 4 = m + 1 := ⟨(st.length + 3) / 4 - 1, by omega⟩
  exact ⟨_, by rw [secsR, hm, List.range_succ_eq_map, List.map_cons]⟩
theorem lenR_0 (sq : Nat) {k : Int} {p : List UInt8} (hp : p.length ≤ 4096) : lenR (secR sq (strmR k p) 0) = p.length := by
  rw [lenR, secR_val]
  simp [pcOf, strmR, bodyR, le4]
  omega
theorem dec_enc {k : Int} {sq : Nat} {p : List UInt8} (hk : 1 ≤ k) (hk2 : k ≤ 255) (hs : 1 ≤ sq) (hs2 : sq < 4294967296) (hp : p.length ≤ 4096) (rest : List Sec) :
    decX (secsR sq (strmR k p) ++ rest) = .ok (⟨k, sq, p⟩, (secsR sq (strmR k p)).length) := by
  have hl := secsR_ln sq (strmR k p)
  have hst := strm_len k p
  obtain ⟨tl, htl⟩ := secsR_cons sq (st := strmR k p) (by omega)
  have hd := dataS_R sq (strmR k p) _ (Nat.le_refl _)
  have hall : ∀ x ∈ secsR sq (strmR k p), gn x = sq := fun x hx => secsR_gn hs2 hx
  rw [show (List.range (((strmR k p).length + 3) / 4)).map (secR sq (strmR k p)) = secsR sq (strmR k p) from rfl, ← hl, List.take_of_length_le (by omega)] at hd
  have hlr := lenR_0 sq (k := k) hp
  have hg0 : gn (secR sq (strmR k p) 0) = sq := secR_gn hs2 _ _
  have hsz : szN (secR sq (strmR k p) 0) = (secsR sq (strmR k p)).length := by rw [szN, hlr]; omega
  have hb : begE (secR sq (strmR k p) 0 :: (tl ++ rest)) = .ok (secsR sq (strmR k p)).length := by
    rw [← hsz]
    refine begE_ok (by omega) (by omega) ?_ ?_
    · rw [hsz, htl]; simp
    · rw [hsz, ← List.cons_append, ← htl, List.take_left, List.all_eq_true]
      intro x hx; rw [hall x hx, hg0]; simp
  rw [decX, htl, List.cons_append, hb, ← htl]
  have htk : (secR sq (strmR k p) 0 :: (tl ++ rest)).take (secsR sq (strmR k p)).length = secsR sq (strmR k p) := by
    rw [← List.cons_append, ← htl, List.take_left]
  dsimp only
  rw [htk, hd, List.getD_cons_zero, hg0]
  generalize 4 * (secsR sq (strmR k p)).length - (strmR k p).length = z
  have hln : lnS (strmR k p ++ List.replicate z 0) = p.length := by
    rw [lnS]; simp [strmR, bodyR, leV]; omega
  have hcr := (crc (bodyR k p)).isLt
  have e1 : (strmR k p ++ List.replicate z 0).take (3 + p.length) = bodyR k p := by
    rw [strmR, List.append_assoc, List.take_append_of_le_length (by rw [body_len]; omega), List.take_of_length_le (by rw [body_len]; omega)]
  have e2 : ((strmR k p ++ List.replicate z 0).drop (3 + p.length)).take 4 = le4 (crc (bodyR k p)).toNat := by
    rw [strmR, List.append_assoc, List.drop_append_of_le_length (by rw [body_len]; omega), List.drop_of_length_le (by rw [body_len]; omega), List.nil_append, List.take_append_of_le_length (by rw [le4_len]; exact Nat.le_refl _), List.take_of_length_le (by rw [le4_len]; exact Nat.le_refl _)]
  have e3 : (strmR k p ++ List.replicate z 0).drop (7 + p.length) = List.replicate z 0 := by
    rw [List.drop_append_of_le_length (by omega), List.drop_of_length_le (by omega), List.nil_append]
  have e4 : leV ((strmR k p ++ List.replicate z 0).take 1) = (byt k).toNat := by
    simp [strmR, bodyR, leV]
  have hby := byt_toNat k
  rw [recE_ok]
  · rw [hln, e4]
    have ek : (((byt k).toNat : Nat) : Int) = k := by omega
    have ep : ((strmR k p ++ List.replicate z 0).drop 3).take p.length = p := by
      rw [strmR, bodyR]; simp
    rw [ek, ep]
  · rw [hln, e1, e2, leV_le4 hcr]; simp
  · rw [hln, e3, e4]
    rintro (h | h)
    · rw [List.any_eq_true] at h
      obtain ⟨x, hx, hx2⟩ := h
      rw [(List.mem_replicate.1 hx).2] at hx2
      exact absurd hx2 (by decide)
    · omega
def encL (r : Rcd) : List Sec := secsR r.sq.toNat (strmR r.kind r.pay)
structure RcOk (f : Int) (rs : List Rcd) : Prop where
  kd : ∀ r ∈ rs, 1 ≤ r.kind ∧ r.kind ≤ 255 ∧ r.pay.length ≤ 4096
  sq : ∀ (i : Nat) (h : i < rs.length), rs[i].sq = f + i
theorem RcOk.nil (f : Int) : RcOk f [] := ⟨fun r h => (by cases h), fun i h => absurd h (Nat.not_lt_zero _)⟩
theorem RcOk.tail {f : Int} {r : Rcd} {rs : List Rcd} (h : RcOk f (r :: rs)) : RcOk (f + 1) rs :=
  ⟨fun x hx => h.kd x (List.mem_cons_of_mem _ hx), fun i hi => by
    have := h.sq (i + 1) (by rw [List.length_cons]; omega)
    rw [List.getElem_cons_succ] at this
    rw [this]; omega⟩
theorem RcOk.head {f : Int} {r : Rcd} {rs : List Rcd} (h : RcOk f (r :: rs)) : r.sq = f := by
  have := h.sq 0 (by simp)
  simpa using this
theorem RcOk.drop {f : Int} {rs : List Rcd} (h : RcOk f rs) (n : Nat) : RcOk (f + n) (rs.drop n) :=
  ⟨fun x hx => h.kd x (List.mem_of_mem_drop hx), fun i hi => by
    rw [List.length_drop] at hi
    rw [List.getElem_drop, h.sq (n + i) (by omega)]; omega⟩
theorem RcOk.snoc {f : Int} {rs : List Rcd} (h : RcOk f rs) {r : Rcd} (h1 : 1 ≤ r.kind ∧ r.kind ≤ 255 ∧ r.pay.length ≤ 4096) (h2 : r.sq = f + rs.length) : RcOk f (rs ++ [r]) :=
  ⟨fun x hx => by
    rcases List.mem_append.1 hx with hx | hx
    · exact h.kd x hx
    · rw [List.mem_singleton] at hx; rw [hx]; exact h1, fun i hi => by
    rw [List.length_append, List.length_singleton] at hi
    by_cases e : i < rs.length
    · rw [List.getElem_append_left e]; exact h.sq i e
    · rw [List.getElem_append_right (by omega)]
      have : i = rs.length := by omega
      subst this
      simpa using h2⟩
theorem encL_len {r : Rcd} (h : r.pay.length ≤ 4096) : ((encL r).length : Int) = szR (r.pay.length : Int) := by
  rw [encL, secsR_ln, strm_len, szR, if_neg (by omega)]; omega
theorem flatR_len : ∀ rs : List Rcd, (∀ r ∈ rs, 1 ≤ r.kind ∧ r.kind ≤ 255 ∧ r.pay.length ≤ 4096) → ((rs.flatMap encL).length : Int) = sumI (szs rs)
  | [], _ => rfl
  | r :: rs, h => by
    have := flatR_len rs fun x hx => h x (List.mem_cons_of_mem _ hx)
    rw [List.flatMap_cons, List.length_append, show szs (r :: rs) = szR (r.pay.length : Int) :: szs rs from rfl, sumI_cons, ← this, ← encL_len (h r List.mem_cons_self).2.2]
    omega
theorem flatR_gn {f : Int} {rs : List Rcd} (h : RcOk f rs) (h1 : 1 ≤ f) (h2 : f + rs.length ≤ 4294967296) {x : Sec} (hx : x ∈ rs.flatMap encL) : (gn x : Int) < f + rs.length := by
  obtain ⟨r, hr, hx⟩ := List.mem_flatMap.1 hx
  obtain ⟨i, hi, rfl⟩ := List.getElem_of_mem hr
  have := h.sq i hi
  rw [secsR_gn (by omega) hx]
  omega
theorem scan_rs : ∀ (rs : List Rcd) (f : Int) (fu : Nat) (R : List Sec), RcOk f rs → 1 ≤ f → f + rs.length ≤ 4294967296 → rs.length ≤ fu → (∀ g, (scanX g R (f + rs.length)).1 = []) → (scanX fu (rs.flatMap encL ++ R) f).1 = rs
  | [], f, fu, R, _, _, _, _, hs => by
    have := hs fu
    simpa using this
  | r :: rs, f, 0, R, h, h1, h2, h3, hs => by rw [List.length_cons] at h3; omega
  | r :: rs, f, fu + 1, R, h, h1, h2, h3, hs => by
    rw [List.length_cons] at h2 h3 hs
    have hk := h.kd r List.mem_cons_self
    have hq := h.head
    have hd := dec_enc (k := r.kind) (sq := r.sq.toNat) (p := r.pay) hk.1 hk.2.1 (by omega) (by omega) hk.2.2 (rs.flatMap encL ++ R)
    rw [scanX, if_neg (by omega), List.flatMap_cons, List.append_assoc, show encL r = secsR r.sq.toNat (strmR r.kind r.pay) from rfl, hd]
    dsimp only
    rw [if_neg (by rw [hq]; omega), List.drop_left, scan_rs rs (f + 1) fu R h.tail (by omega) (by omega) (by omega) (fun g => by
      have := hs g
      rwa [show f + 1 + (rs.length : Int) = f + ((rs.length + 1 : Nat) : Int) by omega])]
    obtain ⟨k, q, p⟩ := r
    dsimp only at hq ⊢
    rw [Int.toNat_of_nonneg (by omega)]
def TC (nx : Int) (l R : List Sec) : Prop := (∀ (i : Nat) x, R[i]? = some x → (gn x : Int) < nx ∨ l[i]? = some x) ∧ (l = [] ∨ ∃ i, i < l.length ∧ R[i]? ≠ l[i]?)
def LkOk (nx : Int) (l : List Sec) : Prop := l = [] ∨ ∃ (k : Int) (p : List UInt8), p.length ≤ 4096 ∧ l = secsR nx.toNat (strmR k p)
theorem begE_all {s : Sec} {l : List Sec} {n : Nat} (h : begE (s :: l) = .ok n) : ∀ x ∈ (s :: l).take n, gn x = gn s := by
  obtain ⟨h1, h2, h3, h4⟩ := begE_spec h
  subst h1
  cases ha : ((s :: l).take (szN s)).all (fun x => gn x == gn s) with
  | false => rw [begE_torn h3 (by omega) (by omega) ha] at h; cases h
  | true =>
    rw [List.all_eq_true] at ha
    intro x hx
    simpa using ha x hx
theorem scan_tc {nx : Int} {l R : List Sec} (h : TC nx l R) (hl : LkOk nx l) (h1 : 1 ≤ nx) (h2 : nx < 4294967296) : ∀ g, (scanX g R nx).1 = []
  | 0 => rfl
  | g + 1 => by
    rw [scanX, if_neg (by omega)]
    cases hd : decX R with
    | error e => rfl
    | ok x =>
      obtain ⟨r, n⟩ := x
      dsimp only
      rw [if_pos]
      intro hr
      cases R with
      | nil => rw [decX, begE_0] at hd; cases hd
      | cons s R =>
        unfold decX at hd
        split at hd
        · cases hd
        · rename_i m hm
          split at hd
          · cases hd
          · rename_i r' hrec
            obtain ⟨rfl, rfl⟩ : r' = r ∧ m = n := by simpa using hd
            have hsq : r'.sq = (gn s : Int) := by
              rw [List.getD_cons_zero] at hrec
              unfold recE at hrec
              split at hrec
              · cases hrec
              · split at hrec
                · cases hrec
                · cases hrec; rfl
            obtain ⟨b1, b2, b3, b4⟩ := begE_spec hm
            have b5 := begE_all hm
            have hg : (gn s : Int) = nx := by rw [← hsq, hr]
            have h0 := (h.1 0 s rfl).resolve_left (by omega)
            rcases hl with rfl | ⟨k, p, hp, rfl⟩
            · cases h0
            obtain ⟨tl, htl⟩ := secsR_cons nx.toNat (st := strmR k p) (by rw [strm_len]; omega)
            have hs0 : s = secR nx.toNat (strmR k p) 0 := by
              rw [htl] at h0
              simpa using h0.symm
            have hlr := lenR_0 nx.toNat (k := k) hp
            have hn : m = (secsR nx.toNat (strmR k p)).length := by rw [b1, szN, hs0, hlr, secsR_ln, strm_len]
            rcases h.2 with h3 | ⟨i, hi, h3⟩
            · rw [htl] at h3; cases h3
            rw [← hn] at hi
            have hil : i < (s :: R).length := by omega
            have hx : (s :: R)[i]? = some (s :: R)[i] := List.getElem?_eq_getElem hil
            rcases h.1 i _ hx with h4 | h4
            · have := b5 (s :: R)[i] (List.mem_of_getElem? (i := i) (by rw [List.getElem?_take, if_pos hi, hx]))
              omega
            · exact h3 (hx.trans h4.symm)
end Go.Proofs.YtbnkggbpocaaiaaGreatDoor
namespace Go.Proofs.YtbnkggbpocaaiaaGreatDoor
open Go.Proofs
def posN (h n i : Nat) : Nat := if h + i < n then h + i else h + i - n
theorem posN_lt {h n i : Nat} (hh : h < n) (hi : i ≤ n) : posN h n i < n := by unfold posN; split <;> omega
theorem posN_inj {h n i k : Nat} (hh : h < n) (hi : i < n) (hk : k < n) (e : posN h n i = posN h n k) : i = k := by
  unfold posN at e; split at e <;> split at e <;> omega
theorem posN_mod {h n i : Nat} (hh : h < n) (hi : i ≤ n) : (h + i) % n = posN h n i := by
  unfold posN
  split
  · exact Nat.mod_eq_of_lt (by assumption)
  · rw [Nat.mod_eq_sub_mod (by omega), Nat.mod_eq_of_lt (by omega)]
theorem posN_modI {h n i : Nat} (hh : h < n) (hi : i ≤ n) : ((h : Int) + (i : Int)) % (n : Int) = ((posN h n i : Nat) : Int) := by
  rw [← posN_mod hh hi]; simp
def ringR (s : List Sec) (b h n : Nat) : List Sec := (List.range n).map fun i => s.getD (b + posN h n i) sec0
theorem ringR_len (s : List Sec) (b h n : Nat) : (ringR s b h n).length = n := by rw [ringR, List.length_map, List.length_range]
theorem ringR_get {s : List Sec} {b h n : Nat} (hl : b + n ≤ s.length) (hh : h < n) {i : Nat} (hi : i < n) : (ringR s b h n)[i]? = s[b + posN h n i]? := by
  have := posN_lt hh (Nat.le_of_lt hi)
  rw [ringR, List.getElem?_map, List.getElem?_range hi, Option.map_some, List.getD_eq_getElem?_getD, List.getElem?_eq_getElem (by omega), Option.getD_some]
theorem turn_ring {s : List Sec} {b h n : Nat} (hl : b + n ≤ s.length) (hh : h < n) : turnM (h : Int) n ((s.drop b).take n) n = ringR s b h n := by
  rw [turnM, ringR]
  refine List.map_congr_left fun k hk => ?_
  rw [List.mem_range] at hk
  have := posN_lt hh (Nat.le_of_lt hk)
  rw [posN_modI hh (Nat.le_of_lt hk), Int.toNat_natCast, List.getD_eq_getElem?_getD, List.getD_eq_getElem?_getD, List.getElem?_take, if_pos this, List.getElem?_drop]
def ringJ (s : List Sec) (j : Jrn) : List Sec := ringR s (j.start.toNat + 16) j.head.toNat (j.count - 16).toNat
structure RJ (s : List Sec) (j : Jrn) (rs : List Rcd) (l : List Sec) (T : Nat) : Prop where
  jd : JD s j T
  sz : j.sizes = szs rs
  rc : RcOk j.first rs
  lk : LkOk (nextJ j) l
  ring : ∃ R, ringJ s j = rs.flatMap encL ++ R ∧ TC (nextJ j) l R
structure RV (s : List Sec) (j : Jrn) (rs : List Rcd) (st n hd u : Nat) : Prop where
  est : j.start = st
  ect : j.count = (n : Int) + 16
  ehd : j.head = hd
  esu : sumI j.sizes = u
  efl : (rs.flatMap encL).length = u
  eun : u ≤ n
  ehn : hd < n
  etl : j.tail = posN hd n u
  en4 : 4 ≤ n
  en5 : n ≤ 4096
  els : st + 16 + n ≤ s.length
  el4 : s.length ≤ 4096
  ef1 : 1 ≤ j.first
  enx : nextJ j ≤ 1073741824
  enl : nextJ j = j.first + rs.length
  erg : ringJ s j = ringR s (st + 16) hd n
theorem RJ.val {s : List Sec} {j : Jrn} {rs : List Rcd} {l : List Sec} {T : Nat} (h : RJ s j rs l T) : ∃ st n hd u, RV s j rs st n hd u := by
  obtain ⟨st, n, e1, e2, h4, h5, h6, h7, h8⟩ := h.jd.val
  have hf := flatR_len rs h.rc.kd
  have hc := (chkJ_iff j).1 h.jd.chk
  have hp := (preJ_iff j).1 hc.2.1
  rw [← h.sz] at hf
  have hl : j.sizes.length = rs.length := by rw [h.sz, szs, List.length_map]
  obtain ⟨hd, hhd⟩ : ∃ hd : Nat, j.head = hd := ⟨j.head.toNat, by omega⟩
  refine ⟨st, n, hd, (rs.flatMap encL).length, e1, e2, hhd, hf.symm, rfl, by omega, by omega, ?_, h4, h5, h7, h8, hp.2.2.1, ?_, ?_, ?_⟩
  · rw [hc.2.2.2.2, ← hf, show j.count - 16 = (n : Int) by omega, hhd, posN_modI (by omega) (by omega)]
  · unfold nextJ; omega
  · unfold nextJ; omega
  · rw [ringJ, e1, hhd, show (j.count - 16).toNat = n by omega]; rfl
theorem norm_nat {n : Int} (h0 : 0 ≤ n) (h1 : n ≤ 9007199254740991) : ((norm n : Nat) : Int) = n := by
  unfold norm; split <;> omega
theorem headP_super {c h f : Int} (h0 : 0 ≤ h) (h1 : h < c - 16) (h2 : c ≤ 4096) (f0 : 1 ≤ f) (f1 : f ≤ 1073741824) : headP c (superJ h f) = (h, f, 0) := by
  have e2 : number (enc f) = .ok (norm f, []) := by have := number_enc f []; rwa [List.append_nil] at this
  have n1 := norm_nat h0 (by omega : h ≤ 9007199254740991)
  have n2 := norm_nat (by omega : 0 ≤ f) (by omega : f ≤ 9007199254740991)
  rw [headP, superJ, number_enc]
  dsimp only
  rw [e2]
  dsimp only
  rw [if_neg (by rw [n1, n2]; simp; omega), n1, n2]
theorem RJ.open {s : List Sec} {j : Jrn} {rs : List Rcd} {l : List Sec} {T : Nat} (h : RJ s j rs l T) :
    openJ j.start j.count ⟨s, []⟩ = (j, rs, remX j ((s.drop (j.start.toNat + 16)).take (j.count - 16).toNat), 0) := by
  obtain ⟨st, n, hd, u, v⟩ := h.val
  have hJ := h.jd.chk
  have hc := (chkJ_iff j).1 hJ
  have hp := (preJ_iff j).1 hc.2.1
  obtain ⟨g, hg⟩ := h.jd.gd
  obtain ⟨v1, v2, v3, v4, v5, v6, v7, v8, v9, v10, v11, v12, v13, v14, v15, v16⟩ := v
  have hk : checkD ⟨s, []⟩ = 0 := chk_nil v12
  have hload : loadS ⟨s, []⟩ j.start = (superJ j.head j.first, g, 0) := by
    have := hg.load
    rwa [show ((j.start.toNat : Nat) : Int) = j.start by omega] at this
  have hhead : headJ j.start j.count ⟨s, []⟩ = (j.head, j.first, 0) := by
    rw [headJ, hload, if_neg (by simp)]
    exact headP_super hp.1 hp.2.1 (by omega) hp.2.2.1 hp.2.2.2.1
  have hrd : readD ⟨s, []⟩ (j.start + 16) (j.count - 16) = ((s.drop (st + 16)).take n, 0) := by
    rw [readD, if_neg (by simp [hk]), if_neg (by simp [insideB]; omega), show (j.start + 16).toNat = st + 16 by omega, show (j.count - 16).toNat = n by omega]; rfl
  have hst : j.start.toNat = st := by omega
  have hcn : (j.count - 16).toNat = n := by omega
  obtain ⟨R, hR, hT⟩ := h.ring
  have hturn : turnM j.head n ((s.drop (st + 16)).take n) n = rs.flatMap encL ++ R := by
    rw [v3, turn_ring (by omega) v7, ← v16, hR]
  have hrl : (rs.flatMap encL ++ R).length = n := by rw [← hR, v16, ringR_len]
  have hrr := flatR_len rs h.rc.kd
  have hge := sumI_ge j.sizes hc.2.2.1
  rw [← h.sz] at hrr
  have hszl : j.sizes.length = rs.length := by rw [h.sz, szs, List.length_map]
  have hsc : (scanA (rs.flatMap encL ++ R) j.first).1 = rs := by
    refine scan_rs rs j.first _ R h.rc v13 (by omega) (by rw [hrl]; omega) fun g => ?_
    rw [← v15]
    exact scan_tc hT h.lk (by omega) (by omega) g
  have hrec : recsO j.first (turnM j.head n ((s.drop (st + 16)).take n) n) = rs := by
    rw [hturn, recsO, hsc]
    refine List.take_of_length_le ?_
    have := hp.2.2.2.2
    omega
  have hjo : jO j.start j.count j.head j.first rs = j := by
    rw [jO, ← h.sz, tailX_sum (by omega) hp.1 hp.2.1, ← hc.2.2.2.2]
  have hfin : openJ j.start j.count ⟨s, []⟩ = (jO j.start j.count j.head j.first rs, rs, remX (jO j.start j.count j.head j.first rs) ((s.drop (st + 16)).take n), 0) := by
    unfold openJ
    rw [hhead, hrd]
    dsimp only
    rw [hcn, hrec, hjo, if_neg (by simp [hk]), if_neg (by simp only [hc.1]; simp; omega), if_neg (by simp), if_neg (by simp), hJ, if_neg (by simp)]
  rw [hfin, hjo, hst, hcn]
def MixW (s : List Sec) (P : Nat → Sec → Prop) (s' : List Sec) : Prop := s'.length = s.length ∧ ∀ q, s'[q]? = s[q]? ∨ ∃ x, P q x ∧ s'[q]? = some x
def InW (ws : List Opn) (q : Nat) (x : Sec) : Prop := ∃ (a : Nat) (l : List Sec) (i : Nat), opW a l ∈ ws ∧ l[i]? = some x ∧ q = a + i
theorem MixW.refl (s : List Sec) (P : Nat → Sec → Prop) : MixW s P s := ⟨rfl, fun _ => .inl rfl⟩
theorem MixW.mono {s s' : List Sec} {P Q : Nat → Sec → Prop} (h : MixW s P s') (hP : ∀ q x, P q x → Q q x) : MixW s Q s' := ⟨h.1, fun q => (h.2 q).imp id fun ⟨x, a, b⟩ => ⟨x, hP q x a, b⟩⟩
def WsOk (n : Nat) (ws : List Opn) : Prop := ∀ o ∈ ws, ∃ (a : Nat) (l : List Sec), o = opW a l ∧ a + l.length ≤ n
theorem WsOk.ok {n : Nat} {ws : List Opn} (h : WsOk n ws) : ∀ o ∈ ws, OpOk n o := fun o ho => .inr (h o ho)
theorem exec_mix : ∀ (ws : List Opn) (s : List Sec), WsOk s.length ws → MixW s (InW ws) (execS s ws)
  | [], s, _ => .refl _ _
  | o :: ws, s, h => by
    obtain ⟨a, l, rfl, hl⟩ := h o (by simp)
    have ih := exec_mix ws (patS s a l) (fun x hx => by rw [patS_len]; exact h x (by simp [hx]))
    rw [execS_w]
    refine ⟨by rw [ih.1, patS_len], fun q => ?_⟩
    rcases ih.2 q with e | ⟨x, ⟨a', l', i, m1, m2, m3⟩, e⟩
    · rw [e, patS_get hl]
      by_cases c : a ≤ q ∧ q < a + l.length
      · rw [if_pos c]
        right
        exact ⟨l[q - a], ⟨a, l, q - a, by simp, List.getElem?_eq_getElem (by omega), by omega⟩, List.getElem?_eq_getElem (by omega)⟩
      · rw [if_neg c]; exact .inl rfl
    · exact .inr ⟨x, ⟨a', l', i, by simp [m1], m2, m3⟩, e⟩
theorem exec_all : ∀ (ws : List Opn) (s : List Sec), WsOk s.length ws → ∀ (q : Nat) (x : Sec), (∀ y, InW ws q y → y = x) → (InW ws q x ∨ s[q]? = some x) → (execS s ws)[q]? = some x
  | [], s, _, q, x, _, h => by
    rcases h with ⟨a, l, i, m, _⟩ | h
    · cases m
    · exact h
  | o :: ws, s, h, q, x, hu, hx => by
    obtain ⟨a, l, rfl, hl⟩ := h o (by simp)
    rw [execS_w]
    refine exec_all ws (patS s a l) (fun y hy => by rw [patS_len]; exact h y (by simp [hy])) q x (fun y ⟨a', l', i, m1, m2, m3⟩ => hu y ⟨a', l', i, by simp [m1], m2, m3⟩) ?_
    have key : a ≤ q ∧ q < a + l.length → (patS s a l)[q]? = some x := fun c => by
      rw [patS_get hl, if_pos c, List.getElem?_eq_getElem (by omega)]
      congr 1
      exact hu _ ⟨a, l, q - a, by simp, List.getElem?_eq_getElem (by omega), by omega⟩
    by_cases c : a ≤ q ∧ q < a + l.length
    · exact .inr (key c)
    · rcases hx with ⟨a', l', i, m1, m2, m3⟩ | hx
      · rcases List.mem_cons.1 m1 with e | m1
        · simp only [opW, Opn.mk.injEq] at e
          obtain ⟨-, e1, rfl⟩ := e
          have : i < l'.length := (List.getElem?_eq_some_iff.1 m2).1
          exact absurd ⟨by omega, by omega⟩ c
        · exact .inl ⟨a', l', i, m1, m2, m3⟩
      · right; rw [patS_get hl, if_neg c, hx]
end Go.Proofs.YtbnkggbpocaaiaaGreatDoor
namespace Go.Proofs.YtbnkggbpocaaiaaGreatDoor
open Go.Proofs
theorem opW_inj {a b : Nat} {l m : List Sec} (h : opW a l = opW b m) : a = b ∧ l = m := by
  simp only [opW, Opn.mk.injEq] at h
  exact ⟨by omega, h.2.2⟩
theorem opW_val (a : Nat) (l : List Sec) {x : Int} (h : x = (a : Int)) : opW x l = opW a l := by rw [h]
theorem wrap_in {s : List Sec} {j : Jrn} {rs : List Rcd} {st n hd u : Nat} (v : RV s j rs st n hd u) {l : List Sec} (hl : u + l.length ≤ n) (h1 : 1 ≤ l.length) :
    WsOk s.length (wrapW j.start j.count j.tail l) ∧ (∀ q x, InW (wrapW j.start j.count j.tail l) q x ↔ ∃ i, i < l.length ∧ l[i]? = some x ∧ q = st + 16 + posN hd n (u + i)) := by
  obtain ⟨v1, v2, v3, v4, v5, v6, v7, v8, v9, v10, v11, v12, v13, v14, v15, v16⟩ := v
  have hk : kW j.count j.tail l = min l.length (n - posN hd n u) := by
    have := posN_lt v7 v6
    rw [kW, v2, v8]; omega
  have ht := posN_lt v7 v6
  have hpos : ∀ i, i < l.length → posN hd n (u + i) = if i < n - posN hd n u then posN hd n u + i else posN hd n u + i - n := fun i hi => by
    unfold posN at ht ⊢
    split <;> split <;> split <;> omega
  generalize posN hd n u = t at *
  have e1 : opW (j.start + 16 + j.tail) (l.take (kW j.count j.tail l)) = opW ((st + 16 + t : Nat) : Int) (l.take (kW j.count j.tail l)) := opW_val _ _ (by omega)
  have e2 : opW (j.start + 16) (l.drop (kW j.count j.tail l)) = opW ((st + 16 : Nat) : Int) (l.drop (kW j.count j.tail l)) := opW_val _ _ (by omega)
  by_cases hlt : kW j.count j.tail l < l.length
  · rw [wrapW_1 hlt, e1, e2]
    generalize kW j.count j.tail l = k at *
    have hkk : k = n - t := by omega
    refine ⟨fun o ho => ?_, fun q x => ⟨?_, ?_⟩⟩
    · simp only [List.mem_cons, List.not_mem_nil, or_false] at ho
      rcases ho with rfl | rfl
      · exact ⟨_, _, rfl, by rw [List.length_take]; omega⟩
      · exact ⟨_, _, rfl, by rw [List.length_drop]; omega⟩
    · rintro ⟨a, m, i, m1, m2, rfl⟩
      simp only [List.mem_cons, List.not_mem_nil, or_false] at m1
      rcases m1 with m1 | m1
      · obtain ⟨rfl, rfl⟩ := opW_inj m1
        rw [List.getElem?_take] at m2
        split at m2
        · have := (List.getElem?_eq_some_iff.1 m2).1
          refine ⟨i, this, m2, ?_⟩
          rw [hpos i this, if_pos (by omega)]; omega
        · cases m2
      · obtain ⟨rfl, rfl⟩ := opW_inj m1
        rw [List.getElem?_drop] at m2
        have := (List.getElem?_eq_some_iff.1 m2).1
        refine ⟨k + i, this, m2, ?_⟩
        rw [hpos (k + i) this, if_neg (by omega)]; omega
    · rintro ⟨i, hi, m2, rfl⟩
      rw [hpos i hi]
      by_cases c : i < n - t
      · rw [if_pos c]
        exact ⟨_, _, i, List.mem_cons_self, by rw [List.getElem?_take, if_pos (by omega), m2], by omega⟩
      · rw [if_neg c]
        exact ⟨_, _, i - k, List.mem_cons_of_mem _ List.mem_cons_self, by rw [List.getElem?_drop, show k + (i - k) = i by omega, m2], by omega⟩
  · rw [wrapW_0 hlt, e1]
    generalize kW j.count j.tail l = k at *
    have hkk : k = l.length := by omega
    subst hkk
    rw [List.take_length]
    refine ⟨fun o ho => ?_, fun q x => ⟨?_, ?_⟩⟩
    · rw [List.mem_singleton] at ho; subst ho
      exact ⟨_, _, rfl, by omega⟩
    · rintro ⟨a, m, i, m1, m2, rfl⟩
      rw [List.mem_singleton] at m1
      obtain ⟨rfl, rfl⟩ := opW_inj m1
      have := (List.getElem?_eq_some_iff.1 m2).1
      refine ⟨i, this, m2, ?_⟩
      rw [hpos i this, if_pos (by omega)]; omega
    · rintro ⟨i, hi, m2, rfl⟩
      rw [hpos i hi, if_pos (by omega)]
      exact ⟨_, _, i, List.mem_singleton.2 rfl, m2, by omega⟩
theorem ring_split {a b R : List Sec} {r : List Sec} (h : r = a ++ R) (r' : List Sec) (hl : r'.length = r.length) (hk : ∀ i, i < a.length → r'[i]? = r[i]?) : r' = a ++ r'.drop a.length := by
  refine List.ext_getElem? fun i => ?_
  by_cases c : i < a.length
  · rw [hk i c, h, List.getElem?_append_left c, List.getElem?_append_left c]
  · rw [List.getElem?_append_right (by omega), List.getElem?_drop]; congr 1; omega
theorem sb_keep {s s' : List Sec} {j : Jrn} {T : Nat} {P : Nat → Sec → Prop} (h : JD s j T) (hm : MixW s P s') (hP : ∀ q x, P q x → j.start.toNat + 16 ≤ q) (j' : Jrn) (hc : chkJ j' = true) (e1 : j'.start = j.start) (e2 : j'.count = j.count) (e3 : j'.head = j.head) (e4 : j'.first = j.first) : JD s' j' T := by
  obtain ⟨g, hg⟩ := h.gd
  refine ⟨hc, by rw [e1, e2, hm.1]; exact h.len, g, ?_⟩
  rw [e1, e3, e4]
  refine hg.keep hm.1 fun q q1 q2 => ?_
  rcases hm.2 q with e | ⟨x, hx, -⟩
  · exact e
  · have := hP q x hx; omega
theorem sb_keep' {s s' : List Sec} {j : Jrn} {T : Nat} (h : JD s j T) (hl : s'.length = s.length) (hk : ∀ q, j.start.toNat ≤ q → q < j.start.toNat + 16 → s'[q]? = s[q]?) : JD s' j T := by
  obtain ⟨g, hg⟩ := h.gd
  exact ⟨h.chk, by rw [hl]; exact h.len, g, hg.keep hl hk⟩
theorem RJ.app {s : List Sec} {j : Jrn} {rs : List Rcd} {T : Nat} (h : RJ s j rs [] T) {k : Int} {p : List UInt8} {l : List Sec} (he : encR ⟨k, nextJ j, p⟩ = .ok l) (h1 : ¬ 1073741824 ≤ nextJ j) (h2 : ¬ freeJ j < l.length) :
    WsOk s.length (wrapW j.start j.count j.tail l) ∧ (∀ q x, InW (wrapW j.start j.count j.tail l) q x → j.start.toNat + 16 ≤ q ∧ q < j.start.toNat + j.count.toNat) ∧
    (∀ s', MixW s (InW (wrapW j.start j.count j.tail l)) s' →
      RJ s' j rs l T ∨ RJ s' ⟨j.start, j.count, j.head, (j.tail + l.length) % (j.count - 16), j.first, j.sizes ++ [(l.length : Int)]⟩ (rs ++ [⟨k, nextJ j, p⟩]) [] T) ∧
    RJ (execS s (wrapW j.start j.count j.tail l)) ⟨j.start, j.count, j.head, (j.tail + l.length) % (j.count - 16), j.first, j.sizes ++ [(l.length : Int)]⟩ (rs ++ [⟨k, nextJ j, p⟩]) [] T := by
  obtain ⟨st, n, hd, u, v⟩ := h.val
  have hbad : ¬ (k < 1 ∨ 255 < k ∨ nextJ j < 1 ∨ 4294967295 < nextJ j) := fun c => by rw [enc_bad (r := ⟨k, nextJ j, p⟩) c] at he; cases he
  have hlong : ¬ 4096 < p.length := fun c => by rw [enc_long (r := ⟨k, nextJ j, p⟩) hbad c] at he; cases he
  have hel : l = secsR (nextJ j).toNat (strmR k p) := by rw [enc_ok (r := ⟨k, nextJ j, p⟩) hbad hlong] at he; cases he; rfl
  have hz := enc_sz he
  have hz2 := (okSz_iff _).1 hz
  have hlen : l.length = (p.length + 10) / 4 := by rw [hel, secsR_ln, strm_len]
  have hfree : u + l.length ≤ n := by rw [freeJ, v.esu, v.ect] at h2; omega
  obtain ⟨w1, w2⟩ := wrap_in v hfree (by omega)
  have hge := sumI_ge j.sizes ((chkJ_iff j).1 h.jd.chk).2.2.1
  have vv := v
  obtain ⟨v1, v2, v3, v4, v5, v6, v7, v8, v9, v10, v11, v12, v13, v14, v15, v16⟩ := v
  have hP : ∀ q x, InW (wrapW j.start j.count j.tail l) q x → j.start.toNat + 16 ≤ q ∧ q < j.start.toNat + j.count.toNat := fun q x hq => by
    obtain ⟨i, hi, -, rfl⟩ := (w2 q x).1 hq
    have := posN_lt (h := hd) (n := n) (i := u + i) v7 (by omega)
    omega
  have hnx : 1 ≤ nextJ j := by omega
  have hlg : ∀ x ∈ l, (gn x : Int) = nextJ j := fun x hx => by
    rw [hel] at hx
    rw [secsR_gn (by omega) hx]; omega
  obtain ⟨R, hR, hT⟩ := h.ring
  rw [v16] at hR
  have hRl : (rs.flatMap encL ++ R).length = n := by rw [← hR, ringR_len]
  rw [List.length_append, v5] at hRl
  have hRg : ∀ (i : Nat) x, R[i]? = some x → (gn x : Int) < nextJ j := fun i x hx => (hT.1 i x hx).resolve_right (by simp)
  have key : ∀ s', MixW s (InW (wrapW j.start j.count j.tail l)) s' → ∃ R', ringR s' (st + 16) hd n = rs.flatMap encL ++ R' ∧ R'.length = n - u ∧ ∀ (i : Nat) x, R'[i]? = some x → (gn x : Int) < nextJ j ∨ l[i]? = some x := fun s' hm => by
    have hg : ∀ i, i < n → (ringR s' (st + 16) hd n)[i]? = (ringR s (st + 16) hd n)[i]? ∨ ∃ x, u ≤ i ∧ l[i - u]? = some x ∧ (ringR s' (st + 16) hd n)[i]? = some x := fun i hi => by
      rw [ringR_get (by rw [hm.1]; omega) v7 hi, ringR_get (by omega) v7 hi]
      rcases hm.2 (st + 16 + posN hd n i) with e | ⟨x, hx, e⟩
      · exact .inl e
      · obtain ⟨k', hk', k2, k3⟩ := (w2 _ x).1 hx
        have := posN_inj v7 hi (by omega : u + k' < n) (by omega)
        exact .inr ⟨x, by omega, by rw [show i - u = k' by omega]; exact k2, e⟩
    have hsp := ring_split (b := []) hR (ringR s' (st + 16) hd n) (by rw [ringR_len, ringR_len]) (fun i hi => by
      rcases hg i (by omega) with e | ⟨x, e, -⟩
      · exact e
      · omega)
    rw [v5] at hsp
    refine ⟨_, hsp, by rw [List.length_drop, ringR_len], fun i x hx => ?_⟩
    rw [List.getElem?_drop] at hx
    have hil : u + i < n := by have := (List.getElem?_eq_some_iff.1 hx).1; rwa [ringR_len] at this
    rcases hg (u + i) hil with e | ⟨y, e1, e2, e3⟩
    · left
      rw [hx, hR, List.getElem?_append_right (by omega), show u + i - (rs.flatMap encL).length = i by omega] at e
      exact hRg i x e.symm
    · right
      rw [show u + i - u = i by omega] at e2
      rw [hx] at e3
      rw [e2, ← e3]
  have hj' : ∀ s', MixW s (InW (wrapW j.start j.count j.tail l)) s' → (∀ R', ringR s' (st + 16) hd n = rs.flatMap encL ++ R' → ∀ i, i < l.length → R'[i]? = l[i]?) → RJ s' ⟨j.start, j.count, j.head, (j.tail + l.length) % (j.count - 16), j.first, j.sizes ++ [(l.length : Int)]⟩ (rs ++ [⟨k, nextJ j, p⟩]) [] T := fun s' hm hf => by
    obtain ⟨R', k1, k2, k3⟩ := key s' hm
    have hnx' : nextJ ⟨j.start, j.count, j.head, (j.tail + l.length) % (j.count - 16), j.first, j.sizes ++ [(l.length : Int)]⟩ = nextJ j + 1 := by
      unfold nextJ; simp; omega
    refine ⟨sb_keep h.jd hm (fun q x hq => (hP q x hq).1) _ (chkJ_app h.jd.chk h1 h2 hz) rfl rfl rfl rfl, ?_, h.rc.snoc ⟨by show 1 ≤ k; omega, by show k ≤ 255; omega, by show p.length ≤ 4096; omega⟩ v15, .inl rfl, R'.drop l.length, ?_, fun i x hx => .inl ?_, .inl rfl⟩
    · show j.sizes ++ [(l.length : Int)] = szs (rs ++ [⟨k, nextJ j, p⟩])
      have : szR (p.length : Int) = (l.length : Int) := by rw [szR, if_neg (by omega), hlen]; omega
      rw [h.sz, szs, szs, List.map_append, List.map_cons, List.map_nil]
      show _ = _ ++ [szR (p.length : Int)]
      rw [this]
    · show ringJ s' _ = _
      rw [ringJ]
      show ringR s' (j.start.toNat + 16) j.head.toNat (j.count - 16).toNat = _
      rw [show j.start.toNat + 16 = st + 16 by omega, show j.head.toNat = hd by omega, show (j.count - 16).toNat = n by omega, k1, List.flatMap_append, List.flatMap_cons, List.flatMap_nil, List.append_nil, List.append_assoc]
      congr 1
      have e : encL ⟨k, nextJ j, p⟩ = l := hel.symm
      rw [e]
      refine (List.take_append_drop l.length R').symm.trans ?_
      congr 1
      refine List.ext_getElem? fun i => ?_
      rw [List.getElem?_take]
      by_cases c : i < l.length
      · rw [if_pos c, hf R' k1 i c]
      · rw [if_neg c, List.getElem?_eq_none (by omega)]
    · rw [hnx']
      rw [List.getElem?_drop] at hx
      rcases k3 _ x hx with e | e
      · omega
      · have := hlg x (List.mem_of_getElem? e); omega
  refine ⟨w1, hP, fun s' hm => ?_, ?_⟩
  · obtain ⟨R', k1, k2, k3⟩ := key s' hm
    by_cases hf : ∀ i, i < l.length → R'[i]? = l[i]?
    · right
      refine hj' s' hm fun R2 e i hi => ?_
      have : R2 = R' := List.append_cancel_left (e.symm.trans k1)
      rw [this, hf i hi]
    · left
      obtain ⟨i, hi⟩ := Classical.not_forall.1 hf
      obtain ⟨hi1, hi2⟩ := Classical.not_imp.1 hi
      refine ⟨sb_keep h.jd hm (fun q x hq => (hP q x hq).1) _ h.jd.chk rfl rfl rfl rfl, h.sz, h.rc, .inr ⟨k, p, by omega, hel⟩, R', ?_, k3, .inr ⟨i, hi1, hi2⟩⟩
      rw [ringJ, show j.start.toNat + 16 = st + 16 by omega, show j.head.toNat = hd by omega, show (j.count - 16).toNat = n by omega, k1]
  · have hm := exec_mix _ s w1
    refine hj' _ hm fun R' e i hi => ?_
    have h3 : (ringR (execS s (wrapW j.start j.count j.tail l)) (st + 16) hd n)[u + i]? = some l[i] := by
      rw [ringR_get (by rw [hm.1]; omega) v7 (by omega)]
      refine exec_all _ s w1 _ _ (fun y hy => ?_) (.inl ((w2 _ _).2 ⟨i, hi, List.getElem?_eq_getElem hi, rfl⟩))
      obtain ⟨i', k1, k2, k3⟩ := (w2 _ y).1 hy
      have := posN_inj v7 (by omega : u + i < n) (by omega : u + i' < n) (by omega)
      obtain rfl : i = i' := by omega
      rw [List.getElem?_eq_getElem hi] at k2
      exact (Option.some.inj k2).symm
    rw [e, List.getElem?_append_right (by omega), show u + i - (rs.flatMap encL).length = i by omega] at h3
    rw [h3, List.getElem?_eq_getElem hi]
end Go.Proofs.YtbnkggbpocaaiaaGreatDoor
namespace Go.Proofs.YtbnkggbpocaaiaaGreatDoor
open Go.Proofs
theorem ring_turn {s : List Sec} {b hd n w : Nat} (hl : b + n ≤ s.length) (hh : hd < n) (hw : w ≤ n) : ringR s b (posN hd n w) n = (ringR s b hd n).drop w ++ (ringR s b hd n).take w := by
  have hp := posN_lt hh hw
  refine List.ext_getElem? fun i => ?_
  by_cases hi : i < n
  · rw [ringR_get hl hp hi]
    by_cases c : i < n - w
    · rw [List.getElem?_append_left (by rw [List.length_drop, ringR_len]; exact c), List.getElem?_drop, ringR_get hl hh (by omega)]
      congr 2
      unfold posN; split <;> split <;> split <;> omega
    · rw [List.getElem?_append_right (by rw [List.length_drop, ringR_len]; omega), List.length_drop, ringR_len, List.getElem?_take, if_pos (by omega), ringR_get hl hh (by omega)]
      congr 2
      unfold posN; split <;> split <;> split <;> omega
  · rw [List.getElem?_eq_none (by rw [ringR_len]; omega), List.getElem?_eq_none (by rw [List.length_append, List.length_drop, List.length_take, ringR_len]; omega)]
theorem mix_mx {s s' : List Sec} {a : Nat} {l : List Sec} (h : MixW s (InW [opW a l]) s') : Mx s s' a l :=
  ⟨h.1, fun q => by
    rcases h.2 q with e | ⟨x, ⟨a', l', i, m1, m2, rfl⟩, e⟩
    · exact .inl e
    · rw [List.mem_singleton] at m1
      obtain ⟨rfl, rfl⟩ := opW_inj m1
      have := (List.getElem?_eq_some_iff.1 m2).1
      exact .inr ⟨by omega, by omega, by rw [e, Nat.add_sub_cancel_left, m2]⟩⟩
def dropJ (j : Jrn) (n : Nat) : Jrn := ⟨j.start, j.count, (j.head + sumI (j.sizes.take n)) % (j.count - 16), j.tail, j.first + n, j.sizes.drop n⟩
theorem szs_take (rs : List Rcd) (n : Nat) : szs (rs.take n) = (szs rs).take n := by rw [szs, szs, List.map_take]
theorem szs_drop (rs : List Rcd) (n : Nat) : szs (rs.drop n) = (szs rs).drop n := by rw [szs, szs, List.map_drop]
theorem ring_keep {s s' : List Sec} {b hd n : Nat} (hl : b + n ≤ s.length) (hh : hd < n) (hs : s'.length = s.length) (h : ∀ q, b ≤ q → q < b + n → s'[q]? = s[q]?) : ringR s' b hd n = ringR s b hd n := by
  refine List.ext_getElem? fun i => ?_
  by_cases hi : i < n
  · have := posN_lt hh (Nat.le_of_lt hi)
    rw [ringR_get (by omega) hh hi, ringR_get hl hh hi, h _ (by omega) (by omega)]
  · rw [List.getElem?_eq_none (by rw [ringR_len]; omega), List.getElem?_eq_none (by rw [ringR_len]; omega)]
theorem RJ.rel {s : List Sec} {j : Jrn} {rs : List Rcd} {T : Nat} (h : RJ s j rs [] T) (hT : T < 4294967295) {n : Nat} (hn : n ≤ rs.length) (h0 : n ≠ 0) :
    ∃ ws, relJ ⟨s, []⟩ j (j.first - 1 + n) = (dropJ j n, ws ++ [opS], 0) ∧ ws.length = 1 ∧ WsOk s.length ws ∧ (∀ q x, InW ws q x → j.start.toNat ≤ q ∧ q < j.start.toNat + 16) ∧
      (∀ s', MixW s (InW ws) s' → RJ s' j rs [] (T + 1) ∨ RJ s' (dropJ j n) (rs.drop n) [] (T + 1)) ∧ RJ (execS s ws) (dropJ j n) (rs.drop n) [] (T + 1) := by
  obtain ⟨st, m, hd, u, v⟩ := h.val
  have hszl : j.sizes.length = rs.length := by rw [h.sz, szs, List.length_map]
  obtain ⟨g, hg⟩ := h.jd.gd
  have hk := chk_nil hg.l2
  have hnx : nextJ j = j.first + j.sizes.length := rfl
  obtain ⟨v1, v2, v3, v4, v5, v6, v7, v8, v9, v10, v11, v12, v13, v14, v15, v16⟩ := v
  have hr : relJ ⟨s, []⟩ j (j.first - 1 + n) =
      if (storeS ⟨s, []⟩ j.start (superJ ((j.head + sumI (j.sizes.take n)) % (j.count - 16)) (j.first + n))).2 ≠ 0 then (zjr, [], (storeS ⟨s, []⟩ j.start (superJ ((j.head + sumI (j.sizes.take n)) % (j.count - 16)) (j.first + n))).2)
      else (⟨j.start, j.count, (j.head + sumI (j.sizes.take n)) % (j.count - 16), j.tail, j.first + n, j.sizes.drop n⟩, (storeS ⟨s, []⟩ j.start (superJ ((j.head + sumI (j.sizes.take n)) % (j.count - 16)) (j.first + n))).1, 0) := by
    rw [relJ, if_neg (by simp [hk]), if_neg (by simp [h.jd.chk]), if_neg (by omega), if_neg (by omega)]
    have : (j.first - 1 + n + 1 - j.first).toNat = n := by omega
    rw [this, show j.first - 1 + (n : Int) + 1 = j.first + n by omega]
  have hp := super_len ((j.head + sumI (j.sizes.take n)) % (j.count - 16)) (j.first + n)
  have hst0 : j.start.toNat = st := by omega
  rw [hst0] at hg
  have hstore := hg.store hp hT
  rw [v1, hstore, if_neg (by simp)] at hr
  obtain ⟨R, hR, hTC⟩ := h.ring
  rw [v16] at hR
  have hw : (((rs.take n).flatMap encL).length : Int) = sumI (j.sizes.take n) := by
    rw [flatR_len _ (fun r hr => h.rc.kd r (List.mem_of_mem_take hr)), szs_take, ← h.sz]
  have hfl : rs.flatMap encL = (rs.take n).flatMap encL ++ (rs.drop n).flatMap encL := by
    rw [← List.flatMap_append, List.take_append_drop]
  have hwu : ((rs.take n).flatMap encL).length ≤ u := by rw [← v5, hfl, List.length_append]; omega
  have hwn : ((rs.take n).flatMap encL).length ≤ m := by omega
  generalize hwd : ((rs.take n).flatMap encL).length = w at hw hwu hwn
  have hhd : (j.head + sumI (j.sizes.take n)) % (j.count - 16) = ((posN hd m w : Nat) : Int) := by
    rw [v3, ← hw, show j.count - 16 = (m : Int) by omega, posN_modI v7 hwn]
  have hpl := posN_lt v7 hwn
  have hJ' : chkJ (dropJ j n) = true := chkJ_drop h.jd.chk (by omega)
  have hnx' : nextJ (dropJ j n) = nextJ j := by
    unfold nextJ dropJ
    dsimp only
    rw [List.length_drop]; omega
  have hold : ∀ s', s'.length = s.length → (∀ q, st + 16 ≤ q → s'[q]? = s[q]?) → (∃ g, Gd st s' g (superJ j.head j.first) (T + 1)) → RJ s' j rs [] (T + 1) := fun s' hl hq hgd => by
    refine ⟨⟨h.jd.chk, by rw [hl]; exact h.jd.len, by rw [hst0]; exact hgd⟩, h.sz, h.rc, .inl rfl, R, ?_, hTC⟩
    rw [ringJ, show j.start.toNat + 16 = st + 16 by omega, show j.head.toNat = hd by omega, show (j.count - 16).toNat = m by omega, ← hR]
    exact ring_keep (by omega) v7 hl fun q q1 _ => hq q q1
  have hnew : ∀ s', s'.length = s.length → (∀ q, st + 16 ≤ q → s'[q]? = s[q]?) → (∃ g, Gd st s' g (superJ ((j.head + sumI (j.sizes.take n)) % (j.count - 16)) (j.first + n)) (T + 1)) → RJ s' (dropJ j n) (rs.drop n) [] (T + 1) := fun s' hl hq hgd => by
    refine ⟨⟨hJ', by rw [hl]; exact h.jd.len, ?_⟩, ?_, h.rc.drop n, .inl rfl, R ++ (rs.take n).flatMap encL, ?_, fun i x hx => .inl ?_, .inl rfl⟩
    · show ∃ g, Gd j.start.toNat s' g _ _
      rw [hst0]; exact hgd
    · show j.sizes.drop n = _
      rw [szs_drop, ← h.sz]
    · show ringR s' (j.start.toNat + 16) ((j.head + sumI (j.sizes.take n)) % (j.count - 16)).toNat (j.count - 16).toNat = _
      rw [hhd, show j.start.toNat + 16 = st + 16 by omega, Int.toNat_natCast, show (j.count - 16).toNat = m by omega, ring_keep (by omega) hpl hl fun q q1 _ => hq q q1, ring_turn (by omega) v7 hwn, hR, hfl, ← hwd, List.append_assoc, List.drop_left, List.take_left, List.append_assoc]
    · rw [hnx']
      rcases List.mem_append.1 (List.mem_of_getElem? hx) with hx | hx
      · obtain ⟨i, hi⟩ := List.mem_iff_getElem?.1 hx
        exact (hTC.1 i x hi).resolve_right (by simp)
      · rw [v15]
        refine flatR_gn h.rc v13 (by omega) ?_
        rw [hfl]; exact List.mem_append_left _ hx
  generalize superJ ((j.head + sumI (j.sizes.take n)) % (j.count - 16)) (j.first + n) = sp at hp hr hnew
  obtain ⟨a, ha⟩ : ∃ a, a = if (pA st s).1 < (pB st s).1 then st else st + 8 := ⟨_, rfl⟩
  rw [← ha] at hr
  have ha2 : st ≤ a ∧ a + 8 ≤ st + 16 := by rw [ha]; split <;> omega
  have hcl := copyS_len (topS (win st s) + 1) sp
  have hfit : a + (copyS (topS (win st s) + 1) sp).length ≤ s.length := by rw [hcl]; omega
  have hws : WsOk s.length [opW a (copyS (topS (win st s) + 1) sp)] := fun o ho => by
    rw [List.mem_singleton] at ho; subst ho
    exact ⟨_, _, rfl, hfit⟩
  have hinw : ∀ q x, InW [opW a (copyS (topS (win st s) + 1) sp)] q x → st ≤ q ∧ q < st + 16 := fun q x hq => by
    obtain ⟨a', l', i, m1, m2, rfl⟩ := hq
    rw [List.mem_singleton] at m1
    obtain ⟨rfl, rfl⟩ := opW_inj m1
    have := (List.getElem?_eq_some_iff.1 m2).1
    omega
  have hout : ∀ s', MixW s (InW [opW a (copyS (topS (win st s) + 1) sp)]) s' → ∀ q, st + 16 ≤ q → s'[q]? = s[q]? := fun s' hm q hq => by
    rcases hm.2 q with e | ⟨x, hx, -⟩
    · exact e
    · have := hinw q x hx; omega
  refine ⟨[opW a (copyS (topS (win st s) + 1) sp)], ?_, rfl, hws, by rw [hst0]; exact hinw, fun s' hm => ?_, ?_⟩
  · rw [hr, dropJ, v1]; rfl
  · have hx := hg.mx hp hT (s' := s') (by rw [← ha]; exact mix_mx hm)
    rcases hx.1 with e | e
    · exact .inl (hold s' hm.1 (hout s' hm) ⟨_, e⟩)
    · exact .inr (hnew s' hm.1 (hout s' hm) ⟨_, e⟩)
  · have hm := exec_mix _ s hws
    have hx := hg.mx hp hT (s' := execS s [opW a (copyS (topS (win st s) + 1) sp)]) (by rw [← ha]; exact mix_mx hm)
    refine hnew _ hm.1 (hout _ hm) ⟨_, hx.2.2.2.2 fun q q1 q2 => ?_⟩
    rw [← ha] at q1 q2 ⊢
    show (patS s a (copyS (topS (win st s) + 1) sp))[q]? = _
    rw [patS_get hfit, if_pos ⟨q1, by rw [hcl]; exact q2⟩]
theorem sec0_gn : gn sec0 = 0 := by kernel_rfl
theorem runsX_in (st : Nat) : ∀ (f : Nat) (M : List Bool) (p : Nat), M.length - p < f →
    (∀ o ∈ runsX (st : Int) f M p, ∃ (a K : Nat), o = opW ((st + 16 + a : Nat) : Int) (List.replicate K sec0) ∧ 1 ≤ K ∧ a + K ≤ M.length) ∧
    (∀ q x, InW (runsX (st : Int) f M p) q x ↔ x = sec0 ∧ ∃ a, p ≤ a ∧ q = st + 16 + a ∧ M[a]? = some true)
  | 0, M, p, h => by omega
  | f + 1, M, p, h => by
    rw [runsX]
    by_cases h1 : M.length ≤ p
    · rw [if_pos h1]
      refine ⟨fun o ho => (by cases ho), fun q x => ⟨?_, ?_⟩⟩
      · rintro ⟨a, l, i, m, _⟩; cases m
      · rintro ⟨-, a, ha, -, hm⟩
        rw [List.getElem?_eq_none (by omega)] at hm; cases hm
    rw [if_neg h1]
    have hat := runL_at (M.drop p)
    have hrl := runL_le (M.drop p)
    rw [List.length_drop] at hrl
    by_cases h2 : runL (M.drop p) = 0
    · rw [if_pos h2]
      obtain ⟨i1, i2⟩ := runsX_in st f M (p + 1) (by omega)
      refine ⟨i1, fun q x => (i2 q x).trans ⟨?_, ?_⟩⟩
      · rintro ⟨rfl, a, ha, rfl, hm⟩; exact ⟨rfl, a, by omega, rfl, hm⟩
      · rintro ⟨rfl, a, ha, rfl, hm⟩
        refine ⟨rfl, a, ?_, rfl, hm⟩
        rcases Nat.eq_or_lt_of_le ha with e | e
        · subst e
          rw [h2, List.getElem?_drop, Nat.add_zero] at hat
          exact absurd hm hat
        · exact e
    · rw [if_neg h2]
      have hlt := runL_lt (M.drop p)
      generalize runL (M.drop p) = r at *
      obtain ⟨i1, i2⟩ := runsX_in st f M (p + r + 1) (by omega)
      have eop : opW ((st : Int) + 16 + (p : Int)) (List.replicate r sec0) = opW ((st + 16 + p : Nat) : Int) (List.replicate r sec0) := opW_val _ _ (by omega)
      rw [eop]
      refine ⟨fun o ho => ?_, fun q x => ⟨?_, ?_⟩⟩
      · rcases List.mem_cons.1 ho with rfl | ho
        · exact ⟨p, r, rfl, by omega, by omega⟩
        · exact i1 o ho
      · rintro ⟨a, l, i, m1, m2, rfl⟩
        rcases List.mem_cons.1 m1 with e | m1
        · obtain ⟨rfl, rfl⟩ := opW_inj e
          rw [List.getElem?_replicate] at m2
          split at m2
          · rename_i hi
            refine ⟨(Option.some.inj m2).symm, p + i, by omega, by omega, ?_⟩
            have := hlt i hi
            rwa [List.getElem?_drop] at this
          · cases m2
        · obtain ⟨rfl, b, hb, e, hm⟩ := (i2 _ x).1 ⟨a, l, i, m1, m2, rfl⟩
          exact ⟨rfl, b, by omega, e, hm⟩
      · rintro ⟨rfl, a, ha, rfl, hm⟩
        by_cases c : a < p + r
        · exact ⟨st + 16 + p, _, a - p, List.mem_cons_self, by rw [List.getElem?_replicate, if_pos (by omega)], by omega⟩
        · have hne : a ≠ p + r := fun e => by
            subst e
            rw [List.getElem?_drop] at hat
            exact hat hm
          obtain ⟨b, l, i, m1, m2, m3⟩ := (i2 (st + 16 + a) sec0).2 ⟨rfl, a, by omega, rfl, hm⟩
          exact ⟨b, l, i, List.mem_cons_of_mem _ m1, m2, m3⟩
theorem runsX_ln (s : Int) : ∀ (f : Nat) (M : List Bool) (p : Nat), (runsX s f M p).length ≤ f
  | 0, M, p => Nat.le_refl _
  | f + 1, M, p => by
    rw [runsX]
    split
    · exact Nat.zero_le _
    · split
      · exact Nat.le_succ_of_le (runsX_ln s f M (p + 1))
      · rw [List.length_cons]; exact Nat.succ_le_succ (runsX_ln s f M _)
theorem posN_back {hd n i : Nat} (hh : hd < n) (hi : i < n) : (((posN hd n i : Nat) : Int) - hd + n) % (n : Int) = i := by
  unfold posN
  split
  · rw [show (((hd + i : Nat) : Int) - hd + n) = ((i + n : Nat) : Int) by omega, ← Int.natCast_emod, Nat.add_mod_right, Nat.mod_eq_of_lt hi]
  · rw [show (((hd + i - n : Nat) : Int) - hd + n) = ((i : Nat) : Int) by omega, ← Int.natCast_emod, Nat.mod_eq_of_lt hi]
theorem posN_sur {hd n q : Nat} (hh : hd < n) (hq : q < n) : ∃ i, i < n ∧ posN hd n i = q := by
  refine ⟨if hd ≤ q then q - hd else q + n - hd, ?_, ?_⟩
  · split <;> omega
  · unfold posN; split <;> split <;> omega
theorem RJ.clean {s : List Sec} {j : Jrn} {rs : List Rcd} {l : List Sec} {T : Nat} (h : RJ s j rs l T) :
    ∃ ws, remX j ((s.drop (j.start.toNat + 16)).take (j.count - 16).toNat) = (if ws = [] then [] else ws ++ [opS]) ∧ WsOk s.length ws ∧ (∀ q x, InW ws q x → j.start.toNat + 16 ≤ q ∧ q < j.start.toNat + j.count.toNat) ∧
      (∀ s', MixW s (InW ws) s' → RJ s' j rs l T) ∧ RJ (execS s ws) j rs [] T ∧ (l = [] → ws = []) ∧ ws.length ≤ (j.count - 16).toNat + 1 := by
  obtain ⟨st, n, hd, u, v⟩ := h.val
  obtain ⟨v1, v2, v3, v4, v5, v6, v7, v8, v9, v10, v11, v12, v13, v14, v15, v16⟩ := v
  have hst : j.start.toNat = st := by omega
  have hcn : (j.count - 16).toNat = n := by omega
  rw [hst, hcn, remX_eq]
  have hML := mkJ_len j ((s.drop (st + 16)).take n)
  rw [hcn] at hML
  have hMg : ∀ i, i < n → ((mkJ j ((s.drop (st + 16)).take n))[posN hd n i]? = some true ↔ u ≤ i ∧ ∃ x, s[st + 16 + posN hd n i]? = some x ∧ nextJ j ≤ gn x) := fun i hi => by
    have hp := posN_lt v7 (Nat.le_of_lt hi)
    have e1 : ((s.drop (st + 16)).take n).getD (posN hd n i) sec0 = s.getD (st + 16 + posN hd n i) sec0 := by
      rw [List.getD_eq_getElem?_getD, List.getD_eq_getElem?_getD, List.getElem?_take, if_pos hp, List.getElem?_drop]
    have e2 : s[st + 16 + posN hd n i]? = some (s.getD (st + 16 + posN hd n i) sec0) := by
      rw [List.getD_eq_getElem?_getD, List.getElem?_eq_getElem (by omega)]; rfl
    rw [mkJ_get h.jd.chk (show j.count - 16 = (n : Int) by omega) _ hp, v3, posN_back v7 hi, e1, e2, v4]
    generalize s.getD (st + 16 + posN hd n i) sec0 = x
    simp only [Option.some.injEq, Bool.not_eq_true', Bool.or_eq_false_iff, decide_eq_false_iff_not]
    constructor
    · rintro ⟨a, b⟩; exact ⟨by omega, x, rfl, by omega⟩
    · rintro ⟨a, y, rfl, b⟩; exact ⟨by omega, by omega⟩
  generalize mkJ j ((s.drop (st + 16)).take n) = M at hML hMg
  rw [v1]
  obtain ⟨r1, r2⟩ := runsX_in st (M.length + 1) M 0 (by omega)
  have r3 := runsX_ln (st : Int) (M.length + 1) M 0
  generalize runsX (st : Int) (M.length + 1) M 0 = ws at r1 r2 r3
  have hW : WsOk s.length ws := fun o ho => by
    obtain ⟨a, K, rfl, k1, k2⟩ := r1 o ho
    exact ⟨st + 16 + a, _, rfl, by rw [List.length_replicate]; omega⟩
  have hin : ∀ q x, InW ws q x → x = sec0 ∧ ∃ i, u ≤ i ∧ i < n ∧ q = st + 16 + posN hd n i ∧ ∃ y, s[q]? = some y ∧ nextJ j ≤ gn y := fun q x hq => by
    obtain ⟨rfl, a, -, rfl, hm⟩ := (r2 q x).1 hq
    have hal : a < n := by rw [← hML]; exact (List.getElem?_eq_some_iff.1 hm).1
    obtain ⟨i, hi, rfl⟩ := posN_sur v7 hal
    obtain ⟨k1, y, k2, k3⟩ := (hMg i hi).1 hm
    exact ⟨rfl, i, k1, hi, rfl, y, k2, k3⟩
  obtain ⟨R, hR, hT⟩ := h.ring
  rw [v16] at hR
  have hRl : (rs.flatMap encL ++ R).length = n := by rw [← hR, ringR_len]
  rw [List.length_append, v5] at hRl
  have hge := sumI_ge j.sizes ((chkJ_iff j).1 h.jd.chk).2.2.1
  have hszl : j.sizes.length = rs.length := by rw [h.sz, szs, List.length_map]
  have key : ∀ s', MixW s (InW ws) s' → ∃ R', ringR s' (st + 16) hd n = rs.flatMap encL ++ R' ∧ R'.length = n - u ∧ ∀ i, R'[i]? = R[i]? ∨ R'[i]? = some sec0 := fun s' hm => by
    have hg : ∀ i, i < n → (ringR s' (st + 16) hd n)[i]? = (ringR s (st + 16) hd n)[i]? ∨ (u ≤ i ∧ (ringR s' (st + 16) hd n)[i]? = some sec0) := fun i hi => by
      rw [ringR_get (by rw [hm.1]; omega) v7 hi, ringR_get (by omega) v7 hi]
      rcases hm.2 (st + 16 + posN hd n i) with e | ⟨x, hx, e⟩
      · exact .inl e
      · obtain ⟨rfl, k', k1, k2, k3, -⟩ := hin _ x hx
        have := posN_inj v7 hi k2 (by omega)
        exact .inr ⟨by omega, e⟩
    have hsp := ring_split (b := []) hR (ringR s' (st + 16) hd n) (by rw [ringR_len, ringR_len]) (fun i hi => by
      rcases hg i (by omega) with e | ⟨e, -⟩
      · exact e
      · omega)
    rw [v5] at hsp
    refine ⟨_, hsp, by rw [List.length_drop, ringR_len], fun i => ?_⟩
    rw [List.getElem?_drop]
    by_cases hi : u + i < n
    · rcases hg (u + i) hi with e | ⟨-, e⟩
      · left
        rw [e, hR, List.getElem?_append_right (by omega)]; congr 1; omega
      · exact .inr e
    · left
      rw [List.getElem?_eq_none (by rw [ringR_len]; omega), List.getElem?_eq_none (by omega)]
  have hkeep : ∀ s', MixW s (InW ws) s' → JD s' j T := fun s' hm => sb_keep h.jd hm (fun q x hq => by
    obtain ⟨-, i, -, hi, rfl, -⟩ := hin q x hq
    omega) j h.jd.chk rfl rfl rfl rfl
  have hrj : ∀ s', ringJ s' j = ringR s' (st + 16) hd n := fun s' => by
    rw [ringJ, show j.start.toNat + 16 = st + 16 by omega, show j.head.toNat = hd by omega, hcn]
  refine ⟨ws, rfl, hW, fun q x hq => ?_, fun s' hm => ?_, ?_, fun hl => ?_, by omega⟩
  · obtain ⟨-, i, -, hi, rfl, -⟩ := hin q x hq
    have := posN_lt v7 (Nat.le_of_lt hi)
    omega
  · obtain ⟨R', k1, k2, k3⟩ := key s' hm
    refine ⟨hkeep s' hm, h.sz, h.rc, h.lk, R', by rw [hrj, k1], fun i x hx => ?_, ?_⟩
    · rcases k3 i with e | e
      · exact hT.1 i x (by rw [← e, hx])
      · left
        rw [hx] at e
        rw [Option.some.inj e, sec0_gn]; omega
    · rcases hT.2 with e | ⟨i, hi, e⟩
      · exact .inl e
      · right
        refine ⟨i, hi, ?_⟩
        rcases k3 i with e2 | e2
        · rw [e2]; exact e
        · rw [e2]
          intro e3
          rcases h.lk with rfl | ⟨k, p, hp, rfl⟩
          · simp at hi
          · have := secsR_gn (by omega) (List.mem_of_getElem? e3.symm)
            rw [sec0_gn] at this
            omega
  · have hm := exec_mix ws s hW
    obtain ⟨R', k1, k2, k3⟩ := key _ hm
    refine ⟨hkeep _ hm, h.sz, h.rc, .inl rfl, R', by rw [hrj, k1], fun i x hx => .inl ?_, .inl rfl⟩
    have hil : i < R'.length := (List.getElem?_eq_some_iff.1 hx).1
    have hi : u + i < n := by omega
    have hx' : (execS s ws)[st + 16 + posN hd n (u + i)]? = some x := by
      rw [← ringR_get (by rw [hm.1]; omega) v7 hi, k1, List.getElem?_append_right (by omega), show u + i - (rs.flatMap encL).length = i by omega, hx]
    by_cases c : M[posN hd n (u + i)]? = some true
    · have := exec_all ws s hW (st + 16 + posN hd n (u + i)) sec0 (fun y hy => (hin _ y hy).1) (.inl ((r2 _ _).2 ⟨rfl, _, Nat.zero_le _, rfl, c⟩))
      rw [hx'] at this
      rw [Option.some.inj this, sec0_gn]; omega
    · have hse : (execS s ws)[st + 16 + posN hd n (u + i)]? = s[st + 16 + posN hd n (u + i)]? := by
        rcases hm.2 (st + 16 + posN hd n (u + i)) with e | ⟨y, hy, -⟩
        · exact e
        · obtain ⟨-, a, -, ea, hm'⟩ := (r2 _ y).1 hy
          have : a = posN hd n (u + i) := by omega
          rw [this] at hm'
          exact absurd hm' c
      rw [hx'] at hse
      refine Classical.byContradiction fun hlt => c ((hMg (u + i) hi).2 ⟨by omega, x, hse.symm, by omega⟩)
  · subst hl
    cases ws with
    | nil => rfl
    | cons o ws =>
      obtain ⟨a, K, rfl, k1, k2⟩ := r1 o List.mem_cons_self
      obtain ⟨-, i, i1, i2, i3, y, i4, i5⟩ := hin (st + 16 + a) sec0 ⟨st + 16 + a, _, 0, List.mem_cons_self, by rw [List.getElem?_replicate, if_pos (by omega)], rfl⟩
      rw [i3, ← ringR_get (by omega) v7 i2, hR, List.getElem?_append_right (by omega)] at i4
      have := (hT.1 _ y i4).resolve_right (by simp)
      omega
end Go.Proofs.YtbnkggbpocaaiaaGreatDoor
namespace Go.Proofs.YtbnkggbpocaaiaaGreatDoor
open Go.Proofs
theorem sCollect_cc (H : Hp) (V : List Nat) (b2 b : Nat) (ks : List Int) (vs : List CV) (hb2 : H[b2]? = some (some [.mv b])) (hb : H[b]? = some (some [.objm ks vs])) (hkl : ks.length ≤ 1000000) :
    CC Tryz.prog 193 [.fn 195 [.ptr b2 0]] H V (ColR ks H V) := by
  refine CC.of_swp Tryz.func193 rfl (by kernel_rfl) (by rw [Tryz.ntmps193]; exact len_le _ _ rfl) fun hok hokH => ?_
  clear hok
  refine sW ?_
  simp -implicitDefEqProofs [go_sem, args0]
  refine sW ?_
  simp -implicitDefEqProofs [go_sem]
  refine CC.le (.cons (.nilti 1 (by decide)) (.cons (.refl _) .nil)) (CC.mono (sAppendSeq_cc _ _ b2 b ks vs hb2 hb hkl) ?_)
  rintro r _ _ ⟨xs, W, rfl, rfl, h1, hxl, h2⟩
  simp -implicitDefEqProofs [go_sem]
  refine Wp.s ?_
  simp -implicitDefEqProofs [go_sem]
  exact Fin.self ⟨xs, W, rfl, rfl, h1, hxl, h2⟩
structure SortOK : Prop where
  box : ∀ (H : Hp) (V : List Nat) (b : Nat) (xs : List Int), H[b]? = some (some (xs.map ci)) → xs.length ≤ 1000000 →
    CC Tryz.prog 194 [.bsa b xs.length 1] H V (fun _ H' V' => ∃ ys : List Int, (∀ y ∈ ys, y ∈ xs) ∧ ys.length = xs.length ∧ H' = H.set b (some (ys.map ci)) ∧ V' = V)
  none : ∀ (H : Hp) (V : List Nat), CC Tryz.prog 194 [.sl .ti 1 []] H V (fun _ H' V' => H' = H ∧ V' = V)
def SrtR (ks : List Int) (H : Hp) (V : List Nat) : CV → Hp → List Nat → Prop := fun r H' V' => ∃ ys : List Int, (∀ y ∈ ys, y ∈ ks) ∧ ys.length ≤ 1000000 ∧ r = .sl .sh 1 (ys.map ic) ∧ H' = H ∧ V' = V
theorem chunks_ci : ∀ ys : List Int, chunks 1 ys.length (ys.map ci) = ys.map ic
  | [] => rfl
  | y :: ys => by
    rw [List.length_cons, chunks]
    exact congrArg (_ :: ·) (chunks_ci ys)
theorem sSorted_cc (hs : SortOK) (H : Hp) (V : List Nat) (b2 b : Nat) (ks : List Int) (vs : List CV) (hb2 : H[b2]? = some (some [.mv b])) (hb : H[b]? = some (some [.objm ks vs])) (hkl : ks.length ≤ 1000000) :
    CC Tryz.prog 159 [.fn 195 [.ptr b2 0]] H V (SrtR ks H V) := by
  refine CC.of_swp Tryz.func159 rfl (by kernel_rfl) (by rw [Tryz.ntmps159]; exact len_le _ _ rfl) fun hok hokH => ?_
  clear hok
  refine sW ?_
  simp -implicitDefEqProofs [go_sem, args0]
  refine sW ?_
  simp -implicitDefEqProofs [go_sem]
  refine CC.mono (sCollect_cc _ _ b2 b ks vs hb2 hb hkl) ?_
  rintro r _ _ ⟨xs, W, rfl, rfl, h1, hxl, ⟨rfl, rfl⟩ | ⟨j, rfl, hj⟩⟩
  · simp -implicitDefEqProofs [go_sem]
    refine sW ?_
    simp -implicitDefEqProofs [go_sem]
    refine CC.mono (hs.none _ _) ?_
    rintro _ _ _ ⟨rfl, rfl⟩
    simp -implicitDefEqProofs [go_sem]
    refine Wp.s ?_
    simp -implicitDefEqProofs [go_sem]
    exact Fin.pure (r' := .sl .sh 1 []) ⟨[], by simp, by simp, rfl, rfl, rfl⟩ (by simp) (by simp) (.sh _ _ _) (by simp -implicitDefEqProofs [go_sem]) hokH
  · simp -implicitDefEqProofs [go_sem]
    refine sW ?_
    simp -implicitDefEqProofs [go_sem]
    have hj' : (H ++ W)[H.length + j]? = some (some (xs.map ci)) := by rw [hget]; exact hj
    refine CC.mono (hs.box _ _ _ xs hj' (by omega)) ?_
    rintro _ _ _ ⟨ys, hy1, hy2, rfl, rfl⟩
    simp -implicitDefEqProofs [go_sem]
    refine Wp.s ?_
    simp -implicitDefEqProofs [go_sem]
    have hjl := (List.getElem?_eq_some_iff.1 hj').1
    refine Fin.froz (b := H.length + j) (o := 0) (n := xs.length) (sz := 1) (cs := ys.map ci) (xs := ys.map ic) ⟨ys, fun y hy => h1 y (hy1 y hy), ?_, rfl, rfl, rfl⟩ (.bsa _ _ _) (by rw [hget]; exact List.getElem?_set_self (List.getElem?_eq_some_iff.1 hj).1) ?_ ?_ (by omega) (by rw [okE_ints]; trivial) hokH ?_ (by simp)
    · omega
    · rw [List.drop_zero, ← hy2, chunks_ci]
    · rw [List.length_map]; omega
    · simp
end Go.Proofs.YtbnkggbpocaaiaaGreatDoor
namespace Go.Proofs.YtbnkggbpocaaiaaGreatDoor
open Go.Proofs
theorem scloneI_cc (H : Hp) (V : List Nat) (tk : Tk) (l : List Int) (hx : l.length ≤ 1000000000) : CC Tryz.prog 46 [.sl tk 1 (l.map ic)] H V (Fr 1 (l.map ic) H V) := by
  refine CC.of_swp Tryz.func46 rfl (by kernel_rfl) (by rw [Tryz.ntmps46]; exact len_le _ _ rfl) fun hok hokH => ?_
  clear hok
  refine sW ?_
  simp -implicitDefEqProofs [go_sem, args0]
  refine sW ?_
  simp -implicitDefEqProofs [go_sem]
  refine ⟨Wp.s ?_, fun e => Fin.frtok (by decide) (.inl ⟨rfl, by rw [e]; rfl⟩) (by simp -implicitDefEqProofs [go_sem, okE_ints]) hokH (by simp) (by simp)⟩
  simp -implicitDefEqProofs [go_sem]
  exact ⟨by omega, Fin.fr (by simp -implicitDefEqProofs [go_sem, okE_ints]) hokH (by simp)⟩
def Mix (d d' : Dk) : Prop := d'.cache = [] ∧ d'.stable.length = d.stable.length ∧ ∀ (i : Nat) (h : i < d'.stable.length), (∃ h' : i < d.stable.length, d'.stable[i] = d.stable[i]) ∨ ∃ c ∈ d.cache, c.pos = (i : Int) ∧ d'.stable[i] = c.data
def MixS (d : Dk) (ss : List Sec) : Prop := ss.length = d.stable.length ∧ ∀ (i : Nat) (h : i < ss.length), (∃ h' : i < d.stable.length, ss[i] = d.stable[i]) ∨ ∃ c ∈ d.cache, c.pos = (i : Int) ∧ ss[i] = c.data
theorem MixS.put {d : Dk} {ss : List Sec} {c : Cach} {n : Nat} (h : MixS d ss) (hc : c ∈ d.cache) (hn : c.pos = (n : Int)) : MixS d (ss.set n c.data) := by
  obtain ⟨h1, h2⟩ := h
  refine ⟨by rw [List.length_set]; exact h1, fun i hi => ?_⟩
  rw [List.length_set] at hi
  rw [List.getElem_set]
  split
  · rename_i e; subst e; exact .inr ⟨c, hc, hn, rfl⟩
  · exact h2 i hi
structure Vrs where
  key : Int
  tok : Nat
  ver : Nat
  secs : List Sec
def entV (e : Vrs) : CV := .sl (.own e.tok e.ver) 8 (e.secs.map secC)
def EOk (nv : Nat) (cs : List Cach) (es : List Vrs) (V : List Nat) : Prop :=
  (es.map Vrs.tok).Nodup ∧ (∀ e ∈ es, V[e.tok]? = some e.ver ∧ nv ≤ e.tok ∧ e.secs.length ≤ cs.length ∧ (∃ c ∈ cs, c.pos = e.key) ∧ ∀ s ∈ e.secs, ∃ c ∈ cs, c.pos = e.key ∧ c.data = s) ∧ es.length ≤ cs.length
theorem EOk.new {nv : Nat} {cs : List Cach} {es : List Vrs} {V : List Nat} {c : Cach} (he : EOk nv cs es V) (hv : nv ≤ V.length) : EOk nv (cs ++ [c]) (es ++ [⟨c.pos, V.length, 0, [c.data]⟩]) (V ++ [0]) := by
  obtain ⟨h1, h2, h3⟩ := he
  have hlt : ∀ e ∈ es, e.tok < V.length := fun e m => (List.getElem?_eq_some_iff.1 (h2 e m).1).1
  refine ⟨?_, ?_, by simp; omega⟩
  · rw [List.map_append, List.nodup_append]
    refine ⟨h1, by simp, ?_⟩
    intro a ha b hb
    simp only [List.map_cons, List.map_nil, List.mem_singleton] at hb
    obtain ⟨e, m, rfl⟩ := List.mem_map.1 ha
    have := hlt e m
    omega
  · intro e m
    rcases List.mem_append.1 m with m | m
    · obtain ⟨q1, q2, q3, ⟨c', q4, q5⟩, q6⟩ := h2 e m
      refine ⟨by rw [List.getElem?_append_left (hlt e m)]; exact q1, q2, by simp; omega, ⟨c', List.mem_append_left _ q4, q5⟩, fun s hs => ?_⟩
      obtain ⟨c2, r1, r2⟩ := q6 s hs
      exact ⟨c2, List.mem_append_left _ r1, r2⟩
    · rw [List.mem_singleton] at m
      subst m
      refine ⟨by simp, hv, by simp, ⟨c, by simp, rfl⟩, fun s hs => ⟨c, by simp, rfl, ?_⟩⟩
      simp only [List.mem_singleton] at hs
      exact hs.symm
theorem EOk.more {nv : Nat} {cs : List Cach} {es : List Vrs} {V : List Nat} {c : Cach} {j : Nat} (he : EOk nv cs es V) (hj : j < es.length) (hk : es[j].key = c.pos) : EOk nv (cs ++ [c]) (es.set j ⟨es[j].key, es[j].tok, es[j].ver + 1, es[j].secs ++ [c.data]⟩) (V.set es[j].tok (es[j].ver + 1)) := by
  obtain ⟨h1, h2, h3⟩ := he
  have hlt : ∀ e ∈ es, e.tok < V.length := fun e m => (List.getElem?_eq_some_iff.1 (h2 e m).1).1
  have hm : (es.set j ⟨es[j].key, es[j].tok, es[j].ver + 1, es[j].secs ++ [c.data]⟩).map Vrs.tok = es.map Vrs.tok := by
    rw [List.map_set]
    exact List.ext_getElem (by simp) fun n a b => by
      rw [List.getElem_set]
      split
      · rename_i e; subst e; simp
      · rfl
  refine ⟨by rw [hm]; exact h1, ?_, by simp; omega⟩
  intro e m
  obtain ⟨k, hk2, rfl⟩ := List.getElem_of_mem m
  simp only [List.length_set] at hk2
  rw [List.getElem_set]
  split
  · rename_i e; subst e
    obtain ⟨q1, q2, q3, ⟨c', q4, q5⟩, q6⟩ := h2 es[j] (List.getElem_mem hj)
    refine ⟨by rw [List.getElem?_set_self (hlt _ (List.getElem_mem hj))], q2, by simp; omega, ⟨c, by simp, hk.symm⟩, fun s hs => ?_⟩
    rcases List.mem_append.1 hs with hs | hs
    · obtain ⟨c2, r1, r2⟩ := q6 s hs
      exact ⟨c2, List.mem_append_left _ r1, r2⟩
    · simp only [List.mem_singleton] at hs
      exact ⟨c, by simp, hk.symm, hs.symm⟩
  · rename_i hne
    obtain ⟨q1, q2, q3, ⟨c', q4, q5⟩, q6⟩ := h2 es[k] (List.getElem_mem hk2)
    have hnt : es[j].tok ≠ es[k].tok := fun e => hne (by
      have hp := List.pairwise_iff_getElem.1 h1
      rcases Nat.lt_trichotomy j k with q | q | q
      · exact (hp j k (by simpa using hj) (by simpa using hk2) q (by simpa using e)).elim
      · exact q
      · exact (hp k j (by simpa using hk2) (by simpa using hj) q (by simpa using e.symm)).elim)
    refine ⟨by rw [List.getElem?_set_ne hnt]; exact q1, q2, by simp; omega, ⟨c', List.mem_append_left _ q4, q5⟩, fun s hs => ?_⟩
    obtain ⟨c2, r1, r2⟩ := q6 s hs
    exact ⟨c2, List.mem_append_left _ r1, r2⟩
theorem EOk.okL {nv nb : Nat} {cs : List Cach} {es : List Vrs} {V : List Nat} (he : EOk nv cs es V) : Go.Proofs.YtbnkggbpocaaiaaGreatDoor.okL nb V.length (es.map entV) := by
  rw [okL_iff]
  intro x hx
  obtain ⟨e, m, rfl⟩ := List.mem_map.1 hx
  have hlt : e.tok < V.length := (List.getElem?_eq_some_iff.1 (he.2.1 e m).1).1
  simp -implicitDefEqProofs [go_sem, entV, hlt, okE_secs]
def CrR (d : Dk) (n : Nat) (H : Hp) (V : List Nat) : CV → Hp → List Nat → Prop := fun r H' V' => ∃ (d' : Dk) (l' : List Int), (Mix d d' ∧ l'.length ≤ n) ∧ r = .tup [.agg (dkC d'), .sl .sh 1 (l'.map ic)] ∧ H' = H ∧ V' = V
theorem sCrash_cc (hs : SortOK) (H : Hp) (V : List Nat) (d : Dk) (tk : Tk) (l : List Int) (hd : DkS d) (hc : checkD d = 0) (hll : l.length ≤ 1000000) : CC Tryz.prog 101 [.agg (dkC d), .sl tk 1 (l.map ic)] H V (CrR d l.length H V) := by
  refine CC.of_swp Tryz.func101 rfl (by kernel_rfl) (by rw [Tryz.ntmps101]; exact len_le _ _ rfl) fun hok hokH => ?_
  have htk : ∀ {a b : Nat}, H.length ≤ a → V.length ≤ b → okV a b (.sl tk 1 (l.map ic)) := fun ha hb => okV_mono ha hb (okL_iff.1 hok _ (by simp))
  clear hok
  have hl1 := hd.1
  have hl2 := hd.2
  refine sW ?_
  simp -implicitDefEqProofs [go_sem, args0]
  refine sW ?_
  simp -implicitDefEqProofs [go_sem]
  refine CC.mono (sCheck_cc _ _ d hd) ?_
  rintro _ _ _ ⟨rfl, rfl, rfl⟩
  simp -implicitDefEqProofs [go_sem, hc]
  refine sW ?_
  simp -implicitDefEqProofs [go_sem]
  refine SWp.join (α := List Vrs × List Nat) (fun x => ([(1, .sl tk 1 (l.map ic)), (2, .ptr H.length 0), (4, .ptr (H.length + 1) 0), (6, .mv (H.length + 2))], H ++ [some (dkC d), some [.v (.slice none 0 0), .v (.slice none 0 0)], some [.objm (x.1.map Vrs.key) (x.1.map entV)]], x.2))
    (fun x => EOk V.length d.cache x.1 x.2 ∧ V.length ≤ x.2.length ∧ x.2.take V.length = V) ?_ ?_
  · refine sW ?_
    simp -implicitDefEqProofs [go_sem]
    refine SWp.block ?_
    refine SWp.loop (α := Nat × List Vrs × List Nat) (fun x => ([(1, .sl tk 1 (l.map ic)), (2, .ptr H.length 0), (4, .ptr (H.length + 1) 0), (6, .mv (H.length + 2)), (21, cachV d.cache), (22, ci d.cache.length), (23, ci x.1)], H ++ [some (dkC d), some [.v (.slice none 0 0), .v (.slice none 0 0)], some [.objm (x.2.1.map Vrs.key) (x.2.1.map entV)]], x.2.2))
      (fun x => x.1 ≤ d.cache.length ∧ EOk V.length (d.cache.take x.1) x.2.1 x.2.2 ∧ V.length ≤ x.2.2.length ∧ x.2.2.take V.length = V) (fun x => d.cache.length - x.1) (0, [], V) ⟨Nat.zero_le _, ⟨by simp, by simp, by simp⟩, Nat.le_refl _, by simp⟩ (Sh.forget (by simp -implicitDefEqProofs [go_sem]) (by simp) rfl) ?_
    rintro ⟨i, es, V'⟩ ⟨hi, he, hv1, hv2⟩
    dsimp only at hi he hv1 hv2 ⊢
    refine sW ?_
    simp -implicitDefEqProofs [go_sem]
    refine sW ?_
    simp -implicitDefEqProofs [go_sem]
    refine ⟨fun h => ?_, fun h => ⟨es, V', ⟨by rw [List.take_of_length_le h] at he; exact he, hv1, hv2⟩, Sh.forget (by simp -implicitDefEqProofs [go_sem]) rfl rfl⟩⟩
    refine SWp.seq (SWp.block (sW ?_))
    simp -implicitDefEqProofs [go_sem, h]
    refine SWp.drawnT [H.length + 3] [11] (.s 0 .pl <| .s 1 .pl <| .s 2 .ld <| .s 3 .pl <| .s 4 .pl <| .s 5 .ld <| .s 7 .pl <| .s 8 .ld <| .s 9 .pl <| .s 6 .pl <| .s 10 .pl <| .s 11 .st <| .n) (by kernel_rfl) (by kernel_rfl) ?_
    simp -implicitDefEqProofs [go_sem]
    rw [hbm_some (hget H _ 2)]
    rcases hk : keyAt (es.map Vrs.key) d.cache[i].pos with _ | j
    · simp -implicitDefEqProofs only [mlook, hk]
      simp -implicitDefEqProofs [go_sem]
      rw [hbm_some (hget H _ 2)]
      simp -implicitDefEqProofs only [mput, hk]
      refine ⟨fun b hb cs q => by rw [List.mem_singleton] at hb; subst hb; rw [hget] at q ⊢; exact q, Wp.s ?_⟩
      simp -implicitDefEqProofs [go_sem, wrap_succ (show i ≤ 1000000000 by omega)]
      have hn := he.new (c := d.cache[i]) hv1
      refine ⟨i + 1, _, _, ⟨by omega, by rw [List.take_succ_eq_append_getElem h]; exact hn, by simp; omega, by rw [List.take_append_of_le_length hv1]; exact hv2⟩, by omega, Sh.trim (L := [some (dkC d), some [.v (.slice none 0 0), .v (.slice none 0 0)], some [.objm _ _]]) ?_ ?_ hokH ?_ (by simp; omega) ?_ (List.take_of_length_le (Nat.le_refl _))⟩
      · simp -implicitDefEqProofs [go_sem]
      · exact ⟨htk (by simp) (by simp; omega), by simp -implicitDefEqProofs [go_sem]; rw [okV]; omega⟩
      · rw [okH_some, okH_some, okH_some]
        refine ⟨by simp -implicitDefEqProofs [go_sem], by simp -implicitDefEqProofs [go_sem], ?_, trivial⟩
        rw [okL, okV, okL]
        exact ⟨hn.okL, trivial⟩
      · simp [List.take_append, entV]
        exact List.take_of_length_le (by simp)
    · obtain ⟨hj, hjn⟩ := keyAt_lt hk
      simp only [List.length_map] at hj
      have hje := he.2.1 es[j] (List.getElem_mem hj)
      simp -implicitDefEqProofs only [mlook, hk, List.getElem?_map, List.getElem?_eq_getElem hj, Option.map_some, Option.getD_some, entV]
      simp -implicitDefEqProofs [go_sem, hje.1]
      refine ⟨by have := hje.2.2.1; have := List.length_take_le i d.cache; omega, ?_⟩
      rw [hbm_some (hget H _ 2)]
      simp -implicitDefEqProofs only [mput, hk]
      refine ⟨fun b hb cs q => by rw [List.mem_singleton] at hb; subst hb; rw [hget] at q ⊢; exact q, Wp.s ?_⟩
      simp -implicitDefEqProofs [go_sem, wrap_succ (show i ≤ 1000000000 by omega)]
      have hkj : es[j].key = d.cache[i].pos := by
        rw [List.getElem?_map, List.getElem?_eq_getElem hj] at hjn
        exact Option.some.inj hjn
      have hn := he.more (c := d.cache[i]) hj hkj
      refine ⟨i + 1, _, _, ⟨by omega, by rw [List.take_succ_eq_append_getElem h]; exact hn, by simp; omega, by rw [List.take_set_of_le hje.2.1]; exact hv2⟩, by omega, Sh.trim (L := [some (dkC d), some [.v (.slice none 0 0), .v (.slice none 0 0)], some [.objm _ _]]) ?_ ?_ hokH ?_ (by simp; omega) ?_ (List.take_of_length_le (Nat.le_refl _))⟩
      · simp -implicitDefEqProofs [go_sem]
      · exact ⟨htk (by simp) (by simp; omega), by simp -implicitDefEqProofs [go_sem]; rw [okV]; omega⟩
      · rw [okH_some, okH_some, okH_some]
        refine ⟨by simp -implicitDefEqProofs [go_sem], by simp -implicitDefEqProofs [go_sem], ?_, trivial⟩
        rw [okL, okV, okL]
        exact ⟨hn.okL, trivial⟩
      · have ek : (es.set j ⟨es[j].key, es[j].tok, es[j].ver + 1, es[j].secs ++ [d.cache[i].data]⟩).map Vrs.key = es.map Vrs.key := by
          rw [List.map_set]
          exact List.ext_getElem (by simp) fun n a b => by
            rw [List.getElem_set]
            split
            · rename_i e; subst e; simp
            · rfl
        rw [ek, List.map_set]
        simp [List.take_append, entV]
        exact List.take_of_length_le (by simp)
  · rintro ⟨es, V1⟩ ⟨he, hv1, hv2⟩
    dsimp only at he hv1 hv2 ⊢
    by_cases h0 : d.stable = []
    · have hcc : d.cache = [] := by
        rcases hcl : d.cache with _ | ⟨c0, cs⟩
        · rfl
        · have := (checkD_0 hc).2 c0 (by rw [hcl]; simp)
          rw [h0] at this
          simp at this
      have hes : es = [] := by
        have := he.2.2
        rw [hcc] at this
        exact List.eq_nil_of_length_eq_zero (by simpa using this)
      subst hes
      refine sW ?_
      simp -implicitDefEqProofs [go_sem]
      refine CC.mono (scloneS_cc _ _ .sh _ (by omega)) ?_
      rintro _ _ _ ⟨v, rfl, rfl, rfl⟩
      simp -implicitDefEqProofs [go_sem]
      refine sW ?_
      simp -implicitDefEqProofs [go_sem]
      refine SWp.seq (sW ?_)
      simp -implicitDefEqProofs [go_sem]
      refine CC.mono (sKeys_cc _ _ (H.length + 2) (by simp)) ?_
      rintro _ _ _ ⟨rfl, rfl, rfl⟩
      simp -implicitDefEqProofs [go_sem]
      refine CC.mono (sSorted_cc hs _ _ (H.length + 4) (H.length + 2) [] [] (hget H _ 4) (hget H _ 2) (by simp)) ?_
      rintro _ _ V9 ⟨ys, hy, hyl, rfl, rfl, eV⟩
      obtain rfl := eV.symm
      have hys : ys = [] := by
        rcases ys with _ | ⟨y, ys⟩
        · rfl
        · have := hy y (by simp)
          simp at this
      subst hys
      simp -implicitDefEqProofs [go_sem]
      refine SWp.block ?_
      refine SWp.loop (α := Unit) (fun _ => ([(4, .ptr (H.length + 1) 0), (9, .ptr (H.length + 3) 0), (10, .sl tk 1 (l.map ic)), (47, ci 0), (48, ci 0)], H ++ [some (dkC d), some [.v (.slice none 0 0), .v (.slice none 0 0)], some [.objm [] []], some [.sl (.own V1.length v) 8 (d.stable.map secC), .v (.slice none 0 0)], some [.mv (H.length + 2)]], V1 ++ [v]))
        (fun _ => True) (fun _ => 0) () trivial (Sh.forget (by simp -implicitDefEqProofs [go_sem]) (by simp) rfl) ?_
      rintro - -
      dsimp only
      refine sW ?_
      simp -implicitDefEqProofs [go_sem]
      refine sW ?_
      simp -implicitDefEqProofs [go_sem]
      refine SWp.seq ?_
      refine SWp.drawnT [H.length + 3] [3] (.s 0 .ld <| .s 1 .pl <| .s 2 .pl <| .s 3 .st <| .s 4 .pl <| .n) (by kernel_rfl) (by kernel_rfl) ?_
      simp -implicitDefEqProofs [go_sem]
      refine CC.mono (scloneI_cc _ _ tk l (by omega)) ?_
      rintro _ _ _ ⟨v2, rfl, rfl, rfl⟩
      simp -implicitDefEqProofs [go_sem]
      refine ⟨fun b hb cs q => by rw [List.mem_singleton] at hb; subst hb; rw [hget] at q ⊢; exact q, Wp.s ?_⟩
      simp -implicitDefEqProofs [go_sem]
      refine Fin.pure (r' := .tup [.agg (dkC ⟨d.stable, []⟩), .sl .sh 1 (l.map ic)]) ⟨⟨d.stable, []⟩, l, ⟨⟨rfl, rfl, fun i h => .inl ⟨h, rfl⟩⟩, Nat.le_refl _⟩, rfl, rfl, rfl⟩ (by simp) ?_ (.tup (.cons (.agg (.cons (.sh _ _ _) (.cons (.nil 9 (by decide)) .nil))) (.cons (.sh _ _ _) .nil))) ?_ hokH
      · rw [List.take_append_of_le_length hv1]; exact hv2
      · simp -implicitDefEqProofs [go_sem, dkC, okE_secs, okE_ints, okE_cach]
    refine sW ?_
    simp -implicitDefEqProofs [go_sem]
    refine CC.mono (scloneB_cc _ _ .sh _ h0 (by omega)) ?_
    rintro _ _ _ ⟨rfl, rfl, rfl⟩
    simp -implicitDefEqProofs [go_sem]
    refine sW ?_
    simp -implicitDefEqProofs [go_sem]
    refine SWp.seq (sW ?_)
    simp -implicitDefEqProofs [go_sem]
    refine CC.mono (sKeys_cc _ _ (H.length + 2) (by simp)) ?_
    rintro _ _ _ ⟨rfl, rfl, rfl⟩
    simp -implicitDefEqProofs [go_sem]
    refine CC.mono (sSorted_cc hs _ _ (H.length + 5) (H.length + 2) (es.map Vrs.key) (es.map entV) (hget H _ 5) (hget H _ 2) (by have := he.2.2; simp; omega)) ?_
    rintro _ _ V9 ⟨ys, hy, hyl, rfl, rfl, eV⟩
    obtain rfl := eV.symm
    simp -implicitDefEqProofs [go_sem]
    refine SWp.block ?_
    refine SWp.loop (α := Nat × (Tk × List Int) × List Sec) (fun x => ([(4, .ptr (H.length + 1) 0), (6, .mv (H.length + 2)), (9, .ptr (H.length + 4) 0), (10, .sl x.2.1.1 1 (x.2.1.2.map ic)), (46, .sl .sh 1 (ys.map ic)), (47, ci ys.length), (48, ci x.1)], H ++ [some (dkC d), some [.v (.slice none 0 0), .v (.slice none 0 0)], some [.objm (es.map Vrs.key) (es.map entV)], some (secsF x.2.2), some [.bsl (H.length + 3) 0 d.stable.length 8, .v (.slice none 0 0)], some [.mv (H.length + 2)]], V1))
      (fun x => x.1 ≤ ys.length ∧ MixS d x.2.2 ∧ (x.2.1.1 = tk ∨ x.2.1.1 = .sh) ∧ x.2.1.2.length ≤ l.length) (fun x => ys.length - x.1) (0, (tk, l), d.stable) ⟨Nat.zero_le _, ⟨rfl, fun i h => .inl ⟨h, rfl⟩⟩, .inl rfl, Nat.le_refl _⟩ (Sh.forget (by simp -implicitDefEqProofs [go_sem]) (by simp) rfl) ?_
    rintro ⟨i, ⟨tk', l'⟩, ss⟩ ⟨hi, hm, ht, hll'⟩
    dsimp only at hi hm ht hll' ⊢
    refine sW ?_
    simp -implicitDefEqProofs [go_sem]
    refine sW ?_
    simp -implicitDefEqProofs [go_sem]
    refine ⟨fun h => ?_, fun h => ?_⟩
    · refine SWp.join (α := List Int × List Sec) (fun q => ([(4, .ptr (H.length + 1) 0), (6, .mv (H.length + 2)), (9, .ptr (H.length + 4) 0), (10, .sl .sh 1 (q.1.map ic)), (46, .sl .sh 1 (ys.map ic)), (47, ci ys.length), (48, ci i)], H ++ [some (dkC d), some [.v (.slice none 0 0), .v (.slice none 0 0)], some [.objm (es.map Vrs.key) (es.map entV)], some (secsF q.2), some [.bsl (H.length + 3) 0 d.stable.length 8, .v (.slice none 0 0)], some [.mv (H.length + 2)]], V1)) (fun q => MixS d q.2 ∧ q.1.length ≤ l.length) ?_ (by
        rintro ⟨l2, ss'⟩ ⟨hm', hl2'⟩
        dsimp only at hm' hl2' ⊢
        refine Wp.s ?_
        simp -implicitDefEqProofs [go_sem, wrap_succ (show i ≤ 1000000000 by omega)]
        exact ⟨i + 1, .sh, l2, ss', ⟨by omega, hm', .inr rfl, hl2'⟩, by omega, Sh.forget (by simp -implicitDefEqProofs [go_sem]) rfl rfl⟩)
      refine SWp.block (sW ?_)
      simp -implicitDefEqProofs [go_sem, h]
      refine sW ?_
      simp -implicitDefEqProofs [go_sem]
      refine sW ?_
      simp -implicitDefEqProofs [go_sem]
      rw [hbm_some (hget H _ 2)]
      obtain ⟨j, hk⟩ : ∃ j, keyAt (es.map Vrs.key) ys[i] = some j := by
        rcases hk : keyAt (es.map Vrs.key) ys[i] with _ | j
        · have hm := hy _ (List.getElem_mem h)
          unfold keyAt at hk
          rw [List.findIdx?_eq_none_iff] at hk
          exact absurd (hk _ hm) (by simp)
        · exact ⟨j, rfl⟩
      obtain ⟨hj, hjn⟩ := keyAt_lt hk
      simp only [List.length_map] at hj
      have hje := he.2.1 es[j] (List.getElem_mem hj)
      have hjl : es[j].secs.length ≤ 1000000 := by have := hje.2.2.1; omega
      have hkj : es[j].key = ys[i] := by
        rw [List.getElem?_map, List.getElem?_eq_getElem hj] at hjn
        exact Option.some.inj hjn
      simp -implicitDefEqProofs only [mlook, hk, List.getElem?_map, List.getElem?_eq_getElem hj, Option.map_some, Option.getD_some, entV]
      simp -implicitDefEqProofs [go_sem, wrap_succ (show es[j].secs.length ≤ 1000000000 by omega)]
      refine CC.mono (sdecide_cc _ _ tk' l' (es[j].secs.length + 1) (by omega) (by omega)) ?_
      rintro _ H9 V9 ⟨k, l2, ⟨hk2, hl2'⟩, rfl, eH, eV⟩
      subst eH eV
      simp -implicitDefEqProofs [go_sem]
      refine sW ?_
      simp -implicitDefEqProofs [go_sem]
      refine Wp.s ?_
      simp -implicitDefEqProofs [go_sem]
      refine ⟨fun h2 => ?_, fun h2 => ⟨l2, ss, ⟨hm, by omega⟩, Sh.forget (by simp -implicitDefEqProofs [go_sem]) rfl rfl⟩⟩
      refine SWp.drawnT [H.length + 4] [11] (.s 0 .pl <| .s 1 .pl <| .s 2 .pl <| .s 3 .pl <| .s 4 .pl <| .s 6 .pl <| .s 7 .pl <| .s 5 .pl <| .s 8 .pl <| .s 9 .pl <| .s 10 .pl <| .s 11 .st <| .n) (by kernel_rfl) (by kernel_rfl) ?_
      simp -implicitDefEqProofs [go_sem]
      rw [hbm_some (hget H _ 2)]
      have hwk : IntKind.i64.wrap ((k : Int) - 1) = ((k - 1 : Nat) : Int) := by rw [IntWalk.i64_in _ ⟨by omega, by omega⟩]; omega
      have hk1 : k - 1 < es[j].secs.length := by omega
      obtain ⟨c0, hc0, hcp⟩ := hje.2.2.2.1
      have hpos := (checkD_0 hc).2 c0 hc0
      rw [hcp, hkj] at hpos
      simp -implicitDefEqProofs only [mlook, hk, List.getElem?_map, List.getElem?_eq_getElem hj, Option.map_some, Option.getD_some, entV, hwk]
      simp -implicitDefEqProofs [go_sem, hk1, hpos.1]
      obtain ⟨c1, hc1, hcp1, hcd1⟩ := hje.2.2.2.2 _ (List.getElem_mem hk1)
      refine ⟨by omega, by have := hm.1; omega, fun b hb cs q => by rw [List.mem_singleton] at hb; subst hb; rw [hget] at q ⊢; exact q, l2, ss.set ys[i].toNat es[j].secs[k - 1], ⟨?_, by omega⟩, Sh.forget (by simp -implicitDefEqProofs [go_sem]) ?_ rfl⟩
      · rw [← hcd1]; exact hm.put hc1 (by rw [hcp1, hkj]; omega)
      · rw [secsF_set' (by have := hm.1; omega)]
    · refine SWp.seq ?_
      refine SWp.drawnT [H.length + 4] [3] (.s 0 .ld <| .s 1 .pl <| .s 2 .pl <| .s 3 .st <| .s 4 .pl <| .n) (by kernel_rfl) (by kernel_rfl) ?_
      simp -implicitDefEqProofs [go_sem]
      refine CC.mono (scloneI_cc _ _ tk' l' (by omega)) ?_
      rintro _ _ _ ⟨v, rfl, rfl, rfl⟩
      simp -implicitDefEqProofs [go_sem]
      refine ⟨fun b hb cs q => by rw [List.mem_singleton] at hb; subst hb; rw [hget] at q ⊢; exact q, Wp.s ?_⟩
      simp -implicitDefEqProofs [go_sem]
      refine Fin.frozG (b := H.length + 3) (cs := secsF ss) (r1 := .tup [.agg [.bsl (H.length + 3) 0 d.stable.length 8, cachV []], .sl .sh 1 (l'.map ic)]) (r2 := .tup [.agg (dkC ⟨ss, []⟩), .sl .sh 1 (l'.map ic)]) ⟨⟨ss, []⟩, l', ⟨⟨rfl, hm.1, hm.2⟩, hll'⟩, rfl, rfl, rfl⟩ (.tup (.cons (.agg (.cons (.refl _) (.cons (.nil 9 (by decide)) .nil))) (.cons (.sh _ _ _) .nil))) (by rw [hget]; rfl) ?_ (by omega) ?_ hokH (by simp) ?_
      · have hz := Fz.bsl (b := H.length + 3) (cs := secsF ss) 0 d.stable.length 8 (by have := hm.1; simp; omega)
        rw [List.drop_zero, ← hm.1, chunks_secs] at hz
        rw [← hm.1]
        exact .tup (.cons (.agg (.cons hz (.cons (.refl _) .nil))) (.cons (.refl _) .nil))
      · simp -implicitDefEqProofs [go_sem, dkC, okE_secs, okE_ints, okE_cach]
      · rw [List.take_append_of_le_length hv1]; exact hv2
end Go.Proofs.YtbnkggbpocaaiaaGreatDoor
namespace Go.Proofs.YtbnkggbpocaaiaaGreatDoor
open Go.Proofs
theorem stepD_inv {d d' : Dk} {o : Opn} (hc : checkD d = 0) (h : stepD d o = .ok d') : checkD d' = 0 ∧ d'.stable.length = d.stable.length ∧ d'.cache.length ≤ d.cache.length + o.data.length := by
  unfold stepD at h
  split at h
  · cases h
  · split at h
    · cases hw : writeD d o.pos o.data with
      | none => rw [hw] at h; cases h
      | some d2 =>
        rw [hw] at h; cases h
        unfold writeD at hw
        split at hw
        · rename_i hi
          cases hw
          exact ⟨check_wr hc hi, rfl, by simp⟩
        · cases hw
    · cases h
      exact ⟨check_sy hc, newestD_len _, by simp⟩
theorem runD_inv : ∀ (ops : List Opn) {d d' : Dk} {i n : Nat}, checkD d = 0 → runD d ops i = .ok (d', n) → checkD d' = 0 ∧ d'.stable.length = d.stable.length ∧ d'.cache.length ≤ d.cache.length + tot ops
  | [], d, d', i, n, hc, h => by cases h; exact ⟨hc, rfl, by simp [tot]⟩
  | o :: ops, d, d', i, n, hc, h => by
    rw [runD] at h
    cases hs : stepD d o with
    | error e => rw [hs] at h; cases h
    | ok d2 =>
      rw [hs] at h
      obtain ⟨h1, h2, h3⟩ := stepD_inv hc hs
      obtain ⟨g1, g2, g3⟩ := runD_inv ops h1 h
      refine ⟨g1, g2.trans h2, ?_⟩
      have : tot (o :: ops) = o.data.length + tot ops := by simp [tot]
      omega
theorem runR_inv {d : Dk} {ops : List Opn} (h : (runR d ops).2.2 = 0) : checkD d = 0 ∧ checkD (runR d ops).1 = 0 ∧ (runR d ops).1.stable.length = d.stable.length ∧ (runR d ops).1.cache.length ≤ d.cache.length + tot ops := by
  unfold runR at h ⊢
  split at h
  · rename_i hc; exact absurd h hc
  · rename_i hc
    have hc : checkD d = 0 := Classical.not_not.1 hc
    rw [if_neg (by simp [hc])]
    cases hr : runD d ops 0 with
    | error x =>
      obtain ⟨i, e⟩ := x
      rw [hr] at h
      exact absurd h (runD_err _ _ _ _ _ hr)
    | ok x =>
      obtain ⟨d', n⟩ := x
      exact ⟨hc, runD_inv _ hc hr⟩
theorem tot_take (ops : List Opn) (n : Nat) : tot (ops.take n) ≤ tot ops := by
  have h : tot ops = tot (ops.take n) + tot (ops.drop n) := by
    conv => lhs; rw [← List.take_append_drop n ops]
    rw [tot, List.map_append, List.sum_append]; rfl
  omega
def ItrS (d : Dk) (ops : List Opn) (a : Int) (d' : Dk) (e : Nat) : Prop :=
  if checkD d ≠ 0 then e = checkD d ∧ d' = dk0
  else if a < 0 ∨ (ops.length : Int) < a then e = 2 ∧ d' = dk0
  else if (runR d (ops.take a.toNat)).2.2 ≠ 0 then e = (runR d (ops.take a.toNat)).2.2 ∧ d' = dk0
  else e = 0 ∧ Mix (runR d (ops.take a.toNat)).1 d'
def ItrR (d : Dk) (ops : List Opn) (a : Int) (n : Nat) (H : Hp) (V : List Nat) : CV → Hp → List Nat → Prop := fun r H' V' => ∃ (d' : Dk) (l' : List Int) (e : Nat), (ItrS d ops a d' e ∧ l'.length ≤ n) ∧ r = .tup [.agg (dkC d'), .sl .sh 1 (l'.map ic), er e] ∧ H' = H ∧ V' = V
theorem sInterrupt_cc (H : Hp) (V : List Nat) (d : Dk) (ops : List Opn) (a : Int) (tk : Tk) (l : List Int) (hl : d.stable.length ≤ 1000000) (hl2 : d.cache.length + tot ops ≤ 1000000) (hl3 : ops.length ≤ 1000000) (hll : l.length ≤ 1000000) (hs : SortOK) :
    CC Tryz.prog 39 [.agg (dkC d), opsV ops, ci a, .sl tk 1 (l.map ic)] H V (ItrR d ops a l.length H V) := by
  refine CC.of_swp Tryz.func39 rfl (by kernel_rfl) (by rw [Tryz.ntmps39]; exact len_le _ _ rfl) fun hok hokH => ?_
  clear hok
  have hd : DkS d := ⟨hl, by omega⟩
  have bad : ∀ (e : Nat) {H' : Hp} {V' : List Nat}, ItrS d ops a dk0 e → H'.take H.length = H → V'.take V.length = V → Fin H.length V.length (ItrR d ops a l.length H V) (.tup [.agg [.v (.slice none 0 0), .v (.slice none 0 0)], .v (.slice none 0 0), er e]) H' V' := fun e H' V' h1 h2 h3 =>
    Fin.pure (r' := .tup [.agg (dkC dk0), .sl .sh 1 (([] : List Int).map ic), er e]) ⟨dk0, [], e, ⟨h1, Nat.zero_le _⟩, rfl, rfl, rfl⟩ h2 h3 (.tup (.cons (.agg (.cons (.nil 8 (by decide)) (.cons (.nil 9 (by decide)) .nil))) (.cons (.nil 1 (by decide)) (.cons (.refl _) .nil)))) (by simp -implicitDefEqProofs [go_sem, dkC, okE_secs, okE_ints, okE_cach]) hokH
  refine sW ?_
  simp -implicitDefEqProofs [go_sem, args0]
  refine sW ?_
  simp -implicitDefEqProofs [go_sem]
  refine CC.mono (sCheck_cc _ _ d hd) ?_
  rintro _ _ _ ⟨rfl, rfl, rfl⟩
  simp -implicitDefEqProofs [go_sem]
  refine ⟨fun hc => ?_, fun hc => ?_⟩
  case refine_1 => exact bad _ (by rw [ItrS, if_pos hc]; exact ⟨rfl, rfl⟩) (by simp) (by simp)
  refine sW ?_
  simp -implicitDefEqProofs [go_sem]
  refine ⟨fun h1 => ⟨fun h2 => ?_, fun h2 => ?_⟩, fun h1 => ?_⟩
  case refine_2.refine_1 => exact bad 2 (by rw [ItrS, if_neg (by simp [hc]), if_pos (.inr h2)]; exact ⟨rfl, rfl⟩) (by simp) (by simp)
  case refine_2.refine_3 => exact bad 2 (by rw [ItrS, if_neg (by simp [hc]), if_pos (.inl h1)]; exact ⟨rfl, rfl⟩) (by simp) (by simp)
  obtain ⟨a, rfl⟩ := Int.eq_ofNat_of_zero_le h1
  have h2' : a ≤ ops.length := by omega
  refine SWp.seq (SWp.drawnT [] [10] (.s 0 .pl <| .s 1 .pl <| .s 2 .pl <| .s 3 .pl <| .c 4 <| .s 5 .pl <| .s 6 .pl <| .s 7 .pl <| .s 8 .pl <| .s 9 .pl <| .s 10 .st <| .s 11 .pl <| .s 12 .pl <| .n) (by kernel_rfl) (by kernel_rfl) ?_)
  simp -implicitDefEqProofs [go_sem, h2']
  have htt := tot_take ops a
  refine ⟨runV (runR d (ops.take a)), fun H V => ?_, ?_⟩
  · show CC Tryz.prog 25 [.agg (dkC d), .sl .sh 3 ((ops.map opC).take a)] H V _
    rw [← List.map_take]
    exact sRun_cc H V d (ops.take a) hl (by omega) (by rw [List.length_take]; omega)
  have hI : ∀ d' e, ItrS d ops a d' e = if (runR d (ops.take a)).2.2 ≠ 0 then e = (runR d (ops.take a)).2.2 ∧ d' = dk0 else e = 0 ∧ Mix (runR d (ops.take a)).1 d' := fun d' e => by
    rw [ItrS, if_neg (by simp [hc]), if_neg (by omega)]; rfl
  have hinv := fun h => runR_inv (d := d) (ops := ops.take a) h
  generalize hr : runR d (ops.take a) = r at *
  obtain ⟨d2, n2, e2⟩ := r
  simp -implicitDefEqProofs [go_sem, runV]
  refine sW ?_
  simp -implicitDefEqProofs [go_sem]
  refine ⟨fun he => bad e2 (by rw [hI, if_pos he]; exact ⟨rfl, rfl⟩) (by simp) (by simp), fun he => ?_⟩
  obtain ⟨i1, i2, i3, i4⟩ := hinv he
  dsimp only at i2 i3 i4
  refine sW ?_
  simp -implicitDefEqProofs [go_sem]
  refine CC.mono (sCrash_cc hs _ _ d2 tk l ⟨by omega, by omega⟩ i2 hll) ?_
  rintro _ _ _ ⟨d3, l3, ⟨hm, hl3'⟩, rfl, rfl, rfl⟩
  simp -implicitDefEqProofs [go_sem]
  refine sW ?_
  simp -implicitDefEqProofs [go_sem]
  refine Wp.s ?_
  simp -implicitDefEqProofs [go_sem]
  exact Fin.pure (r' := .tup [.agg (dkC d3), .sl .sh 1 (l3.map ic), er 0]) ⟨d3, l3, 0, ⟨by rw [hI, if_neg (by simp [he])]; exact ⟨rfl, hm⟩, hl3'⟩, rfl, rfl, rfl⟩ (by simp) (by simp) (.refl _) (by simp -implicitDefEqProofs [go_sem, dkC, okE_secs, okE_ints, okE_cach]) hokH
end Go.Proofs.YtbnkggbpocaaiaaGreatDoor
namespace Go.Proofs.YtbnkggbpocaaiaaGreatDoor
open Go.Proofs
theorem mem_puts {a : Nat} {l : List Sec} {c : Cach} (h : c ∈ puts a l) : ∃ i, l[i]? = some c.data ∧ c.pos = ((a + i : Nat) : Int) := by
  rw [puts] at h
  obtain ⟨p, hp, rfl⟩ := List.mem_map.1 h
  exact ⟨p.2, List.mem_zipIdx_iff_getElem?.1 hp, by simp⟩
theorem step_w {s : List Sec} {c : List Cach} {a : Nat} {l : List Sec} (hl : a + l.length ≤ s.length) : stepD ⟨s, c⟩ (opW a l) = .ok ⟨s, c ++ puts a l⟩ := by
  rw [stepD, if_neg (by simp [opW]), if_pos (by rfl)]
  show (match writeD ⟨s, c⟩ a l with | some d' => Except.ok d' | none => Except.error 2) = _
  rw [writeD, if_pos (inside_ok hl)]; rfl
theorem runD_wr : ∀ (ws : List Opn) (s : List Sec) (c : List Cach) (i : Nat), WsOk s.length ws → ∃ cs, runD ⟨s, c⟩ ws i = .ok (⟨s, c ++ cs⟩, i + ws.length) ∧ ∀ x ∈ cs, ∃ q : Nat, x.pos = (q : Int) ∧ InW ws q x.data
  | [], s, c, i, _ => ⟨[], by rw [runD, List.append_nil]; rfl, fun x hx => by cases hx⟩
  | o :: ws, s, c, i, h => by
    obtain ⟨a, l, rfl, hl⟩ := h o (by simp)
    obtain ⟨cs, h1, h2⟩ := runD_wr ws s (c ++ puts a l) (i + 1) (fun x hx => h x (by simp [hx]))
    refine ⟨puts a l ++ cs, ?_, fun x hx => ?_⟩
    · rw [runD, step_w hl]
      show runD _ ws (i + 1) = _
      rw [h1, List.append_assoc, List.length_cons, show i + 1 + ws.length = i + (ws.length + 1) by omega]
    · rcases List.mem_append.1 hx with hx | hx
      · obtain ⟨k, k1, k2⟩ := mem_puts hx
        exact ⟨a + k, k2, a, l, k, by simp, k1, rfl⟩
      · obtain ⟨q, q1, a', l', k, m1, m2, m3⟩ := h2 x hx
        exact ⟨q, q1, a', l', k, by simp [m1], m2, m3⟩
theorem runD_ws' : ∀ (ws : List Opn) (s : List Sec) (c : List Cach) (r : List Opn) (i : Nat), WsOk s.length ws → runD ⟨s, c⟩ (ws ++ opS :: r) i = runD ⟨execS (newestD ⟨s, c⟩) ws, []⟩ r (i + ws.length + 1)
  | [], s, c, r, i, _ => by rw [List.nil_append, runD_s]; rfl
  | o :: ws, s, c, r, i, h => by
    obtain ⟨a, l, rfl, hl⟩ := h o (by simp)
    rw [List.cons_append, runD, step_w hl]
    show runD _ (ws ++ opS :: r) (i + 1) = _
    rw [runD_ws' ws s _ r _ (fun x hx => h x (by simp [hx])), execS_w, List.length_cons]
    have : newestD ⟨s, c ++ puts a l⟩ = patS (newestD ⟨s, c⟩) a l := by rw [newestD, List.foldl_append]; rfl
    rw [this, show i + 1 + ws.length + 1 = i + (ws.length + 1) + 1 by omega]
theorem runD_shift : ∀ (os : List Opn) (d : Dk) (i k : Nat), runD d os (i + k) = match runD d os i with | .ok (d', n) => .ok (d', n + k) | .error (n, e) => .error (n + k, e)
  | [], d, i, k => rfl
  | o :: os, d, i, k => by
    rw [runD, runD]
    cases stepD d o with
    | error e => rfl
    | ok d' =>
      dsimp only
      rw [show i + k + 1 = i + 1 + k by omega, runD_shift os d' (i + 1) k]
theorem mix_nil {s : List Sec} {d' : Dk} (h : Mix ⟨s, []⟩ d') : d' = ⟨s, []⟩ := by
  obtain ⟨st, ca⟩ := d'
  obtain ⟨h1, h2, h3⟩ := h
  dsimp only at h1 h2 h3
  subst h1
  congr 1
  refine List.ext_getElem h2 fun i a b => ?_
  rcases h3 i a with ⟨_, e⟩ | ⟨c, hc, -⟩
  · exact e
  · cases hc
theorem itr_w {s : List Sec} {ws : List Opn} (hs : s.length ≤ 4096) (hw : WsOk s.length ws) {a : Nat} (ha : a ≤ ws.length + 1) {d' : Dk} {e : Nat} (h : ItrS ⟨s, []⟩ (ws ++ [opS]) a d' e) :
    e = 0 ∧ ∃ s', d' = ⟨s', []⟩ ∧ MixW s (InW ws) s' ∧ (a = ws.length + 1 → s' = execS s ws) := by
  have hc := chk_nil hs
  rw [ItrS, if_neg (by simp [hc]), if_neg (by simp; omega), Int.toNat_natCast] at h
  by_cases ha2 : a = ws.length + 1
  · rw [List.take_of_length_le (by simp; omega), runR_exec hs (fun o ho => by
      rcases List.mem_append.1 ho with ho | ho
      · exact hw.ok o ho
      · rw [List.mem_singleton] at ho; exact .inl ho) (.inr (by simp)), if_neg (by simp), execS_app, execS_s] at h
    refine ⟨h.1, execS s ws, mix_nil h.2, exec_mix ws s hw, fun _ => rfl⟩
  · have hw' : WsOk s.length (ws.take a) := fun o ho => hw o (List.mem_of_mem_take ho)
    obtain ⟨cs, h1, h2⟩ := runD_wr (ws.take a) s [] 0 hw'
    have hr : runR ⟨s, []⟩ (ws.take a) = (⟨s, cs⟩, 0 + (ws.take a).length, 0) := by rw [runR, if_neg (by simp [hc]), h1]; rfl
    rw [List.take_append_of_le_length (by omega), hr, if_neg (by simp)] at h
    obtain ⟨g0, g1, g2, g3⟩ := h
    obtain ⟨st, ca⟩ := d'
    dsimp only at g1 g2 g3
    subst g1
    refine ⟨g0, st, rfl, ⟨g2, fun q => ?_⟩, fun e => absurd e ha2⟩
    by_cases hq : q < st.length
    · rcases g3 q hq with ⟨hq', e⟩ | ⟨c, hc', e1, e2⟩
      · left; rw [List.getElem?_eq_getElem hq, List.getElem?_eq_getElem hq', e]
      · right
        obtain ⟨q', e3, a', l', i, m1, m2, m3⟩ := h2 c hc'
        refine ⟨c.data, ⟨a', l', i, List.mem_of_mem_take m1, m2, by omega⟩, by rw [List.getElem?_eq_getElem hq, e2]⟩
    · left; rw [List.getElem?_eq_none (by omega), List.getElem?_eq_none (by omega)]
theorem itr_nil {s : List Sec} (hs : s.length ≤ 4096) {d' : Dk} {e : Nat} (h : ItrS ⟨s, []⟩ [] 0 d' e) : e = 0 ∧ d' = ⟨s, []⟩ := by
  have hr : runR ⟨s, []⟩ [] = (⟨s, []⟩, 0, 0) := by rw [runR, if_neg (by simp [chk_nil hs])]; rfl
  rw [ItrS, if_neg (by simp [chk_nil hs]), if_neg (by simp), show (([] : List Opn).take (0 : Int).toNat) = [] from rfl, hr, if_neg (by simp)] at h
  exact ⟨h.1, mix_nil h.2⟩
theorem itr_snd {s : List Sec} {ws r : List Opn} (hs : s.length ≤ 4096) (hw : WsOk s.length ws) {a : Nat} {d' : Dk} {e : Nat} (h : ItrS ⟨s, []⟩ (ws ++ opS :: r) ((ws.length + 1 + a : Nat) : Int) d' e) (ha : a ≤ r.length) : ItrS ⟨execS s ws, []⟩ r (a : Int) d' e := by
  have hc := chk_nil hs
  have hc' : checkD ⟨execS s ws, []⟩ = 0 := chk_nil (by rw [execS_len]; exact hs)
  rw [ItrS, if_neg (by simp [hc]), if_neg (by simp; omega), Int.toNat_natCast] at h
  rw [ItrS, if_neg (by simp [hc']), if_neg (by omega), Int.toNat_natCast]
  have e1 : (ws ++ opS :: r).take (ws.length + 1 + a) = ws ++ opS :: r.take a := by
    rw [List.take_append, List.take_of_length_le (by omega), show ws.length + 1 + a - ws.length = a + 1 by omega, List.take_succ_cons]
  have e2 : (runR ⟨s, []⟩ (ws ++ opS :: r.take a)).1 = (runR ⟨execS s ws, []⟩ (r.take a)).1 ∧ (runR ⟨s, []⟩ (ws ++ opS :: r.take a)).2.2 = (runR ⟨execS s ws, []⟩ (r.take a)).2.2 := by
    have e3 : runR ⟨s, []⟩ (ws ++ opS :: r.take a) = match runD ⟨execS s ws, []⟩ (r.take a) (0 + (ws.length + 1)) with | .ok (d', n) => (d', n, 0) | .error (i, e) => (dk0, i, e) := by
      rw [runR, if_neg (by simp [hc]), runD_ws' ws s [] _ 0 hw, Nat.add_assoc]; rfl
    have e4 : runR ⟨execS s ws, []⟩ (r.take a) = match runD ⟨execS s ws, []⟩ (r.take a) 0 with | .ok (d', n) => (d', n, 0) | .error (i, e) => (dk0, i, e) := by
      rw [runR, if_neg (by simp [hc'])]; rfl
    rw [e3, e4, runD_shift]
    cases runD ⟨execS s ws, []⟩ (r.take a) 0 with
    | ok x => exact ⟨rfl, rfl⟩
    | error x => exact ⟨rfl, rfl⟩
  rw [e1, e2.1, e2.2] at h
  exact h
theorem itr_fst {s : List Sec} {ws r : List Opn} (hs : s.length ≤ 4096) (hw : WsOk s.length ws) {a : Nat} (ha : a ≤ ws.length) {d' : Dk} {e : Nat} (h : ItrS ⟨s, []⟩ (ws ++ opS :: r) a d' e) :
    e = 0 ∧ ∃ s', d' = ⟨s', []⟩ ∧ MixW s (InW ws) s' := by
  have : ItrS ⟨s, []⟩ (ws ++ [opS]) a d' e := by
    have hc := chk_nil hs
    rw [ItrS, if_neg (by simp [hc]), if_neg (by simp; omega), Int.toNat_natCast, List.take_append_of_le_length ha] at h
    rw [ItrS, if_neg (by simp [hc]), if_neg (by simp; omega), Int.toNat_natCast, List.take_append_of_le_length ha]
    exact h
  obtain ⟨h1, s', h2, h3, -⟩ := itr_w hs hw (by omega) this
  exact ⟨h1, s', h2, h3⟩
theorem tot_le {ops : List Opn} {n : Nat} (h : ∀ o ∈ ops, o.data.length ≤ n) : tot ops ≤ ops.length * n := by
  induction ops with
  | nil => simp [tot]
  | cons o ops ih =>
    have := ih fun x hx => h x (by simp [hx])
    have e : tot (o :: ops) = o.data.length + tot ops := by simp [tot]
    have := h o (by simp)
    rw [e, List.length_cons, Nat.succ_mul]; omega
theorem WsOk.dat {n : Nat} {ws : List Opn} (h : WsOk n ws) : ∀ o ∈ ws, o.data.length ≤ n := fun o ho => by
  obtain ⟨a, l, rfl, hl⟩ := h o ho
  show l.length ≤ n
  omega
theorem WsOk.tot {n : Nat} {ws : List Opn} (h : WsOk n ws) : Go.Proofs.YtbnkggbpocaaiaaGreatDoor.tot (ws ++ [opS]) ≤ (ws.length + 1) * n := by
  have := tot_le (ops := ws ++ [opS]) (n := n) fun o ho => by
    rcases List.mem_append.1 ho with ho | ho
    · exact h.dat o ho
    · rw [List.mem_singleton] at ho; rw [ho]; exact Nat.zero_le _
  rwa [List.length_append, List.length_singleton] at this
theorem WsOk.run {s : List Sec} {ws : List Opn} (hs : s.length ≤ 4096) (h : WsOk s.length ws) : runR ⟨s, []⟩ (ws ++ [opS]) = (⟨execS s ws, []⟩, ws.length + 1, 0) := by
  rw [runR_exec hs (fun o ho => by
    rcases List.mem_append.1 ho with ho | ho
    · exact h.ok o ho
    · rw [List.mem_singleton] at ho; exact .inl ho) (.inr (by simp)), execS_app, execS_s, List.length_append, List.length_singleton]; rfl
theorem run_nil {s : List Sec} (hs : s.length ≤ 4096) : runR ⟨s, []⟩ [] = (⟨s, []⟩, 0, 0) := by rw [runR, if_neg (by simp [chk_nil hs])]; rfl
end Go.Proofs.YtbnkggbpocaaiaaGreatDoor
