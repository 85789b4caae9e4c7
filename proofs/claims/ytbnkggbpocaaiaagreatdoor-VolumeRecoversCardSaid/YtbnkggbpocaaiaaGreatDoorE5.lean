import Derived.Test.YtbnkggbpocaaiaaGreatDoorE4
import Derived.Test.YtbnkggbpocaaiaaGreatDoorE3
set_option linter.unusedSimpArgs false
set_option linter.unusedVariables false
set_option linter.unusedSectionVars false
namespace Go.Proofs.YtbnkggbpocaaiaaGreatDoor
open Go.Proofs
theorem putSector_cc (H : Hp) (V : List Nat) (k v : Nat) (l : List UInt8) (s : Sec) (hv : V[k]? = some v) (hl : l.length ≤ 1000000000) :
    CC Tryz.prog 175 [.sl (.own k v) 1 (bs l), .agg (secC s)] H V (Ow k 1 (bs (l ++ s.val)) H V) := by
  have hk : k < V.length := (List.getElem?_eq_some_iff.1 hv).1
  refine CC.of_swp Tryz.func175 rfl (by kernel_rfl) (by rw [Tryz.ntmps175]; exact len_le _ _ rfl) fun hok hokH => Wp.s ?_
  clear hok
  simp -implicitDefEqProofs [go_sem, args0, hv]
  have := s.len
  exact ⟨by omega, Fin.ownB hk rfl hokH (by simp)⟩
theorem flat_le {α : Type} {f : α → List UInt8} {xs : List α} {i : Nat} (h : i < xs.length) : ((xs.take i).flatMap f).length + (f xs[i]).length ≤ (xs.flatMap f).length := by
  have h1 := flat_take (f := f) h
  have h2 : xs.flatMap f = (xs.take (i + 1)).flatMap f ++ (xs.drop (i + 1)).flatMap f := by rw [← List.flatMap_append, List.take_append_drop]
  rw [h2, h1]
  simp only [List.length_append]; omega
theorem secs_len : ∀ l : List Sec, (l.flatMap Sec.val).length = 8 * l.length
  | [] => rfl
  | s :: l => by rw [List.flatMap_cons, List.length_append, secs_len l, s.len, List.length_cons]; omega
theorem encSecs_len (l : List Sec) : (encSecs l).length = (enc l.length).length + 8 * l.length := by rw [encSecs, List.length_append, secs_len]
theorem putSecs_cc (H : Hp) (V : List Nat) (k v : Nat) (tk : Tk) (l : List UInt8) (xs : List Sec) (hv : V[k]? = some v) (hl : l.length + 8 * xs.length ≤ 900000000) :
    CC Tryz.prog 174 [.sl (.own k v) 1 (bs l), .sl tk 8 (xs.map secC), .fn 175 []] H V (Ow k 1 (bs (l ++ encSecs xs)) H V) := by
  have hk : k < V.length := (List.getElem?_eq_some_iff.1 hv).1
  have hel := enc_len xs.length
  refine CC.of_swp Tryz.func174 rfl (by kernel_rfl) (by rw [Tryz.ntmps174]; exact len_le _ _ rfl) fun hok hokH => ?_
  simp -implicitDefEqProofs [go_sem, okV_slt] at hok
  refine sW ?_
  simp -implicitDefEqProofs [go_sem, args0]
  refine sW ?_
  simp -implicitDefEqProofs [go_sem]
  refine CC.mono (putInt_cc _ _ _ _ _ _ hv (by omega)) ?_
  rintro _ _ _ ⟨v', rfl, rfl, rfl⟩
  try simp -implicitDefEqProofs [go_sem]
  refine SWp.join (α := Nat) (fun v => ([(0, .sl (.own k v) 1 (bs (l ++ encSecs xs)))], H, V.set k v)) (fun _ => True) ?_ ?_
  · refine sW ?_
    simp -implicitDefEqProofs [go_sem]
    refine SWp.block ?_
    refine SWp.loop (α := Nat × Nat) (fun x => ([(0, .sl (.own k x.1) 1 (bs (l ++ enc xs.length ++ (xs.take x.2).flatMap Sec.val))), (2, .fn 175 []), (13, .sl tk 8 (xs.map secC)), (14, ci xs.length), (15, ci x.2)], H, V.set k x.1)) (fun x => x.2 ≤ xs.length) (fun x => xs.length - x.2) (v', 0) (Nat.zero_le _) (Sh.forget (by simp -implicitDefEqProofs [go_sem]) rfl rfl) ?_
    rintro ⟨v1, i⟩ hi
    dsimp only at hi ⊢
    have hlen := flat_len (f := Sec.val) (fun x => Nat.le_of_eq x.len) (xs.take i)
    rw [List.length_take] at hlen
    refine Wp.s ?_
    simp -implicitDefEqProofs [go_sem]
    refine ⟨fun h => ⟨h, ?_⟩, fun h => ⟨v1, Sh.forget ?_ rfl rfl⟩⟩
    · refine CC.mono (putSector_cc _ _ _ _ _ _ (by simp [hk]) (by simp only [List.length_append]; omega)) ?_
      rintro _ _ _ ⟨v2, rfl, rfl, rfl⟩
      simp -implicitDefEqProofs [go_sem]
      refine ⟨v2, i + 1, by omega, by omega, Sh.back ?_ rfl (by simp) (by simp -implicitDefEqProofs [go_sem, okV_slt, hok]) (by simpa using hokH) (by simp) (by simp)⟩
      simp -implicitDefEqProofs [go_sem, wrap_succ (show i ≤ 1000000000 by omega), flat_take h]
    · simp -implicitDefEqProofs [go_sem, encSecs]
      rw [List.take_of_length_le h]; exact .refl _
  · rintro v1 -
    refine Wp.s ?_
    simp -implicitDefEqProofs [go_sem]
    exact Fin.ownB hk rfl hokH (by simp)


theorem putWrite_cc (H : Hp) (V : List Nat) (k v : Nat) (l : List UInt8) (x : Wr) (hv : V[k]? = some v) (hl : l.length + (encWr x).length ≤ 900000000) :
    CC Tryz.prog 121 [.sl (.own k v) 1 (bs l), .agg (wrC x)] H V (Ow k 1 (bs (l ++ encWr x)) H V) := by
  have hk : k < V.length := (List.getElem?_eq_some_iff.1 hv).1
  simp only [encWr, List.length_append, encSecs_len] at hl
  refine CC.of_swp Tryz.func121 rfl (by kernel_rfl) (by rw [Tryz.ntmps121]; exact len_le _ _ rfl) fun hok hokH => ?_
  clear hok
  refine sW ?_
  simp -implicitDefEqProofs [go_sem, args0]
  refine SWp.seq (SWp.drawnL [0, 1, 2, 4, 5, 7, 8, 3, 6, 9, 10] (by kernel_rfl) (by kernel_rfl) rfl ?_)
  simp -implicitDefEqProofs [go_sem]
  refine CC.mono (putInt_cc _ _ _ _ _ _ hv (by omega)) ?_
  rintro _ _ _ ⟨v', rfl, rfl, rfl⟩
  try simp -implicitDefEqProofs [go_sem]
  refine CC.mono (putInt_cc _ _ _ _ _ _ (by simp [hk]) (by simp only [List.length_append]; omega)) ?_
  rintro _ _ _ ⟨v', rfl, rfl, rfl⟩
  try simp -implicitDefEqProofs [go_sem]
  refine CC.mono (putSecs_cc _ _ _ _ _ _ _ (by simp [hk]) (by simp only [List.length_append]; omega)) ?_
  rintro _ _ _ ⟨v', rfl, rfl, rfl⟩
  simp -implicitDefEqProofs [go_sem]
  refine Wp.s ?_
  simp -implicitDefEqProofs [go_sem]
  exact Fin.ownB hk (by simp [encWr]) hokH (by simp)

theorem putWrites_cc (H : Hp) (V : List Nat) (k v : Nat) (tk : Tk) (l : List UInt8) (xs : List Wr) (hv : V[k]? = some v) (hx : xs.length ≤ 900000000) (hl : l.length + (encWrs xs).length ≤ 900000000) :
    CC Tryz.prog 119 [.sl (.own k v) 1 (bs l), .sl tk 3 (xs.map wrC), .fn 121 []] H V (Ow k 1 (bs (l ++ encWrs xs)) H V) := by
  have hk : k < V.length := (List.getElem?_eq_some_iff.1 hv).1
  have hel := enc_len xs.length
  simp only [encWrs, List.length_append] at hl
  refine CC.of_swp Tryz.func119 rfl (by kernel_rfl) (by rw [Tryz.ntmps119]; exact len_le _ _ rfl) fun hok hokH => ?_
  simp -implicitDefEqProofs [go_sem, okV_slt] at hok
  refine sW ?_
  simp -implicitDefEqProofs [go_sem, args0]
  refine sW ?_
  simp -implicitDefEqProofs [go_sem]
  refine CC.mono (putInt_cc _ _ _ _ _ _ hv (by omega)) ?_
  rintro _ _ _ ⟨v', rfl, rfl, rfl⟩
  try simp -implicitDefEqProofs [go_sem]
  refine SWp.join (α := Nat) (fun v => ([(0, .sl (.own k v) 1 (bs (l ++ encWrs xs)))], H, V.set k v)) (fun _ => True) ?_ ?_
  · refine sW ?_
    simp -implicitDefEqProofs [go_sem]
    refine SWp.block ?_
    refine SWp.loop (α := Nat × Nat) (fun x => ([(0, .sl (.own k x.1) 1 (bs (l ++ enc xs.length ++ (xs.take x.2).flatMap encWr))), (2, .fn 121 []), (13, .sl tk 3 (xs.map wrC)), (14, ci xs.length), (15, ci x.2)], H, V.set k x.1)) (fun x => x.2 ≤ xs.length) (fun x => xs.length - x.2) (v', 0) (Nat.zero_le _) (Sh.forget (by simp -implicitDefEqProofs [go_sem]) rfl rfl) ?_
    rintro ⟨v1, i⟩ hi
    dsimp only at hi ⊢
    refine Wp.s ?_
    simp -implicitDefEqProofs [go_sem]
    refine ⟨fun h => ⟨h, ?_⟩, fun h => ⟨v1, Sh.forget ?_ rfl rfl⟩⟩
    · have hone := flat_le (f := encWr) h
      refine CC.mono (putWrite_cc _ _ _ _ _ _ (by simp [hk]) (by simp only [List.length_append]; omega)) ?_
      rintro _ _ _ ⟨v2, rfl, rfl, rfl⟩
      simp -implicitDefEqProofs [go_sem]
      refine ⟨v2, i + 1, by omega, by omega, Sh.back ?_ rfl (by simp) (by simp -implicitDefEqProofs [go_sem, okV_slt, hok]) (by simpa using hokH) (by simp) (by simp)⟩
      simp -implicitDefEqProofs [go_sem, wrap_succ (show i ≤ 1000000000 by omega), flat_take h]
    · simp -implicitDefEqProofs [go_sem, encWrs]
      rw [List.take_of_length_le h]; exact .refl _
  · rintro v1 -
    refine Wp.s ?_
    simp -implicitDefEqProofs [go_sem]
    exact Fin.ownB hk rfl hokH (by simp)

end Go.Proofs.YtbnkggbpocaaiaaGreatDoor
namespace Go.Proofs.YtbnkggbpocaaiaaGreatDoor
open Go.Proofs
section
variable {P : Program} {H : Hp} {V : List Nat}
theorem CC.args {f : FuncId} {xs ys : List CV} {R : CV → Hp → List Nat → Prop} (h : LeL xs ys) (hc : CC P f ys H V R) : CC P f xs H V R :=
  ⟨hc.1, fun m w us hi hu => hc.2 m w us hi (LeL.rel h hu)⟩
end
theorem LeL.self : ∀ l : List CV, LeL l l
  | [] => .nil
  | c :: l => .cons (.refl c) (LeL.self l)
@[go_sem] theorem sec_snoc (l : List UInt8) (s : Sec) (j : Nat) (h : j < (secC s).length) : bs l ++ [(secC s)[j].cells] = bs (l ++ [s.val[j]'(by simpa [s.len] using h)]) := by
  simp only [bs, secC, List.getElem_map, List.map_append]; rfl
@[go_sem] theorem sec_cells (s : Sec) (j : Nat) (h : j < (secC s).length) : (secC s)[j].cells.length = 1 ∧ allOne (secC s)[j].cells = true := by
  simp only [secC, List.getElem_map]; exact ⟨rfl, rfl⟩
end Go.Proofs.YtbnkggbpocaaiaaGreatDoor
namespace Go.Proofs.YtbnkggbpocaaiaaGreatDoor
open Go.Proofs
theorem and127 (x : UInt8) : bitop .and .u8 (x.toNat : Int) 127 = ((x.toNat % 128 : Nat) : Int) := by
  have h : (List.range 256).all (fun n => bitop .and .u8 (n : Int) 127 == ((n % 128 : Nat) : Int)) = true := by decide +kernel
  have h1 := List.all_eq_true.1 h x.toNat (List.mem_range.2 x.toNat_lt)
  exact eq_of_beq h1
theorem and128 (x : UInt8) : bitop .and .u8 (x.toNat : Int) 128 = if x.toNat < 128 then 0 else 128 := by
  have h : (List.range 256).all (fun n => bitop .and .u8 (n : Int) 128 == if n < 128 then 0 else 128) = true := by decide +kernel
  have h1 := List.all_eq_true.1 h x.toNat (List.mem_range.2 x.toNat_lt)
  exact eq_of_beq h1
theorem wrap_nat {n : Nat} (h : n < 9223372036854775808) : IntKind.i64.wrap (n : Int) = (n : Int) := IntWalk.i64_in _ ⟨by omega, by omega⟩
theorem pow128 (i : Nat) : 128 ^ i = 2 ^ (7 * i) := by rw [Nat.pow_mul]
theorem part_lt {a i : Nat} (hi : i < 8) (ha : a < 128) : a * 128 ^ i < 72057594037927936 := by
  have h2 : 128 ^ i ≤ 128 ^ 7 := Nat.pow_le_pow_right (by omega) (by omega)
  have h3 : a * 128 ^ i ≤ 127 * 128 ^ 7 := Nat.mul_le_mul (by omega) h2
  have h4 : 127 * 128 ^ 7 < 72057594037927936 := by decide
  omega
theorem or_shift {n a i : Nat} (hi : i < 8) (hn : n < 128 ^ i) (ha : a < 128) : bitop .or .i64 (n : Int) (shl .i64 (a : Int) (IntKind.i64.wrap (7 * (i : Int)))) = ((n + a * 128 ^ i : Nat) : Int) := by
  have h1 := part_lt hi ha
  have h2 : 128 ^ i ≤ 128 ^ 7 := Nat.pow_le_pow_right (by omega) (by omega)
  have h3 : (128 : Nat) ^ 7 = 562949953421312 := by decide
  have e0 : IntKind.i64.wrap (7 * (i : Int)) = ((7 * i : Nat) : Int) := by rw [IntWalk.i64_in _ ⟨by omega, by omega⟩]; omega
  have e1 : shl .i64 (a : Int) (IntKind.i64.wrap (7 * (i : Int))) = ((a * 128 ^ i : Nat) : Int) := by
    rw [e0, shl]
    have hb : min ((7 * i : Nat) : Int).toNat IntKind.i64.bits = 7 * i := by
      have : IntKind.i64.bits = 64 := rfl
      omega
    rw [hb]
    have hc : ((a : Int) * 2 ^ (7 * i)) = ((a * 128 ^ i : Nat) : Int) := by rw [pow128]; simp
    rw [hc, wrap_nat (by omega)]
  rw [e1]
  have e2 : (BitVec.ofInt 64 (n : Int) ||| BitVec.ofInt 64 ((a * 128 ^ i : Nat) : Int)).toNat = n + a * 128 ^ i := by
    rw [BitVec.toNat_or, BitVec.ofInt_natCast, BitVec.ofInt_natCast, BitVec.toNat_ofNat, BitVec.toNat_ofNat, Nat.mod_eq_of_lt (by omega), Nat.mod_eq_of_lt (by omega), Nat.or_comm, pow128, ← Nat.shiftLeft_eq, ← Nat.shiftLeft_add_eq_or_of_lt (by rw [← pow128]; exact hn), Nat.add_comm]
  have e3 : bitop .or .i64 (n : Int) ((a * 128 ^ i : Nat) : Int) = IntKind.i64.wrap ((BitVec.ofInt 64 (n : Int) ||| BitVec.ofInt 64 ((a * 128 ^ i : Nat) : Int)).toNat : Int) := rfl
  rw [e3, e2, wrap_nat (by omega)]

def numG : Nat → Nat → Nat → List UInt8 → Except Nat (Nat × List UInt8)
  | 0, _, _, _ => .error 3
  | _ + 1, _, _, [] => .error 10
  | f + 1, i, n, b :: r =>
    if b.toNat < 128 then
      if (b.toNat = 0 ∧ 0 < i) ∨ 9007199254740991 < n + b.toNat * 128 ^ i then .error 3 else .ok (n + b.toNat * 128 ^ i, r)
    else numG f (i + 1) (n + b.toNat % 128 * 128 ^ i) r
def number (src : List UInt8) : Except Nat (Nat × List UInt8) := numG 8 0 0 src

def Cur {α : Type} (b : Nat) (tk : Tk) (val : α → CV) (zero : CV) (x : Except Nat (α × List UInt8)) (H : Hp) (V : List Nat) : CV → Hp → List Nat → Prop := fun r H' V' =>
  match x with
  | .ok (a, s) => r = .tup [val a, Go.Proofs.YtbnkggbpocaaiaaGreatDoor.er 0] ∧ H.set b (some [.sl tk 1 (bs s)]) = H' ∧ V = V'
  | .error e => r = .tup [zero, Go.Proofs.YtbnkggbpocaaiaaGreatDoor.er e] ∧ H = H' ∧ V = V'
section
variable {H : Hp} {V : List Nat} {b : Nat} {tk : Tk} {src : List UInt8}
theorem Fin.curErr {α : Type} {val : α → CV} {zero z c : CV} {x : Except Nat (α × List UInt8)} {e : Nat} (hx : x = .error e) (hz : okV H.length V.length zero) (h1 : z = zero) (h2 : c = Go.Proofs.YtbnkggbpocaaiaaGreatDoor.er e) (hokH : ∀ (b : Nat) cs, H[b]? = some (some cs) → okL H.length V.length cs) {H' : Hp} {V' : List Nat} (hH : H'.take H.length = H) (hV : V'.take V.length = V) :
    Fin H.length V.length (Cur b tk val zero x H V) (.tup [z, c]) H' V' := by
  subst hx h1 h2
  exact Fin.pure (by exact ⟨rfl, rfl, rfl⟩) hH hV (.refl _) (by simp -implicitDefEqProofs [go_sem, hz]) hokH
theorem ok_set {jb jv : Nat} {c : List CV} (hc : okL jb jv c) (hokH : ∀ (b : Nat) cs, H[b]? = some (some cs) → okL jb jv cs) (b' : Nat) (cs : List CV) (h : (H.set b (some c))[b']? = some (some cs)) : okL jb jv cs := by
  by_cases hb : b = b'
  · subst hb
    by_cases hl : b < H.length
    · rw [List.getElem?_set_self hl] at h; cases h; exact hc
    · rw [List.set_eq_of_length_le (by omega)] at h; exact hokH _ _ h
  · rw [List.getElem?_set_ne hb] at h; exact hokH _ _ h
theorem tk_of_box {n m sz : Nat} {xs : List (List CV)} {r : List CV} (hb : H[b]? = some (some (.sl tk sz xs :: r))) (hokH : ∀ (b : Nat) cs, H[b]? = some (some cs) → okL n m cs) : okTk m tk := by
  have := hokH b _ hb
  rw [okL, okV] at this; exact this.1.1
theorem Fin.curOk {α : Type} {val : α → CV} {zero z c : CV} {x : Except Nat (α × List UInt8)} {a : α} {s : List UInt8} (hx : x = .ok (a, s)) (hz : okV H.length V.length (val a)) (h1 : Le z (val a)) (h2 : c = Go.Proofs.YtbnkggbpocaaiaaGreatDoor.er 0) (ht : okTk V.length tk) (hokH : ∀ (b : Nat) cs, H[b]? = some (some cs) → okL H.length V.length cs) {H' : Hp} {V' : List Nat} (hH : H'.take H.length = H.set b (some [.sl tk 1 (bs s)])) (hV : V'.take V.length = V) :
    Fin H.length V.length (Cur b tk val zero x H V) (.tup [z, c]) H' V' := by
  subst hx h2
  exact Fin.pure (r' := .tup [val a, Go.Proofs.YtbnkggbpocaaiaaGreatDoor.er 0]) (by exact ⟨rfl, rfl, rfl⟩) hH hV (.tup (.cons h1 (.cons (.refl _) .nil))) (by simp -implicitDefEqProofs [go_sem, hz]) (ok_set (by simp -implicitDefEqProofs [go_sem, okV_slt, ht]) hokH)
end
set_option maxHeartbeats 1000000 in
theorem number_cc (H : Hp) (V : List Nat) (b : Nat) (tk : Tk) (src : List UInt8) (hb : H[b]? = some (some [.sl tk 1 (bs src)])) :
    CC Tryz.prog 205 [.ptr b 0] H V (Cur b tk (fun n : Nat => ci n) (ci 0) (number src) H V) := by
  refine CC.of_swp Tryz.func205 rfl (by kernel_rfl) (by rw [Tryz.ntmps205]; exact len_le _ _ rfl) fun hok hokH => ?_
  refine sW ?_
  simp -implicitDefEqProofs [go_sem, args0]
  refine sW ?_
  simp -implicitDefEqProofs [go_sem]
  refine SWp.join (α := Unit) (fun _ => ([], H, V)) (fun _ => number src = .error 3) ?_ ?_
  · refine sW ?_
    simp -implicitDefEqProofs [go_sem]
    refine SWp.block ?_
    refine SWp.loop (α := Nat × Nat) (fun x => ([(0, .ptr b 0), (4, ci x.1), (7, ci x.2)], H, V)) (fun x => x.2 ≤ 8 ∧ x.1 < 128 ^ x.2 ∧ numG (8 - x.2) x.2 x.1 (src.drop x.2) = number src) (fun x => 8 - x.2) (0, 0) ⟨by omega, by simp, rfl⟩ (Sh.forget (by simp -implicitDefEqProofs [go_sem]) rfl rfl) ?_
    rintro ⟨n, i⟩ ⟨hi, hn, h⟩
    dsimp only at hi hn h ⊢
    by_cases h8 : i < 8
    · by_cases hs : i < src.length
      · rw [show 8 - i = (7 - i) + 1 by omega, List.drop_eq_getElem_cons hs, numG] at h
        have e' : IntKind.i64.wrap ((src[i].toNat : Int) % 128) = ((src[i].toNat % 128 : Nat) : Int) := by
          rw [show (src[i].toNat : Int) % 128 = ((src[i].toNat % 128 : Nat) : Int) by omega]; exact wrap_nat (by omega)
        have e : bitop .or .i64 n (shl .i64 (IntKind.i64.wrap ((src[i].toNat : Int) % 128)) (IntKind.i64.wrap (7 * (i : Int)))) = ((n + src[i].toNat % 128 * 128 ^ i : Nat) : Int) := by
          rw [e']; exact or_shift h8 hn (by omega)
        have e7 : 0 ≤ IntKind.i64.wrap (7 * (i : Int)) := by rw [IntWalk.i64_in _ ⟨by omega, by omega⟩]; omega
        have hlt : n + src[i].toNat % 128 * 128 ^ i < 128 ^ (i + 1) := by
          have h1 : src[i].toNat % 128 * 128 ^ i ≤ 127 * 128 ^ i := Nat.mul_le_mul_right _ (by omega)
          rw [Nat.pow_succ]; omega
        have hmod : src[i].toNat < 128 → src[i].toNat % 128 = src[i].toNat := fun h => Nat.mod_eq_of_lt h
        generalize hN : n + src[i].toNat % 128 * 128 ^ i = N at *
        refine Wp.s ?_
        simp -implicitDefEqProofs [go_sem, hbx_some hb, and127, and128, e, e7, hs, wrap_succ (show i ≤ 1000000000 by omega), show (i : Int) < 8 by omega]
        have hT := tk_of_box hb hokH
        refine ⟨fun hq => absurd hq (by omega), fun h1 => ?_, fun h1 => ⟨fun h2 => ⟨fun h3 => ⟨fun h4 => ?_, fun h4 => ⟨by omega, by omega, ?_⟩⟩, fun h3 => ?_⟩, fun h2 => ⟨fun h4 => ?_, fun h4 => ⟨by omega, by omega, ?_⟩⟩⟩⟩
        · rw [if_neg (by omega)] at h
          refine ⟨N, i + 1, ⟨by omega, hlt, ?_⟩, by omega, Sh.forget (by simp -implicitDefEqProofs [go_sem]) rfl rfl⟩
          rw [show 8 - (i + 1) = 7 - i by omega]; exact h
        all_goals
          rw [if_pos h1, ← hmod h1, hN] at h
        · rw [if_pos (by omega)] at h
          exact Fin.curErr h.symm (by simp -implicitDefEqProofs [go_sem]) rfl rfl hokH (by simp) (by simp)
        · rw [if_neg (by omega)] at h
          exact Fin.curOk h.symm (by simp -implicitDefEqProofs [go_sem]) (.refl _) rfl hT hokH (by simp) (by simp)
        · rw [if_pos (by have := hmod h1; omega)] at h
          exact Fin.curErr h.symm (by simp -implicitDefEqProofs [go_sem]) rfl rfl hokH (by simp) (by simp)
        · rw [if_pos (by omega)] at h
          exact Fin.curErr h.symm (by simp -implicitDefEqProofs [go_sem]) rfl rfl hokH (by simp) (by simp)
        · rw [if_neg (by have := hmod h1; omega)] at h
          exact Fin.curOk h.symm (by simp -implicitDefEqProofs [go_sem]) (.refl _) rfl hT hokH (by simp) (by simp)
      · rw [show 8 - i = (7 - i) + 1 by omega, List.drop_eq_nil_of_le (by omega), numG] at h
        refine Wp.s ?_
        simp -implicitDefEqProofs [go_sem, hbx_some hb, show (i : Int) < 8 by omega, show src.length ≤ i by omega]
        exact Fin.curErr h.symm (by simp -implicitDefEqProofs [go_sem]) rfl rfl hokH (by simp) (by simp)
    · rw [show 8 - i = 0 by omega, numG] at h
      refine Wp.s ?_
      simp -implicitDefEqProofs [go_sem, show ¬ ((i : Int) < 8) by omega]
      exact ⟨h.symm, Sh.forget (by simp -implicitDefEqProofs [go_sem]) rfl rfl⟩
  · rintro _ he
    refine Wp.s ?_
    simp -implicitDefEqProofs [go_sem]
    exact Fin.curErr he (by simp -implicitDefEqProofs [go_sem]) rfl rfl hokH (by simp) (by simp)
end Go.Proofs.YtbnkggbpocaaiaaGreatDoor
namespace Go.Proofs.YtbnkggbpocaaiaaGreatDoor
open Go.Proofs
def rdv {α : Type} (val : α → CV) (zero : CV) : Except Nat (α × List UInt8) → CV
  | .ok (a, s) => .tup [val a, .sl .sh 1 (bs s), Go.Proofs.YtbnkggbpocaaiaaGreatDoor.er 0]
  | .error e => .tup [zero, .v (.slice none 0 0), Go.Proofs.YtbnkggbpocaaiaaGreatDoor.er e]
theorem number_len : ∀ (f i n : Nat) (src : List UInt8) {m : Nat} {r : List UInt8}, numG f i n src = .ok (m, r) → r.length ≤ src.length
  | 0, _, _, _, _, _, h => by rw [numG] at h; cases h
  | f + 1, _, _, [], _, _, h => by rw [numG] at h; cases h
  | f + 1, i, n, b :: s, m, r, h => by
    rw [numG] at h
    split at h
    · split at h
      · cases h
      · cases h; simp
    · have := number_len f _ _ s h
      rw [List.length_cons]; omega
theorem number_err : ∀ (f i n : Nat) (src : List UInt8) {e : Nat}, numG f i n src = .error e → e = 3 ∨ e = 10
  | 0, _, _, _, _, h => by rw [numG] at h; cases h; simp
  | f + 1, _, _, [], _, h => by rw [numG] at h; cases h; simp
  | f + 1, i, n, b :: s, e, h => by
    rw [numG] at h
    split at h
    · split at h
      · cases h; simp
      · cases h
    · exact number_err f _ _ s h

theorem readInt_cc (H : Hp) (V : List Nat) (tk : Tk) (src : List UInt8) (hl : src.length ≤ 1000000000) :
    CC Tryz.prog 204 [.sl tk 1 (bs src), .fn 205 []] H V (Pu (rdv (fun n : Nat => ci n) (ci 0) (number src)) H V) := by
  refine CC.of_swp Tryz.func204 rfl (by kernel_rfl) (by rw [Tryz.ntmps204]; exact len_le _ _ rfl) fun hok hokH => Wp.s ?_
  simp -implicitDefEqProofs [go_sem, args0]
  refine CC.mono (number_cc _ _ _ _ _ (at_len _ _)) ?_
  intro r H' V' h
  unfold Cur at h
  rcases hn : number src with e | ⟨n, s⟩
  · rw [hn] at h
    obtain ⟨rfl, rfl, rfl⟩ := h
    have he : ¬ e = 0 := by rcases number_err _ _ _ _ hn with rfl | rfl <;> decide
    simp -implicitDefEqProofs [go_sem, he]
    exact Fin.pu (.refl _) (by simp -implicitDefEqProofs [go_sem, rdv]) hokH (by simp) (by simp)
  · rw [hn] at h
    obtain ⟨rfl, rfl, rfl⟩ := h
    simp -implicitDefEqProofs [go_sem]
    refine CC.mono (clone_cc _ _ _ _ (by have := number_len _ _ _ _ hn; simp only [bs_len]; omega)) ?_
    rintro _ _ _ ⟨v', rfl, rfl, rfl⟩
    try simp -implicitDefEqProofs [go_sem]
    exact Fin.pu (.tup (.cons (.refl _) (.cons (.sh ..) (.cons (.refl _) .nil)))) (by simp -implicitDefEqProofs [go_sem, rdv]) hokH (by simp) (by simp)
theorem Int_cc (H : Hp) (V : List Nat) (tk : Tk) (src : List UInt8) (hl : src.length ≤ 1000000000) :
    CC Tryz.prog 184 [.sl tk 1 (bs src)] H V (Pu (rdv (fun n : Nat => ci n) (ci 0) (number src)) H V) := by
  refine CC.of_swp Tryz.func184 rfl (by kernel_rfl) (by rw [Tryz.ntmps184]; exact len_le _ _ rfl) fun hok hokH => Wp.s ?_
  simp -implicitDefEqProofs [go_sem, args0]
  refine CC.mono (readInt_cc _ _ _ _ hl) ?_
  rintro _ _ _ ⟨rfl, rfl, rfl⟩
  rcases hn : number src with e | ⟨n, s⟩
  · simp -implicitDefEqProofs [go_sem, rdv]
    exact Fin.pu (.refl _) (by simp -implicitDefEqProofs [go_sem]) hokH (by simp) (by simp)
  · simp -implicitDefEqProofs [go_sem, rdv]
    exact Fin.pu (.refl _) (by simp -implicitDefEqProofs [go_sem]) hokH (by simp) (by simp)
end Go.Proofs.YtbnkggbpocaaiaaGreatDoor
namespace Go.Proofs.YtbnkggbpocaaiaaGreatDoor
abbrev Pr (α : Type) := List UInt8 → Except Nat (α × List UInt8)
def lengthP : Pr Nat := fun s =>
  match number s with
  | .error e => .error e
  | .ok (n, r) => if 65536 < n then .error 5 else .ok (n, r)
def takeP (n : Nat) : Pr (List UInt8) := fun s => if s.length < n then .error 10 else .ok (s.take n, s.drop n)
def secP : Pr Sec := fun s => if h : s.length < 8 then .error 10 else .ok (⟨s.take 8, by rw [List.length_take]; omega⟩, s.drop 8)
def pairP : Pr (Nat × Nat) := fun s =>
  match number s with
  | .error e => .error e
  | .ok (a, r) =>
    match number r with
    | .error e => .error e
    | .ok (b, r') => .ok ((a, b), r')
def repP {α : Type} (p : Pr α) : Nat → Pr (List α)
  | 0, s => .ok ([], s)
  | n + 1, s =>
    match p s with
    | .error e => .error e
    | .ok (a, r) =>
      match repP p n r with
      | .error e => .error e
      | .ok (l, r') => .ok (a :: l, r')
def listP {α : Type} (p : Pr α) : Pr (List α) := fun s =>
  match lengthP s with
  | .error e => .error e
  | .ok (n, r) => repP p n r
def wrP : Pr Wr := fun s =>
  match pairP s with
  | .error e => .error e
  | .ok ((a, b), r) =>
    match listP secP r with
    | .error e => .error e
    | .ok (l, r') => .ok (⟨a, b, l⟩, r')
def ahead {α : Type} (xs : List α) : Except Nat (List α × List UInt8) → Except Nat (List α × List UInt8)
  | .error e => .error e
  | .ok (l, r) => .ok (xs ++ l, r)
theorem ahead_nil {α : Type} (x : Except Nat (List α × List UInt8)) : ahead [] x = x := by cases x <;> rfl
theorem rep_ok {α : Type} {p : Pr α} {n : Nat} {s r : List UInt8} {a : α} {xs : List α} (h : p s = .ok (a, r)) : ahead xs (repP p (n + 1) s) = ahead (xs ++ [a]) (repP p n r) := by
  rw [repP, h]
  dsimp only
  cases repP p n r with
  | error e => rfl
  | ok q => simp [ahead]
theorem rep_err {α : Type} {p : Pr α} {n e : Nat} {s : List UInt8} {xs : List α} (h : p s = .error e) : ahead xs (repP p (n + 1) s) = .error e := by
  rw [repP, h]; rfl
def Ne0 {α : Type} (p : Pr α) : Prop := ∀ s e, p s = .error e → e ≠ 0
theorem ne0_number : Ne0 number := fun s e h => by rcases number_err _ _ _ _ h with rfl | rfl <;> decide
theorem ne0_length : Ne0 lengthP := fun s e h => by
  unfold lengthP at h
  split at h
  · rename_i h1; cases h; exact ne0_number _ _ h1
  · split at h
    · cases h; decide
    · cases h
theorem ne0_take (n : Nat) : Ne0 (takeP n) := fun s e h => by
  unfold takeP at h
  split at h
  · cases h; decide
  · cases h
theorem ne0_sec : Ne0 secP := fun s e h => by
  unfold secP at h
  split at h
  · cases h; decide
  · cases h
theorem ne0_pair : Ne0 pairP := fun s e h => by
  unfold pairP at h
  split at h
  · rename_i h1; cases h; exact ne0_number _ _ h1
  · split at h
    · rename_i h1; cases h; exact ne0_number _ _ h1
    · cases h
theorem ne0_rep {α : Type} {p : Pr α} (hp : Ne0 p) : ∀ n, Ne0 (repP p n)
  | 0, s, e, h => by rw [repP] at h; cases h
  | n + 1, s, e, h => by
    rw [repP] at h
    split at h
    · rename_i h1; cases h; exact hp _ _ h1
    · split at h
      · rename_i h1; cases h; exact ne0_rep hp n _ _ h1
      · cases h
theorem ne0_list {α : Type} {p : Pr α} (hp : Ne0 p) : Ne0 (listP p) := fun s e h => by
  unfold listP at h
  split at h
  · rename_i h1; cases h; exact ne0_length _ _ h1
  · exact ne0_rep hp _ _ _ h
theorem ne0_wr : Ne0 wrP := fun s e h => by
  unfold wrP at h
  split at h
  · rename_i h1; cases h; exact ne0_pair _ _ h1
  · split at h
    · rename_i h1; cases h; exact ne0_list ne0_sec _ _ h1
    · cases h
def Shr {α : Type} (p : Pr α) : Prop := ∀ s a r, p s = .ok (a, r) → r.length ≤ s.length
theorem shr_number : Shr number := fun _ _ _ h => number_len _ _ _ _ h
theorem shr_length : Shr lengthP := fun s a r h => by
  unfold lengthP at h
  split at h
  · cases h
  · rename_i h1
    split at h
    · cases h
    · cases h; exact shr_number _ _ _ h1
theorem length_le {s r : List UInt8} {n : Nat} (h : lengthP s = .ok (n, r)) : n ≤ 65536 := by
  unfold lengthP at h
  split at h
  · cases h
  · split at h
    · cases h
    · cases h; omega
theorem shr_sec : Shr secP := fun s a r h => by
  unfold secP at h
  split at h
  · cases h
  · cases h; rw [List.length_drop]; omega
theorem shr_pair : Shr pairP := fun s a r h => by
  unfold pairP at h
  split at h
  · cases h
  · rename_i h1
    split at h
    · cases h
    · rename_i h2; cases h; exact Nat.le_trans (shr_number _ _ _ h2) (shr_number _ _ _ h1)
theorem shr_rep {α : Type} {p : Pr α} (hp : Shr p) : ∀ n, Shr (repP p n)
  | 0, s, a, r, h => by rw [repP] at h; cases h; exact Nat.le_refl _
  | n + 1, s, a, r, h => by
    rw [repP] at h
    split at h
    · cases h
    · rename_i h1
      split at h
      · cases h
      · rename_i h2; cases h; exact Nat.le_trans (shr_rep hp n _ _ _ h2) (hp _ _ _ h1)
theorem shr_list {α : Type} {p : Pr α} (hp : Shr p) : Shr (listP p) := fun s a r h => by
  unfold listP at h
  split at h
  · cases h
  · rename_i h1; exact Nat.le_trans (shr_rep hp _ _ _ _ h) (shr_length _ _ _ h1)
theorem shr_wr : Shr wrP := fun s a r h => by
  unfold wrP at h
  split at h
  · cases h
  · rename_i h1
    split at h
    · cases h
    · rename_i h2; cases h; exact Nat.le_trans (shr_list shr_sec _ _ _ h2) (shr_pair _ _ _ h1)
end Go.Proofs.YtbnkggbpocaaiaaGreatDoor
namespace Go.Proofs.YtbnkggbpocaaiaaGreatDoor
open Go.Proofs
def Rd {α : Type} (b : Nat) (tk : Tk) (val : α → CV) (Z : CV → Prop) (x : Except Nat (α × List UInt8)) (H : Hp) (V : List Nat) : CV → Hp → List Nat → Prop := fun r H' V' =>
  match x with
  | .ok (a, s) => r = .tup [val a, Go.Proofs.YtbnkggbpocaaiaaGreatDoor.er 0] ∧ H.set b (some [.sl tk 1 (bs s)]) = H' ∧ V = V'
  | .error e => ∃ z s, Z z ∧ r = .tup [z, Go.Proofs.YtbnkggbpocaaiaaGreatDoor.er e] ∧ H.set b (some [.sl tk 1 (bs s)]) = H' ∧ V = V'
def Rd3 (b : Nat) (tk : Tk) (x : Except Nat ((Nat × Nat) × List UInt8)) (H : Hp) (V : List Nat) : CV → Hp → List Nat → Prop := fun r H' V' =>
  match x with
  | .ok ((m, n), s) => r = .tup [ci m, ci n, Go.Proofs.YtbnkggbpocaaiaaGreatDoor.er 0] ∧ H.set b (some [.sl tk 1 (bs s)]) = H' ∧ V = V'
  | .error e => ∃ (m n : Int) (s : List UInt8), r = .tup [ci m, ci n, Go.Proofs.YtbnkggbpocaaiaaGreatDoor.er e] ∧ H.set b (some [.sl tk 1 (bs s)]) = H' ∧ V = V'
section
variable {H : Hp} {V : List Nat} {b : Nat} {tk : Tk} {α : Type} {val : α → CV} {Z : CV → Prop}
theorem Fin.rdOk {z c : CV} {x : Except Nat (α × List UInt8)} {a : α} {s : List UInt8} (hx : x = .ok (a, s)) (hz : okV H.length V.length (val a)) (h1 : Le z (val a)) (h2 : c = Go.Proofs.YtbnkggbpocaaiaaGreatDoor.er 0) (ht : okTk V.length tk) (hokH : ∀ (b : Nat) cs, H[b]? = some (some cs) → okL H.length V.length cs) {H' : Hp} {V' : List Nat} (hH : H'.take H.length = H.set b (some [.sl tk 1 (bs s)])) (hV : V'.take V.length = V) :
    Fin H.length V.length (Rd b tk val Z x H V) (.tup [z, c]) H' V' := by
  subst hx h2
  exact Fin.pure (r' := .tup [val a, Go.Proofs.YtbnkggbpocaaiaaGreatDoor.er 0]) (by exact ⟨rfl, rfl, rfl⟩) hH hV (.tup (.cons h1 (.cons (.refl _) .nil))) (by simp -implicitDefEqProofs [go_sem, hz]) (ok_set (by simp -implicitDefEqProofs [go_sem, okV_slt, ht]) hokH)
theorem Fin.rd3Ok {m n c : CV} {x : Except Nat ((Nat × Nat) × List UInt8)} {a a' : Nat} {s : List UInt8} (hx : x = .ok ((a, a'), s)) (h0 : m = ci a) (h1 : n = ci a') (h2 : c = Go.Proofs.YtbnkggbpocaaiaaGreatDoor.er 0) (ht : okTk V.length tk) (hokH : ∀ (b : Nat) cs, H[b]? = some (some cs) → okL H.length V.length cs) {H' : Hp} {V' : List Nat} (hH : H'.take H.length = H.set b (some [.sl tk 1 (bs s)])) (hV : V'.take V.length = V) :
    Fin H.length V.length (Rd3 b tk x H V) (.tup [m, n, c]) H' V' := by
  subst hx h0 h1 h2
  exact Fin.pure (by exact ⟨rfl, rfl, rfl⟩) hH hV (.refl _) (by simp -implicitDefEqProofs [go_sem]) (ok_set (by simp -implicitDefEqProofs [go_sem, okV_slt, ht]) hokH)
theorem Fin.rd3Err {c : CV} {m n : Int} {x : Except Nat ((Nat × Nat) × List UInt8)} {e : Nat} {s : List UInt8} (hx : x = .error e) (h2 : c = Go.Proofs.YtbnkggbpocaaiaaGreatDoor.er e) (ht : okTk V.length tk) (hokH : ∀ (b : Nat) cs, H[b]? = some (some cs) → okL H.length V.length cs) {H' : Hp} {V' : List Nat} (hH : H'.take H.length = H.set b (some [.sl tk 1 (bs s)])) (hV : V'.take V.length = V) :
    Fin H.length V.length (Rd3 b tk x H V) (.tup [ci m, ci n, c]) H' V' := by
  subst hx h2
  exact Fin.pure (by exact ⟨m, n, s, rfl, rfl, rfl⟩) hH hV (.refl _) (by simp -implicitDefEqProofs [go_sem]) (ok_set (by simp -implicitDefEqProofs [go_sem, okV_slt, ht]) hokH)
theorem Fin.rdErr {z z' c : CV} {x : Except Nat (α × List UInt8)} {e : Nat} {s : List UInt8} (hx : x = .error e) (hZ : Z z') (hz : okV H.length V.length z') (h1 : Le z z') (h2 : c = Go.Proofs.YtbnkggbpocaaiaaGreatDoor.er e) (ht : okTk V.length tk) (hokH : ∀ (b : Nat) cs, H[b]? = some (some cs) → okL H.length V.length cs) {H' : Hp} {V' : List Nat} (hH : H'.take H.length = H.set b (some [.sl tk 1 (bs s)])) (hV : V'.take V.length = V) :
    Fin H.length V.length (Rd b tk val Z x H V) (.tup [z, c]) H' V' := by
  subst hx h2
  exact Fin.pure (r' := .tup [z', Go.Proofs.YtbnkggbpocaaiaaGreatDoor.er e]) (by exact ⟨z', s, hZ, rfl, rfl, rfl⟩) hH hV (.tup (.cons h1 (.cons (.refl _) .nil))) (by simp -implicitDefEqProofs [go_sem, hz]) (ok_set (by simp -implicitDefEqProofs [go_sem, okV_slt, ht]) hokH)
end
section
variable {H L : Hp} {b k : Nat} {c d : Option (List CV)} {cs : List CV} {K : List CV → Prop}
@[go_sem] theorem hbx_at (h : k = H.length) : hbx (H ++ some cs :: L) k K = K cs := by subst h; exact hbx_new H cs L K
@[go_sem] theorem set_at (h : k = H.length) : (H ++ c :: L).set k d = H ++ d :: L := by
  subst h; rw [List.set_append_right _ _ (Nat.le_refl _), Nat.sub_self]; rfl
theorem set_left (h : b < H.length) : (H ++ L).set b d = H.set b d ++ L := List.set_append_left _ _ h
theorem take_set : (H.set b d).take H.length = H.set b d := List.take_of_length_le (by simp)
theorem take_set2 : (H.set b d ++ L).take H.length = H.set b d := by
  rw [List.take_append_of_le_length (by simp), List.take_of_length_le (by simp)]
end
theorem lt_of_box {H : Hp} {b : Nat} {x : Option (List CV)} (h : H[b]? = some x) : b < H.length := (List.getElem?_eq_some_iff.1 h).1
theorem set_same {H : Hp} {b : Nat} {c : Option (List CV)} (h : H[b]? = some c) : H.set b c = H := by
  obtain ⟨h1, h2⟩ := List.getElem?_eq_some_iff.1 h
  rw [← h2]; exact List.set_getElem_self h1
theorem number_rd (H : Hp) (V : List Nat) (b : Nat) (tk : Tk) (src : List UInt8) (hb : H[b]? = some (some [.sl tk 1 (bs src)])) :
    CC Tryz.prog 205 [.ptr b 0] H V (Rd b tk (fun n : Nat => ci n) (· = ci 0) (number src) H V) := by
  refine CC.mono (number_cc _ _ _ _ _ hb) fun r H' V' h => ?_
  unfold Cur at h
  unfold Rd
  rcases hn : number src with e | ⟨n, s⟩ <;> rw [hn] at h
  · obtain ⟨h1, h2, h3⟩ := h
    exact ⟨_, src, rfl, h1, by rw [set_same hb]; exact h2, h3⟩
  · exact h
theorem Fin.rdErr0 {H : Hp} {V : List Nat} {b : Nat} {tk : Tk} {α : Type} {val : α → CV} {Z : CV → Prop} {z z' c : CV} {src : List UInt8} {x : Except Nat (α × List UInt8)} {e : Nat} (hb : H[b]? = some (some [.sl tk 1 (bs src)])) (hx : x = .error e) (hZ : Z z') (hz : okV H.length V.length z') (h1 : Le z z') (h2 : c = Go.Proofs.YtbnkggbpocaaiaaGreatDoor.er e) (ht : okTk V.length tk) (hokH : ∀ (b : Nat) cs, H[b]? = some (some cs) → okL H.length V.length cs) {H' : Hp} {V' : List Nat} (hH : H'.take H.length = H) (hV : V'.take V.length = V) :
    Fin H.length V.length (Rd b tk val Z x H V) (.tup [z, c]) H' V' :=
  Fin.rdErr hx hZ hz h1 h2 ht hokH (by rw [hH, set_same hb]) hV
theorem length_rd (H : Hp) (V : List Nat) (b : Nat) (tk : Tk) (src : List UInt8) (hb : H[b]? = some (some [.sl tk 1 (bs src)])) :
    CC Tryz.prog 227 [.ptr b 0] H V (Rd b tk (fun n : Nat => ci n) (fun z => ∃ n, z = ci n) (lengthP src) H V) := by
  have hbl := lt_of_box hb
  refine CC.of_swp Tryz.func227 rfl (by kernel_rfl) (by rw [Tryz.ntmps227]; exact len_le _ _ rfl) fun hok hokH => ?_
  have ht := tk_of_box hb hokH
  refine sW ?_
  simp -implicitDefEqProofs [go_sem, args0]
  refine sW ?_
  simp -implicitDefEqProofs [go_sem]
  refine CC.mono (number_rd _ _ _ _ _ hb) ?_
  intro r H' V' h
  unfold Rd at h
  rcases hn : number src with e | ⟨n, s⟩ <;> rw [hn] at h
  · obtain ⟨_, s, rfl, rfl, rfl, rfl⟩ := h
    have he := ne0_number _ _ hn
    simp -implicitDefEqProofs [go_sem]
    refine Wp.s ?_
    simp -implicitDefEqProofs [go_sem, he]
    exact Fin.rdErr (by unfold lengthP; rw [hn]) ⟨0, rfl⟩ (by simp -implicitDefEqProofs [go_sem]) (.refl _) rfl ht hokH take_set (by simp)
  · obtain ⟨rfl, rfl, rfl⟩ := h
    simp -implicitDefEqProofs [go_sem]
    refine Wp.s ?_
    simp -implicitDefEqProofs [go_sem]
    exact ⟨fun h => Fin.rdErr (e := 5) (by unfold lengthP; rw [hn]; dsimp only; rw [if_pos (by omega)]) ⟨n, rfl⟩ (by simp -implicitDefEqProofs [go_sem]) (.refl _) rfl ht hokH take_set (by simp), fun h => Fin.rdOk (by unfold lengthP; rw [hn]; dsimp only; rw [if_neg (by omega)]) (by simp -implicitDefEqProofs [go_sem]) (.refl _) rfl ht hokH take_set (by simp)⟩
theorem bytes_rd (H : Hp) (V : List Nat) (b : Nat) (tk : Tk) (src : List UInt8) (n : Nat) (hb : H[b]? = some (some [.sl tk 1 (bs src)])) :
    CC Tryz.prog 257 [.ptr b 0, ci n] H V (Rd b tk (fun s : List UInt8 => .sl .sh 1 (bs s)) (· = .v (.slice none 0 0)) (takeP n src) H V) := by
  have hbl := lt_of_box hb
  refine CC.of_swp Tryz.func257 rfl (by kernel_rfl) (by rw [Tryz.ntmps257]; exact len_le _ _ rfl) fun hok hokH => ?_
  have ht := tk_of_box hb hokH
  refine sW ?_
  simp -implicitDefEqProofs [go_sem, args0]
  by_cases hn : src.length < n
  · refine Wp.s ?_
    simp -implicitDefEqProofs [go_sem, hbx_some hb, show (src.length : Int) < n by omega]
    exact Fin.rdErr0 (e := 10) hb (by unfold takeP; rw [if_pos hn]) (by exact rfl) (by simp -implicitDefEqProofs [go_sem]) (.refl _) rfl ht hokH (by simp) (by simp)
  · refine Wp.s ?_
    simp -implicitDefEqProofs [go_sem, hbx_some hb, show ¬ (src.length : Int) < n by omega]
    exact ⟨by omega, Fin.rdOk (by unfold takeP; rw [if_neg hn]) (by simp -implicitDefEqProofs [go_sem]) (.refl _) rfl ht hokH take_set (by simp)⟩
def Ag (n : Nat) (z : CV) : Prop := ∃ cs, z = .agg cs ∧ cs.length = n ∧ allOne cs = true ∧ ∀ i j, okL i j cs
theorem val_take (s : Sec) : s.val.take 8 = s.val := List.take_of_length_le (by rw [s.len]; exact Nat.le_refl _)
theorem val_len (s : Sec) : s.val.length = 8 := s.len
theorem sec_flat (s : Sec) : (bs s.val).flatten = secC s := by
  have : ∀ l : List UInt8, (bs l).flatten = l.map fun b => CV.v (.int .u8 (b.toNat : Int)) := by
    intro l
    induction l with
    | nil => rfl
    | cons b l ih => rw [bs, List.map_cons, List.flatten_cons, List.map_cons, ← ih]; rfl
  exact this _
theorem sec_take (src : List UInt8) : secP src = (match takeP 8 src with
    | .error e => .error e
    | .ok (q, s) => if h : q.length = 8 then .ok (⟨q, h⟩, s) else .error 10) := by
  unfold secP takeP
  by_cases h : src.length < 8
  · rw [dif_pos h, if_pos h]
  · rw [dif_neg h, if_neg h]; dsimp only; rw [dif_pos (by rw [List.length_take]; omega)]
theorem sector_rd (H : Hp) (V : List Nat) (b : Nat) (tk : Tk) (src : List UInt8) (hb : H[b]? = some (some [.sl tk 1 (bs src)])) :
    CC Tryz.prog 247 [.ptr b 0] H V (Rd b tk (fun s : Sec => .agg (secC s)) (Ag 8) (secP src) H V) := by
  have hbl := lt_of_box hb
  refine CC.of_swp Tryz.func247 rfl (by kernel_rfl) (by rw [Tryz.ntmps247]; exact len_le _ _ rfl) fun hok hokH => ?_
  have ht := tk_of_box hb hokH
  refine sW ?_
  simp -implicitDefEqProofs [go_sem, args0]
  refine sW ?_
  simp -implicitDefEqProofs [go_sem]
  refine CC.mono (bytes_rd _ _ _ _ _ 8 (by rw [List.getElem?_append_left hbl]; exact hb)) ?_
  intro r H' V' h
  unfold Rd at h
  rcases hn : takeP 8 src with e | ⟨q, s⟩ <;> rw [hn] at h
  · obtain ⟨_, s, rfl, rfl, rfl, rfl⟩ := h
    have he := ne0_take _ _ _ hn
    simp -implicitDefEqProofs [go_sem, set_left hbl]
    refine Wp.s ?_
    simp -implicitDefEqProofs [go_sem, he]
    exact Fin.rdErr (by rw [sec_take, hn]) (by exact ⟨_, rfl, rfl, rfl, fun i j => by simp -implicitDefEqProofs [go_sem]⟩) (by simp -implicitDefEqProofs [go_sem]) (.refl _) rfl ht hokH take_set2 (by simp)
  · obtain ⟨rfl, rfl, rfl⟩ := h
    obtain ⟨s0, rfl, hs0⟩ : ∃ s0 : Sec, q = s0.val ∧ secP src = .ok (s0, s) := by
      rw [sec_take, hn]
      dsimp only
      unfold takeP at hn
      split at hn
      · cases hn
      · rename_i h8
        cases hn
        exact ⟨⟨_, by rw [List.length_take]; omega⟩, rfl, by rw [dif_pos (by rw [List.length_take]; omega)]⟩
    simp -implicitDefEqProofs [go_sem, set_left hbl]
    refine Wp.s ?_
    simp -implicitDefEqProofs [go_sem, val_take, val_len, sec_flat]
    exact Fin.rdOk hs0 (by simp -implicitDefEqProofs [go_sem]) (.refl _) rfl ht hokH take_set2 (by simp)
theorem pair_rd (H : Hp) (V : List Nat) (b : Nat) (tk : Tk) (src : List UInt8) (hb : H[b]? = some (some [.sl tk 1 (bs src)])) :
    CC Tryz.prog 228 [.ptr b 0] H V (Rd3 b tk (pairP src) H V) := by
  have hbl := lt_of_box hb
  refine CC.of_swp Tryz.func228 rfl (by kernel_rfl) (by rw [Tryz.ntmps228]; exact len_le _ _ rfl) fun hok hokH => ?_
  have ht := tk_of_box hb hokH
  refine sW ?_
  simp -implicitDefEqProofs [go_sem, args0]
  refine sW ?_
  simp -implicitDefEqProofs [go_sem]
  refine CC.mono (number_rd _ _ _ _ _ hb) ?_
  intro r H' V' h
  unfold Rd at h
  rcases hn : number src with e | ⟨n, s⟩ <;> rw [hn] at h
  · obtain ⟨_, s, rfl, rfl, rfl, rfl⟩ := h
    have he := ne0_number _ _ hn
    simp -implicitDefEqProofs [go_sem]
    refine Wp.s ?_
    simp -implicitDefEqProofs [go_sem, he]
    exact Fin.rd3Err (by unfold pairP; rw [hn]) rfl ht hokH take_set (by simp)
  · obtain ⟨rfl, rfl, rfl⟩ := h
    simp -implicitDefEqProofs [go_sem]
    refine Wp.s ?_
    simp -implicitDefEqProofs [go_sem]
    refine CC.mono (number_rd _ _ _ _ _ (List.getElem?_set_self hbl)) ?_
    intro r H' V' h
    unfold Rd at h
    rcases hm : number s with e | ⟨m, s'⟩ <;> rw [hm] at h
    · obtain ⟨_, s', rfl, rfl, rfl, rfl⟩ := h
      have he := ne0_number _ _ hm
      simp -implicitDefEqProofs [go_sem]
      exact Fin.rd3Err (by unfold pairP; rw [hn]; dsimp only; rw [hm]) rfl ht hokH take_set (by simp)
    · obtain ⟨rfl, rfl, rfl⟩ := h
      simp -implicitDefEqProofs [go_sem]
      exact Fin.rd3Ok (by unfold pairP; rw [hn]; dsimp only; rw [hm]) rfl rfl rfl ht hokH take_set (by simp)
end Go.Proofs.YtbnkggbpocaaiaaGreatDoor
namespace Go.Proofs.YtbnkggbpocaaiaaGreatDoor
open Go.Proofs
def outC (o : Option Nat) (k sz : Nat) (xs : List (List CV)) : CV :=
  match o with
  | none => .v (.slice none 0 0)
  | some v => .sl (.own k v) sz xs
def outV (V : List Nat) : Option Nat → List Nat
  | none => V
  | some v => V ++ [v]
@[go_sem] theorem outC_none (k sz : Nat) (xs : List (List CV)) : outC none k sz xs = .v (.slice none 0 0) := rfl
@[go_sem] theorem outC_some (v k sz : Nat) (xs : List (List CV)) : outC (some v) k sz xs = .sl (.own k v) sz xs := rfl
@[go_sem] theorem outV_none (V : List Nat) : outV V none = V := rfl
@[go_sem] theorem outV_some (V : List Nat) (v : Nat) : outV V (some v) = V ++ [v] := rfl
theorem outV_take (V : List Nat) (o : Option Nat) : (outV V o).take V.length = V := by cases o <;> simp [outV]
theorem outC_le {α : Type} {f : α → List CV} (o : Option Nat) (k sz : Nat) (xs : List α) (h0 : 0 < sz) (h : o = none → xs = []) : Le (outC o k sz (xs.map f)) (.sl .sh sz (xs.map f)) := by
  cases o with
  | none => rw [h rfl]; exact .nil sz h0
  | some v => exact .sh ..
theorem okE_app {i j : Nat} (xs ys : List (List CV)) : okE i j (xs ++ ys) = (okE i j xs ∧ okE i j ys) := by
  simp only [okE_iff, List.mem_append]
  exact propext ⟨fun h => ⟨fun e he => h e (.inl he), fun e he => h e (.inr he)⟩, fun ⟨h1, h2⟩ e he => he.elim (h1 e) (h2 e)⟩
theorem okH_set {H : Hp} {V : List Nat} {b j : Nat} {tk : Tk} {s : List UInt8} (ht : okTk V.length tk) (hj : V.length ≤ j) (hokH : ∀ (b : Nat) cs, H[b]? = some (some cs) → okL H.length V.length cs) (b' : Nat) (cs : List CV) (h : (H.set b (some [.sl tk 1 (bs s)]))[b']? = some (some cs)) : okL H.length j cs :=
  okL_mono (Nat.le_refl _) hj (ok_set (by simp -implicitDefEqProofs [go_sem, okV_slt, ht]) hokH b' cs h)
theorem listSec_rd (H : Hp) (V : List Nat) (b : Nat) (tk : Tk) (src : List UInt8) (g : Nat) (p : Pr Sec) (hp : Ne0 p) (hs : Shr p)
    (hg : ∀ (H : Hp) (V : List Nat) (b : Nat) (tk : Tk) (src : List UInt8), src.length ≤ 1000000000 → H[b]? = some (some [.sl tk 1 (bs src)]) → CC Tryz.prog g [.ptr b 0] H V (Rd b tk (fun a => .agg (secC a)) (Ag 8) (p src) H V))
    (hl : src.length ≤ 1000000000) (hb : H[b]? = some (some [.sl tk 1 (bs src)])) : CC Tryz.prog 246 [.ptr b 0, .fn g []] H V (Rd b tk (fun l : List Sec => .sl .sh 8 (l.map secC)) (· = .v (.slice none 0 0)) (listP p src) H V) := by
  have hbl := lt_of_box hb
  refine CC.of_swp Tryz.func246 rfl (by kernel_rfl) (by rw [Tryz.ntmps246]; exact len_le _ _ rfl) fun hok hokH => ?_
  have ht := tk_of_box hb hokH
  clear hok
  refine sW ?_
  simp -implicitDefEqProofs [go_sem, args0]
  refine sW ?_
  simp -implicitDefEqProofs [go_sem]
  refine CC.mono (length_rd _ _ _ _ _ hb) ?_
  intro r H' V' h
  unfold Rd at h
  rcases hn : lengthP src with e | ⟨n, s⟩ <;> rw [hn] at h
  · obtain ⟨_, s, ⟨n, rfl⟩, rfl, rfl, rfl⟩ := h
    have he := ne0_length _ _ hn
    simp -implicitDefEqProofs [go_sem]
    refine Wp.s ?_
    simp -implicitDefEqProofs [go_sem, he]
    exact Fin.rdErr (by unfold listP; rw [hn]) (by exact rfl) (by simp -implicitDefEqProofs [go_sem]) (.refl _) rfl ht hokH take_set (by simp)
  · obtain ⟨rfl, rfl, rfl⟩ := h
    have hn5 := length_le hn
    have hls := shr_length _ _ _ hn
    simp -implicitDefEqProofs [go_sem]
    refine sW ?_
    simp -implicitDefEqProofs [go_sem]
    refine sW ?_
    simp -implicitDefEqProofs [go_sem]
    refine SWp.join (α := Option Nat × List Sec × List UInt8) (fun x => ([(8, outC x.1 V.length 8 (x.2.1.map secC))], H.set b (some [.sl tk 1 (bs x.2.2)]), outV V x.1)) (fun x => (x.1 = none → x.2.1 = []) ∧ listP p src = .ok (x.2.1, x.2.2)) ?_ ?_
    · refine sW ?_
      simp -implicitDefEqProofs [go_sem]
      refine SWp.block ?_
      refine SWp.loop (α := Nat × Option Nat × List Sec × List UInt8) (fun x => ([(0, .ptr b 0), (1, .fn g []), (19, ci n), (20, ci x.1), (8, outC x.2.1 V.length 8 (x.2.2.1.map secC))], H.set b (some [.sl tk 1 (bs x.2.2.2)]), outV V x.2.1))
        (fun x => x.1 ≤ n ∧ x.2.2.1.length = x.1 ∧ (x.2.1 = none → x.2.2.1 = []) ∧ listP p src = ahead x.2.2.1 (repP p (n - x.1) x.2.2.2) ∧ x.2.2.2.length ≤ 1000000000) (fun x => n - x.1) (0, none, [], s) ⟨Nat.zero_le _, rfl, fun _ => rfl, by unfold listP; rw [hn]; exact (ahead_nil _).symm, by dsimp only; omega⟩
        (Sh.forget (by simp -implicitDefEqProofs [go_sem]) rfl rfl) ?_
      rintro ⟨i, o, xs, s⟩ ⟨hi, hx, ho, hL, hsl⟩
      dsimp only at hi hx ho hL hsl ⊢
      refine Wp.s ?_
      simp -implicitDefEqProofs [go_sem]
      refine ⟨fun h => ?_, fun h => ?_⟩
      · refine CC.mono (hg _ _ _ _ s hsl (List.getElem?_set_self hbl)) ?_
        intro r H' V' hr
        unfold Rd at hr
        have hnn : n - i = (n - (i + 1)) + 1 := by omega
        rcases hq : p s with e | ⟨a, s'⟩ <;> rw [hq] at hr
        · have he := hp _ _ hq
          obtain ⟨_, s', ⟨cs, rfl, hcs, hall, hokc⟩, rfl, rfl, rfl⟩ := hr
          simp -implicitDefEqProofs [go_sem, hcs, hall, he]
          exact Fin.rdErr (by rw [hL, hnn, rep_err hq]) (by exact rfl) (by simp -implicitDefEqProofs [go_sem]) (.refl _) rfl ht hokH take_set2 (outV_take _ _)
        · obtain ⟨rfl, rfl, rfl⟩ := hr
          have hs' := hs _ _ _ hq
          have hL' := hL
          rw [hnn, rep_ok hq] at hL'
          have hw := wrap_succ (show i ≤ 1000000000 by omega)
          cases o with
          | none =>
            obtain rfl := ho rfl
            simp -implicitDefEqProofs [go_sem]
            refine ⟨i + 1, some 0, [] ++ [a], s', ⟨by omega, by rw [List.length_append, hx]; rfl, by simp, hL', by omega⟩, by omega, Sh.cut H.length (V.length + 1) (by simp -implicitDefEqProofs [go_sem, hw]) (Nat.le_refl _) (Nat.le_succ _) (by simp -implicitDefEqProofs [go_sem, hbl, okE_app]) (okH_set ht (Nat.le_succ _) hokH) take_set2 (List.take_of_length_le (by simp -implicitDefEqProofs [go_sem]))⟩
          | some v =>
            simp -implicitDefEqProofs [go_sem]
            refine ⟨by omega, i + 1, some (v + 1), xs ++ [a], s', ⟨by omega, by rw [List.length_append, hx]; rfl, by simp, hL', by omega⟩, by omega, Sh.cut H.length (V.length + 1) (by simp -implicitDefEqProofs [go_sem, hw]) (Nat.le_refl _) (Nat.le_succ _) (by simp -implicitDefEqProofs [go_sem, hbl, okE_app]) (okH_set ht (Nat.le_succ _) hokH) take_set2 (List.take_of_length_le (by simp -implicitDefEqProofs [go_sem]))⟩
      · exact ⟨o, xs, s, ⟨ho, by rw [hL, show n - i = 0 by omega, repP]; simp [ahead]⟩, Sh.forget (by simp -implicitDefEqProofs [go_sem]) rfl rfl⟩
    · rintro ⟨o, xs, s⟩ ⟨ho, hL⟩
      dsimp only at ho hL ⊢
      refine Wp.s ?_
      simp -implicitDefEqProofs [go_sem]
      exact Fin.rdOk hL (by simp -implicitDefEqProofs [go_sem]) (by exact outC_le _ _ _ _ (by decide) ho) rfl ht hokH take_set (outV_take _ _)
theorem sectors_rd (H : Hp) (V : List Nat) (b : Nat) (tk : Tk) (src : List UInt8) (hl : src.length ≤ 1000000000) (hb : H[b]? = some (some [.sl tk 1 (bs src)])) :
    CC Tryz.prog 229 [.ptr b 0] H V (Rd b tk (fun l : List Sec => .sl .sh 8 (l.map secC)) (· = .v (.slice none 0 0)) (listP secP src) H V) := by
  have hbl := lt_of_box hb
  refine CC.of_swp Tryz.func229 rfl (by kernel_rfl) (by rw [Tryz.ntmps229]; exact len_le _ _ rfl) fun hok hokH => ?_
  have ht := tk_of_box hb hokH
  refine sW ?_
  simp -implicitDefEqProofs [go_sem, args0]
  refine Wp.s ?_
  simp -implicitDefEqProofs [go_sem]
  refine CC.mono (listSec_rd _ _ _ _ _ _ _ ne0_sec shr_sec (fun H V b tk src _ hb => sector_rd H V b tk src hb) hl hb) ?_
  intro r H' V' h
  unfold Rd at h
  rcases hn : listP secP src with e | ⟨l, s⟩ <;> rw [hn] at h
  · obtain ⟨_, s, rfl, rfl, rfl, rfl⟩ := h
    simp -implicitDefEqProofs [go_sem]
    exact Fin.rdErr rfl (by exact rfl) (by simp -implicitDefEqProofs [go_sem]) (.refl _) rfl ht hokH take_set (by simp)
  · obtain ⟨rfl, rfl, rfl⟩ := h
    simp -implicitDefEqProofs [go_sem]
    exact Fin.rdOk rfl (by simp -implicitDefEqProofs [go_sem]) (.refl _) rfl ht hokH take_set (by simp)
theorem write_rd (H : Hp) (V : List Nat) (b : Nat) (tk : Tk) (src : List UInt8) (hl : src.length ≤ 1000000000) (hb : H[b]? = some (some [.sl tk 1 (bs src)])) :
    CC Tryz.prog 212 [.ptr b 0] H V (Rd b tk (fun x : Wr => .agg (wrC x)) (Ag 3) (wrP src) H V) := by
  have hbl := lt_of_box hb
  refine CC.of_swp Tryz.func212 rfl (by kernel_rfl) (by rw [Tryz.ntmps212]; exact len_le _ _ rfl) fun hok hokH => ?_
  have ht := tk_of_box hb hokH
  refine sW ?_
  simp -implicitDefEqProofs [go_sem, args0]
  refine sW ?_
  simp -implicitDefEqProofs [go_sem]
  refine CC.mono (pair_rd _ _ _ _ _ (by rw [List.getElem?_append_left hbl]; exact hb)) ?_
  intro r H' V' h
  unfold Rd3 at h
  rcases hn : pairP src with e | ⟨⟨m, n⟩, s⟩ <;> rw [hn] at h
  · have he := ne0_pair _ _ hn
    obtain ⟨m, n, s, rfl, rfl, rfl⟩ := h
    simp -implicitDefEqProofs [go_sem, set_left hbl]
    refine Wp.s ?_
    simp -implicitDefEqProofs [go_sem, he]
    exact Fin.rdErr (by unfold wrP; rw [hn]) (by exact ⟨_, rfl, rfl, rfl, fun i j => by simp -implicitDefEqProofs [go_sem]⟩) (by simp -implicitDefEqProofs [go_sem]) (.refl _) rfl ht hokH take_set2 (by simp)
  · obtain ⟨rfl, rfl, rfl⟩ := h
    have hls := shr_pair _ _ _ hn
    simp -implicitDefEqProofs [go_sem, set_left hbl]
    refine Wp.s ?_
    simp -implicitDefEqProofs [go_sem]
    refine CC.mono (sectors_rd _ _ _ _ s (by omega) (by rw [List.getElem?_append_left (by simpa using hbl)]; exact List.getElem?_set_self hbl)) ?_
    intro r H' V' h
    unfold Rd at h
    rcases hm : listP secP s with e | ⟨l, s'⟩ <;> rw [hm] at h
    · obtain ⟨_, s', rfl, rfl, rfl, rfl⟩ := h
      simp -implicitDefEqProofs [go_sem, set_left hbl, set_left (H := H.set b _) (by simpa using hbl : b < (H.set b _).length)]
      exact Fin.rdErr (by unfold wrP; rw [hn]; dsimp only; rw [hm]) (by exact ⟨_, rfl, rfl, rfl, fun i j => by simp -implicitDefEqProofs [go_sem]⟩) (by simp -implicitDefEqProofs [go_sem]) (.refl _) rfl ht hokH take_set2 (by simp)
    · obtain ⟨rfl, rfl, rfl⟩ := h
      simp -implicitDefEqProofs [go_sem, set_left hbl, set_left (H := H.set b _) (by simpa using hbl : b < (H.set b _).length)]
      exact Fin.rdOk (val := fun x : Wr => .agg (wrC x)) (a := ⟨m, n, l⟩) (by unfold wrP; rw [hn]; dsimp only; rw [hm]) (by simp -implicitDefEqProofs [go_sem]) (.refl _) rfl ht hokH take_set2 (by simp)
theorem listWr_rd (H : Hp) (V : List Nat) (b : Nat) (tk : Tk) (src : List UInt8) (g : Nat) (p : Pr Wr) (hp : Ne0 p) (hs : Shr p)
    (hg : ∀ (H : Hp) (V : List Nat) (b : Nat) (tk : Tk) (src : List UInt8), src.length ≤ 1000000000 → H[b]? = some (some [.sl tk 1 (bs src)]) → CC Tryz.prog g [.ptr b 0] H V (Rd b tk (fun a => .agg (wrC a)) (Ag 3) (p src) H V))
    (hl : src.length ≤ 1000000000) (hb : H[b]? = some (some [.sl tk 1 (bs src)])) : CC Tryz.prog 211 [.ptr b 0, .fn g []] H V (Rd b tk (fun l : List Wr => .sl .sh 3 (l.map wrC)) (· = .v (.slice none 0 0)) (listP p src) H V) := by
  have hbl := lt_of_box hb
  refine CC.of_swp Tryz.func211 rfl (by kernel_rfl) (by rw [Tryz.ntmps211]; exact len_le _ _ rfl) fun hok hokH => ?_
  have ht := tk_of_box hb hokH
  clear hok
  refine sW ?_
  simp -implicitDefEqProofs [go_sem, args0]
  refine sW ?_
  simp -implicitDefEqProofs [go_sem]
  refine CC.mono (length_rd _ _ _ _ _ hb) ?_
  intro r H' V' h
  unfold Rd at h
  rcases hn : lengthP src with e | ⟨n, s⟩ <;> rw [hn] at h
  · obtain ⟨_, s, ⟨n, rfl⟩, rfl, rfl, rfl⟩ := h
    have he := ne0_length _ _ hn
    simp -implicitDefEqProofs [go_sem]
    refine Wp.s ?_
    simp -implicitDefEqProofs [go_sem, he]
    exact Fin.rdErr (by unfold listP; rw [hn]) (by exact rfl) (by simp -implicitDefEqProofs [go_sem]) (.refl _) rfl ht hokH take_set (by simp)
  · obtain ⟨rfl, rfl, rfl⟩ := h
    have hn5 := length_le hn
    have hls := shr_length _ _ _ hn
    simp -implicitDefEqProofs [go_sem]
    refine sW ?_
    simp -implicitDefEqProofs [go_sem]
    refine sW ?_
    simp -implicitDefEqProofs [go_sem]
    refine SWp.join (α := Option Nat × List Wr × List UInt8) (fun x => ([(8, outC x.1 V.length 3 (x.2.1.map wrC))], H.set b (some [.sl tk 1 (bs x.2.2)]), outV V x.1)) (fun x => (x.1 = none → x.2.1 = []) ∧ listP p src = .ok (x.2.1, x.2.2)) ?_ ?_
    · refine sW ?_
      simp -implicitDefEqProofs [go_sem]
      refine SWp.block ?_
      refine SWp.loop (α := Nat × Option Nat × List Wr × List UInt8) (fun x => ([(0, .ptr b 0), (1, .fn g []), (19, ci n), (20, ci x.1), (8, outC x.2.1 V.length 3 (x.2.2.1.map wrC))], H.set b (some [.sl tk 1 (bs x.2.2.2)]), outV V x.2.1))
        (fun x => x.1 ≤ n ∧ x.2.2.1.length = x.1 ∧ (x.2.1 = none → x.2.2.1 = []) ∧ listP p src = ahead x.2.2.1 (repP p (n - x.1) x.2.2.2) ∧ x.2.2.2.length ≤ 1000000000) (fun x => n - x.1) (0, none, [], s) ⟨Nat.zero_le _, rfl, fun _ => rfl, by unfold listP; rw [hn]; exact (ahead_nil _).symm, by dsimp only; omega⟩
        (Sh.forget (by simp -implicitDefEqProofs [go_sem]) rfl rfl) ?_
      rintro ⟨i, o, xs, s⟩ ⟨hi, hx, ho, hL, hsl⟩
      dsimp only at hi hx ho hL hsl ⊢
      refine Wp.s ?_
      simp -implicitDefEqProofs [go_sem]
      refine ⟨fun h => ?_, fun h => ?_⟩
      · refine CC.mono (hg _ _ _ _ s hsl (List.getElem?_set_self hbl)) ?_
        intro r H' V' hr
        unfold Rd at hr
        have hnn : n - i = (n - (i + 1)) + 1 := by omega
        rcases hq : p s with e | ⟨a, s'⟩ <;> rw [hq] at hr
        · have he := hp _ _ hq
          obtain ⟨_, s', ⟨cs, rfl, hcs, hall, hokc⟩, rfl, rfl, rfl⟩ := hr
          simp -implicitDefEqProofs [go_sem, hcs, hall, he]
          exact Fin.rdErr (by rw [hL, hnn, rep_err hq]) (by exact rfl) (by simp -implicitDefEqProofs [go_sem]) (.refl _) rfl ht hokH take_set2 (outV_take _ _)
        · obtain ⟨rfl, rfl, rfl⟩ := hr
          have hs' := hs _ _ _ hq
          have hL' := hL
          rw [hnn, rep_ok hq] at hL'
          have hw := wrap_succ (show i ≤ 1000000000 by omega)
          cases o with
          | none =>
            obtain rfl := ho rfl
            simp -implicitDefEqProofs [go_sem]
            refine ⟨i + 1, some 0, [] ++ [a], s', ⟨by omega, by rw [List.length_append, hx]; rfl, by simp, hL', by omega⟩, by omega, Sh.cut H.length (V.length + 1) (by simp -implicitDefEqProofs [go_sem, hw]) (Nat.le_refl _) (Nat.le_succ _) (by simp -implicitDefEqProofs [go_sem, hbl, okE_app]) (okH_set ht (Nat.le_succ _) hokH) take_set2 (List.take_of_length_le (by simp -implicitDefEqProofs [go_sem]))⟩
          | some v =>
            simp -implicitDefEqProofs [go_sem]
            refine ⟨by omega, i + 1, some (v + 1), xs ++ [a], s', ⟨by omega, by rw [List.length_append, hx]; rfl, by simp, hL', by omega⟩, by omega, Sh.cut H.length (V.length + 1) (by simp -implicitDefEqProofs [go_sem, hw]) (Nat.le_refl _) (Nat.le_succ _) (by simp -implicitDefEqProofs [go_sem, hbl, okE_app]) (okH_set ht (Nat.le_succ _) hokH) take_set2 (List.take_of_length_le (by simp -implicitDefEqProofs [go_sem]))⟩
      · exact ⟨o, xs, s, ⟨ho, by rw [hL, show n - i = 0 by omega, repP]; simp [ahead]⟩, Sh.forget (by simp -implicitDefEqProofs [go_sem]) rfl rfl⟩
    · rintro ⟨o, xs, s⟩ ⟨ho, hL⟩
      dsimp only at ho hL ⊢
      refine Wp.s ?_
      simp -implicitDefEqProofs [go_sem]
      exact Fin.rdOk hL (by simp -implicitDefEqProofs [go_sem]) (by exact outC_le _ _ _ _ (by decide) ho) rfl ht hokH take_set (outV_take _ _)
theorem writes_rd (H : Hp) (V : List Nat) (b : Nat) (tk : Tk) (src : List UInt8) (hl : src.length ≤ 1000000000) (hb : H[b]? = some (some [.sl tk 1 (bs src)])) :
    CC Tryz.prog 210 [.ptr b 0] H V (Rd b tk (fun l : List Wr => .sl .sh 3 (l.map wrC)) (· = .v (.slice none 0 0)) (listP wrP src) H V) := by
  have hbl := lt_of_box hb
  refine CC.of_swp Tryz.func210 rfl (by kernel_rfl) (by rw [Tryz.ntmps210]; exact len_le _ _ rfl) fun hok hokH => ?_
  have ht := tk_of_box hb hokH
  refine sW ?_
  simp -implicitDefEqProofs [go_sem, args0]
  refine Wp.s ?_
  simp -implicitDefEqProofs [go_sem]
  refine CC.mono (listWr_rd _ _ _ _ _ _ _ ne0_wr shr_wr (fun H V b tk src hl hb => write_rd H V b tk src hl hb) hl hb) ?_
  intro r H' V' h
  unfold Rd at h
  rcases hn : listP wrP src with e | ⟨l, s⟩ <;> rw [hn] at h
  · obtain ⟨_, s, rfl, rfl, rfl, rfl⟩ := h
    simp -implicitDefEqProofs [go_sem]
    exact Fin.rdErr rfl (by exact rfl) (by simp -implicitDefEqProofs [go_sem]) (.refl _) rfl ht hokH take_set (by simp)
  · obtain ⟨rfl, rfl, rfl⟩ := h
    simp -implicitDefEqProofs [go_sem]
    exact Fin.rdOk rfl (by simp -implicitDefEqProofs [go_sem]) (.refl _) rfl ht hokH take_set (by simp)
end Go.Proofs.YtbnkggbpocaaiaaGreatDoor
namespace Go.Proofs.YtbnkggbpocaaiaaGreatDoor
open Go.Proofs
abbrev nilC : CV := .v (.slice none 0 0)
theorem readWrites_cc (H : Hp) (V : List Nat) (tk : Tk) (src : List UInt8) (hl : src.length ≤ 1000000000) : CC Tryz.prog 209 [.sl tk 1 (bs src), .fn 210 []] H V (Pu (rdv (fun l : List Wr => .sl .sh 3 (l.map wrC)) nilC (listP wrP src)) H V) := by
  refine CC.of_swp Tryz.func209 rfl (by kernel_rfl) (by rw [Tryz.ntmps209]; exact len_le _ _ rfl) fun hok hokH => Wp.s ?_
  simp -implicitDefEqProofs [go_sem, args0]
  refine CC.mono (writes_rd _ _ _ _ _ hl (at_len _ _)) ?_
  intro r H' V' h
  unfold Rd at h
  rcases hn : listP wrP src with e | ⟨l, s⟩ <;> rw [hn] at h
  · have he := (ne0_list ne0_wr) _ _ hn
    obtain ⟨_, s, rfl, rfl, rfl, rfl⟩ := h
    simp -implicitDefEqProofs [go_sem, he]
    exact Fin.pu (.refl _) (by simp -implicitDefEqProofs [go_sem, rdv]) hokH (by simp) (by simp)
  · have hs := (shr_list shr_wr) _ _ _ hn
    obtain ⟨rfl, rfl, rfl⟩ := h
    simp -implicitDefEqProofs [go_sem]
    refine CC.mono (clone_cc _ _ _ _ (by simp only [bs_len]; omega)) ?_
    rintro _ _ _ ⟨v', rfl, rfl, rfl⟩
    simp -implicitDefEqProofs [go_sem]
    exact Fin.pu (.tup (.cons (.refl _) (.cons (.sh ..) (.cons (.refl _) .nil)))) (by simp -implicitDefEqProofs [go_sem, rdv]) hokH (by simp) (by simp)
theorem Writes_cc (H : Hp) (V : List Nat) (tk : Tk) (src : List UInt8) (hl : src.length ≤ 1000000000) : CC Tryz.prog 188 [.sl tk 1 (bs src)] H V (Pu (rdv (fun l : List Wr => .sl .sh 3 (l.map wrC)) nilC (listP wrP src)) H V) := by
  refine CC.of_swp Tryz.func188 rfl (by kernel_rfl) (by rw [Tryz.ntmps188]; exact len_le _ _ rfl) fun hok hokH => Wp.s ?_
  simp -implicitDefEqProofs [go_sem, args0]
  refine CC.mono (readWrites_cc _ _ _ _ hl) ?_
  rintro _ _ _ ⟨rfl, rfl, rfl⟩
  rcases hn : listP wrP src with e | ⟨l, s⟩
  · simp -implicitDefEqProofs [go_sem, rdv]
    exact Fin.pu (.refl _) (by simp -implicitDefEqProofs [go_sem]) hokH (by simp) (by simp)
  · simp -implicitDefEqProofs [go_sem, rdv]
    exact Fin.pu (.refl _) (by simp -implicitDefEqProofs [go_sem]) hokH (by simp) (by simp)
end Go.Proofs.YtbnkggbpocaaiaaGreatDoor
namespace Go.Proofs.YtbnkggbpocaaiaaGreatDoor
open Go.Proofs
section
variable {H H' : Hp} {V V' : List Nat} {src : List UInt8} {x : Except Nat (Nat × List UInt8)}
end
end Go.Proofs.YtbnkggbpocaaiaaGreatDoor
namespace Go.Proofs.YtbnkggbpocaaiaaGreatDoor
open Go.Proofs
end Go.Proofs.YtbnkggbpocaaiaaGreatDoor
namespace Go.Proofs.YtbnkggbpocaaiaaGreatDoor
open Go.Proofs
@[go_sem] theorem hbx_at1 (H : Hp) (a : Option (List CV)) (cs : List CV) (L : Hp) (K : List CV → Prop) : hbx (H ++ a :: some cs :: L) (H.length + 1) K = K cs := by
  rw [show H ++ a :: some cs :: L = (H ++ [a]) ++ some cs :: L by simp]; exact hbx_at (by simp)
@[go_sem] theorem set_at1 (H : Hp) (a c d : Option (List CV)) (L : Hp) : (H ++ a :: c :: L).set (H.length + 1) d = H ++ a :: d :: L := by
  rw [show H ++ a :: c :: L = (H ++ [a]) ++ c :: L by simp, set_at (by simp)]; simp
def tabC : List CV := (List.range 256).map fun j => c32 (tabE j)
theorem tabC_len : tabC.length = 256 := by rw [tabC, List.length_map, List.length_range]
theorem tabC_get (i : Nat) (h : i < tabC.length) : tabC[i] = c32 (tabE i) := by
  simp only [tabC, List.getElem_map, List.getElem_range]
theorem tabC_all : allOne tabC = true := by
  simp only [allOne, tabC, List.all_map, List.all_eq_true]; intros; rfl
theorem okL_tabC (i j : Nat) : okL i j tabC = True := eq_true (by
  rw [okL_iff]; intro c hc
  simp only [tabC, List.mem_map] at hc
  obtain ⟨b, _, rfl⟩ := hc
  trivial)
theorem tabC_take : tabC.take 256 = tabC := List.take_of_length_le (by rw [tabC_len]; exact Nat.le_refl _)
theorem fill_tab {α : Type} {cs : List α} {f : Nat → α} {i : Nat} (hc : i < cs.length) (ht : cs.take i = (List.range i).map f) : (cs.take i ++ f i :: cs.drop (i + 1)).take (i + 1) = (List.range (i + 1)).map f := by
  have h : (cs.take i).length = i := by rw [List.length_take]; omega
  rw [List.take_append, List.take_of_length_le (by omega), h, show i + 1 - i = 1 by omega, List.take_succ_cons, List.take_zero, ht, List.range_succ, List.map_append]; rfl
set_option maxRecDepth 20000 in
theorem registers_cc (H : Hp) (V : List Nat) : CC Tryz.prog 218 [] H V (Pu (.agg tabC) H V) := by
  refine CC.of_swp Tryz.func218 rfl (by kernel_rfl) (by rw [Tryz.ntmps218]; exact len_le _ _ rfl) fun hok hokH => ?_
  refine sW ?_
  simp -implicitDefEqProofs [go_sem, args0]
  refine sW ?_
  simp -implicitDefEqProofs [go_sem]
  obtain ⟨zs, hzs⟩ : ∃ zs, z256.map CV.v = zs := ⟨_, rfl⟩
  have hzl : zs.length = 256 := by rw [← hzs, List.length_map, z256, List.length_replicate]
  rw [hzs]
  refine SWp.join (α := Unit) (fun _ => ([(1, .ptr (H.length + 1) 0), (0, .ptr H.length 0)], H ++ [some zs, some tabC], V)) (fun _ => True) ?_ ?_
  · refine sW ?_
    simp -implicitDefEqProofs [go_sem]
    refine SWp.block ?_
    refine SWp.loop (α := Nat × List CV) (fun x => ([(5, ci x.1), (1, .ptr (H.length + 1) 0), (0, .ptr H.length 0)], H ++ [some zs, some x.2], V)) (fun x => x.1 ≤ 256 ∧ x.2.length = 256 ∧ x.2.take x.1 = (List.range x.1).map fun j => c32 (tabE j)) (fun x => 256 - x.1) (0, zs) ⟨Nat.zero_le _, hzl, rfl⟩ (Sh.forget (by simp -implicitDefEqProofs [go_sem]) rfl rfl) ?_
    rintro ⟨i, cs⟩ ⟨hi, hc, ht⟩
    dsimp only at hi hc ht ⊢
    refine sW ?_
    simp -implicitDefEqProofs [go_sem]
    refine sW ?_
    by_cases h : i < 256
    · simp -implicitDefEqProofs [go_sem, show (i : Int) < 256 by omega]
      refine SWp.seq (SWp.block ?_)
      refine sW ?_
      simp -implicitDefEqProofs [go_sem]
      refine sW ?_
      have hwi := ofNatR (show i < 4294967296 by omega)
      simp -implicitDefEqProofs [go_sem, hwi]
      refine SWp.join (α := Unit) (fun _ => ([(3, c32 (tabE i)), (2, ci i), (5, ci i), (1, .ptr (H.length + 1) 0), (0, .ptr H.length 0)], H ++ [some zs, some cs], V)) (fun _ => True) ?_ ?_
      · refine sW ?_
        simp -implicitDefEqProofs [go_sem]
        refine SWp.block ?_
        refine SWp.loop (α := Nat × Reg) (fun x => ([(10, ci x.1), (3, c32 x.2), (2, ci i), (5, ci i), (1, .ptr (H.length + 1) 0), (0, .ptr H.length 0)], H ++ [some zs, some cs], V)) (fun x => x.1 ≤ 8 ∧ bits (8 - x.1) x.2 = tabE i) (fun x => 8 - x.1) (0, BitVec.ofNat 32 i) ⟨Nat.zero_le _, rfl⟩ (Sh.forget (by simp -implicitDefEqProofs [go_sem]) rfl rfl) ?_
        rintro ⟨q, r⟩ ⟨hq, hr⟩
        dsimp only at hq hr ⊢
        refine Wp.s ?_
        by_cases hq8 : q < 8
        · simp -implicitDefEqProofs [go_sem, show (q : Int) < 8 by omega, and1R, shr1R, stepR]
          refine ⟨q + 1, bit1 r, ⟨by omega, ?_⟩, by omega, Sh.forget (by simp -implicitDefEqProofs [go_sem, wrap_succ (show q ≤ 1000000000 by omega)]) rfl rfl⟩
          rw [show 8 - q = (8 - (q + 1)) + 1 by omega, bits] at hr
          exact hr
        · simp -implicitDefEqProofs [go_sem, show ¬ (q : Int) < 8 by omega]
          rw [show 8 - q = 0 by omega, bits] at hr
          subst hr
          exact Sh.forget (by simp -implicitDefEqProofs [go_sem]) rfl rfl
      · rintro _ -
        dsimp only
        refine Wp.s ?_
        simp -implicitDefEqProofs [go_sem, h]
        refine ⟨by omega, by omega, ?_⟩
        refine Wp.s ?_
        simp -implicitDefEqProofs [go_sem]
        exact ⟨i + 1, cs.take i ++ c32 (tabE i) :: cs.drop (i + 1), ⟨by omega, by rw [List.length_append, List.length_cons, List.length_take, List.length_drop]; omega, fill_tab (f := fun j => c32 (tabE j)) (by omega) ht⟩, by omega, Sh.forget (by simp -implicitDefEqProofs [go_sem, wrap_succ (show i ≤ 1000000000 by omega)]) rfl rfl⟩
    · simp -implicitDefEqProofs [go_sem, show ¬ (i : Int) < 256 by omega]
      have e : cs = tabC := by
        have e2 : i = 256 := by omega
        rw [e2, List.take_of_length_le (by omega)] at ht
        exact ht
      rw [e]
      exact Sh.forget (by simp -implicitDefEqProofs [go_sem]) rfl rfl
  · rintro _ -
    dsimp only
    refine Wp.s ?_
    simp -implicitDefEqProofs [go_sem, tabC_len, tabC_take, tabC_all, hzl]
    exact Fin.pu (.refl _) (by simp -implicitDefEqProofs [go_sem, okL_tabC]) hokH (by simp) (by simp)
end Go.Proofs.YtbnkggbpocaaiaaGreatDoor
namespace Go.Proofs.YtbnkggbpocaaiaaGreatDoor
open Go.Proofs
theorem Update_cc (H : Hp) (V : List Nat) (tk : Tk) (s : Reg) (l : List UInt8) (hl : l.length ≤ 900000000) : CC Tryz.prog 199 [c32 s, .sl tk 1 (bs l)] H V (Pu (c32 (~~~(crcR (~~~s) l))) H V) := by
  refine CC.of_swp Tryz.func199 rfl (by kernel_rfl) (by rw [Tryz.ntmps199]; exact len_le _ _ rfl) fun hok hokH => ?_
  clear hok
  refine sW ?_
  simp -implicitDefEqProofs [go_sem, args0]
  refine sW ?_
  simp -implicitDefEqProofs [go_sem]
  refine CC.mono (registers_cc _ _) ?_
  rintro _ _ _ ⟨rfl, rfl, rfl⟩
  have hzl : (z256.map CV.v).length = 256 := by rw [List.length_map, z256, List.length_replicate]
  have hzl' : z256.length = 256 := by rw [z256, List.length_replicate]
  simp -implicitDefEqProofs [go_sem, tabC_len, tabC_all, hzl', List.drop_eq_nil_of_le]
  refine sW ?_
  simp -implicitDefEqProofs [go_sem, maxU32, notR]
  refine SWp.join (α := Unit) (fun _ => ([(6, c32 (crcR (~~~s) l))], H ++ [some tabC], V)) (fun _ => True) ?_ ?_
  · refine sW ?_
    simp -implicitDefEqProofs [go_sem]
    refine SWp.block ?_
    refine SWp.loop (α := Nat × Reg) (fun x => ([(14, ci x.1), (6, c32 x.2), (5, .ptr H.length 0), (12, .sl tk 1 (bs l)), (13, ci l.length)], H ++ [some tabC], V)) (fun x => x.1 ≤ l.length ∧ crcR x.2 (l.drop x.1) = crcR (~~~s) l) (fun x => l.length - x.1) (0, ~~~s) ⟨Nat.zero_le _, rfl⟩ (Sh.forget (by simp -implicitDefEqProofs [go_sem]) rfl rfl) ?_
    rintro ⟨i, r⟩ ⟨hi, hr⟩
    dsimp only at hi hr ⊢
    refine Wp.s ?_
    by_cases h : i < l.length
    · rw [List.drop_eq_getElem_cons h] at hr
      have hr : crcR (regB r l[i]) (l.drop (i + 1)) = crcR (~~~s) l := hr
      rw [reg_table] at hr
      have hx : (r ^^^ BitVec.ofNat 32 l[i].toNat).toNat % 256 < 256 := Nat.mod_lt _ (by omega)
      have hx8 := xor8 r l[i]
      generalize (r ^^^ BitVec.ofNat 32 l[i].toNat).toNat % 256 = j at hr hx hx8
      simp -implicitDefEqProofs [go_sem, h, shr8R, hx8, hx, tabC_len, tabC_get, xorR]
      exact ⟨by omega, i + 1, r >>> 8 ^^^ tabE j, ⟨by omega, hr⟩, by omega, Sh.forget (by simp -implicitDefEqProofs [go_sem, wrap_succ (show i ≤ 1000000000 by omega)]) rfl rfl⟩
    · simp -implicitDefEqProofs [go_sem, h]
      rw [List.drop_eq_nil_of_le (by omega)] at hr
      have hr : r = crcR (~~~s) l := hr
      rw [← hr]
      exact Sh.forget (by simp -implicitDefEqProofs [go_sem]) rfl rfl
  · rintro _ -
    dsimp only
    refine Wp.s ?_
    simp -implicitDefEqProofs [go_sem, maxU32, notR]
    exact Fin.pu (.refl _) (by simp -implicitDefEqProofs [go_sem]) hokH (by simp) (by simp)
theorem Sum_cc (H : Hp) (V : List Nat) (tk : Tk) (l : List UInt8) (hl : l.length ≤ 900000000) : CC Tryz.prog 171 [.sl tk 1 (bs l)] H V (Pu (c32 (crc l)) H V) := by
  refine CC.of_swp Tryz.func171 rfl (by kernel_rfl) (by rw [Tryz.ntmps171]; exact len_le _ _ rfl) fun hok hokH => Wp.s ?_
  simp -implicitDefEqProofs [go_sem, args0]
  refine CC.mono (Update_cc H V tk 0#32 l hl) ?_
  rintro _ _ _ ⟨rfl, rfl, rfl⟩
  simp -implicitDefEqProofs [go_sem]
  exact Fin.pu (.refl _) (by simp -implicitDefEqProofs [go_sem]) hokH (by simp) (by simp)
end Go.Proofs.YtbnkggbpocaaiaaGreatDoor
namespace Go.Proofs.YtbnkggbpocaaiaaGreatDoor
open Go.Proofs
structure Rcd where
  kind : Int
  sq : Int
  pay : List UInt8
def rcC (r : Rcd) : List CV := [.v (.int .i64 r.kind), .v (.int .i64 r.sq), .sl .sh 1 (bs r.pay)]
@[go_sem, simp] theorem rcC_len (r : Rcd) : (rcC r).length = 3 := by rw [rcC]; rfl
@[go_sem, simp] theorem rcC_take (r : Rcd) : (rcC r).take 3 = rcC r := rfl
@[go_sem, simp] theorem rcC_drop (r : Rcd) : (rcC r).drop 3 = [] := rfl
@[go_sem, simp] theorem rcC_all (r : Rcd) : allOne (rcC r) = true := rfl
@[go_sem, simp] theorem rcC_0 (r : Rcd) (h : 0 < (rcC r).length) : (rcC r)[0] = CV.v (.int .i64 r.kind) := rfl
@[go_sem, simp] theorem rcC_1 (r : Rcd) (h : 1 < (rcC r).length) : (rcC r)[1] = CV.v (.int .i64 r.sq) := rfl
@[go_sem, simp] theorem rcC_2 (r : Rcd) (h : 2 < (rcC r).length) : (rcC r)[2] = .sl .sh 1 (bs r.pay) := rfl
@[go_sem] theorem okL_rcC (i j : Nat) (r : Rcd) : okL i j (rcC r) = True := by simp [rcC, go_sem, okL, okV]
@[go_sem] theorem okE_rcs (i j : Nat) (l : List Rcd) : okE i j (l.map rcC) = True := eq_true (okE_map rcC l fun e => by rw [okL_rcC]; trivial)
def zrc : Rcd := ⟨0, 0, []⟩
def bodyR (kind : Int) (p : List UInt8) : List UInt8 := byt kind :: UInt8.ofNat (p.length % 256) :: UInt8.ofNat (p.length / 256 % 256) :: p
def strmR (kind : Int) (p : List UInt8) : List UInt8 := bodyR kind p ++ le4 (crc (bodyR kind p)).toNat
def quadR (st : List UInt8) (i : Nat) : List UInt8 := let q := (st.drop (4 * i)).take 4; q ++ List.replicate (4 - q.length) 0
def secR (sq : Nat) (st : List UInt8) (i : Nat) : Sec := mkSec (le4 sq ++ quadR st i)
def secsR (sq : Nat) (st : List UInt8) : List Sec := (List.range ((st.length + 3) / 4)).map (secR sq st)
def szR (n : Int) : Int := if n < 0 ∨ 4096 < n then 0 else (n + 10) / 4
def encR (r : Rcd) : Except Nat (List Sec) :=
  if r.kind < 1 ∨ 255 < r.kind ∨ r.sq < 1 ∨ 4294967295 < r.sq then .error 2 else if 4096 < r.pay.length then .error 5 else .ok (secsR r.sq.toNat (strmR r.kind r.pay))
def lenR (s : Sec) : Nat := (s.val.getD 5 0).toNat + 256 * (s.val.getD 6 0).toNat
structure Jrn where
  start : Int
  count : Int
  head : Int
  tail : Int
  first : Int
  sizes : List Int
def jrC (j : Jrn) : List CV := [.v (.int .i64 j.start), .v (.int .i64 j.count), .v (.int .i64 j.head), .v (.int .i64 j.tail), .v (.int .i64 j.first), .sl .sh 1 (j.sizes.map ic)]
@[go_sem, simp] theorem jrC_len (r : Jrn) : (jrC r).length = 6 := by rw [jrC]; rfl
@[go_sem, simp] theorem jrC_take (r : Jrn) : (jrC r).take 6 = jrC r := rfl
@[go_sem, simp] theorem jrC_drop (r : Jrn) : (jrC r).drop 6 = [] := rfl
@[go_sem, simp] theorem jrC_take2 (r : Jrn) : (jrC r).take 2 = [.v (.int .i64 r.start), .v (.int .i64 r.count)] := rfl
@[go_sem, simp] theorem jrC_all (r : Jrn) : allOne (jrC r) = true := rfl
@[go_sem, simp] theorem jrC_0 (r : Jrn) (h : 0 < (jrC r).length) : (jrC r)[0] = CV.v (.int .i64 r.start) := rfl
@[go_sem, simp] theorem jrC_1 (r : Jrn) (h : 1 < (jrC r).length) : (jrC r)[1] = CV.v (.int .i64 r.count) := rfl
@[go_sem, simp] theorem jrC_2 (r : Jrn) (h : 2 < (jrC r).length) : (jrC r)[2] = CV.v (.int .i64 r.head) := rfl
@[go_sem, simp] theorem jrC_3 (r : Jrn) (h : 3 < (jrC r).length) : (jrC r)[3] = CV.v (.int .i64 r.tail) := rfl
@[go_sem, simp] theorem jrC_4 (r : Jrn) (h : 4 < (jrC r).length) : (jrC r)[4] = CV.v (.int .i64 r.first) := rfl
@[go_sem, simp] theorem jrC_5 (r : Jrn) (h : 5 < (jrC r).length) : (jrC r)[5] = .sl .sh 1 (r.sizes.map ic) := rfl
@[go_sem] theorem okL_jrC (i j : Nat) (r : Jrn) : okL i j (jrC r) = True := by simp [jrC, go_sem, okL, okV, okE_ints]
def zjr : Jrn := ⟨0, 0, 0, 0, 0, []⟩
def validJ (s c : Int) : Bool := decide (0 ≤ s) && decide (20 ≤ c) && decide (s ≤ 4096) && decide (c ≤ 4096 - s)
def sumI (l : List Int) : Int := l.foldl (· + ·) 0
def okSz (n : Int) : Bool := decide (2 ≤ n) && decide (n ≤ 1026)
def chkJ (j : Jrn) : Bool :=
  validJ j.start j.count && decide (0 ≤ j.head) && decide (j.head < j.count - 16) && decide (1 ≤ j.first) && decide (j.first ≤ 1073741824) && j.sizes.all okSz && decide (sumI j.sizes ≤ j.count - 16) &&
    decide (j.tail = (j.head + sumI j.sizes) % (j.count - 16)) && decide (j.first + j.sizes.length ≤ 1073741824)
def freeJ (j : Jrn) : Int := j.count - 16 - sumI j.sizes
def nextJ (j : Jrn) : Int := j.first + j.sizes.length
def wrapW (s c p : Int) (l : List Sec) : List Opn :=
  let k := min l.length (c - 16 - p).toNat
  opW (s + 16 + p) (l.take k) :: (if k < l.length then [opW (s + 16) (l.drop k)] else [])
def superJ (h f : Int) : List UInt8 := enc h ++ enc f
def formatJ (s c : Int) : Jrn × List Opn × Nat :=
  if validJ s c = false then (zjr, [], 2) else
  if (formatS s (superJ 0 1)).2 ≠ 0 then (zjr, [], (formatS s (superJ 0 1)).2) else (⟨s, c, 0, 0, 1, []⟩, opW (s + 16) (List.replicate (c - 16).toNat sec0) :: opS :: (formatS s (superJ 0 1)).1, 0)
def appJ (j : Jrn) (kind : Int) (p : List UInt8) : Jrn × List Opn × Nat :=
  if chkJ j = false then (zjr, [], 3) else
  match encR ⟨kind, nextJ j, p⟩ with
  | .error e => (zjr, [], e)
  | .ok l =>
    if 1073741824 ≤ nextJ j then (zjr, [], 6) else if freeJ j < l.length then (zjr, [], 11)
    else (⟨j.start, j.count, j.head, (j.tail + l.length) % (j.count - 16), j.first, j.sizes ++ [(l.length : Int)]⟩, wrapW j.start j.count j.tail l ++ [opS], 0)
end Go.Proofs.YtbnkggbpocaaiaaGreatDoor
namespace Go.Proofs.YtbnkggbpocaaiaaGreatDoor
open Go.Proofs
theorem sindexC_cc (H : Hp) (V : List Nat) (tk : Tk) (l : List Cach) (d : Dk) (b : Nat) (hb : H[b]? = some (some (dkC d))) (hl : l.length ≤ 900000000) :
    CC Tryz.prog 179 [.sl tk 9 (l.map cachC), .fn 138 [.ptr b 0]] H V (Ix (l.any (badAt d)) H V) := by
  refine CC.of_swp Tryz.func179 rfl (by kernel_rfl) (by rw [Tryz.ntmps179]; exact len_le _ _ rfl) fun hok hokH => ?_
  clear hok
  refine sW ?_
  simp -implicitDefEqProofs [go_sem, args0]
  refine SWp.join (α := Unit) (fun _ => ([], H, V)) (fun _ => l.any (badAt d) = false) ?_ ?_
  · refine sW ?_
    simp -implicitDefEqProofs [go_sem]
    refine SWp.block ?_
    refine SWp.loop (α := Nat) (fun i => ([(0, .sl tk 9 (l.map cachC)), (1, .fn 138 [.ptr b 0]), (7, ci l.length), (8, ci i)], H, V)) (fun i => i ≤ l.length ∧ (l.take i).any (badAt d) = false) (fun i => l.length - i) 0 ⟨Nat.zero_le _, rfl⟩
      (Sh.forget (by simp -implicitDefEqProofs [go_sem]) rfl rfl) ?_
    rintro i ⟨hi, hp⟩
    dsimp only
    refine Wp.s ?_
    simp -implicitDefEqProofs [go_sem]
    refine ⟨fun h => ⟨h, ?_⟩, fun h => ⟨?_, Sh.forget (by simp -implicitDefEqProofs [go_sem]) rfl rfl⟩⟩
    · refine CC.mono (sCheck1_cc _ _ d _ _ hb) ?_
      rintro _ _ _ ⟨rfl, rfl, rfl⟩
      rcases hq : badAt d l[i] with - | -
      · simp -implicitDefEqProofs [go_sem]
        refine ⟨i + 1, ⟨by omega, by simpa using any_take h hp hq⟩, by omega, Sh.forget ?_ rfl rfl⟩
        simp -implicitDefEqProofs [go_sem, wrap_succ (show i ≤ 1000000000 by omega)]
      · simp -implicitDefEqProofs [go_sem]
        exact Fin.ix (by rw [any_at h hq]; simp) hokH (by simp) (by simp)
    · rw [List.take_of_length_le h] at hp; simpa using hp
  · rintro _ hp
    dsimp only
    refine Wp.s ?_
    simp -implicitDefEqProofs [go_sem]
    exact Fin.ix (by rw [hp]; rfl) hokH (by simp) (by simp)
theorem scontainsC_cc (H : Hp) (V : List Nat) (tk : Tk) (l : List Cach) (d : Dk) (b : Nat) (hb : H[b]? = some (some (dkC d))) (hl : l.length ≤ 900000000) :
    CC Tryz.prog 137 [.sl tk 9 (l.map cachC), .fn 138 [.ptr b 0]] H V (Pu (cb (l.any (badAt d))) H V) := by
  refine CC.of_swp Tryz.func137 rfl (by kernel_rfl) (by rw [Tryz.ntmps137]; exact len_le _ _ rfl) fun hok hokH => Wp.s ?_
  simp -implicitDefEqProofs [go_sem, args0]
  refine CC.mono (sindexC_cc _ _ _ _ d _ hb hl) ?_
  rintro _ _ _ ⟨k, rfl, hk, rfl, rfl⟩
  simp -implicitDefEqProofs [go_sem]
  exact Fin.bool hk hokH (by simp) (by simp)
def DkS (d : Dk) : Prop := d.stable.length ≤ 1000000 ∧ d.cache.length ≤ 1000000
theorem sCheck_cc (H : Hp) (V : List Nat) (d : Dk) (hl : DkS d) : CC Tryz.prog 80 [.agg (dkC d)] H V (Pu (er (checkD d)) H V) := by
  refine CC.of_swp Tryz.func80 rfl (by kernel_rfl) (by rw [Tryz.ntmps80]; exact len_le _ _ rfl) fun hok hokH => ?_
  clear hok
  refine sW ?_
  simp -implicitDefEqProofs [go_sem, args0]
  refine Wp.s ?_
  by_cases h1 : 4096 < d.stable.length
  · simp -implicitDefEqProofs [go_sem, show (4096 : Int) < d.stable.length by omega]
    exact Fin.er (by rw [checkD, if_pos (.inl h1)]) hokH (by simp) (by simp)
  · simp -implicitDefEqProofs [go_sem, show ¬ (4096 : Int) < d.stable.length by omega]
    refine CC.mono (scontainsC_cc _ _ .sh _ d _ (by simp) (by have := hl.2; omega)) ?_
    rintro _ _ _ ⟨rfl, rfl, rfl⟩
    rcases hq : d.cache.any (badAt d) with - | -
    · simp -implicitDefEqProofs [go_sem]
      exact Fin.er (by rw [checkD, if_neg (by simp only [hq, not_or]; exact ⟨h1, by decide⟩)]) hokH (by simp) (by simp)
    · simp -implicitDefEqProofs [go_sem]
      exact Fin.er (by rw [checkD, if_pos (.inr hq)]) hokH (by simp) (by simp)
end Go.Proofs.YtbnkggbpocaaiaaGreatDoor
namespace Go.Proofs.YtbnkggbpocaaiaaGreatDoor
open Go.Proofs
theorem scloneC_cc (H : Hp) (V : List Nat) (tk : Tk) (l : List Cach) (hx : l.length ≤ 1000000000) : CC Tryz.prog 139 [.sl tk 9 (l.map cachC)] H V (Fr 9 (l.map cachC) H V) := by
  refine CC.of_swp Tryz.func139 rfl (by kernel_rfl) (by rw [Tryz.ntmps139]; exact len_le _ _ rfl) fun hok hokH => ?_
  clear hok
  refine sW ?_
  simp -implicitDefEqProofs [go_sem, args0]
  refine sW ?_
  simp -implicitDefEqProofs [go_sem]
  refine ⟨Wp.s ?_, fun e => Fin.frtok (by decide) (.inl ⟨rfl, by rw [e]; rfl⟩) (by simp -implicitDefEqProofs [go_sem]) hokH (by simp) (by simp)⟩
  simp -implicitDefEqProofs [go_sem]
  exact ⟨by omega, Fin.fr (by simp -implicitDefEqProofs [go_sem]) hokH (by simp)⟩
theorem scloneS_cc (H : Hp) (V : List Nat) (tk : Tk) (l : List Sec) (hx : l.length ≤ 1000000000) : CC Tryz.prog 122 [.sl tk 8 (l.map secC)] H V (Fr 8 (l.map secC) H V) := by
  refine CC.of_swp Tryz.func122 rfl (by kernel_rfl) (by rw [Tryz.ntmps122]; exact len_le _ _ rfl) fun hok hokH => ?_
  clear hok
  refine sW ?_
  simp -implicitDefEqProofs [go_sem, args0]
  refine sW ?_
  simp -implicitDefEqProofs [go_sem]
  refine ⟨Wp.s ?_, fun e => Fin.frtok (by decide) (.inl ⟨rfl, by rw [e]; rfl⟩) (by simp -implicitDefEqProofs [go_sem]) hokH (by simp) (by simp)⟩
  simp -implicitDefEqProofs [go_sem]
  exact ⟨by omega, Fin.fr (by simp -implicitDefEqProofs [go_sem]) hokH (by simp)⟩
theorem scloneB_cc (H : Hp) (V : List Nat) (tk : Tk) (l : List Sec) (h0 : l ≠ []) (hx : l.length ≤ 1000000000) : CC Tryz.prog 122 [.sl tk 8 (l.map secC)] H V (fun r H' V' => r = .bsl H.length 0 l.length 8 ∧ H' = H ++ [some (secsF l)] ∧ V = V') := by
  have hne : l.map secC ≠ [] := fun e => h0 (by simpa using e)
  refine CC.of_swp Tryz.func122 rfl (by kernel_rfl) (by rw [Tryz.ntmps122]; exact len_le _ _ rfl) fun hok hokH => ?_
  clear hok
  refine sW ?_
  simp -implicitDefEqProofs [go_sem, args0]
  refine sW ?_
  simp -implicitDefEqProofs [go_sem]
  refine ⟨SWp.seq (SWp.opx (pre := [_, _]) (post := [_]) rfl (by intro c e; cases e) ?_), fun e => absurd e h0⟩
  simp -implicitDefEqProofs [go_sem]
  refine ⟨_, _, _, appbox (sz := 8) (tk := tk) (ys := l.map secC) slTy46 slTy46 rfl rfl hne (by rw [List.length_map]; omega), ?_⟩
  rw [List.length_map]
  refine Wp.s ?_
  simp -implicitDefEqProofs [go_sem]
  refine Fin.cut (H.length + 1) V.length ⟨rfl, rfl, rfl⟩ (Nat.le_succ _) (Nat.le_refl _) (List.take_of_length_le (by simp)) (List.take_of_length_le (Nat.le_refl _)) (.bsa _ _ _) (by simp -implicitDefEqProofs [go_sem]) ?_
  intro b cs hb
  rw [List.getElem?_append] at hb
  split at hb
  · exact okL_mono (Nat.le_succ _) (Nat.le_refl _) (hokH b cs hb)
  · exact okH_get (i := H.length + 1) (j := V.length) (L := [some (secsF l)]) (by simp -implicitDefEqProofs [go_sem]) _ _ hb
end Go.Proofs.YtbnkggbpocaaiaaGreatDoor
namespace Go.Proofs.YtbnkggbpocaaiaaGreatDoor
open Go.Proofs
@[go_sem, simp] theorem cachC_tail (c : Cach) : (cachC c).tail = secC c.data := rfl
def nst (d : Dk) (i : Nat) : List Sec := (d.cache.take i).foldl setC d.stable
theorem nst_len (d : Dk) (i : Nat) : (nst d i).length = d.stable.length := foldl_setC_len _ _
theorem nst_end (d : Dk) (i : Nat) (h : d.cache.length ≤ i) : nst d i = newestD d := by rw [nst, List.take_of_length_le h]; rfl
theorem nst_succ (d : Dk) (i : Nat) (h : i < d.cache.length) : nst d (i + 1) = (nst d i).set d.cache[i].pos.toNat d.cache[i].data := foldl_take_succ _ _ _ _ h
theorem chk_get {d : Dk} (h : checkD d = 0) (i : Nat) (hi : i < d.cache.length) : 0 ≤ d.cache[i].pos ∧ d.cache[i].pos.toNat < d.stable.length := (checkD_0 h).2 _ (List.getElem_mem hi)
theorem snewest_cc (H : Hp) (V : List Nat) (d : Dk) (hl : DkS d) (hc : checkD d = 0) : CC Tryz.prog 89 [.agg (dkC d)] H V (Pu (secsV (newestD d)) H V) := by
  refine CC.of_swp Tryz.func89 rfl (by kernel_rfl) (by rw [Tryz.ntmps89]; exact len_le _ _ rfl) fun hok hokH => ?_
  clear hok
  have hl1 := hl.1
  have hl2 := hl.2
  refine sW ?_
  simp -implicitDefEqProofs [go_sem, args0]
  refine sW ?_
  simp -implicitDefEqProofs [go_sem]
  by_cases h0 : d.stable = []
  · have h1 : d.cache = [] := by
      rcases hd : d.cache with - | ⟨c, l⟩
      · rfl
      · have := chk_get hc 0 (by rw [hd]; simp)
        rw [h0] at this; simp at this
    have hn : newestD d = [] := by rw [newestD, h1, h0]; rfl
    refine CC.mono (scloneS_cc _ _ .sh _ (by omega)) ?_
    rintro _ _ _ ⟨v, rfl, rfl, rfl⟩
    simp -implicitDefEqProofs [go_sem]
    refine SWp.join (α := Unit) (fun _ => ([(3, .sl .sh 8 [])], H ++ [some (dkC d)], V ++ [v])) (fun _ => True) ?_ ?_
    · refine sW ?_
      simp -implicitDefEqProofs [go_sem]
      refine SWp.block ?_
      refine SWp.loop (α := Unit) (fun i => ([(3, .sl .sh 8 []), (11, ci 0), (12, ci 0)], H ++ [some (dkC d)], V ++ [v])) (fun i => True) (fun i => 0) () trivial (Sh.forget (by simp -implicitDefEqProofs [go_sem, h0, h1]) rfl rfl) ?_
      rintro i -
      dsimp only
      refine Wp.s ?_
      simp -implicitDefEqProofs [go_sem]
      exact Sh.forget (by simp -implicitDefEqProofs [go_sem]) rfl rfl
    · rintro _ -
      dsimp only
      refine Wp.s ?_
      simp -implicitDefEqProofs [go_sem]
      exact Fin.pu (by rw [hn]; exact .refl _) (by simp -implicitDefEqProofs [go_sem]) hokH (by simp) (by simp)
  refine CC.mono (scloneB_cc _ _ .sh _ h0 (by omega)) ?_
  rintro _ _ _ ⟨rfl, rfl, rfl⟩
  simp -implicitDefEqProofs [go_sem]
  refine SWp.join (α := Unit) (fun _ => ([(3, .bsl (H.length + 1) 0 d.stable.length 8)], H ++ [some (dkC d), some (secsF (newestD d))], V)) (fun _ => True) ?_ ?_
  · refine sW ?_
    simp -implicitDefEqProofs [go_sem]
    refine SWp.block ?_
    refine SWp.loop (α := Nat) (fun i => ([(3, .bsl (H.length + 1) 0 d.stable.length 8), (10, cachV d.cache), (11, ci d.cache.length), (12, ci i)], H ++ [some (dkC d), some (secsF (nst d i))], V)) (fun i => i ≤ d.cache.length) (fun i => d.cache.length - i) 0 (Nat.zero_le _)
      (Sh.forget (by simp -implicitDefEqProofs [go_sem]) (by simp [nst]) rfl) ?_
    rintro i hi
    dsimp only
    refine Wp.s ?_
    simp -implicitDefEqProofs [go_sem]
    refine ⟨fun h => ?_, fun h => Sh.forget (by simp -implicitDefEqProofs [go_sem]) (by rw [nst_end _ _ h]) rfl⟩
    obtain ⟨c1, c2⟩ := chk_get hc i h
    refine ⟨h, c1, by omega, by rw [nst_len]; omega, i + 1, by omega, by omega, Sh.trim (L := [some (dkC d), some (secsF (nst d (i + 1)))]) ?_ ?_ hokH ?_ (Nat.le_refl _) ?_ (by simp)⟩
    · simp -implicitDefEqProofs [go_sem, wrap_succ (show i ≤ 1000000000 by omega)]
    · simp -implicitDefEqProofs [go_sem]
    · simp -implicitDefEqProofs [go_sem]
    · rw [nst_succ _ _ h, ← secsF_set' (by rw [nst_len]; omega)]; simp
  · rintro _ -
    dsimp only
    refine Wp.s ?_
    simp -implicitDefEqProofs [go_sem]
    refine Fin.froz (b := H.length + 1) (cs := secsF (newestD d)) ⟨rfl, rfl, rfl⟩ (.refl _) (by simp) (xs := (newestD d).map secC) (by rw [List.drop_zero, ← newestD_len, chunks_secs]) (by simp [newestD_len]; omega) (by omega) (by simp -implicitDefEqProofs [go_sem]) hokH (by simp) (by simp)
end Go.Proofs.YtbnkggbpocaaiaaGreatDoor
namespace Go.Proofs.YtbnkggbpocaaiaaGreatDoor
open Go.Proofs
theorem okV_er (i j : Nat) (e : Nat) : okV i j (er e) := by rw [er, okV]; trivial
theorem sRead_cc (H : Hp) (V : List Nat) (d : Dk) (e : Ext2) (hl : DkS d) : CC Tryz.prog 29 [.agg (dkC d), .agg (extC e)] H V (Pu (.tup [secsV (readD d e.start e.count).1, er (readD d e.start e.count).2]) H V) := by
  refine CC.of_swp Tryz.func29 rfl (by kernel_rfl) (by rw [Tryz.ntmps29]; exact len_le _ _ rfl) fun hok hokH => ?_
  clear hok
  have hl1 := hl.1
  have hl2 := hl.2
  refine sW ?_
  simp -implicitDefEqProofs [go_sem, args0]
  refine sW ?_
  simp -implicitDefEqProofs [go_sem]
  refine CC.mono (sCheck_cc _ _ d hl) ?_
  rintro _ _ _ ⟨rfl, rfl, rfl⟩
  simp -implicitDefEqProofs [go_sem]
  refine ⟨fun hc => ?_, fun hc => ?_⟩
  case refine_1 =>
    have hr : readD d e.start e.count = ([], checkD d) := by rw [readD, if_pos hc]
    rw [hr]
    exact Fin.tup2 (by exact .nil 8 (by decide)) (.refl _) (by simp -implicitDefEqProofs [go_sem]) (by simp -implicitDefEqProofs [go_sem]) hokH (by simp) (by simp)
  refine sW ?_
  simp -implicitDefEqProofs [go_sem]
  refine CC.mono (sinside_cc _ _ d e.start e.count (by omega)) ?_
  rintro _ _ _ ⟨rfl, rfl, rfl⟩
  simp -implicitDefEqProofs [go_sem]
  rcases hq : insideB d e.start e.count with - | -
  · simp -implicitDefEqProofs [go_sem]
    have hr : readD d e.start e.count = ([], 2) := by rw [readD, if_neg (by simp [hc]), if_pos hq]
    rw [hr]
    exact Fin.tup2 (by exact .nil 8 (by decide)) (.refl _) (by simp -implicitDefEqProofs [go_sem]) (by simp -implicitDefEqProofs [go_sem]) hokH (by simp) (by simp)
  have hi : 0 ≤ e.start ∧ 0 ≤ e.count ∧ e.count ≤ (d.stable.length : Int) ∧ e.start ≤ (d.stable.length : Int) - e.count := by
    simpa [insideB, and_assoc] using hq
  have hr : readD d e.start e.count = (((newestD d).drop e.start.toNat).take e.count.toNat, 0) := by rw [readD, if_neg (by simp [hc]), if_neg (by simp [hq])]
  rw [hr]
  obtain ⟨i1, i2, i3, i4⟩ := hi
  simp -implicitDefEqProofs [go_sem]
  refine SWp.seq (SWp.drawnL [0, 2, 3, 4, 5, 6, 7, 8, 9, 10, 11, 12, 13, 1, 14, 15, 16] (by kernel_rfl) (by kernel_rfl) rfl ?_)
  simp -implicitDefEqProofs [go_sem, IntWalk.i64_in (e.start + e.count) ⟨by omega, by omega⟩]
  refine CC.mono (snewest_cc _ _ d hl hc) ?_
  rintro _ _ _ ⟨rfl, rfl, rfl⟩
  simp -implicitDefEqProofs [go_sem]
  have hn := newestD_len d
  refine ⟨i1, by omega, by omega, by omega, Wp.s ?_⟩
  simp -implicitDefEqProofs [go_sem]
  refine Fin.tup2 ?_ (.refl _) (okV_secsV _ _ _) (okV_er _ _ _) hokH (by simp) (by simp)
  have e1 : (e.start + e.count).toNat = e.start.toNat + e.count.toNat := by omega
  refine .trans (.sh _ _ _) (.of_eq ?_)
  rw [secsV, e1, List.drop_take, Nat.add_sub_cancel_left, List.map_take, List.map_drop]
end Go.Proofs.YtbnkggbpocaaiaaGreatDoor
namespace Go.Proofs.YtbnkggbpocaaiaaGreatDoor
open Go.Proofs
def Ap (j : Nat) (l : List Cach) (cv : CV) (V : List Nat) : Prop := (cv = .v (.slice none 0 0) ∧ l = []) ∨ ∃ k v, cv = .sl (.own k v) 9 (l.map cachC) ∧ V[k]? = some v ∧ j ≤ k
theorem Ap.le {j : Nat} {l : List Cach} {cv : CV} {V : List Nat} (h : Ap j l cv V) : Le cv (cachV l) := by
  rcases h with ⟨rfl, rfl⟩ | ⟨k, v, rfl, _⟩
  · exact .nil 9 (by decide)
  · exact .sh _ _ _
theorem Ap.one {j : Nat} {l : List Cach} {cv : CV} {V : List Nat} (h : Ap j l cv V) : cv.one = true := by
  rcases h with ⟨rfl, rfl⟩ | ⟨k, v, rfl, _⟩ <;> rfl
theorem Ap.ok {i j : Nat} {l : List Cach} {cv : CV} {V : List Nat} (h : Ap j l cv V) : okV i V.length cv := by
  rcases h with ⟨rfl, rfl⟩ | ⟨k, v, rfl, h, _⟩
  · rw [okV]; trivial
  · rw [okV_own, okE_cach]; exact ⟨(List.getElem?_eq_some_iff.1 h).1, trivial⟩
def XR (X j : Nat) (r : CV) (d : Dk) (H : Hp) (V : List Nat) : CV → Hp → List Nat → Prop := fun r' H' V' => r' = r ∧ ∃ cv, H' = H.set X (some [secsV d.stable, cv]) ∧ Ap j d.cache cv V' ∧ V'.take j = V.take j ∧ V.length ≤ V'.length
def puts (a : Int) (l : List Sec) : List Cach := l.zipIdx.map fun p => ⟨a + p.2, p.1⟩
theorem puts_len (a : Int) (l : List Sec) : (puts a l).length = l.length := by simp [puts]
theorem puts_succ (a : Int) (l : List Sec) (i : Nat) (h : i < l.length) : puts a (l.take (i + 1)) = puts a (l.take i) ++ [⟨a + i, l[i]⟩] := by
  rw [List.take_succ_eq_append_getElem h, puts, puts, List.zipIdx_append, List.map_append]
  simp [Nat.min_eq_left (Nat.le_of_lt h)]
def wrD (d : Dk) (a : Int) (l : List Sec) : Dk := ⟨d.stable, d.cache ++ puts a l⟩
theorem swrite_cc (H : Hp) (V : List Nat) (X j : Nat) (hX : X < H.length) (d : Dk) (o : Opn) (cv : CV) (ha : Ap j d.cache cv V) (hj : j ≤ V.length) (hl : DkS d) (hl2 : d.cache.length + o.data.length ≤ 1000000) (hok0 : ∀ (b : Nat) cs, (H.set X (some [secsV d.stable, cv]))[b]? = some (some cs) → okL H.length V.length cs) :
    CC Tryz.prog 140 [.ptr X 0, .agg (opC o)] (H.set X (some [secsV d.stable, cv])) V (XR X j (er (if insideB d o.pos o.data.length then 0 else 2)) (if insideB d o.pos o.data.length then wrD d o.pos o.data else d) H V) := by
  refine CC.of_swp Tryz.func140 rfl (by kernel_rfl) (by rw [Tryz.ntmps140]; exact len_le _ _ rfl) fun hok hokH => ?_
  clear hok
  have h1 := hl.1
  refine sW ?_
  simp -implicitDefEqProofs [go_sem, args0]
  refine SWp.seq (SWp.seq (SWp.drawnL (List.range 11) (by kernel_rfl) (by kernel_rfl) rfl ?_))
  simp -implicitDefEqProofs [go_sem, List.range, List.range.loop, hX]
  refine CC.le (.cons (.agg (.cons (.refl _) (.cons ha.le .nil))) (.cons (.refl _) (.cons (.refl _) .nil))) (CC.mono (sinside_cc _ _ d o.pos _ (by omega)) ?_)
  rintro _ _ _ ⟨rfl, rfl, rfl⟩
  simp -implicitDefEqProofs [go_sem]
  refine Wp.s ?_
  have fin : ∀ (e : Nat) (d' : Dk) (cv' : CV) (L : Hp) (V' : List Nat), Ap j d'.cache cv' V' → V'.take j = V.take j → j ≤ V'.length → V.length ≤ V'.length → d'.stable = d.stable →
      Fin H.length V.length (XR X j (er e) d' H V) (er e) (H.set X (some [secsV d.stable, cv']) ++ L) V' := fun e d' cv' L V' h1 h2 h3 h4 h5 => by
    refine Fin.cut (H.length) V'.length ⟨rfl, cv', by rw [h5], h1, h2, h4⟩ (Nat.le_refl _) h4 (by rw [List.take_append_of_le_length (by simp), List.take_of_length_le (by simp)]) (List.take_of_length_le (Nat.le_refl _)) (.refl _) (okV_er _ _ _) ?_
    intro b cs hb
    by_cases hbX : b = X
    · subst hbX
      rw [List.getElem?_set_self hX] at hb
      simp at hb; subst hb
      rw [okL, okL, okL]
      exact ⟨okV_secsV _ _ _, h1.ok, trivial⟩
    · refine okL_mono (Nat.le_refl _) h4 (hok0 b cs ?_)
      rw [List.getElem?_set_ne (fun e => hbX e.symm)] at hb ⊢
      exact hb
  have okX : ∀ (l : List Cach) (cv' : CV) (V' : List Nat), Ap j l cv' V' → V.length ≤ V'.length → ∀ (b : Nat) cs, (H.set X (some [secsV d.stable, cv']) ++ [some (opC o)])[b]? = some (some cs) → okL (H.length + 1) V'.length cs := fun l cv' V' h1 h4 b cs hb => by
    rw [List.getElem?_append] at hb
    split at hb
    · by_cases hbX : b = X
      · subst hbX
        rw [List.getElem?_set_self hX] at hb
        simp at hb; subst hb
        rw [okL, okL, okL]
        exact ⟨okV_secsV _ _ _, h1.ok, trivial⟩
      · refine okL_mono (Nat.le_succ _) h4 (hok0 b cs ?_)
        rw [List.getElem?_set_ne (fun e => hbX e.symm)] at hb ⊢
        exact hb
    · exact okH_get (i := H.length + 1) (j := V'.length) (L := [some (opC o)]) (by rw [okH_some, okL_opC]; exact ⟨trivial, trivial⟩) _ _ hb
  rcases hq : insideB d o.pos o.data.length with - | -
  · simp -implicitDefEqProofs [go_sem, hq]
    exact fin 2 d cv _ V ha rfl hj (Nat.le_refl _) rfl
  simp -implicitDefEqProofs [go_sem, hq]
  have hin : 0 ≤ o.pos ∧ o.pos ≤ (d.stable.length : Int) - o.data.length := by
    simp only [insideB, Bool.and_eq_true, decide_eq_true_eq] at hq; omega
  refine SWp.join (α := CV × List Nat) (fun x => ([], H.set X (some [secsV d.stable, x.1]) ++ [some (opC o)], x.2)) (fun x => Ap j (d.cache ++ puts o.pos o.data) x.1 x.2 ∧ x.2.take j = V.take j ∧ j ≤ x.2.length ∧ V.length ≤ x.2.length) ?_ ?_
  · refine sW ?_
    simp -implicitDefEqProofs [go_sem, hX]
    refine SWp.block ?_
    refine SWp.loop (α := Nat × CV × List Nat) (fun x => ([(0, .ptr X 0), (3, .ptr H.length 0), (19, secsV o.data), (20, ci o.data.length), (21, ci x.1)], H.set X (some [secsV d.stable, x.2.1]) ++ [some (opC o)], x.2.2))
      (fun x => x.1 ≤ o.data.length ∧ Ap j (d.cache ++ puts o.pos (o.data.take x.1)) x.2.1 x.2.2 ∧ x.2.2.take j = V.take j ∧ j ≤ x.2.2.length ∧ V.length ≤ x.2.2.length) (fun x => o.data.length - x.1) (0, cv, V) ⟨Nat.zero_le _, by simpa [puts] using ha, rfl, hj, Nat.le_refl _⟩
      (Sh.forget (by simp -implicitDefEqProofs [go_sem]) rfl rfl) ?_
    rintro ⟨i, cv', V'⟩ ⟨hi, hap, hv1, hv2, hv3⟩
    dsimp only at hi hap hv1 hv2 hv3 ⊢
    refine sW ?_
    simp -implicitDefEqProofs [go_sem]
    refine sW ?_
    simp -implicitDefEqProofs [go_sem]
    refine ⟨fun h => ?_, fun h => ⟨cv', V', ⟨by rw [List.take_of_length_le h] at hap; exact hap, hv1, hv2, hv3⟩, Sh.forget (by simp -implicitDefEqProofs [go_sem]) rfl rfl⟩⟩
    refine SWp.seq (SWp.block (sW ?_))
    simp -implicitDefEqProofs [go_sem, h, hX]
    have hw : IntKind.i64.wrap (o.pos + (i : Int)) = o.pos + i := IntWalk.i64_in _ ⟨by omega, by omega⟩
    rcases hap with ⟨rfl, he⟩ | ⟨k, v, rfl, hv, hk⟩
    · refine SWp.drawnT [] [17] (.s 0 .pl <| .s 1 .pl <| .s 2 .pl <| .s 3 .pl <| .s 4 .pl <| .s 5 .pl <| .s 6 .pl <| .s 7 .pl <| .s 8 .pl <| .s 9 .pl <| .s 10 .pl <| .s 11 .pl <| .s 12 .pl <| .s 13 .pl <| .s 14 .pl <| .s 15 .pl <| .s 16 .pl <| .s 17 .st <| .n) (by kernel_rfl) (by kernel_rfl) ?_
      simp -implicitDefEqProofs [go_sem, h, hX]
      have he' : d.cache = [] ∧ puts o.pos (o.data.take i) = [] := List.append_eq_nil_iff.1 he
      have hap' : Ap j (d.cache ++ puts o.pos (o.data.take (i + 1))) (.sl (.own V'.length 0) 9 [.v (.int .i64 (o.pos + i)) :: secC o.data[i]]) (V' ++ [0]) :=
        .inr ⟨V'.length, 0, by rw [puts_succ _ _ _ h, he'.1, he'.2]; rfl, by simp, hv2⟩
      refine Wp.s ?_
      simp -implicitDefEqProofs [go_sem, wrap_succ (show i ≤ 1000000000 by omega), hw]
      refine ⟨i + 1, _, _, ⟨by omega, hap', by rw [List.take_append_of_le_length hv2]; exact hv1, by simp; omega, by simp; omega⟩, by omega, Sh.cut (H.length + 1) (V' ++ [0]).length (by simp -implicitDefEqProofs [go_sem]) (by omega) (by simp; omega) (TOk.all (by simp -implicitDefEqProofs [go_sem]; omega)) (okX _ _ _ hap' (by simp; omega)) ?_ (List.take_of_length_le (Nat.le_refl _))⟩
      simp [List.take_append]
      exact List.take_of_length_le (by simp)
    · refine SWp.drawnT [] [17] (.s 0 .pl <| .s 1 .pl <| .s 2 .pl <| .s 3 .pl <| .s 4 .pl <| .s 5 .pl <| .s 6 .pl <| .s 7 .pl <| .s 8 .pl <| .s 9 .pl <| .s 10 .pl <| .s 11 .pl <| .s 12 .pl <| .s 13 .pl <| .s 14 .pl <| .s 15 .pl <| .s 16 .pl <| .s 17 .st <| .n) (by kernel_rfl) (by kernel_rfl) ?_
      simp -implicitDefEqProofs [go_sem, h, hX, hv]
      have hkv := (List.getElem?_eq_some_iff.1 hv).1
      have hap' : Ap j (d.cache ++ puts o.pos (o.data.take (i + 1))) (.sl (.own k (v + 1)) 9 (d.cache.map cachC ++ ((puts o.pos (o.data.take i)).map cachC ++ [.v (.int .i64 (o.pos + i)) :: secC o.data[i]]))) (V'.set k (v + 1)) :=
        .inr ⟨k, v + 1, by rw [puts_succ _ _ _ h, List.map_append, List.map_append]; rfl, by rw [List.getElem?_set_self hkv], hk⟩
      refine ⟨by rw [puts_len, List.length_take]; omega, Wp.s ?_⟩
      simp -implicitDefEqProofs [go_sem, wrap_succ (show i ≤ 1000000000 by omega), hw]
      refine ⟨i + 1, _, _, ⟨by omega, hap', by rw [List.take_set_of_le hk]; exact hv1, by simpa using hv2, by simpa using hv3⟩, by omega, Sh.cut (H.length + 1) (V'.set k (v + 1)).length (by simp -implicitDefEqProofs [go_sem]) (by omega) (by simpa using hv3) (TOk.all (by simp -implicitDefEqProofs [go_sem]; omega)) (okX _ _ _ hap' (by simpa using hv3)) ?_ (List.take_of_length_le (Nat.le_refl _))⟩
      simp [List.take_append]
      exact List.take_of_length_le (by simp)
  · rintro ⟨cv', V'⟩ ⟨h1, h2, h3, h4⟩
    dsimp only
    refine Wp.s ?_
    simp -implicitDefEqProofs [go_sem]
    exact fin 0 (wrD d o.pos o.data) cv' _ V' h1 h2 h3 h4 rfl
theorem ssync_cc (H : Hp) (V : List Nat) (X j : Nat) (hX : X < H.length) (d : Dk) (o : Opn) (cv : CV) (ha : Ap j d.cache cv V) (hj : j ≤ V.length) (hl : DkS d) (hc : checkD d = 0) (hok0 : ∀ (b : Nat) cs, (H.set X (some [secsV d.stable, cv]))[b]? = some (some cs) → okL H.length V.length cs) :
    CC Tryz.prog 141 [.ptr X 0, .agg (opC o)] (H.set X (some [secsV d.stable, cv])) V (XR X j (er 0) ⟨newestD d, []⟩ H V) := by
  refine CC.of_swp Tryz.func141 rfl (by kernel_rfl) (by rw [Tryz.ntmps141]; exact len_le _ _ rfl) fun hok hokH => ?_
  clear hok
  refine sW ?_
  simp -implicitDefEqProofs [go_sem, args0]
  refine sW ?_
  simp -implicitDefEqProofs [go_sem, hX]
  refine CC.le (.cons (.agg (.cons (.refl _) (.cons ha.le .nil))) .nil) (CC.mono (snewest_cc _ _ d hl hc) ?_)
  rintro _ _ _ ⟨rfl, rfl, rfl⟩
  simp -implicitDefEqProofs [go_sem, hX]
  refine Wp.s ?_
  simp -implicitDefEqProofs [go_sem, hX]
  refine Fin.cut H.length V.length ⟨rfl, .v (.slice none 0 0), rfl, .inl ⟨rfl, rfl⟩, rfl, Nat.le_refl _⟩ (Nat.le_refl _) (Nat.le_refl _) (by rw [List.take_append_of_le_length (by simp), List.take_of_length_le (by simp)]) (List.take_of_length_le (Nat.le_refl _)) (.refl _) (okV_er _ _ _) ?_
  intro b cs hb
  by_cases hbX : b = X
  · subst hbX
    rw [List.getElem?_set_self hX] at hb
    simp at hb; subst hb
    rw [okL, okL, okL]
    exact ⟨okV_secsV _ _ _, by rw [okV]; trivial, trivial⟩
  · refine hok0 b cs ?_
    rw [List.getElem?_set_ne (fun e => hbX e.symm)] at hb ⊢
    exact hb
end Go.Proofs.YtbnkggbpocaaiaaGreatDoor
namespace Go.Proofs.YtbnkggbpocaaiaaGreatDoor
open Go.Proofs
theorem checkD_iff {d : Dk} : checkD d = 0 ↔ d.stable.length ≤ 4096 ∧ ∀ c ∈ d.cache, 0 ≤ c.pos ∧ c.pos.toNat < d.stable.length := by
  refine ⟨checkD_0, fun ⟨h1, h2⟩ => ?_⟩
  rw [checkD, if_neg]
  rintro (h | h)
  · omega
  · obtain ⟨c, hc, hb⟩ := List.any_eq_true.1 h
    have := h2 c hc
    simp only [badAt, Bool.or_eq_true, decide_eq_true_eq] at hb
    omega
theorem check_wr {d : Dk} {a : Int} {l : List Sec} (h : checkD d = 0) (hi : insideB d a l.length = true) : checkD (wrD d a l) = 0 := by
  simp only [insideB, Bool.and_eq_true, decide_eq_true_eq] at hi
  rw [checkD_iff] at h ⊢
  refine ⟨h.1, fun c hc => ?_⟩
  rcases List.mem_append.1 hc with hc | hc
  · exact h.2 c hc
  · simp only [puts, List.mem_map] at hc
    obtain ⟨⟨s, k⟩, hk, rfl⟩ := hc
    have := (List.mem_zipIdx hk).2.1
    simp only [wrD]
    omega
theorem check_sy {d : Dk} (h : checkD d = 0) : checkD ⟨newestD d, []⟩ = 0 := by
  rw [checkD_iff] at h ⊢
  exact ⟨by simp only [newestD_len]; exact h.1, by simp⟩
theorem scopied_cc (H : Hp) (V : List Nat) (d : Dk) (hl : DkS d) : CC Tryz.prog 81 [.agg (dkC d)] H V (fun r H' V' => ∃ cv, r = .agg [secsV d.stable, cv] ∧ Ap V.length d.cache cv V' ∧ H = H' ∧ V'.take V.length = V ∧ V.length ≤ V'.length) := by
  refine CC.of_swp Tryz.func81 rfl (by kernel_rfl) (by rw [Tryz.ntmps81]; exact len_le _ _ rfl) fun hok hokH => ?_
  clear hok
  have h1 := hl.1
  have h2 := hl.2
  refine sW ?_
  simp -implicitDefEqProofs [go_sem, args0]
  refine SWp.seq (SWp.drawnT [] [7] (.s 0 .pl <| .s 1 .pl <| .s 3 .pl <| .s 4 .pl <| .s 2 .pl <| .s 5 .pl <| .s 6 .pl <| .s 7 .st <| .n) (by kernel_rfl) (by kernel_rfl) ?_)
  simp -implicitDefEqProofs [go_sem]
  refine CC.mono (scloneS_cc _ _ .sh _ (by omega)) ?_
  rintro _ _ _ ⟨v, rfl, rfl, rfl⟩
  simp -implicitDefEqProofs [go_sem]
  refine CC.mono (scloneC_cc _ _ .sh _ (by omega)) ?_
  rintro _ _ _ ⟨v2, rfl, rfl, rfl⟩
  simp -implicitDefEqProofs [go_sem]
  refine Wp.s ?_
  simp -implicitDefEqProofs [go_sem]
  refine Fin.cut H.length (V.length + 2) (H'' := H) (r' := .agg [secsV d.stable, .sl (.own (V.length + 1) v2) 9 (d.cache.map cachC)]) (V'' := V ++ [v, v2]) ⟨_, rfl, .inr ⟨V.length + 1, v2, rfl, by simp, by omega⟩, rfl, by simp, by simp⟩ (Nat.le_refl _) (by omega) (by simp) (by simp) (.agg (.cons (.sh _ _ _) (.cons (.refl _) .nil))) ?_ fun b cs hb => okL_mono (Nat.le_refl _) (by omega) (hokH b cs hb)
  rw [okV_agg, okL, okL, okL, okV_own, okE_cach]
  exact ⟨okV_secsV _ _ _, ⟨by omega, trivial⟩, trivial⟩
def tot (ops : List Opn) : Nat := (ops.map fun o => o.data.length).sum
theorem tot_drop {ops : List Opn} {i : Nat} (h : i < ops.length) : tot (ops.drop i) = ops[i].data.length + tot (ops.drop (i + 1)) := by
  rw [List.drop_eq_getElem_cons h, tot, List.map_cons, List.sum_cons]; rfl
theorem srun_cc (H : Hp) (V : List Nat) (X j : Nat) (hX : X < H.length) (d : Dk) (ops : List Opn) (cv : CV) (ha : Ap j d.cache cv V) (hj : j ≤ V.length) (hl : d.stable.length ≤ 1000000) (hl2 : d.cache.length + tot ops ≤ 1000000) (hl3 : ops.length ≤ 1000000) (hc : checkD d = 0)
    (hok0 : ∀ (b : Nat) cs, (H.set X (some [secsV d.stable, cv]))[b]? = some (some cs) → okL H.length V.length cs) :
    CC Tryz.prog 82 [.ptr X 0, opsV ops] (H.set X (some [secsV d.stable, cv])) V (fun r H' V' => match runD d ops 0 with | .ok (d', n) => XR X j (.tup [ci n, er 0]) d' H V r H' V' | .error (i, e) => ∃ d', XR X j (.tup [ci i, er e]) d' H V r H' V') := by
  refine CC.of_swp Tryz.func82 rfl (by kernel_rfl) (by rw [Tryz.ntmps82]; exact len_le _ _ rfl) fun hok hokH => ?_
  clear hok hokH
  refine sW ?_
  simp -implicitDefEqProofs [go_sem, args0]
  refine sW ?_
  simp -implicitDefEqProofs [go_sem, hX]
  have fin : ∀ (r : CV) (d' : Dk) (cv' : CV) (L : Hp) (V' : List Nat), okV H.length V'.length r → Ap j d'.cache cv' V' → V'.take j = V.take j → j ≤ V'.length → V.length ≤ V'.length →
      ∀ R : CV → Hp → List Nat → Prop, (∀ H' V', XR X j r d' H V r H' V' → R r H' V') → Fin H.length V.length R r (H.set X (some [secsV d'.stable, cv']) ++ L) V' := fun r d' cv' L V' hr h1 h2 h3 h4 R hR => by
    refine Fin.cut (H.length) V'.length (hR _ _ ⟨rfl, cv', rfl, h1, h2, h4⟩) (Nat.le_refl _) h4 (by rw [List.take_append_of_le_length (by simp), List.take_of_length_le (by simp)]) (List.take_of_length_le (Nat.le_refl _)) (.refl _) hr ?_
    have := okX_gen (L := []) (c := [secsV d'.stable, cv']) hX hok0 h4 (by rw [okL, okL, okL]; exact ⟨okV_secsV _ _ _, h1.ok, trivial⟩) (by trivial)
    simpa using this
  refine SWp.join (α := Dk × CV × List Nat) (fun x => ([(1, opsV ops)], H.set X (some [secsV x.1.stable, x.2.1]) ++ [some [.bm 140 [.ptr X 0], .bm 141 [.ptr X 0]]], x.2.2))
    (fun x => Ap j x.1.cache x.2.1 x.2.2 ∧ x.2.2.take j = V.take j ∧ j ≤ x.2.2.length ∧ V.length ≤ x.2.2.length ∧ runD d ops 0 = .ok (x.1, ops.length)) ?_ ?_
  · refine sW ?_
    simp -implicitDefEqProofs [go_sem]
    refine SWp.block ?_
    refine SWp.loop (α := Nat × Dk × CV × List Nat) (fun x => ([(1, opsV ops), (6, .ptr H.length 0), (15, opsV ops), (16, ci ops.length), (17, ci x.1)], H.set X (some [secsV x.2.1.stable, x.2.2.1]) ++ [some [.bm 140 [.ptr X 0], .bm 141 [.ptr X 0]]], x.2.2.2))
      (fun x => x.1 ≤ ops.length ∧ Ap j x.2.1.cache x.2.2.1 x.2.2.2 ∧ x.2.2.2.take j = V.take j ∧ j ≤ x.2.2.2.length ∧ V.length ≤ x.2.2.2.length ∧ runD d ops 0 = runD x.2.1 (ops.drop x.1) x.1 ∧ x.2.1.stable.length = d.stable.length ∧ x.2.1.cache.length + tot (ops.drop x.1) ≤ 1000000 ∧ checkD x.2.1 = 0)
      (fun x => ops.length - x.1) (0, d, cv, V) ⟨Nat.zero_le _, ha, rfl, hj, Nat.le_refl _, rfl, rfl, hl2, hc⟩ (Sh.forget (by simp -implicitDefEqProofs [go_sem]) rfl rfl) ?_
    rintro ⟨i, d1, cv1, V1⟩ ⟨hi, hap, hv1, hv2, hv3, hr, hs, ht, hc1⟩
    dsimp only at hi hap hv1 hv2 hv3 hr hs ht hc1 ⊢
    refine sW ?_
    simp -implicitDefEqProofs [go_sem]
    refine sW ?_
    simp -implicitDefEqProofs [go_sem]
    refine ⟨fun h => ?_, fun h => ⟨d1, cv1, V1, ⟨hap, hv1, hv2, hv3, by rw [hr, List.drop_of_length_le h, runD, show i = ops.length by omega]⟩, Sh.forget (by simp -implicitDefEqProofs [go_sem]) rfl rfl⟩⟩
    rw [tot_drop h] at ht
    rw [List.drop_eq_getElem_cons h] at hr
    refine SWp.seq (SWp.block (sW ?_))
    simp -implicitDefEqProofs [go_sem, h]
    generalize ho : ops[i] = o at ht hr ⊢
    have fine : ∀ (e : Nat) (d2 : Dk) (cv2 : CV) (L : Hp) (V2 : List Nat), Ap j d2.cache cv2 V2 → V2.take j = V.take j → j ≤ V2.length → V.length ≤ V2.length → runD d ops 0 = .error (i, e) →
        Fin H.length V.length (fun r H' V' => match runD d ops 0 with | .ok (d', n) => XR X j (.tup [ci n, er 0]) d' H V r H' V' | .error (i, e) => ∃ d', XR X j (.tup [ci i, er e]) d' H V r H' V') (.tup [ci i, er e]) (H.set X (some [secsV d2.stable, cv2]) ++ L) V2 := fun e d2 cv2 L V2 q1 q2 q3 q4 q5 =>
      fin _ d2 cv2 L V2 (by rw [okV]; simp -implicitDefEqProofs [go_sem]) q1 q2 q3 q4 _ fun H' V' hx => by rw [q5]; exact ⟨d2, hx⟩
    refine sW ?_
    by_cases k1 : o.kind < 0
    · simp -implicitDefEqProofs [go_sem, k1]
      exact fine 1 d1 cv1 _ V1 hap hv1 hv2 hv3 (by rw [hr, runD, stepD, if_pos (.inl k1)])
    by_cases k2 : 2 ≤ o.kind
    · simp -implicitDefEqProofs [go_sem, k1, k2]
      exact fine 1 d1 cv1 _ V1 hap hv1 hv2 hv3 (by rw [hr, runD, stepD, if_pos (.inr k2)])
    have hok1 := okX_gen (L := [some [.bm 140 [.ptr X 0], .bm 141 [.ptr X 0]], some (opC o)]) (c := [secsV d1.stable, cv1]) hX hok0 hv3 (by rw [okL, okL, okL]; exact ⟨okV_secsV _ _ _, hap.ok, trivial⟩) (by simp -implicitDefEqProofs [go_sem]; omega)
    rw [← List.set_append_left _ _ hX, ← List.length_append] at hok1
    have next : ∀ (d2 : Dk) (cv2 : CV) (V2 : List Nat) (T : Tm), Ap j d2.cache cv2 V2 → V2.take j = V1.take j → j ≤ V2.length → V1.length ≤ V2.length → stepD d1 o = .ok d2 → d2.stable.length = d1.stable.length → d2.cache.length + tot (ops.drop (i + 1)) ≤ 1000000 → checkD d2 = 0 →
        TLe T [(1, opsV ops), (6, .ptr H.length 0), (15, opsV ops), (16, ci ops.length), (17, ci (i + 1 : Nat))] →
        ∃ a b c e, (a ≤ ops.length ∧ Ap j (Dk.cache b) c e ∧ e.take j = V.take j ∧ j ≤ e.length ∧ V.length ≤ e.length ∧ runD d ops 0 = runD b (ops.drop a) a ∧ b.stable.length = d.stable.length ∧ b.cache.length + tot (ops.drop a) ≤ 1000000 ∧ checkD b = 0) ∧ ops.length - a < ops.length - i ∧
          Sh 44 H.length V.length T ((H ++ [some [.bm 140 [.ptr X 0], .bm 141 [.ptr X 0]], some (opC o)]).set X (some [secsV d2.stable, cv2])) V2 ([(1, opsV ops), (6, .ptr H.length 0), (15, opsV ops), (16, ci ops.length), (17, ci a)], H.set X (some [secsV b.stable, c]) ++ [some [.bm 140 [.ptr X 0], .bm 141 [.ptr X 0]]], e) :=
      fun d2 cv2 V2 T q1 q2 q3 q4 q5 q6 q7 q8 q9 => by
        refine ⟨i + 1, d2, cv2, V2, ⟨by omega, q1, by rw [q2, hv1], q3, by omega, by rw [hr, runD, q5], by omega, q7, q8⟩, by omega, ?_⟩
        rw [List.set_append_left _ _ hX]
        refine Sh.cut (H.length + 1) V2.length q9 (by omega) (by omega) (TOk.all (by simp -implicitDefEqProofs [go_sem])) (okX_gen (L := [some [.bm 140 [.ptr X 0], .bm 141 [.ptr X 0]]]) (c := [secsV d2.stable, cv2]) hX hok0 (by omega) (by rw [okL, okL, okL]; exact ⟨okV_secsV _ _ _, q1.ok, trivial⟩) (by simp -implicitDefEqProofs [go_sem]; omega)) ?_ (List.take_of_length_le (Nat.le_refl _))
        rw [List.take_append, List.take_of_length_le (by simp)]
        simp
    simp -implicitDefEqProofs [go_sem, k1, k2]
    refine SWp.seq (SWp.drawnT [H.length, H.length + 1] [5] (.s 0 .pl <| .s 1 .ld <| .s 2 .pl <| .s 3 .ld <| .s 4 .ld <| .s 5 .st <| .s 6 .pl <| .n) (by kernel_rfl) (by kernel_rfl) ?_)
    have hk : o.kind = 0 ∨ o.kind = 1 := by omega
    rcases hk with hk | hk
    · simp -implicitDefEqProofs [go_sem, hk]
      rw [← List.set_append_left _ _ hX]
      refine CC.mono (swrite_cc _ _ X j (by rw [List.length_append]; omega) d1 o cv1 hap hv2 ⟨by omega, by omega⟩ (by omega) hok1) ?_
      rintro r2 H2 V2 ⟨rfl, cv2, rfl, x1, x2, x3⟩
      rcases hq : insideB d1 o.pos o.data.length with - | -
      · rw [hq] at x1
        simp -implicitDefEqProofs [go_sem, hq]
        refine ⟨Kp_ss (by simp; omega), ?_⟩
        rw [List.set_append_left _ _ hX]
        refine Wp.s ?_
        simp -implicitDefEqProofs [go_sem]
        exact fine 2 d1 cv2 _ V2 x1 (by rw [x2, hv1]) (by omega) (by omega) (by rw [hr, runD, stepD, if_neg (by omega), if_pos hk, writeD, if_neg (by simp [hq])])
      · rw [hq] at x1
        simp -implicitDefEqProofs [go_sem, hq]
        refine ⟨Kp_ss (by simp; omega), ?_⟩
        refine Wp.s ?_
        simp -implicitDefEqProofs [go_sem]
        refine Wp.s ?_
        simp -implicitDefEqProofs [go_sem, wrap_succ (show i ≤ 1000000000 by omega)]
        refine next (wrD d1 o.pos o.data) cv2 V2 _ x1 x2 (by omega) x3 (by rw [stepD, if_neg (by omega), if_pos hk, writeD, if_pos hq]; rfl) rfl (by simp only [wrD, List.length_append, puts_len]; omega) (check_wr hc1 hq) (by simp -implicitDefEqProofs [go_sem])
    · simp -implicitDefEqProofs [go_sem, hk]
      rw [← List.set_append_left _ _ hX]
      refine CC.mono (ssync_cc _ _ X j (by rw [List.length_append]; omega) d1 o cv1 hap hv2 ⟨by omega, by omega⟩ hc1 hok1) ?_
      rintro r2 H2 V2 ⟨rfl, cv2, rfl, x1, x2, x3⟩
      simp -implicitDefEqProofs [go_sem]
      refine ⟨Kp_ss (by simp; omega), ?_⟩
      refine Wp.s ?_
      simp -implicitDefEqProofs [go_sem]
      refine Wp.s ?_
      simp -implicitDefEqProofs [go_sem, wrap_succ (show i ≤ 1000000000 by omega)]
      refine next ⟨newestD d1, []⟩ cv2 V2 _ x1 x2 (by omega) x3 (by rw [stepD, if_neg (by omega), if_neg (by omega)]) (newestD_len _) (by simp only [List.length_nil]; omega) (check_sy hc1) (by simp -implicitDefEqProofs [go_sem])
  · rintro ⟨d1, cv1, V1⟩ ⟨h1, h2, h3, h4, h5⟩
    dsimp only
    refine Wp.s ?_
    simp -implicitDefEqProofs [go_sem]
    refine fin (.tup [ci ops.length, er 0]) d1 cv1 _ V1 (by rw [okV]; simp -implicitDefEqProofs [go_sem]) h1 h2 h3 h4 _ fun H' V' hx => ?_
    rw [h5]; exact hx
end Go.Proofs.YtbnkggbpocaaiaaGreatDoor
namespace Go.Proofs.YtbnkggbpocaaiaaGreatDoor
open Go.Proofs
abbrev dk0 : Dk := ⟨[], []⟩
def runR (d : Dk) (ops : List Opn) : Dk × Nat × Nat :=
  if checkD d ≠ 0 then (dk0, 0, checkD d) else match runD d ops 0 with | .ok (d', n) => (d', n, 0) | .error (i, e) => (dk0, i, e)
def runV (x : Dk × Nat × Nat) : CV := .tup [.agg (dkC x.1), ci x.2.1, er x.2.2]
theorem okV_runV (i j : Nat) (x : Dk × Nat × Nat) : okV i j (runV x) := by rw [runV, okV]; simp -implicitDefEqProofs [go_sem]
theorem runD_err : ∀ (ops : List Opn) (d : Dk) (i : Nat) (k e : Nat), runD d ops i = .error (k, e) → e ≠ 0
  | [], d, i, k, e, h => by cases h
  | o :: ops, d, i, k, e, h => by
    rw [runD] at h
    split at h
    · exact runD_err ops _ _ _ _ h
    · rename_i e' he
      injection h with h; injection h with h1 h2; subst h2
      unfold stepD writeD at he
      split at he
      · injection he with he; omega
      · split at he
        · split at he
          · cases he
          · injection he with he; omega
        · cases he
theorem sRun_cc (H : Hp) (V : List Nat) (d : Dk) (ops : List Opn) (hl : d.stable.length ≤ 1000000) (hl2 : d.cache.length + tot ops ≤ 1000000) (hl3 : ops.length ≤ 1000000) : CC Tryz.prog 25 [.agg (dkC d), opsV ops] H V (Pu (runV (runR d ops)) H V) := by
  refine CC.of_swp Tryz.func25 rfl (by kernel_rfl) (by rw [Tryz.ntmps25]; exact len_le _ _ rfl) fun hok hokH => ?_
  clear hok
  have hd : DkS d := ⟨hl, by omega⟩
  refine sW ?_
  simp -implicitDefEqProofs [go_sem, args0]
  refine sW ?_
  simp -implicitDefEqProofs [go_sem]
  refine CC.mono (sCheck_cc _ _ d hd) ?_
  rintro _ _ _ ⟨rfl, rfl, rfl⟩
  simp -implicitDefEqProofs [go_sem]
  have bad : ∀ (i e : Nat) {H' : Hp} {V' : List Nat}, runR d ops = (dk0, i, e) → H'.take H.length = H → V'.take V.length = V → Fin H.length V.length (Pu (runV (runR d ops)) H V) (.tup [.agg [.v (.slice none 0 0), .v (.slice none 0 0)], ci i, er e]) H' V' := fun i e H' V' h1 h2 h3 => by
    rw [h1]
    exact Fin.pu (.tup (.cons (.agg (.cons (.nil 8 (by decide)) (.cons (.nil 9 (by decide)) .nil))) (.cons (.refl _) (.cons (.refl _) .nil)))) (okV_runV _ _ _) hokH h2 h3
  refine ⟨fun hc => ?_, fun hc => ?_⟩
  case refine_1 => exact bad 0 (checkD d) (by rw [runR, if_pos hc]) (by simp) (by simp)
  refine sW ?_
  simp -implicitDefEqProofs [go_sem]
  refine CC.mono (scopied_cc _ _ d hd) ?_
  rintro _ _ V1 ⟨cv, rfl, ha, rfl, hv1, hv2⟩
  simp -implicitDefEqProofs [go_sem, ha.one]
  refine sW ?_
  simp -implicitDefEqProofs [go_sem, ha.one]
  have hset : ∀ c c' : List CV, (H ++ [some (dkC d), some [.v (.slice none 0 0), .v (.slice none 0 0)], some c]).set (H.length + 2) (some c') = H ++ [some (dkC d), some [.v (.slice none 0 0), .v (.slice none 0 0)], some c'] := fun c c' => by
    rw [List.set_append_right _ _ (by omega)]; simp
  rw [← hset [secsV d.stable, cv] [secsV d.stable, cv]]
  have hok0 : ∀ (b : Nat) cs, ((H ++ [some (dkC d), some [.v (.slice none 0 0), .v (.slice none 0 0)], some [secsV d.stable, cv]]).set (H.length + 2) (some [secsV d.stable, cv]))[b]? = some (some cs) → okL (H ++ [some (dkC d), some [.v (.slice none 0 0), .v (.slice none 0 0)], some [secsV d.stable, cv]]).length V1.length cs := by
    intro b cs hb
    rw [hset, List.getElem?_append] at hb
    rw [List.length_append]
    split at hb
    · exact okL_mono (Nat.le_add_right _ _) hv2 (hokH b cs hb)
    · refine okH_get (i := H.length + 3) (j := V1.length) (L := [some (dkC d), some [.v (.slice none 0 0), .v (.slice none 0 0)], some [secsV d.stable, cv]]) ?_ _ _ hb
      rw [okH_some, okH_some, okH_some, okL_dkC]
      refine ⟨trivial, by simp -implicitDefEqProofs [go_sem], ?_, trivial⟩
      rw [okL, okL, okL]
      exact ⟨okV_secsV _ _ _, ha.ok, trivial⟩
  refine CC.mono (srun_cc _ V1 (H.length + 2) V.length (by simp) d ops cv ha hv2 hl hl2 hl3 hc hok0) ?_
  intro r H' V' hx
  rcases hr : runD d ops 0 with ⟨i, e⟩ | ⟨d', n⟩
  · rw [hr] at hx
    obtain ⟨d', rfl, cv', rfl, x1, x2, x3⟩ := hx
    rw [hset]
    have he := runD_err _ _ _ _ _ hr
    simp -implicitDefEqProofs [go_sem]
    refine Wp.s ?_
    simp -implicitDefEqProofs [go_sem, he]
    exact bad i e (by rw [runR, if_neg (by simp [hc]), hr]) (by simp) (by rw [← hv1, ← x2]; simp)
  · rw [hr] at hx
    obtain ⟨rfl, cv', rfl, x1, x2, x3⟩ := hx
    rw [hset]
    simp -implicitDefEqProofs [go_sem]
    refine Wp.s ?_
    simp -implicitDefEqProofs [go_sem]
    refine ⟨x1.one, ?_⟩
    refine Fin.pu ?_ (okV_runV _ _ _) hokH (by simp) (by rw [x2, hv1])
    rw [runR, if_neg (by simp [hc]), hr]
    exact .tup (.cons (.agg (.cons (.refl _) (.cons x1.le .nil))) (.cons (.refl _) (.cons (.refl _) .nil)))
def newR (n : Int) : Dk × Nat := if n < 0 ∨ 4096 < n then (dk0, 2) else (⟨List.replicate n.toNat sec0, []⟩, 0)
theorem sNew_cc (H : Hp) (V : List Nat) (n : Int) : CC Tryz.prog 40 [ci n] H V (Pu (.tup [.agg (dkC (newR n).1), er (newR n).2]) H V) := by
  refine CC.of_swp Tryz.func40 rfl (by kernel_rfl) (by rw [Tryz.ntmps40]; exact len_le _ _ rfl) fun hok hokH => ?_
  clear hok
  have bad : ∀ {H' : Hp} {V' : List Nat}, newR n = (dk0, 2) → H'.take H.length = H → V'.take V.length = V → Fin H.length V.length (Pu (.tup [.agg (dkC (newR n).1), er (newR n).2]) H V) (.tup [.agg [.v (.slice none 0 0), .v (.slice none 0 0)], .v (.int .i64 2)]) H' V' := fun h1 h2 h3 => by
    rw [h1]
    exact Fin.pu (.tup (.cons (.agg (.cons (.nil 8 (by decide)) (.cons (.nil 9 (by decide)) .nil))) (.cons (.refl _) .nil))) (by rw [okV]; simp -implicitDefEqProofs [go_sem]) hokH h2 h3
  refine sW ?_
  simp -implicitDefEqProofs [go_sem, args0]
  refine sW ?_
  by_cases h1 : n < 0
  · simp -implicitDefEqProofs [go_sem, h1]
    exact bad (by rw [newR, if_pos (.inl h1)]) (by simp) (by simp)
  by_cases h2 : 4096 < n
  · simp -implicitDefEqProofs [go_sem, h1, h2]
    exact bad (by rw [newR, if_pos (.inr h2)]) (by simp) (by simp)
  simp -implicitDefEqProofs [go_sem, h1, h2]
  refine Wp.s ?_
  simp -implicitDefEqProofs [go_sem]
  have hn : newR n = (⟨List.replicate n.toNat sec0, []⟩, 0) := by rw [newR, if_neg (by omega)]
  have hz : (List.replicate n.toNat [CV.v (.int .u8 0), CV.v (.int .u8 0), CV.v (.int .u8 0), CV.v (.int .u8 0), CV.v (.int .u8 0), CV.v (.int .u8 0), CV.v (.int .u8 0), CV.v (.int .u8 0)]).flatten = secsF (List.replicate n.toNat sec0) := zeros_secs n.toNat
  have hch : chunks 8 n.toNat ((secsF (List.replicate n.toNat sec0)).drop 0) = (List.replicate n.toNat sec0).map secC := by
    have := chunks_secs (List.replicate n.toNat sec0)
    rwa [List.length_replicate] at this
  refine ⟨by omega, by omega, ?_⟩
  rw [hz, hn]
  refine Fin.frozG (b := H.length + 1) (cs := secsF (List.replicate n.toNat sec0)) (r1 := .tup [.agg [.bsl (H.length + 1) 0 n.toNat 8, cachV []], er 0]) ⟨rfl, rfl, rfl⟩ (.tup (.cons (.agg (.cons (.refl _) (.cons (.nil 9 (by decide)) .nil))) (.cons (.refl _) .nil))) (by simp)
    (.tup (.cons (.agg (.cons ?_ (.cons (.refl _) .nil))) (.cons (.refl _) .nil))) (by omega) (by rw [okV]; simp -implicitDefEqProofs [go_sem]) hokH (by simp) (by simp)
  show Fz _ _ _ (.sl .sh 8 ((List.replicate n.toNat sec0).map secC))
  rw [← hch]
  exact .bsl _ _ _ (by simp; omega)
end Go.Proofs.YtbnkggbpocaaiaaGreatDoor
namespace Go.Proofs.YtbnkggbpocaaiaaGreatDoor
open Go.Proofs
theorem sChunk_cc (H : Hp) (V : List Nat) (l : List UInt8) : CC Tryz.prog 172 [.sl .sh 1 (bs l), ci 4] H V (fun r H' V' => r = .fn 200 [.ptr H.length 0, .ptr (H.length + 1) 0] ∧ H' = H ++ [some [.sl .sh 1 (bs l)], some [ci 4]] ∧ V = V') := by
  refine CC.of_swp Tryz.func172 rfl (by kernel_rfl) (by rw [Tryz.ntmps172]; exact len_le _ _ rfl) fun hok hokH => ?_
  clear hok
  refine sW ?_
  simp -implicitDefEqProofs [go_sem, args0]
  refine sW ?_
  simp -implicitDefEqProofs [go_sem]
  refine Wp.s ?_
  simp -implicitDefEqProofs [go_sem]
  refine Fin.cut (H.length + 2) V.length ⟨rfl, rfl, rfl⟩ (by omega) (Nat.le_refl _) (List.take_of_length_le (by simp)) (List.take_of_length_le (Nat.le_refl _)) (.refl _) (by simp -implicitDefEqProofs [go_sem]) ?_
  intro b cs hb
  rw [List.getElem?_append] at hb
  split at hb
  · exact okL_mono (by omega) (Nat.le_refl _) (hokH b cs hb)
  · exact okH_get (i := H.length + 2) (j := V.length) (L := [some [.sl .sh 1 (bs l)], some [ci 4]]) (by simp -implicitDefEqProofs [go_sem]) _ _ hb
theorem schunk1_cc (H : Hp) (V : List Nat) (L b2 b3 : Nat) (l : List UInt8) (hl : l.length = 32) (I : Nat → Hp → List Nat → Prop) (h0 : I 0 H V)
    (hI : ∀ i H V, I i H V → H[b2]? = some (some [.sl .sh 1 (bs l)]) ∧ H[b3]? = some (some [ci 4]))
    (hy : ∀ i, i < 8 → ∀ H V, I i H V → YC Tryz.prog L [.sl .ti 1 (bs ((l.drop (4 * i)).take 4))] H V (fun r H' V' => r = .v (.bool true) ∧ I (i + 1) H' V')) :
    CC Tryz.prog 200 [.yl L, .ptr b2 0, .ptr b3 0] H V (fun _ H' V' => I 8 H' V') := by
  refine CC.of_swp Tryz.func200 rfl (by kernel_rfl) (by rw [Tryz.ntmps200]; exact len_le _ _ rfl) fun hok hokH => ?_
  clear hok
  refine sW ?_
  simp -implicitDefEqProofs [go_sem, args0]
  refine SWp.block ?_
  refine SWp.loop (α := Nat × Hp × List Nat) (fun x => ([(0, .yl L), (1, .ptr b2 0), (2, .ptr b3 0), (4, ci (4 * x.1 : Nat))], x.2.1, x.2.2)) (fun x => x.1 ≤ 8 ∧ I x.1 x.2.1 x.2.2) (fun x => 8 - x.1) (0, H, V) ⟨by omega, h0⟩ (Sh.forget (by simp -implicitDefEqProofs [go_sem]) rfl rfl) ?_
  rintro ⟨i, H1, V1⟩ ⟨hi, hi1⟩
  dsimp only at hi hi1 ⊢
  obtain ⟨g2, g3⟩ := hI _ _ _ hi1
  refine sW ?_
  simp -implicitDefEqProofs [go_sem, hbx_of g2, hbx_of g3, hl]
  refine ⟨fun h => ?_, fun h => ?_⟩
  case refine_2 =>
    obtain rfl : i = 8 := by omega
    exact Fin.self hi1
  have h8 : i < 8 := by omega
  refine SWp.seq (SWp.block (SWp.seq (SWp.drawnL (List.range 7) (by kernel_rfl) (by kernel_rfl) rfl ?_)))
  simp -implicitDefEqProofs [go_sem, List.range, List.range.loop, hbx_of g2, hbx_of g3, hl]
  have e1 : (4 * (i : Int)).toNat = 4 * i := by omega
  have e4 : min (4 : Int) ((32 - (4 * (i : Int)).toNat : Nat) : Int) = 4 := by omega
  refine ⟨by omega, by omega, ?_⟩
  rw [e4]
  refine Wp.s ?_
  simp -implicitDefEqProofs [go_sem, hbx_of g2, hbx_of g3, hl, IntWalk.i64_in (4 * (i : Int) + 4) ⟨by omega, by omega⟩]
  refine ⟨by omega, by omega, by omega, by omega, ?_⟩
  have ex : (l.take (4 * (i : Int) + 4).toNat).drop (4 * (i : Int)).toNat = (l.drop (4 * i)).take 4 := by
    rw [show (4 * (i : Int) + 4).toNat = 4 * i + 4 by omega, e1, List.drop_take, Nat.add_sub_cancel_left]
  rw [ex]
  refine YC.mono (hy i h8 _ _ hi1) ?_
  rintro _ H2 V2 ⟨rfl, hi2⟩
  obtain ⟨k2, k3⟩ := hI _ _ _ hi2
  simp -implicitDefEqProofs [go_sem]
  refine Wp.s ?_
  simp -implicitDefEqProofs [go_sem, hbx_of k2, hbx_of k3, IntWalk.i64_in (4 * (i : Int) + 4) ⟨by omega, by omega⟩]
  refine ⟨i + 1, H2, V2, ⟨by omega, hi2⟩, by omega, Sh.forget ?_ rfl rfl⟩
  simp -implicitDefEqProofs [go_sem, show 4 * (i : Int) + 4 = 4 * ((i : Int) + 1) by omega]
def fb (l : List UInt8) : List CV := l.map fun b => CV.v (.int .u8 (b.toNat : Int))
theorem fb_flat : ∀ l : List UInt8, (bs l).flatten = fb l
  | [] => rfl
  | b :: l => by rw [bs, List.map_cons, List.flatten_cons]; exact congrArg (_ :: ·) (fb_flat l)
@[go_sem, simp] theorem fb_len (l : List UInt8) : (fb l).length = l.length := by rw [fb, List.length_map]
@[go_sem] theorem fb_get (l : List UInt8) (i : Nat) (h : i < (fb l).length) : (fb l)[i] = CV.v (.int .u8 ((l[i]'(by simpa using h)).toNat : Int)) := by simp [fb]
theorem fb_set (l : List UInt8) (i : Nat) (c : UInt8) (h : i < l.length) : (fb l).take i ++ CV.v (.int .u8 (c.toNat : Int)) :: (fb l).drop (i + 1) = fb (l.set i c) := by
  rw [List.set_eq_take_append_cons_drop, if_pos h]
  simp [fb]
theorem fb_app (a b : List UInt8) : fb a ++ fb b = fb (a ++ b) := by simp [fb]
theorem fb_all (l : List UInt8) : allOne (fb l) = true := by simp only [allOne, fb, List.all_map, List.all_eq_true]; intros; rfl
theorem fb_chunks : ∀ l : List UInt8, chunks 1 l.length (fb l) = bs l
  | [] => rfl
  | b :: l => by
    rw [List.length_cons, chunks]
    exact congrArg (_ :: ·) (fb_chunks l)
@[go_sem] theorem okL_fb (i j : Nat) : ∀ l : List UInt8, okL i j (fb l) = True
  | [] => by rw [fb, List.map_nil, okL]
  | b :: l => by rw [fb, List.map_cons, okL, okV]; exact (true_and _).trans (okL_fb i j l)
theorem shr_le4 (n k : Nat) (hk : k < 4) : IntKind.u8.wrap (shr .i64 (n : Int) (8 * (k : Int))) = (((le4 n).getD k 0).toNat : Int) := by
  have e : ∀ m : Nat, IntKind.u8.wrap (m : Int) = ((UInt8.ofNat (m % 256)).toNat : Int) := fun m => by
    rw [IntKind.wrap_u8, UInt8.toNat_ofNat']; omega
  have h : k = 0 ∨ k = 1 ∨ k = 2 ∨ k = 3 := by omega
  unfold shr
  rcases h with rfl | rfl | rfl | rfl
  · rw [show (n : Int).fdiv (2 ^ (min (8 * ((0 : Nat) : Int)).toNat IntKind.i64.bits)) = (n : Int) from Int.fdiv_one _, e]; rfl
  · rw [show (n : Int).fdiv (2 ^ (min (8 * ((1 : Nat) : Int)).toNat IntKind.i64.bits)) = ((n / 256 : Nat) : Int) by rw [Int.fdiv_eq_ediv_of_nonneg _ (by decide)]; show (n : Int) / 256 = _; omega, e]; rfl
  · rw [show (n : Int).fdiv (2 ^ (min (8 * ((2 : Nat) : Int)).toNat IntKind.i64.bits)) = ((n / 65536 : Nat) : Int) by rw [Int.fdiv_eq_ediv_of_nonneg _ (by decide)]; show (n : Int) / 65536 = _; omega, e]; rfl
  · rw [show (n : Int).fdiv (2 ^ (min (8 * ((3 : Nat) : Int)).toNat IntKind.i64.bits)) = ((n / 16777216 : Nat) : Int) by rw [Int.fdiv_eq_ediv_of_nonneg _ (by decide)]; show (n : Int) / 16777216 = _; omega, e]; rfl
theorem le4_step (n k : Nat) (hk : k < 4) : ((le4 n).take k ++ List.replicate (8 - k) 0).set k ((le4 n).getD k 0) = (le4 n).take (k + 1) ++ List.replicate (8 - (k + 1)) 0 := by
  have h : k = 0 ∨ k = 1 ∨ k = 2 ∨ k = 3 := by omega
  rcases h with rfl | rfl | rfl | rfl <;> rfl
theorem zeros31 (x : CV) (k : Nat) : List.drop (1 + k) (x :: [CV.v (.int .u8 0), CV.v (.int .u8 0), CV.v (.int .u8 0), CV.v (.int .u8 0), CV.v (.int .u8 0), CV.v (.int .u8 0), CV.v (.int .u8 0), CV.v (.int .u8 0), CV.v (.int .u8 0), CV.v (.int .u8 0), CV.v (.int .u8 0), CV.v (.int .u8 0), CV.v (.int .u8 0), CV.v (.int .u8 0), CV.v (.int .u8 0), CV.v (.int .u8 0), CV.v (.int .u8 0), CV.v (.int .u8 0), CV.v (.int .u8 0), CV.v (.int .u8 0), CV.v (.int .u8 0), CV.v (.int .u8 0), CV.v (.int .u8 0), CV.v (.int .u8 0), CV.v (.int .u8 0), CV.v (.int .u8 0), CV.v (.int .u8 0), CV.v (.int .u8 0), CV.v (.int .u8 0), CV.v (.int .u8 0), CV.v (.int .u8 0)]) = fb (List.replicate (31 - k) 0) := by
  rw [Nat.add_comm, List.drop_succ_cons, fb, List.map_replicate]
  exact List.drop_replicate (i := k) (n := 31) (a := CV.v (.int .u8 0))
theorem dataOf_fb (p : List UInt8) (x : CV) : CV.v (.int .u8 (IntKind.u8.wrap (p.length : Int))) :: ((bs p).flatten ++ List.drop (1 + p.length) (x :: [CV.v (.int .u8 0), CV.v (.int .u8 0), CV.v (.int .u8 0), CV.v (.int .u8 0), CV.v (.int .u8 0), CV.v (.int .u8 0), CV.v (.int .u8 0), CV.v (.int .u8 0), CV.v (.int .u8 0), CV.v (.int .u8 0), CV.v (.int .u8 0), CV.v (.int .u8 0), CV.v (.int .u8 0), CV.v (.int .u8 0), CV.v (.int .u8 0), CV.v (.int .u8 0), CV.v (.int .u8 0), CV.v (.int .u8 0), CV.v (.int .u8 0), CV.v (.int .u8 0), CV.v (.int .u8 0), CV.v (.int .u8 0), CV.v (.int .u8 0), CV.v (.int .u8 0), CV.v (.int .u8 0), CV.v (.int .u8 0), CV.v (.int .u8 0), CV.v (.int .u8 0), CV.v (.int .u8 0), CV.v (.int .u8 0), CV.v (.int .u8 0)])) = fb (dataOf p) := by
  rw [zeros31, fb_flat, fb_app, dataOf, wrap_u8]
  have : byt (p.length : Int) = UInt8.ofNat p.length := by
    apply UInt8.toNat_inj.1
    have := byt_toNat (p.length : Int)
    rw [UInt8.toNat_ofNat']
    omega
  rw [this]; rfl
def ApS (j : Nat) (l : List Sec) (cv : CV) (V : List Nat) : Prop := (cv = .v (.slice none 0 0) ∧ l = []) ∨ ∃ k v, cv = .sl (.own k v) 8 (l.map secC) ∧ V[k]? = some v ∧ j ≤ k
theorem ApS.le {j : Nat} {l : List Sec} {cv : CV} {V : List Nat} (h : ApS j l cv V) : Le cv (secsV l) := by
  rcases h with ⟨rfl, rfl⟩ | ⟨k, v, rfl, _⟩
  · exact .nil 8 (by decide)
  · exact .sh _ _ _
theorem ApS.one {j : Nat} {l : List Sec} {cv : CV} {V : List Nat} (h : ApS j l cv V) : cv.one = true := by
  rcases h with ⟨rfl, rfl⟩ | ⟨k, v, rfl, _⟩ <;> rfl
theorem ApS.ok {i j : Nat} {l : List Sec} {cv : CV} {V : List Nat} (h : ApS j l cv V) : okV i V.length cv := by
  rcases h with ⟨rfl, rfl⟩ | ⟨k, v, rfl, h, _⟩
  · rw [okV]; trivial
  · rw [okV_own, okE_secs]; exact ⟨(List.getElem?_eq_some_iff.1 h).1, trivial⟩
abbrev HP (H : Hp) (n : Nat) (tk : Tk) (p : List UInt8) (cv lp : CV) (W : Hp) : Hp :=
  H ++ (some [ci n] :: some [ci 0, .v (.slice none 0 0), .v (.slice none 0 0)] :: none :: some [ci n, .sl tk 1 (bs p), cv] :: some [.sl .sh 1 (bs (dataOf p))] :: some [ci 4] :: some [lp] :: W)
@[go_sem] theorem hbx_W7 (H W L : Hp) (a0 a1 a2 a3 a4 a5 a6 : Option (List CV)) (K : List CV → Prop) : hbx (H ++ (a0 :: a1 :: a2 :: a3 :: a4 :: a5 :: a6 :: (W ++ L))) (H.length + (W.length + 7)) K = hbx L 0 K := by
  unfold hbx
  have : (H ++ (a0 :: a1 :: a2 :: a3 :: a4 :: a5 :: a6 :: (W ++ L)))[H.length + (W.length + 7)]? = L[0]? := by
    rw [hget]
    simp only [List.getElem?_cons_succ]
    exact hget W L 0
  rw [this]
theorem sput_cc (H : Hp) (V : List Nat) (n : Nat) (tk : Tk) (p : List UInt8) (hn : n < 4294967296) (hp : p.length ≤ 31) : CC Tryz.prog 164 [ci n, .sl tk 1 (bs p)] H V (Pu (.agg [ci n, .sl .sh 1 (bs p), secsV (copyS n p)]) H V) := by
  refine CC.of_swp0 Tryz.func164 rfl (by kernel_rfl) (by rw [Tryz.ntmps164]; exact len_le _ _ rfl) fun hok hokH => ?_
  refine SWp0.seq (SWp.s0 (Wp.s ?_))
  simp -implicitDefEqProofs [go_sem, args0]
  refine SWp0.seq (SWp.s0 (Wp.s ?_))
  simp -implicitDefEqProofs [go_sem]
  refine SWp0.seq (SWp.s0 (Wp.s ?_))
  simp -implicitDefEqProofs [go_sem]
  refine SWp0.seq (SWp.s0 (Wp.s ?_))
  simp -implicitDefEqProofs [go_sem]
  refine ⟨hp, by rw [fb_flat, fb_all], by omega, ?_⟩
  refine SWp0.seq (SWp.s0 (Wp.s ?_))
  simp -implicitDefEqProofs [go_sem]
  rw [dataOf_fb]
  have hD := dataOf_len hp
  have hch : chunks 1 32 ((fb (dataOf p)).drop 0) = bs (dataOf p) := by
    have := fb_chunks (dataOf p)
    rwa [hD] at this
  refine SWp0.ghost (T' := [(2, .ptr H.length 0), (4, .ptr (H.length + 1) 0), (6, .ptr (H.length + 3) 0), (5, .bsl (H.length + 2) 0 32 1)]) (Gst.forget (TLe.get (by simp -implicitDefEqProofs [go_sem]))) ?_
  refine SWp0.ghost (T' := [(2, .ptr H.length 0), (4, .ptr (H.length + 1) 0), (6, .ptr (H.length + 3) 0), (5, .sl .sh 1 (bs (dataOf p)))]) (Gst.freeze (b := H.length + 2) (cs := fb (dataOf p)) (by simp) ?_) ?_
  · intro q hq
    simp at hq
    rcases hq with rfl | rfl | rfl | rfl
    · exact .refl _
    · exact .refl _
    · exact .refl _
    · show Fz _ _ (.bsl (H.length + 2) 0 32 1) (.sl .sh 1 (bs (dataOf p)))
      rw [← hch]; exact .bsl _ _ _ (by simp [hD])
  simp -implicitDefEqProofs [go_sem]
  refine SWp0.join (α := CV × List Nat) (fun x => ([(4, .ptr (H.length + 1) 0), (6, .ptr (H.length + 3) 0)], H ++ [some [ci n], some [ci 0, .v (.slice none 0 0), .v (.slice none 0 0)], none, some [ci n, .sl tk 1 (bs p), x.1]], x.2))
    (fun x => ApS V.length (copyS n p) x.1 x.2 ∧ V.length ≤ x.2.length ∧ x.2.take V.length = V) ?_ ?_
  · refine SWp0.seq (SWp.s0 (Wp.s ?_))
    simp -implicitDefEqProofs [go_sem]
    refine CC.mono (sChunk_cc _ _ _) ?_
    rintro _ _ _ ⟨rfl, rfl, rfl⟩
    simp -implicitDefEqProofs [go_sem]
    refine SWp0.block (SWp0.range [(2, .ptr H.length 0), (6, .ptr (H.length + 3) 0)] rfl (by simp -implicitDefEqProofs [go_sem]) ?_)
    simp -implicitDefEqProofs [go_sem]
    generalize hbd : Code.block 1 _ = bd
    generalize has : Code.region 6 _ _ = asg
    refine CC.mono (schunk1_cc _ V _ _ _ (dataOf p) hD (fun i G V' => ∃ cv W, ApS V.length ((List.range i).map (secOf n p)) cv V' ∧ V.length ≤ V'.length ∧ V'.take V.length = V ∧
      G = H ++ (some [ci n] :: some [ci 0, .v (.slice none 0 0), .v (.slice none 0 0)] :: none :: some [ci n, .sl tk 1 (bs p), cv] :: some [.sl .sh 1 (bs (dataOf p))] :: some [ci 4] :: some [lpc 48 #[26] asg bd [(2, .ptr H.length 0), (6, .ptr (H.length + 3) 0)] .ready none] :: W))
      ⟨.v (.slice none 0 0), [], .inl ⟨rfl, rfl⟩, Nat.le_refl _, by simp, rfl⟩ ?_ ?_) ?_
    · rintro i _ V' ⟨cv, W, _, _, _, rfl⟩
      exact ⟨hget _ _ 4, hget _ _ 5⟩
    · rintro i hi _ V' ⟨cv, W, ha, hv1, hv2, rfl⟩
      refine YC.of_round (n := 48) (ps := #[26]) (bd := bd) (T := [(2, .ptr H.length 0), (6, .ptr (H.length + 3) 0)]) (hget _ _ 6) rfl (by decide) ?_
      subst hbd has
      refine Wp.s ?_
      simp -implicitDefEqProofs [go_sem, tps]
      refine SWp.block (sW ?_)
      simp -implicitDefEqProofs [go_sem]
      generalize hlp : lpc 48 #[26] _ _ _ LoopState.busy none = lp
      generalize hqq : RQ 48 #[26] _ _ _ _ _ = QQ
      refine SWp.join (α := Unit) (fun x => ([(2, .ptr H.length 0), (6, .ptr (H.length + 3) 0), (7, .sl .ti 1 (bs (partOf p i))), (8, .ptr (H.length + (W.length + 7)) 0)], HP H n tk p cv lp (W ++ [some (fb (le4 n ++ List.replicate 4 0))]), V')) (fun _ => True) ?_ ?_
      · refine sW ?_
        simp -implicitDefEqProofs [go_sem]
        refine SWp.block ?_
        refine SWp.loop (α := Nat) (fun k => ([(2, .ptr H.length 0), (6, .ptr (H.length + 3) 0), (7, .sl .ti 1 (bs (partOf p i))), (8, .ptr (H.length + (W.length + 7)) 0), (27, ci k)], HP H n tk p cv lp (W ++ [some (fb ((le4 n).take k ++ List.replicate (8 - k) 0))]), V')) (fun k => k ≤ 4) (fun k => 4 - k) 0 (by omega) (Sh.forget (by simp -implicitDefEqProofs [go_sem, partOf]) rfl rfl) ?_
        intro k hk
        dsimp only
        refine sW ?_
        simp -implicitDefEqProofs [go_sem]
        refine sW ?_
        simp -implicitDefEqProofs [go_sem]
        refine ⟨fun h => ?_, fun h => ?_⟩
        case refine_2 =>
          obtain rfl : k = 4 := by omega
          exact Sh.forget (by simp -implicitDefEqProofs [go_sem]) rfl rfl
        have h4 : k < 4 := by omega
        refine SWp.seq (SWp.block (sW ?_))
        simp -implicitDefEqProofs [go_sem]
        refine Wp.s ?_
        simp -implicitDefEqProofs [go_sem, HP, IntWalk.i64_in (8 * (k : Int)) ⟨by omega, by omega⟩, show (k : Int) < 8 by omega]
        have hkl : k < ((le4 n).take k ++ List.replicate (8 - k) (0 : UInt8)).length := by simp [le4_len]; omega
        refine ⟨by omega, by simp [le4_len]; omega, Wp.s ?_⟩
        simp -implicitDefEqProofs [go_sem, wrap_succ (show k ≤ 1000000000 by omega)]
        refine ⟨k + 1, by omega, by omega, Sh.forget (by simp -implicitDefEqProofs [go_sem]) ?_ rfl⟩
        rw [shr_le4 n k h4, fb_set _ _ _ hkl, le4_step n k h4]
      · rintro _ -
        dsimp only
        refine sW ?_
        simp -implicitDefEqProofs [go_sem, HP]
        have hpl := partOf_len hp hi
        have hsec : List.take 4 (fb (le4 n ++ [0, 0, 0, 0])) ++ ((bs (partOf p i)).flatten ++ List.drop (4 + (partOf p i).length) (fb (le4 n ++ [0, 0, 0, 0]))) = secC (secOf n p i) := by
          rw [hpl, fb_flat]
          have e1 : List.take 4 (fb (le4 n ++ [0, 0, 0, 0])) = fb (le4 n) := rfl
          have e2 : List.drop (4 + 4) (fb (le4 n ++ [0, 0, 0, 0])) = [] := rfl
          rw [e1, e2, List.append_nil, fb_app]
          show fb _ = fb (secOf n p i).val
          rw [secOf_val n hp hi]
        rw [hsec]
        refine ⟨by omega, by rw [fb_flat, fb_all], by rw [hpl, le4_len]; exact Nat.le_refl _, ?_⟩
        rcases ha with ⟨rfl, he⟩ | ⟨k, v, rfl, hv, hk⟩
        · refine Wp.s ?_
          simp -implicitDefEqProofs [go_sem]
          rw [← hqq, ← hlp]
          refine ⟨hget _ _ 6, rfl, .sl (.own V'.length 0) 8 [secC (secOf n p i)], .inr ⟨V'.length, 0, ?_, by simp, hv1⟩, by simp; omega, ?_, W ++ [some (secC (secOf n p i))], ?_⟩
          · rw [List.map_append, he]; rfl
          · rw [List.take_append_of_le_length hv1]; exact hv2
          · simp
        · refine Wp.s ?_
          simp -implicitDefEqProofs [go_sem, hv]
          rw [← hqq, ← hlp]
          have hkv := (List.getElem?_eq_some_iff.1 hv).1
          refine ⟨by omega, hget _ _ 6, rfl, .sl (.own k (v + 1)) 8 (((List.range i).map (secOf n p)).map secC ++ [secC (secOf n p i)]), .inr ⟨k, v + 1, ?_, by rw [List.getElem?_set_self hkv], hk⟩, by simpa using hv1, ?_, W ++ [some (secC (secOf n p i))], ?_⟩
          · rw [List.map_append]; rfl
          · rw [List.take_set_of_le hk]; exact hv2
          · simp
    · rintro _ _ V' ⟨cv, W, ha, hv1, hv2, rfl⟩
      refine .inl ⟨hget _ _ 6, ?_⟩
      refine ⟨cv, V', ⟨ha, hv1, hv2⟩, ?_⟩
      refine Sh.trim (L := [some [ci n], some [ci 0, .v (.slice none 0 0), .v (.slice none 0 0)], none, some [ci n, .sl tk 1 (bs p), cv]]) ?_ ?_ hokH ?_ hv1 ?_ (List.take_of_length_le (Nat.le_refl _))
      · simp -implicitDefEqProofs [go_sem]
      · simp -implicitDefEqProofs [go_sem]
      · rw [okL, okL] at hok
        rw [okH_some, okH_some, okH_none, okH_some, okL, okL, okL, okL]
        exact ⟨by simp -implicitDefEqProofs [go_sem], by simp -implicitDefEqProofs [go_sem], ⟨by rw [okV]; trivial, okV_mono (by omega) (by omega) hok.2.1, ha.ok, trivial⟩, trivial⟩
      · simp
  · rintro ⟨cv, V'⟩ ⟨h1, h2, h3⟩
    dsimp only
    refine SWp0.seq (SWp.s0 (Wp.s ?_))
    simp -implicitDefEqProofs [go_sem]
    refine ⟨h1.one, SWp.s0 (Wp.s ?_)⟩
    simp -implicitDefEqProofs [go_sem]
    refine Fin.pu (.agg (.cons (.refl _) (.cons (.sh _ _ _) (.cons h1.le .nil)))) ?_ hokH (by simp) h3
    rw [okV_agg, okL, okL, okL, okL]
    exact ⟨by rw [okV]; trivial, by rw [okV_sh, okBs_t]; trivial, okV_secsV _ _ _, trivial⟩
end Go.Proofs.YtbnkggbpocaaiaaGreatDoor
namespace Go.Proofs.YtbnkggbpocaaiaaGreatDoor
open Go.Proofs
def mx (a b : List UInt8) (k : Nat) : List UInt8 := a.take k ++ List.replicate (4 - k) 0 ++ (b.take k ++ List.replicate (4 - k) 0)
def dst (p : List UInt8) (k : Nat) : List UInt8 := UInt8.ofNat p.length :: (p.take k ++ List.replicate (31 - k) 0)
end Go.Proofs.YtbnkggbpocaaiaaGreatDoor
namespace Go.Proofs.YtbnkggbpocaaiaaGreatDoor
open Go.Proofs
def zs (l : List UInt8) : Bool := l.all (· == 0)
def TR (l : List UInt8) (H : Hp) (V : List Nat) : CV → Hp → List Nat → Prop := fun r H' V' => ∃ m, m ≤ l.length ∧ r = .sl .sh 1 (bs (l.take m)) ∧ decide (0 < m) = !(zs l) ∧ H = H' ∧ V = V'
theorem strimB_cc (H : Hp) (V : List Nat) (tk : Tk) (l : List UInt8) (hl : l.length ≤ 1000000) : CC Tryz.prog 241 [.sl tk 1 (bs l), .v (.int .u8 0)] H V (TR l H V) := by
  refine CC.of_swp Tryz.func241 rfl (by kernel_rfl) (by rw [Tryz.ntmps241]; exact len_le _ _ rfl) fun hok hokH => ?_
  clear hok
  refine sW ?_
  simp -implicitDefEqProofs [go_sem, args0]
  refine SWp.join (α := Nat) (fun m => ([(0, .sl .sh 1 (bs (l.take m)))], H, V)) (fun m => m ≤ l.length ∧ decide (0 < m) = !(zs l)) ?_ ?_
  · refine SWp.block ?_
    refine SWp.loop (α := Nat) (fun m => ([(0, .sl .sh 1 (bs (l.take m))), (1, .v (.int .u8 0))], H, V)) (fun m => m ≤ l.length ∧ zs (l.drop m) = true) (fun m => m) l.length ⟨Nat.le_refl _, by simp [zs]⟩ (Sh.forget (by simp -implicitDefEqProofs [go_sem]) rfl rfl) ?_
    rintro m ⟨hm, hz⟩
    dsimp only
    have hlen : (l.take m).length = m := by simp; omega
    refine sW ?_
    by_cases h0 : m = 0
    · subst h0
      simp -implicitDefEqProofs [go_sem, hlen]
      refine ⟨0, ⟨Nat.zero_le _, ?_⟩, Sh.forget (by simp -implicitDefEqProofs [go_sem]) rfl rfl⟩
      simp at hz; rw [hz]; rfl
    have w1 : IntKind.i64.wrap ((m : Int) - 1) = ((m - 1 : Nat) : Int) := by rw [IntWalk.i64_in _ ⟨by omega, by omega⟩]; omega
    have hm1 : m - 1 < l.length := by omega
    simp -implicitDefEqProofs [go_sem, hlen, h0, w1, show 0 < m by omega, show m - 1 < m by omega]
    have hg : l.drop (m - 1) = l[m - 1] :: l.drop m := by
      have := List.drop_eq_getElem_cons hm1
      rwa [show m - 1 + 1 = m by omega] at this
    refine ⟨fun h => ?_, fun h => ?_⟩
    · refine SWp.block (Wp.s ?_)
      simp -implicitDefEqProofs [go_sem, hlen, w1]
      refine ⟨m - 1, ⟨by omega, ?_⟩, by omega, Sh.forget ?_ rfl rfl⟩
      · rw [hg, zs, List.all_cons, ← zs, hz, show l[m - 1] = 0 from UInt8.toNat_inj.1 h]; rfl
      · simp -implicitDefEqProofs [go_sem, List.take_take, Nat.min_eq_left (show m - 1 ≤ m by omega)]
    · refine ⟨m, ⟨hm, ?_⟩, Sh.forget (by simp -implicitDefEqProofs [go_sem]) rfl rfl⟩
      have : zs l = false := by
        rw [← Bool.not_eq_true]
        intro hq
        have := List.all_eq_true.1 hq l[m - 1] (List.getElem_mem hm1)
        exact h (by simpa using congrArg UInt8.toNat (eq_of_beq this))
      rw [this]; simp; omega
  · rintro m ⟨hm, hd⟩
    dsimp only
    refine Wp.s ?_
    simp -implicitDefEqProofs [go_sem]
    exact Fin.pure ⟨m, hm, rfl, hd, rfl, rfl⟩ (by simp) (by simp) (.refl _) (by rw [okV_sh, okBs_t]; trivial) hokH
theorem sTrimRight_cc (H : Hp) (V : List Nat) (tk : Tk) (l : List UInt8) (hl : l.length ≤ 1000000) : CC Tryz.prog 220 [.sl tk 1 (bs l), .v (.string ⟨#[0]⟩)] H V (TR l H V) := by
  refine CC.of_swp Tryz.func220 rfl (by kernel_rfl) (by rw [Tryz.ntmps220]; exact len_le _ _ rfl) fun hok hokH => ?_
  clear hok
  refine sW ?_
  simp -implicitDefEqProofs [go_sem, args0]
  refine sW ?_
  by_cases h0 : l = []
  · subst h0
    simp -implicitDefEqProofs [go_sem]
    exact Fin.pure ⟨0, Nat.le_refl _, rfl, rfl, rfl, rfl⟩ (by simp) (by simp) (.sh _ _ _) (by rw [okV_sh, okBs_t]; trivial) hokH
  have hlp : 0 < l.length := List.length_pos_iff.2 h0
  simp -implicitDefEqProofs [go_sem, h0, show ¬ (l.length = 0) by omega]
  refine sW ?_
  simp -implicitDefEqProofs [go_sem]
  refine ⟨fun h => ?_, fun h => absurd h (by decide)⟩
  refine CC.mono (strimB_cc _ _ _ l hl) ?_
  rintro _ _ _ ⟨m, h1, rfl, h2, rfl, rfl⟩
  simp -implicitDefEqProofs [go_sem]
  exact Fin.pure ⟨m, h1, rfl, h2, rfl, rfl⟩ (by simp) (by simp) (.refl _) (by rw [okV_sh, okBs_t]; trivial) hokH
theorem scloneBy_cc (H : Hp) (V : List Nat) (tk : Tk) (xs : List (List CV)) (hx : xs.length ≤ 1000000000) : CC Tryz.prog 120 [.sl tk 1 xs] H V (Fr 1 xs H V) := by
  refine CC.of_swp Tryz.func120 rfl (by kernel_rfl) (by rw [Tryz.ntmps120]; exact len_le _ _ rfl) fun hok hokH => Wp.s ?_
  simp -implicitDefEqProofs [go_sem, args0]
  simp [okL, okV] at hok
  refine ⟨⟨by omega, ?_⟩, fun h => ?_⟩
  · exact Fin.fr hok.2 hokH (by simp)
  · exact Fin.frtok (by omega) (.inl ⟨rfl, h⟩) hok.2 hokH (by simp) (by simp)
end Go.Proofs.YtbnkggbpocaaiaaGreatDoor
namespace Go.Proofs.YtbnkggbpocaaiaaGreatDoor
open Go.Proofs
theorem SWp.scope {P : Program} {n nb nv : Nat} {c : Code} {Q : Exit → Tm → Hp → List Nat → Prop} {T : Tm} {H : Hp} {V : List Nat} (h : SWp P n nb nv c (scp Q) T H V) : SWp P n nb nv (.scope c) Q T H V := by
  intro ro D m w a m0 w0 V0 h1 h2 h3 hx hs
  refine wpIn_scope_straight (wpIn_mono (h ro D m w a m0 w0 V0 h1 h2 h3 hx hs) fun e a' w' ⟨T', H', V', m', k1, k2⟩ => ?_)
  cases e with
  | goto l => exact k1.elim
  | _ => exact ⟨T', H', V', m', k1, k2⟩
def ApB (j : Nat) (l : List UInt8) (cv : CV) (V : List Nat) : Prop := (cv = .v (.slice none 0 0) ∧ l = []) ∨ ∃ k v, cv = .sl (.own k v) 1 (bs l) ∧ V[k]? = some v ∧ j ≤ k
theorem dataS_succ (l : List Sec) (i : Nat) (h : i < l.length) : dataS (l.take (i + 1)) = dataS (l.take i) ++ l[i].val.drop 4 := by
  rw [List.take_succ_eq_append_getElem h, dataS, List.flatMap_append]; simp [dataS]
theorem secC_drop4 (s : Sec) : chunks 1 4 ((secC s).drop 4) = bs (s.val.drop 4) := by
  have := fb_chunks (s.val.drop 4)
  rw [List.length_drop, s.len] at this
  have e : (secC s).drop 4 = fb (s.val.drop 4) := by rw [fb, List.map_drop]; rfl
  rw [e]; exact this
theorem sget_cc (H : Hp) (V : List Nat) (tk : Tk) (l : List Sec) (hl : l.length = 8) : CC Tryz.prog 202 [.sl tk 8 (l.map secC)] H V (Pu (.agg [ci (parseS l).1, .sl .sh 1 (bs (parseS l).2), secsV l]) H V) := by
  refine CC.of_swp Tryz.func202 rfl (by kernel_rfl) (by rw [Tryz.ntmps202]; exact len_le _ _ rfl) fun hok hokH => ?_
  refine sW ?_
  simp -implicitDefEqProofs [go_sem, args0]
  refine SWp.scope ?_
  refine sW ?_
  simp -implicitDefEqProofs [go_sem]
  refine sW ?_
  simp -implicitDefEqProofs [go_sem]
  refine sW ?_
  simp -implicitDefEqProofs [go_sem]
  have h0 : l.getD 0 sec0 = l[0] := by rw [List.getD_eq_getElem?_getD, List.getElem?_eq_getElem (by omega)]; rfl
  refine SWp.join (α := CV × List Nat) (fun x => ([(2, .ptr H.length 0), (3, .ptr (H.length + 1) 0)], H ++ [some [ci 0, .v (.slice none 0 0), .v (.slice none 0 0)], some [ci (parseS l).1, x.1, .sl tk 8 (l.map secC)]], x.2))
    (fun x => Le x.1 (.sl .sh 1 (bs (parseS l).2)) ∧ x.1.one = true ∧ V.length ≤ x.2.length ∧ x.2.take V.length = V) ?_ ?_
  · refine SWp.block ?_
    refine SWp.loop (α := Unit) (fun _ => ([(0, .sl tk 8 (l.map secC)), (2, .ptr H.length 0), (3, .ptr (H.length + 1) 0), (4, .v (.slice none 0 0))], H ++ [some [ci 0, .v (.slice none 0 0), .v (.slice none 0 0)], some [ci 0, .v (.slice none 0 0), .sl tk 8 (l.map secC)]], V)) (fun _ => True) (fun _ => 0) () trivial (Sh.forget (by simp -implicitDefEqProofs [go_sem]) (by simp) rfl) ?_
    rintro _ -
    dsimp only
    refine SWp.block ?_
    have inv : ∀ (T : Tm) (L : Hp) (V' : List Nat), parseS l = (0, []) → V.length ≤ V'.length → V'.take V.length = V → TLe T [(2, .ptr H.length 0), (3, .ptr (H.length + 1) 0)] →
      ∃ a b, (Le a (.sl .sh 1 (bs (parseS l).2)) ∧ a.one = true ∧ V.length ≤ b.length ∧ b.take V.length = V) ∧
        Sh 55 H.length V.length T (H ++ (some [ci 0, .v (.slice none 0 0), .v (.slice none 0 0)] :: some [ci 0, .v (.slice none 0 0), .sl tk 8 (l.map secC)] :: L)) V' ([(2, .ptr H.length 0), (3, .ptr (H.length + 1) 0)], H ++ [some [ci 0, .v (.slice none 0 0), .v (.slice none 0 0)], some [ci (parseS l).1, a, .sl tk 8 (l.map secC)]], b) := fun T L V' hp h1 h2 h3 => by
      refine ⟨.v (.slice none 0 0), V', ⟨by rw [hp]; exact .nil 1 (by decide), rfl, h1, h2⟩, ?_⟩
      rw [hp]
      refine Sh.trim (L := [some [ci 0, .v (.slice none 0 0), .v (.slice none 0 0)], some [ci 0, .v (.slice none 0 0), .sl tk 8 (l.map secC)]]) h3 (by simp -implicitDefEqProofs [go_sem]) hokH ?_ h1 (by simp) (List.take_of_length_le (Nat.le_refl _))
      rw [okL] at hok
      rw [okH_some, okH_some, okL, okL, okL, okL, okL, okL]
      exact ⟨by simp -implicitDefEqProofs [go_sem], ⟨by rw [okV]; trivial, by rw [okV]; trivial, okV_mono (by omega) h1 hok.1, trivial⟩, trivial⟩
    refine SWp.join (α := CV × List Nat) (fun x => ([(0, .sl tk 8 (l.map secC)), (2, .ptr H.length 0), (3, .ptr (H.length + 1) 0), (4, x.1)], H ++ [some [ci 0, .v (.slice none 0 0), .v (.slice none 0 0)], some [ci 0, .v (.slice none 0 0), .sl tk 8 (l.map secC)]], x.2))
      (fun x => (∃ k v, x.1 = .sl (.own k v) 1 (bs (dataS l)) ∧ x.2[k]? = some v ∧ V.length ≤ k) ∧ V.length ≤ x.2.length ∧ x.2.take V.length = V ∧ l.all (fun s => gn s == g0 l) = true) ?_ ?_
    · refine sW ?_
      simp -implicitDefEqProofs [go_sem]
      refine SWp.block ?_
      refine SWp.loop (α := Nat × CV × List Nat) (fun x => ([(0, .sl tk 8 (l.map secC)), (2, .ptr H.length 0), (3, .ptr (H.length + 1) 0), (4, x.2.1), (10, .sl tk 8 (l.map secC)), (11, ci 8), (12, ci x.1)], H ++ [some [ci 0, .v (.slice none 0 0), .v (.slice none 0 0)], some [ci 0, .v (.slice none 0 0), .sl tk 8 (l.map secC)]], x.2.2))
        (fun x => x.1 ≤ 8 ∧ ApB V.length (dataS (l.take x.1)) x.2.1 x.2.2 ∧ V.length ≤ x.2.2.length ∧ x.2.2.take V.length = V ∧ (l.take x.1).all (fun s => gn s == g0 l) = true) (fun x => 8 - x.1) (0, .v (.slice none 0 0), V) ⟨by omega, .inl ⟨rfl, rfl⟩, Nat.le_refl _, by simp, rfl⟩ (Sh.forget (by simp -implicitDefEqProofs [go_sem, hl]) (by simp) rfl) ?_
      rintro ⟨i, cv, V'⟩ ⟨hi, ha, hv1, hv2, hg⟩
      dsimp only at hi ha hv1 hv2 hg ⊢
      refine sW ?_
      simp -implicitDefEqProofs [go_sem]
      refine sW ?_
      simp -implicitDefEqProofs [go_sem]
      refine ⟨fun h => ?_, fun h => ?_⟩
      case refine_2 =>
        obtain rfl : i = 8 := by omega
        rw [List.take_of_length_le (by omega)] at ha hg
        rcases ha with ⟨rfl, he⟩ | ⟨k, v, rfl, hv, hk⟩
        · have := congrArg List.length he
          rw [dataS_len] at this; simp at this; omega
        · exact ⟨_, V', ⟨⟨k, v, rfl, hv, hk⟩, hv1, hv2, by simpa using hg⟩, Sh.forget (by simp -implicitDefEqProofs [go_sem]) rfl rfl⟩
      have h8 : i < l.length := by omega
      refine SWp.seq (SWp.block (sW ?_))
      simp -implicitDefEqProofs [go_sem, h8]
      refine SWp.seq (SWp.seq (SWp.drawnL [0, 2, 3, 4, 1, 5, 6] (by kernel_rfl) (by kernel_rfl) rfl ?_))
      simp -implicitDefEqProofs [go_sem, hl]
      refine CC.mono (sgeneration_cc _ _ _) ?_
      rintro _ _ _ ⟨rfl, rfl, rfl⟩
      simp -implicitDefEqProofs [go_sem]
      refine CC.mono (sgeneration_cc _ _ _) ?_
      rintro _ _ _ ⟨rfl, rfl, rfl⟩
      simp -implicitDefEqProofs [go_sem]
      refine Wp.s ?_
      by_cases hgi : gn l[i] = gn l[0]
      case neg =>
        have hp : parseS l = (0, []) := by
          rw [parseS, if_neg]
          intro hv
          rw [valid, Bool.and_eq_true] at hv
          have := List.all_eq_true.1 hv.1 _ (List.getElem_mem h8)
          rw [g0, h0] at this
          exact hgi (by simpa using this)
        simp -implicitDefEqProofs [go_sem, show ¬ ((gn l[i] : Int) = gn l[0]) by omega]
        exact inv _ [some (secC l[i])] V' hp hv1 hv2 (by simp -implicitDefEqProofs [go_sem])
      simp -implicitDefEqProofs [go_sem, hgi]
      have hg' : (l.take (i + 1)).all (fun s => gn s == g0 l) = true := by
        rw [List.take_succ_eq_append_getElem h8, List.all_append, hg, g0, h0]
        simp [hgi]
      have hok2 : ∀ j, V.length ≤ j → okH (H.length + 2) j [some [ci 0, .v (.slice none 0 0), .v (.slice none 0 0)], some [ci 0, .v (.slice none 0 0), .sl tk 8 (l.map secC)]] := fun j h1 => by
        rw [okL] at hok
        rw [okH_some, okH_some, okL, okL, okL, okL, okL, okL]
        exact ⟨by simp -implicitDefEqProofs [go_sem], ⟨by rw [okV]; trivial, by rw [okV]; trivial, okV_mono (by omega) h1 hok.1, trivial⟩, trivial⟩
      refine Wp.s ?_
      rcases ha with ⟨rfl, he⟩ | ⟨k, v, rfl, hv, hk⟩
      · simp -implicitDefEqProofs [go_sem, secC_drop4]
        have hap : ApB V.length (dataS (l.take (i + 1))) (.sl (.own V'.length 0) 1 (bs (l[i].val.drop 4))) (V' ++ [0]) := .inr ⟨V'.length, 0, by rw [dataS_succ _ _ h8, he]; rfl, by simp, hv1⟩
        refine ⟨by rw [l[i].len]; omega, Wp.s ?_⟩
        simp -implicitDefEqProofs [go_sem, wrap_succ (show i ≤ 1000000000 by omega)]
        refine ⟨i + 1, _, V' ++ [0], ⟨by omega, hap, by simp; omega, by rw [List.take_append_of_le_length hv1]; exact hv2, by simpa using hg'⟩, by omega, Sh.trim (L := [some [ci 0, .v (.slice none 0 0), .v (.slice none 0 0)], some [ci 0, .v (.slice none 0 0), .sl tk 8 (l.map secC)]]) (by simp -implicitDefEqProofs [go_sem]) ?_ hokH (hok2 _ (by simp; omega)) (by simp; omega) (by simp) (List.take_of_length_le (Nat.le_refl _))⟩
        rw [okL] at hok
        simp only [TOk_cons, TOk_nil]
        exact ⟨okV_mono (by omega) (by simp; omega) hok.1, by simp -implicitDefEqProofs [go_sem], by simp -implicitDefEqProofs [go_sem], by simp -implicitDefEqProofs [go_sem], okV_mono (by omega) (by simp; omega) hok.1, by simp -implicitDefEqProofs [go_sem], by simp -implicitDefEqProofs [go_sem], trivial⟩
      · simp -implicitDefEqProofs [go_sem, secC_drop4, hv]
        have hkv := (List.getElem?_eq_some_iff.1 hv).1
        have hap : ApB V.length (dataS (l.take (i + 1))) (.sl (.own k (v + 1)) 1 (bs (dataS (l.take i) ++ l[i].val.drop 4))) (V'.set k (v + 1)) := .inr ⟨k, v + 1, by rw [dataS_succ _ _ h8], by rw [List.getElem?_set_self hkv], hk⟩
        refine ⟨by rw [l[i].len, dataS_len, List.length_take]; omega, Wp.s ?_⟩
        simp -implicitDefEqProofs [go_sem, wrap_succ (show i ≤ 1000000000 by omega)]
        refine ⟨i + 1, _, V'.set k (v + 1), ⟨by omega, hap, by simpa using hv1, by rw [List.take_set_of_le hk]; exact hv2, by simpa using hg'⟩, by omega, Sh.trim (L := [some [ci 0, .v (.slice none 0 0), .v (.slice none 0 0)], some [ci 0, .v (.slice none 0 0), .sl tk 8 (l.map secC)]]) (by simp -implicitDefEqProofs [go_sem]) ?_ hokH (hok2 _ (by simpa using hv1)) (by simpa using hv1) (by simp) (List.take_of_length_le (Nat.le_refl _))⟩
        rw [okL] at hok
        simp only [TOk_cons, TOk_nil]
        exact ⟨okV_mono (by omega) (by simpa using hv1) hok.1, by simp -implicitDefEqProofs [go_sem], by simp -implicitDefEqProofs [go_sem], by simp -implicitDefEqProofs [go_sem, hkv], okV_mono (by omega) (by simpa using hv1) hok.1, by simp -implicitDefEqProofs [go_sem], by simp -implicitDefEqProofs [go_sem], trivial⟩
    · rintro ⟨cv, V'⟩ ⟨⟨k, v, rfl, hv, hk⟩, hv1, hv2, hg⟩
      dsimp only
      have hdl : (dataS l).length = 32 := by rw [dataS_len, hl]
      have hd0 : (dataS l).getD 0 0 = (dataS l)[0] := by rw [List.getD_eq_getElem?_getD, List.getElem?_eq_getElem (by omega)]; rfl
      have hg1 : gn l[0] = g0 l := by rw [g0, h0]
      refine sW ?_
      simp -implicitDefEqProofs [go_sem, hdl]
      generalize hm : (dataS l)[0].toNat = m at *
      refine sW ?_
      by_cases h31 : 31 < m
      · have hp : parseS l = (0, []) := by
          rw [parseS, if_neg]
          intro hv
          rw [valid, Bool.and_eq_true, okData, hd0, hm, Bool.and_eq_true, decide_eq_true_eq] at hv
          omega
        have hmw : IntKind.i64.wrap (m : Int) = m := by
          have := (dataS l)[0].toNat_lt
          exact IntWalk.i64_in _ ⟨by omega, by omega⟩
        simp -implicitDefEqProofs [go_sem, hmw, show (31 : Int) < m by omega]
        exact inv _ [] V' hp hv1 hv2 (by simp -implicitDefEqProofs [go_sem])
      have hmw : IntKind.i64.wrap (m : Int) = m := IntWalk.i64_in _ ⟨by omega, by omega⟩
      have hm1 := wrap_succ (show m ≤ 1000000000 by omega)
      simp -implicitDefEqProofs [go_sem, hmw, hm1, show ¬ (31 : Int) < m by omega, hdl]
      refine ⟨by omega, by omega, CC.mono (sTrimRight_cc _ _ _ _ (by rw [List.length_drop]; omega)) ?_⟩
      rintro _ _ _ ⟨q, hq1, rfl, hq, rfl, rfl⟩
      have hql : (((dataS l).drop (m + 1)).take q).length = q := by rw [List.length_take]; omega
      simp -implicitDefEqProofs [go_sem, hql]
      refine ⟨fun hq0 => ?_, fun hq0 => ?_⟩
      · have hp : parseS l = (0, []) := by
          rw [parseS, if_neg]
          intro hv
          rw [valid, Bool.and_eq_true, okData, hd0, hm, Bool.and_eq_true] at hv
          have hz := hv.2.2
          rw [← zs] at hz
          rw [hz] at hq
          simp at hq; omega
        exact inv _ [] V' hp hv1 hv2 (by simp -implicitDefEqProofs [go_sem])
      · have hz : zs ((dataS l).drop (m + 1)) = true := by
          rcases hz : zs ((dataS l).drop (m + 1)) with - | -
          · rw [hz] at hq; simp at hq; omega
          · rfl
        have hp : parseS l = (g0 l, ((dataS l).drop 1).take m) := by
          rw [parseS, if_pos, pay, hd0, hm]
          rw [valid, hg, okData, hd0, hm]
          simp only [Bool.true_and, Bool.and_eq_true, decide_eq_true_eq]
          exact ⟨by omega, hz⟩
        refine SWp.seq (SWp.drawnT [] [10, 13] (.s 0 .pl <| .s 1 .pl <| .s 2 .ld <| .s 4 .pl <| .s 5 .pl <| .s 6 .pl <| .s 7 .pl <| .s 3 .pl <| .s 8 .pl <| .s 9 .pl <| .s 10 .st <| .s 11 .pl <| .s 12 .pl <| .s 13 .st <| .n) (by kernel_rfl) (by kernel_rfl) ?_)
        simp -implicitDefEqProofs [go_sem, hl, hm1, hdl]
        refine ⟨by omega, by omega, CC.mono (sgeneration_cc _ _ _) ?_⟩
        rintro _ _ _ ⟨rfl, rfl, rfl⟩
        simp -implicitDefEqProofs [go_sem]
        have et : (bs ((dataS l).take (m + 1))).tail = bs (((dataS l).drop 1).take m) := by
          rw [← List.drop_one, bs_drop, List.drop_take, Nat.add_sub_cancel]
        refine Wp.s ?_
        simp -implicitDefEqProofs [go_sem]
        refine ⟨.sl .sh 1 (bs ((dataS l).take (m + 1))).tail, V', ⟨.of_eq (by rw [et, hp]), rfl, hv1, hv2⟩, Sh.forget (by simp -implicitDefEqProofs [go_sem]) ?_ rfl⟩
        rw [hp, hg1]
  · rintro ⟨pv, V'⟩ ⟨h1, h2, h3, h4⟩
    dsimp only
    refine sW ?_
    simp -implicitDefEqProofs [go_sem, h2]
    refine Wp.s ?_
    simp -implicitDefEqProofs [go_sem]
    refine Fin.pu (.agg (.cons (.refl _) (.cons h1 (.cons (.sh _ _ _) .nil)))) ?_ hokH (by simp) h4
    rw [okV_agg, okL, okL, okL, okL]
    exact ⟨by rw [okV]; trivial, by rw [okV_sh, okBs_t]; trivial, okV_secsV _ _ _, trivial⟩
end Go.Proofs.YtbnkggbpocaaiaaGreatDoor
namespace Go.Proofs.YtbnkggbpocaaiaaGreatDoor
open Go.Proofs
end Go.Proofs.YtbnkggbpocaaiaaGreatDoor
namespace Go.Proofs.YtbnkggbpocaaiaaGreatDoor
open Go.Proofs
def repC (c : Nat × List UInt8) (l : List Sec) : List CV := [ci c.1, .sl .sh 1 (bs c.2), secsV l]
def bothC (l : List Sec) : List CV := repC (cA l) (l.take 8) ++ repC (cB l) (l.drop 8)
def findV (d : Dk) (a : Int) : CV :=
  if findE d a ≠ 0 then .tup [.agg (repC (0, []) [] ++ repC (0, []) []), ci 0, er (findE d a)] else
  if (best (findL d a)).1 = 0 then .tup [.agg (bothC (findL d a)), ci 0, er 9] else .tup [.agg (bothC (findL d a)), ci (new1 (findL d a)), er 0]
theorem okL_repC (i j : Nat) (c : Nat × List UInt8) (l : List Sec) : okL i j (repC c l) := by
  rw [repC, okL, okL, okL, okL]
  exact ⟨by rw [okV]; trivial, by rw [okV_sh, okBs_t]; trivial, okV_secsV _ _ _, trivial⟩
theorem okL_app {i j : Nat} : ∀ {a b : List CV}, okL i j a → okL i j b → okL i j (a ++ b)
  | [], b, _, h => h
  | x :: a, b, h, g => by rw [okL] at h; rw [List.cons_append, okL]; exact ⟨h.1, okL_app h.2 g⟩
theorem okV_findV (i j : Nat) (d : Dk) (a : Int) : okV i j (findV d a) := by
  have h : ∀ (c : List CV) (x : Int) (e : Nat), okL i j c → okV i j (.tup [.agg c, ci x, er e]) := fun c x e hc => by
    rw [okV, okL, okL, okL, okL, okV_agg]
    exact ⟨hc, by rw [okV]; trivial, okV_er _ _ _, trivial⟩
  unfold findV
  split
  · exact h _ _ _ (okL_app (okL_repC _ _ _ _) (okL_repC _ _ _ _))
  · split <;> exact h _ _ _ (okL_app (okL_repC _ _ _ _) (okL_repC _ _ _ _))
theorem findL_len {d : Dk} {a : Int} (h : findE d a = 0) : (findL d a).length = 16 := by
  unfold findE at h
  unfold findL
  unfold readD at *
  split at h
  · rename_i h1; exact absurd h h1
  · split at h
    · cases h
    · rename_i h1 h2
      rw [if_neg h1, if_neg h2]
      have hq : insideB d a 16 = true := by simpa using h2
      simp only [insideB, Bool.and_eq_true, decide_eq_true_eq] at hq
      rw [List.length_take, List.length_drop, newestD_len]
      have : (16 : Int).toNat = 16 := rfl
      omega
theorem sfind_cc (H : Hp) (V : List Nat) (d : Dk) (a : Int) (hl : DkS d) : CC Tryz.prog 180 [.agg (dkC d), ci a] H V (Pu (findV d a) H V) := by
  refine CC.of_swp Tryz.func180 rfl (by kernel_rfl) (by rw [Tryz.ntmps180]; exact len_le _ _ rfl) fun hok hokH => ?_
  clear hok
  refine sW ?_
  simp -implicitDefEqProofs [go_sem, args0]
  refine sW ?_
  simp -implicitDefEqProofs [go_sem]
  refine CC.mono (show CC Tryz.prog 29 _ _ _ (Pu (.tup [secsV (findL d a), er (findE d a)]) _ _) from sRead_cc _ _ d ⟨a, 16⟩ hl) ?_
  rintro _ _ _ ⟨rfl, rfl, rfl⟩
  simp -implicitDefEqProofs [go_sem]
  refine sW ?_
  simp -implicitDefEqProofs [go_sem]
  refine ⟨fun he => ?_, fun he => ?_⟩
  · rw [findV, if_pos he]
    exact Fin.pu (.tup (.cons (.agg (.cons (.refl _) (.cons (.nil 1 (by decide)) (.cons (.nil 8 (by decide)) (.cons (.refl _) (.cons (.nil 1 (by decide)) (.cons (.nil 8 (by decide)) .nil))))))) (.cons (.refl _) (.cons (.refl _) .nil))))
      (by have := okV_findV H.length V.length d a; rwa [findV, if_pos he] at this) hokH (by simp) (by simp)
  have hl16 := findL_len he
  have hV : findV d a = if (best (findL d a)).1 = 0 then .tup [.agg (bothC (findL d a)), ci 0, er 9] else .tup [.agg (bothC (findL d a)), ci (new1 (findL d a)), er 0] := by rw [findV, if_neg (by simpa using he)]
  have hokV := okV_findV H.length V.length d a
  generalize findL d a = l at *
  refine SWp.seq (SWp.drawnT [] [8] (.s 0 .pl <| .s 1 .pl <| .s 3 .pl <| .s 4 .pl <| .c 2 <| .c 5 <| .s 6 .pl <| .s 7 .pl <| .s 8 .st <| .n) (by kernel_rfl) (by kernel_rfl) ?_)
  simp -implicitDefEqProofs [go_sem, hl16]
  refine ⟨.agg (repC (cA l) (l.take 8)), fun H V => ?_, ?_⟩
  · show CC Tryz.prog 202 [.sl .sh 8 ((l.map secC).take 8)] H V _
    rw [← List.map_take]
    exact sget_cc H V .sh (l.take 8) (by rw [List.length_take]; omega)
  simp -implicitDefEqProofs [go_sem]
  refine ⟨.agg (repC (cB l) (l.drop 8)), fun H V => ?_, ?_⟩
  · show CC Tryz.prog 202 [.sl .sh 8 ((l.map secC).drop 8)] H V _
    rw [← List.map_drop]
    exact sget_cc H V .sh (l.drop 8) (by rw [List.length_drop]; omega)
  simp -implicitDefEqProofs [go_sem, repC]
  refine sW ?_
  simp -implicitDefEqProofs [go_sem]
  rw [hV] at hokV
  rw [hV]
  refine sW ?_
  by_cases hlt : (cA l).1 < (cB l).1
  · have hb : (best l).1 = (cB l).1 := by rw [best, if_pos hlt]
    have hn : new1 l = 1 := by rw [new1, if_pos hlt]
    have h0 : ¬ (cB l).1 = 0 := by omega
    rw [hb, if_neg h0, hn] at hokV
    rw [hb, if_neg h0, hn]
    simp -implicitDefEqProofs [go_sem, show ((cA l).1 : Int) < (cB l).1 by omega]
    refine sW ?_
    simp -implicitDefEqProofs [go_sem, h0]
    refine Wp.s ?_
    simp -implicitDefEqProofs [go_sem]
    exact Fin.pu (.refl _) hokV hokH (by simp) (by simp)
  · have hb : (best l).1 = (cA l).1 := by rw [best, if_neg hlt]
    have hn : new1 l = 0 := by rw [new1, if_neg hlt]
    rw [hb, hn] at hokV
    rw [hb, hn]
    simp -implicitDefEqProofs [go_sem, show ¬ ((cA l).1 : Int) < (cB l).1 by omega]
    refine sW ?_
    by_cases h0 : (cA l).1 = 0
    · rw [if_pos h0] at hokV
      rw [if_pos h0]
      simp -implicitDefEqProofs [go_sem, h0]
      refine Fin.pu (.of_eq ?_) hokV hokH (by simp) (by simp)
      simp [bothC, repC, h0]
    · rw [if_neg h0] at hokV
      rw [if_neg h0]
      simp -implicitDefEqProofs [go_sem, h0]
      refine Wp.s ?_
      simp -implicitDefEqProofs [go_sem]
      exact Fin.pu (.refl _) hokV hokH (by simp) (by simp)
end Go.Proofs.YtbnkggbpocaaiaaGreatDoor
namespace Go.Proofs.YtbnkggbpocaaiaaGreatDoor
open Go.Proofs
end Go.Proofs.YtbnkggbpocaaiaaGreatDoor
namespace Go.Proofs.YtbnkggbpocaaiaaGreatDoor
open Go.Proofs
def ldV (x : List UInt8 × Nat × Nat) : CV := .tup [.sl .sh 1 (bs x.1), ci x.2.1, er x.2.2]
theorem okV_ldV (i j : Nat) (x : List UInt8 × Nat × Nat) : okV i j (ldV x) := by
  rw [ldV, okV, okL, okL, okL, okL]
  exact ⟨by rw [okV_sh, okBs_t]; trivial, by rw [okV]; trivial, okV_er _ _ _, trivial⟩
theorem best_eq (l : List Sec) : best l = if new1 l = 1 then cB l else cA l := by
  unfold best new1; split <;> rfl
theorem pay_len (l : List Sec) : (parseS l).2.length ≤ 256 := by
  unfold parseS; split
  · rw [pay, List.length_take]
    have := ((dataS l).getD 0 0).toNat_lt
    omega
  · exact Nat.zero_le _
theorem sLoad_cc (H : Hp) (V : List Nat) (d : Dk) (a : Int) (hl : DkS d) : CC Tryz.prog 183 [.agg (dkC d), ci a] H V (Pu (ldV (loadS d a)) H V) := by
  refine CC.of_swp Tryz.func183 rfl (by kernel_rfl) (by rw [Tryz.ntmps183]; exact len_le _ _ rfl) fun hok hokH => ?_
  clear hok
  have bad : ∀ (e : Nat) {H' : Hp} {V' : List Nat}, loadS d a = ([], 0, e) → H'.take H.length = H → V'.take V.length = V → Fin H.length V.length (Pu (ldV (loadS d a)) H V) (.tup [.v (.slice none 0 0), .v (.int .i64 0), er e]) H' V' := fun e H' V' h1 h2 h3 => by
    rw [h1]
    exact Fin.pu (.tup (.cons (.nil 1 (by decide)) (.cons (.refl _) (.cons (.refl _) .nil)))) (okV_ldV _ _ _) hokH h2 h3
  refine sW ?_
  simp -implicitDefEqProofs [go_sem, args0]
  refine sW ?_
  simp -implicitDefEqProofs [go_sem]
  refine CC.mono (sfind_cc _ _ d a hl) ?_
  rintro _ _ _ ⟨rfl, rfl, rfl⟩
  by_cases he : findE d a = 0
  case neg =>
    have hV : findV d a = .tup [.agg (repC (0, []) [] ++ repC (0, []) []), ci 0, er (findE d a)] := by rw [findV, if_pos he]
    rw [hV]
    simp -implicitDefEqProofs [go_sem, repC]
    refine Wp.s ?_
    simp -implicitDefEqProofs [go_sem, he]
    exact bad _ (by rw [loadS, if_pos he]) (by simp) (by simp)
  by_cases hb : (best (findL d a)).1 = 0
  · have hV : findV d a = .tup [.agg (bothC (findL d a)), ci 0, er 9] := by rw [findV, if_neg (by simpa using he), if_pos hb]
    rw [hV]
    simp -implicitDefEqProofs [go_sem, bothC, repC]
    refine Wp.s ?_
    simp -implicitDefEqProofs [go_sem]
    exact bad 9 (by rw [loadS, if_neg (by simpa using he), if_pos hb]) (by simp) (by simp)
  have hV : findV d a = .tup [.agg (bothC (findL d a)), ci (new1 (findL d a)), er 0] := by rw [findV, if_neg (by simpa using he), if_neg hb]
  have hL : loadS d a = ((best (findL d a)).2, (best (findL d a)).1, 0) := by rw [loadS, if_neg (by simpa using he), if_neg hb]
  rw [hV, hL]
  clear bad hV hL hb
  generalize findL d a = l at *
  simp -implicitDefEqProofs [go_sem, bothC, repC]
  refine sW ?_
  simp -implicitDefEqProofs [go_sem]
  refine SWp.seq (SWp.drawnL [0, 1, 2, 3, 4, 6, 7, 8, 9, 10, 5, 11, 12, 13] (by kernel_rfl) (by kernel_rfl) rfl ?_)
  have hn : new1 l = 1 ∨ new1 l = 0 := by unfold new1; split <;> simp
  have hbe := best_eq l
  rcases hn with hn | hn
  · rw [hn] at hbe
    rw [hn]
    simp -implicitDefEqProofs [go_sem]
    refine CC.mono (scloneBy_cc _ _ .sh _ (by rw [bs_len]; have : (cB l).2.length ≤ 256 := pay_len _; omega)) ?_
    rintro _ _ _ ⟨v, rfl, rfl, rfl⟩
    simp -implicitDefEqProofs [go_sem]
    refine Wp.s ?_
    simp -implicitDefEqProofs [go_sem]
    rw [hbe]
    exact Fin.pu (.tup (.cons (.sh _ _ _) (.cons (.refl _) (.cons (.refl _) .nil)))) (okV_ldV _ _ _) hokH (by simp) (by simp)
  · rw [hn] at hbe
    rw [hn]
    simp -implicitDefEqProofs [go_sem]
    refine CC.mono (scloneBy_cc _ _ .sh _ (by rw [bs_len]; have : (cA l).2.length ≤ 256 := pay_len _; omega)) ?_
    rintro _ _ _ ⟨v, rfl, rfl, rfl⟩
    simp -implicitDefEqProofs [go_sem]
    refine Wp.s ?_
    simp -implicitDefEqProofs [go_sem]
    rw [hbe]
    exact Fin.pu (.tup (.cons (.sh _ _ _) (.cons (.refl _) (.cons (.refl _) .nil)))) (okV_ldV _ _ _) hokH (by simp) (by simp)
end Go.Proofs.YtbnkggbpocaaiaaGreatDoor
