import Derived.Test.YthakkopnoeinmaaA7
import Derived.Test.YthakkopnoeinmaaA13
set_option linter.unusedSimpArgs false
set_option linter.unusedVariables false
namespace Go.Proofs.Ythakkopnoeinmaa
abbrev Reg := BitVec 32
def poly : Reg := 0x82F63B78#32
/-- One bit. -/
def bit1 (r : Reg) : Reg := if r.getLsbD 0 then (r >>> 1) ^^^ poly else r >>> 1
def bits : Nat → Reg → Reg
  | 0, r => r
  | n + 1, r => bits n (bit1 r)
theorem bit1_xor (a b : Reg) : bit1 (a ^^^ b) = bit1 a ^^^ bit1 b := by
  unfold bit1
  rw [BitVec.getLsbD_xor, BitVec.ushiftRight_xor_distrib]
  cases a.getLsbD 0 <;> cases b.getLsbD 0 <;> simp
  · rw [BitVec.xor_assoc]
  · rw [BitVec.xor_assoc, BitVec.xor_assoc, BitVec.xor_comm poly]
  · rw [BitVec.xor_assoc, BitVec.xor_comm poly, BitVec.xor_assoc, BitVec.xor_self, BitVec.xor_zero]
theorem bits_xor : ∀ (n : Nat) (a b : Reg), bits n (a ^^^ b) = bits n a ^^^ bits n b
  | 0, _, _ => rfl
  | n + 1, a, b => by rw [bits, bits, bits, bit1_xor, bits_xor n]
theorem bits_low : ∀ (n : Nat) (a : Reg), (∀ i, i < n → a.getLsbD i = false) → bits n a = a >>> n
  | 0, a, _ => by rw [bits, BitVec.ushiftRight_zero]
  | n + 1, a, h => by
    have e : bit1 a = a >>> 1 := by unfold bit1; rw [h 0 (by omega)]; rfl
    rw [bits, e, bits_low n _ fun i hi => by rw [BitVec.getLsbD_ushiftRight]; exact h _ (by omega), ← BitVec.shiftRight_add, Nat.add_comm 1 n]
/-- The register behind a byte, bit by bit. -/
def regB (r : Reg) (b : UInt8) : Reg := bits 8 (r ^^^ BitVec.ofNat 32 b.toNat)
/-- The table's entry. -/
def tabE (i : Nat) : Reg := bits 8 (BitVec.ofNat 32 i)
theorem reg_table (r : Reg) (b : UInt8) : regB r b = (r >>> 8) ^^^ tabE ((r ^^^ BitVec.ofNat 32 b.toNat).toNat % 256) := by
  have hb := b.toNat_lt
  obtain ⟨x, hx⟩ : ∃ x, r ^^^ BitVec.ofNat 32 b.toNat = x := ⟨_, rfl⟩
  unfold regB tabE
  rw [hx]
  have h1 : x = (x &&& 0xFFFFFF00#32) ^^^ (x &&& 0xFF#32) := by
    apply BitVec.eq_of_getLsbD_eq
    intro i hi
    rw [BitVec.getLsbD_xor, BitVec.getLsbD_and, BitVec.getLsbD_and]
    have : ∀ j, j < 32 → ((0xFFFFFF00#32).getLsbD j = !((0xFF#32).getLsbD j)) := by decide
    rw [this i hi]
    cases x.getLsbD i <;> cases (0xFF#32).getLsbD i <;> rfl
  have h2 : x &&& 0xFF#32 = BitVec.ofNat 32 (x.toNat % 256) := by
    apply BitVec.eq_of_toNat_eq
    rw [BitVec.toNat_and, BitVec.toNat_ofNat, BitVec.toNat_ofNat]
    have : (255 % 2 ^ 32 : Nat) = 2 ^ 8 - 1 := by decide
    rw [this, Nat.and_two_pow_sub_one_eq_mod]
    have := Nat.mod_lt x.toNat (show 0 < 256 by omega)
    omega
  have h3 : bits 8 (x &&& 0xFFFFFF00#32) = r >>> 8 := by
    rw [bits_low 8 _ fun i hi => by
      rw [BitVec.getLsbD_and]
      have : ∀ j, j < 8 → (0xFFFFFF00#32).getLsbD j = false := by decide
      rw [this i hi, Bool.and_false]]
    apply BitVec.eq_of_getLsbD_eq
    intro i hi
    rw [BitVec.getLsbD_ushiftRight, BitVec.getLsbD_ushiftRight, BitVec.getLsbD_and, ← hx, BitVec.getLsbD_xor]
    by_cases h : 8 + i < 32
    · have h4 : ∀ j, j < 24 → (0xFFFFFF00#32).getLsbD (8 + j) = true := by decide
      rw [h4 _ (by omega), Bool.and_true]
      have h5 : (BitVec.ofNat 32 b.toNat).getLsbD (8 + i) = false := by
        rw [BitVec.getLsbD_ofNat, Nat.testBit_lt_two_pow (Nat.lt_of_lt_of_le hb (Nat.pow_le_pow_right (by omega) (show 8 ≤ 8 + i by omega)))]
        simp
      rw [h5, Bool.xor_false]
    · rw [BitVec.getLsbD_of_ge _ _ (by omega), BitVec.getLsbD_of_ge _ _ (by omega)]
      simp
  conv => lhs; rw [h1, bits_xor, h3, h2]
def crcR (r : Reg) (l : List UInt8) : Reg := l.foldl regB r
/-- The sum of bytes. -/
def crc (l : List UInt8) : Reg := ~~~(crcR (~~~ (0#32)) l)
/-- Its four bytes. -/
def crc4 (l : List UInt8) : List UInt8 := [byt ((crc l).toNat : Int), byt (((crc l).toNat / 256 : Nat) : Int), byt (((crc l).toNat / 65536 : Nat) : Int), byt (((crc l).toNat / 16777216 : Nat) : Int)]
def sealed (l : List UInt8) : List UInt8 := l ++ crc4 l
theorem crc4_len (l : List UInt8) : (crc4 l).length = 4 := rfl
/-! ### The operations, of registers -/
/-- A register, as a number. -/
def rn (r : Reg) : Int := (r.toNat : Int)
abbrev c32 (r : Reg) : CV := .v (.int .u32 (rn r))
theorem wrap32 {n : Nat} (h : n < 4294967296) : IntKind.u32.wrap (n : Int) = (n : Int) := by
  rw [IntKind.wrap_u32]; omega
theorem ofInt32 (a : Reg) : BitVec.ofInt 32 (a.toNat : Int) = a := by
  rw [BitVec.ofInt_natCast, BitVec.ofNat_toNat, BitVec.setWidth_eq]
theorem xor32 (a b : Reg) : bitop .xor .u32 (a.toNat : Int) (b.toNat : Int) = ((a ^^^ b).toNat : Int) := by
  show IntKind.u32.wrap ((BitVec.ofInt 32 (a.toNat : Int) ^^^ BitVec.ofInt 32 (b.toNat : Int)).toNat : Int) = _
  rw [ofInt32, ofInt32]
  exact wrap32 (BitVec.isLt _)
theorem and32 (a b : Reg) : bitop .and .u32 (a.toNat : Int) (b.toNat : Int) = ((a &&& b).toNat : Int) := by
  show IntKind.u32.wrap ((BitVec.ofInt 32 (a.toNat : Int) &&& BitVec.ofInt 32 (b.toNat : Int)).toNat : Int) = _
  rw [ofInt32, ofInt32]
  exact wrap32 (BitVec.isLt _)
theorem shr32 (a : Reg) (k : Nat) (hk : k ≤ 32) : shr .u32 (a.toNat : Int) (k : Int) = ((a >>> k).toNat : Int) := by
  unfold shr
  have : min ((k : Int)).toNat IntKind.u32.bits = k := by
    have : IntKind.u32.bits = 32 := rfl
    omega
  rw [this, Int.fdiv_eq_ediv_of_nonneg _ (Int.le_of_lt (Int.pow_pos (by decide))), BitVec.toNat_ushiftRight, Nat.shiftRight_eq_div_pow]
  push_cast
  rfl
theorem not32 (a : Reg) : bitop .xor .u32 4294967295 (a.toNat : Int) = ((~~~a).toNat : Int) := by
  have := xor32 (BitVec.allOnes 32) a
  rw [show ((BitVec.allOnes 32).toNat : Int) = 4294967295 from rfl] at this
  rw [this, BitVec.allOnes_xor]
theorem lsb_mod (a : Reg) : a.getLsbD 0 = decide (a.toNat % 2 = 1) := by
  rw [BitVec.getLsbD, Nat.testBit_zero]
theorem step_mul (r : Reg) : bitop .xor .u32 ((r >>> 1).toNat : Int) (IntKind.u32.wrap (2197175160 * ((r &&& 1#32).toNat : Int))) = ((bit1 r).toNat : Int) := by
  have h1 : (r &&& 1#32).toNat = r.toNat % 2 := by
    rw [BitVec.toNat_and]; exact Nat.and_one_is_mod _
  unfold bit1
  rw [lsb_mod, h1]
  rcases Nat.mod_two_eq_zero_or_one r.toNat with h | h
  · rw [h, if_neg (by simp)]
    have := xor32 (r >>> 1) 0#32
    rw [BitVec.xor_zero] at this
    exact this
  · rw [h, if_pos (by simp)]
    exact xor32 (r >>> 1) poly
theorem xorR (a b : Reg) : bitop .xor .u32 (rn a) (rn b) = rn (a ^^^ b) := xor32 a b
theorem and1R (r : Reg) : bitop .and .u32 (rn r) 1 = rn (r &&& 1#32) := and32 r 1#32
theorem shr1R (r : Reg) : shr .u32 (rn r) 1 = rn (r >>> 1) := shr32 r 1 (by decide)
theorem shr8R (r : Reg) : shr .u32 (rn r) 8 = rn (r >>> 8) := shr32 r 8 (by decide)
theorem shr16R (r : Reg) : shr .u32 (rn r) 16 = rn (r >>> 16) := shr32 r 16 (by decide)
theorem shr24R (r : Reg) : shr .u32 (rn r) 24 = rn (r >>> 24) := shr32 r 24 (by decide)
theorem stepR (r : Reg) : bitop .xor .u32 (rn (r >>> 1)) (IntKind.u32.wrap (2197175160 * rn (r &&& 1#32))) = rn (bit1 r) := step_mul r
theorem notR (r : Reg) : bitop .xor .u32 4294967295 (rn r) = rn (~~~r) := not32 r
theorem notR0 : bitop .xor .u32 4294967295 0 = rn (~~~(0#32)) := not32 0#32
theorem ofNatR {i : Nat} (h : i < 4294967296) : IntKind.u32.wrap (i : Int) = rn (BitVec.ofNat 32 i) := by
  rw [rn, BitVec.toNat_ofNat, Nat.mod_eq_of_lt (by omega)]; exact wrap32 h
theorem maxU32 : (if IntKind.u32.signed = true then (-1 : Int) else IntKind.u32.max) = 4294967295 := rfl
/-- The index into the table. -/
theorem xor8 (r : Reg) (b : UInt8) : bitop .xor .u8 (IntKind.u8.wrap (rn r)) (b.toNat : Int) = (((r ^^^ BitVec.ofNat 32 b.toNat).toNat % 256 : Nat) : Int) := by
  have hb := b.toNat_lt
  show IntKind.u8.wrap ((BitVec.ofInt 8 (IntKind.u8.wrap (rn r)) ^^^ BitVec.ofInt 8 (b.toNat : Int)).toNat : Int) = _
  have e : IntKind.u8.wrap (rn r) = ((r.toNat % 256 : Nat) : Int) := by rw [IntKind.wrap_u8, rn]; omega
  rw [e, BitVec.ofInt_natCast, BitVec.ofInt_natCast, BitVec.toNat_xor, BitVec.toNat_ofNat, BitVec.toNat_ofNat, BitVec.toNat_xor, BitVec.toNat_ofNat, Nat.mod_eq_of_lt (show b.toNat < 2 ^ 32 by omega), show (256 : Nat) = 2 ^ 8 from rfl, Nat.xor_mod_two_pow, Nat.mod_mod]
  have h1 := Nat.xor_lt_two_pow (Nat.mod_lt r.toNat (show 0 < 2 ^ 8 by decide)) (Nat.mod_lt b.toNat (show 0 < 2 ^ 8 by decide))
  rw [IntKind.wrap_u8]
  omega
theorem remR (r : Reg) : (rn r).tmod 2 = ((r.toNat % 2 : Nat) : Int) := by
  rw [rn, Int.tmod_eq_emod_of_nonneg (by omega)]; omega
theorem bit1_1 {r : Reg} (h : r.toNat % 2 = 1) : bit1 r = (r >>> 1) ^^^ poly := by
  unfold bit1; rw [lsb_mod, if_pos (by simp [h])]
theorem bit1_0 {r : Reg} (h : ¬ r.toNat % 2 = 1) : bit1 r = r >>> 1 := by
  unfold bit1; rw [lsb_mod, if_neg (by simp [h])]
theorem polyR : (2197175160 : Int) = rn poly := rfl
theorem xorP (r : Reg) : bitop .xor .u32 (rn r) 2197175160 = rn (r ^^^ poly) := xorR r poly
theorem crc4_bytes (l : List UInt8) : [[CV.v (.int .u8 (IntKind.u8.wrap (rn (crc l))))], [CV.v (.int .u8 (IntKind.u8.wrap (rn (crc l >>> 8))))], [CV.v (.int .u8 (IntKind.u8.wrap (rn (crc l >>> 16))))], [CV.v (.int .u8 (IntKind.u8.wrap (rn (crc l >>> 24))))]] = bs (crc4 l) := by
  simp only [u8_byt]
  simp only [bs, crc4, List.map_cons, List.map_nil, rn, BitVec.toNat_ushiftRight, Nat.shiftRight_eq_div_pow]
end Go.Proofs.Ythakkopnoeinmaa
namespace Go.Proofs.Ythakkopnoeinmaa
open Go.Proofs
@[go_sem] theorem hbx_at1 (H : Hp) (a : Option (List CV)) (cs : List CV) (L : Hp) (K : List CV → Prop) : hbx (H ++ a :: some cs :: L) (H.length + 1) K = K cs := by
  rw [show H ++ a :: some cs :: L = (H ++ [a]) ++ some cs :: L by simp]; exact hbx_at (by simp)
@[go_sem] theorem set_at1 (H : Hp) (a c d : Option (List CV)) (L : Hp) : (H ++ a :: c :: L).set (H.length + 1) d = H ++ a :: d :: L := by
  rw [show H ++ a :: c :: L = (H ++ [a]) ++ c :: L by simp, set_at (by simp)]; simp
/-- The table, as cells. -/
def tabC : List CV := (List.range 256).map fun j => c32 (tabE j)
theorem tabC_len : tabC.length = 256 := by rw [tabC, List.length_map, List.length_range]
theorem tabC_get (i : Nat) (h : i < tabC.length) : tabC[i] = c32 (tabE i) := by
  simp only [tabC, List.getElem_map, List.getElem_range]
theorem tabC_all : allOne tabC = true := by
  simp only [allOne, tabC, List.all_map, List.all_eq_true]; intros; rfl
theorem okL_tabC (i j : Nat) : okL i j tabC = True := eq_true (by
  rw [okL_iff]; intro c hc
  simp only [tabC, List.mem_map] at hc
  obtain ⟨b, _, rfl⟩ := hc
  trivial)
theorem tabC_take : tabC.take 256 = tabC := List.take_of_length_le (by rw [tabC_len]; exact Nat.le_refl _)
theorem fill_tab {α : Type} {cs : List α} {f : Nat → α} {i : Nat} (hc : i < cs.length) (ht : cs.take i = (List.range i).map f) : (cs.take i ++ f i :: cs.drop (i + 1)).take (i + 1) = (List.range (i + 1)).map f := by
  have h : (cs.take i).length = i := by rw [List.length_take]; omega
  rw [List.take_append, List.take_of_length_le (by omega), h, show i + 1 - i = 1 by omega, List.take_succ_cons, List.take_zero, ht, List.range_succ, List.map_append]; rfl
set_option maxRecDepth 20000 in
theorem registers_cc (H : Hp) (V : List Nat) : CC Try.prog 102 [] H V (Pu (.agg tabC) H V) := by
  refine CC.of_swp Try.func102 rfl (by kernel_rfl) (by rw [Try.ntmps102]; exact len_le _ _ rfl) fun hok hokH => ?_
  refine SWp.seq (Wp.s ?_)
  simp -implicitDefEqProofs [go_sem, args0]
  refine SWp.seq (Wp.s ?_)
  simp -implicitDefEqProofs [go_sem]
  obtain ⟨zs, hzs⟩ : ∃ zs, z256.map CV.v = zs := ⟨_, rfl⟩
  have hzl : zs.length = 256 := by rw [← hzs, List.length_map, z256, List.length_replicate]
  rw [hzs]
  refine SWp.join (α := Unit) (fun _ => ([(1, .ptr (H.length + 1) 0), (0, .ptr H.length 0)], H ++ [some zs, some tabC], V)) (fun _ => True) ?_ ?_
  · refine SWp.seq (Wp.s ?_)
    simp -implicitDefEqProofs [go_sem]
    refine SWp.block ?_
    refine SWp.loop (α := Nat × List CV) (fun x => ([(5, ci x.1), (1, .ptr (H.length + 1) 0), (0, .ptr H.length 0)], H ++ [some zs, some x.2], V)) (fun x => x.1 ≤ 256 ∧ x.2.length = 256 ∧ x.2.take x.1 = (List.range x.1).map fun j => c32 (tabE j)) (fun x => 256 - x.1) (0, zs) ⟨Nat.zero_le _, hzl, rfl⟩ (Sh.forget (by simp [go_sem]) rfl rfl) ?_
    rintro ⟨i, cs⟩ ⟨hi, hc, ht⟩
    dsimp only at hi hc ht ⊢
    refine SWp.seq (Wp.s ?_)
    simp -implicitDefEqProofs [go_sem]
    refine SWp.seq (Wp.s ?_)
    by_cases h : i < 256
    · simp -implicitDefEqProofs [go_sem, show (i : Int) < 256 by omega]
      refine SWp.seq (SWp.block ?_)
      refine SWp.seq (Wp.s ?_)
      simp -implicitDefEqProofs [go_sem]
      refine SWp.seq (Wp.s ?_)
      have hwi := ofNatR (show i < 4294967296 by omega)
      simp -implicitDefEqProofs [go_sem, hwi]
      refine SWp.join (α := Unit) (fun _ => ([(3, c32 (tabE i)), (2, ci i), (5, ci i), (1, .ptr (H.length + 1) 0), (0, .ptr H.length 0)], H ++ [some zs, some cs], V)) (fun _ => True) ?_ ?_
      · refine SWp.seq (Wp.s ?_)
        simp -implicitDefEqProofs [go_sem]
        refine SWp.block ?_
        refine SWp.loop (α := Nat × Reg) (fun x => ([(10, ci x.1), (3, c32 x.2), (2, ci i), (5, ci i), (1, .ptr (H.length + 1) 0), (0, .ptr H.length 0)], H ++ [some zs, some cs], V)) (fun x => x.1 ≤ 8 ∧ bits (8 - x.1) x.2 = tabE i) (fun x => 8 - x.1) (0, BitVec.ofNat 32 i) ⟨Nat.zero_le _, rfl⟩ (Sh.forget (by simp [go_sem]) rfl rfl) ?_
        rintro ⟨q, r⟩ ⟨hq, hr⟩
        dsimp only at hq hr ⊢
        refine Wp.s ?_
        by_cases hq8 : q < 8
        · simp -implicitDefEqProofs [go_sem, show (q : Int) < 8 by omega, and1R, shr1R, stepR]
          refine ⟨q + 1, bit1 r, ⟨by omega, ?_⟩, by omega, Sh.forget (by simp [go_sem, wrap_succ (show q ≤ 1000000000 by omega)]) rfl rfl⟩
          rw [show 8 - q = (8 - (q + 1)) + 1 by omega, bits] at hr
          exact hr
        · simp -implicitDefEqProofs [go_sem, show ¬ (q : Int) < 8 by omega]
          rw [show 8 - q = 0 by omega, bits] at hr
          subst hr
          exact Sh.forget (by simp [go_sem]) rfl rfl
      · rintro _ -
        dsimp only
        refine Wp.s ?_
        simp -implicitDefEqProofs [go_sem, h]
        refine ⟨by omega, by omega, ?_⟩
        refine Wp.s ?_
        simp -implicitDefEqProofs [go_sem]
        exact ⟨i + 1, cs.take i ++ c32 (tabE i) :: cs.drop (i + 1), ⟨by omega, by rw [List.length_append, List.length_cons, List.length_take, List.length_drop]; omega, fill_tab (f := fun j => c32 (tabE j)) (by omega) ht⟩, by omega, Sh.forget (by simp [go_sem, wrap_succ (show i ≤ 1000000000 by omega)]) rfl rfl⟩
    · simp -implicitDefEqProofs [go_sem, show ¬ (i : Int) < 256 by omega]
      have e : cs = tabC := by
        have e2 : i = 256 := by omega
        rw [e2, List.take_of_length_le (by omega)] at ht
        exact ht
      rw [e]
      exact Sh.forget (by simp [go_sem]) rfl rfl
  · rintro _ -
    dsimp only
    refine Wp.s ?_
    simp -implicitDefEqProofs [go_sem, tabC_len, tabC_take, tabC_all, hzl]
    exact Fin.pu (.refl _) (by simp [go_sem, okL_tabC]) hokH (by simp) (by simp)
end Go.Proofs.Ythakkopnoeinmaa
namespace Go.Proofs.Ythakkopnoeinmaa
open Go.Proofs
theorem tabC_at {i : Nat} (h : i < 256) (H : Hp) (L : Hp) (K : CV → Prop) : (hbx (H ++ some tabC :: L) H.length fun cs => ∃ h : i < cs.length, K cs[i]) = K (c32 (tabE i)) := by
  rw [hbx_new]
  exact propext ⟨fun ⟨h, k⟩ => by rw [tabC_get] at k; exact k, fun k => ⟨by rw [tabC_len]; exact h, by rw [tabC_get]; exact k⟩⟩
theorem Update_cc (H : Hp) (V : List Nat) (tk : Tk) (s : Reg) (l : List UInt8) (hl : l.length ≤ 900000000) : CC Try.prog 88 [c32 s, .sl tk 1 (bs l)] H V (Pu (c32 (~~~(crcR (~~~s) l))) H V) := by
  refine CC.of_swp Try.func88 rfl (by kernel_rfl) (by rw [Try.ntmps88]; exact len_le _ _ rfl) fun hok hokH => ?_
  clear hok
  refine SWp.seq (Wp.s ?_)
  simp -implicitDefEqProofs [go_sem, args0]
  refine SWp.seq (Wp.s ?_)
  simp -implicitDefEqProofs [go_sem]
  refine CC.mono (registers_cc _ _) ?_
  rintro _ _ _ ⟨rfl, rfl, rfl⟩
  have hzl : (z256.map CV.v).length = 256 := by rw [List.length_map, z256, List.length_replicate]
  have hzl' : z256.length = 256 := by rw [z256, List.length_replicate]
  simp -implicitDefEqProofs [go_sem, tabC_len, tabC_all, hzl', List.drop_eq_nil_of_le]
  refine SWp.seq (Wp.s ?_)
  simp -implicitDefEqProofs [go_sem, maxU32, notR]
  refine SWp.join (α := Unit) (fun _ => ([(6, c32 (crcR (~~~s) l))], H ++ [some tabC], V)) (fun _ => True) ?_ ?_
  · refine SWp.seq (Wp.s ?_)
    simp -implicitDefEqProofs [go_sem]
    refine SWp.block ?_
    refine SWp.loop (α := Nat × Reg) (fun x => ([(14, ci x.1), (6, c32 x.2), (5, .ptr H.length 0), (12, .sl tk 1 (bs l)), (13, ci l.length)], H ++ [some tabC], V)) (fun x => x.1 ≤ l.length ∧ crcR x.2 (l.drop x.1) = crcR (~~~s) l) (fun x => l.length - x.1) (0, ~~~s) ⟨Nat.zero_le _, rfl⟩ (Sh.forget (by simp [go_sem]) rfl rfl) ?_
    rintro ⟨i, r⟩ ⟨hi, hr⟩
    dsimp only at hi hr ⊢
    refine Wp.s ?_
    by_cases h : i < l.length
    · rw [List.drop_eq_getElem_cons h] at hr
      have hr : crcR (regB r l[i]) (l.drop (i + 1)) = crcR (~~~s) l := hr
      rw [reg_table] at hr
      have hx : (r ^^^ BitVec.ofNat 32 l[i].toNat).toNat % 256 < 256 := Nat.mod_lt _ (by omega)
      have hx8 := xor8 r l[i]
      generalize (r ^^^ BitVec.ofNat 32 l[i].toNat).toNat % 256 = j at hr hx hx8
      simp -implicitDefEqProofs [go_sem, h, shr8R, hx8, hx, tabC_len, tabC_get, xorR]
      exact ⟨by omega, i + 1, r >>> 8 ^^^ tabE j, ⟨by omega, hr⟩, by omega, Sh.forget (by simp [go_sem, wrap_succ (show i ≤ 1000000000 by omega)]) rfl rfl⟩
    · simp -implicitDefEqProofs [go_sem, h]
      rw [List.drop_eq_nil_of_le (by omega)] at hr
      have hr : r = crcR (~~~s) l := hr
      rw [← hr]
      exact Sh.forget (by simp [go_sem]) rfl rfl
  · rintro _ -
    dsimp only
    refine Wp.s ?_
    simp -implicitDefEqProofs [go_sem, maxU32, notR]
    exact Fin.pu (.refl _) (by simp [go_sem]) hokH (by simp) (by simp)
theorem Sum_cc (H : Hp) (V : List Nat) (tk : Tk) (l : List UInt8) (hl : l.length ≤ 900000000) : CC Try.prog 68 [.sl tk 1 (bs l)] H V (Pu (c32 (crc l)) H V) := by
  refine CC.of_swp Try.func68 rfl (by kernel_rfl) (by rw [Try.ntmps68]; exact len_le _ _ rfl) fun hok hokH => Wp.s ?_
  simp -implicitDefEqProofs [go_sem, args0]
  refine CC.mono (Update_cc H V tk 0#32 l hl) ?_
  rintro _ _ _ ⟨rfl, rfl, rfl⟩
  simp -implicitDefEqProofs [go_sem]
  exact Fin.pu (.refl _) (by simp [go_sem]) hokH (by simp) (by simp)
theorem register_cc (H : Hp) (V : List Nat) (r : Reg) (b : UInt8) : CC Try.prog 87 [c32 r, .v (.int .u8 (b.toNat : Int))] H V (Pu (c32 (regB r b)) H V) := by
  refine CC.of_swp Try.func87 rfl (by kernel_rfl) (by rw [Try.ntmps87]; exact len_le _ _ rfl) fun hok hokH => ?_
  clear hok
  refine SWp.seq (Wp.s ?_)
  simp -implicitDefEqProofs [go_sem, args0]
  refine SWp.seq (Wp.s ?_)
  have hb := b.toNat_lt
  simp -implicitDefEqProofs [go_sem, ofNatR (show b.toNat < 4294967296 by omega), xorR]
  refine SWp.join (α := Unit) (fun _ => ([(0, c32 (regB r b))], H, V)) (fun _ => True) ?_ ?_
  · refine SWp.seq (Wp.s ?_)
    simp -implicitDefEqProofs [go_sem]
    refine SWp.block ?_
    refine SWp.loop (α := Nat × Reg) (fun x => ([(5, ci x.1), (0, c32 x.2)], H, V)) (fun x => x.1 ≤ 8 ∧ bits (8 - x.1) x.2 = regB r b) (fun x => 8 - x.1) (0, r ^^^ BitVec.ofNat 32 b.toNat) ⟨Nat.zero_le _, rfl⟩ (Sh.forget (by simp [go_sem]) rfl rfl) ?_
    rintro ⟨q, x⟩ ⟨hq, hx⟩
    dsimp only at hq hx ⊢
    refine Wp.s ?_
    have hw := wrap_succ (show q ≤ 1000000000 by omega)
    by_cases h8 : q < 8
    · rw [show 8 - q = (8 - (q + 1)) + 1 by omega, bits] at hx
      by_cases hm : x.toNat % 2 = 1
      · rw [bit1_1 hm] at hx
        simp -implicitDefEqProofs [go_sem, show (q : Int) < 8 by omega, remR, hm, shr1R, xorP]
        exact ⟨q + 1, _, ⟨by omega, hx⟩, by omega, Sh.forget (by simp [go_sem, hw]) rfl rfl⟩
      · rw [bit1_0 hm] at hx
        simp -implicitDefEqProofs [go_sem, show (q : Int) < 8 by omega, remR, show x.toNat % 2 = 0 by omega, shr1R]
        exact ⟨q + 1, _, ⟨by omega, hx⟩, by omega, Sh.forget (by simp [go_sem, hw]) rfl rfl⟩
    · simp -implicitDefEqProofs [go_sem, show ¬ (q : Int) < 8 by omega]
      rw [show 8 - q = 0 by omega, bits] at hx
      rw [← hx]
      exact Sh.forget (by simp [go_sem]) rfl rfl
  · rintro _ -
    dsimp only
    refine Wp.s ?_
    simp -implicitDefEqProofs [go_sem]
    exact Fin.pu (.refl _) (by simp [go_sem]) hokH (by simp) (by simp)
theorem refUpdate_cc (H : Hp) (V : List Nat) (tk : Tk) (s : Reg) (l : List UInt8) (hl : l.length ≤ 900000000) : CC Try.prog 66 [c32 s, .sl tk 1 (bs l)] H V (Pu (c32 (~~~(crcR (~~~s) l))) H V) := by
  refine CC.of_swp Try.func66 rfl (by kernel_rfl) (by rw [Try.ntmps66]; exact len_le _ _ rfl) fun hok hokH => ?_
  clear hok
  refine SWp.seq (Wp.s ?_)
  simp -implicitDefEqProofs [go_sem, args0]
  refine SWp.seq (Wp.s ?_)
  simp -implicitDefEqProofs [go_sem, maxU32, notR]
  refine SWp.join (α := Unit) (fun _ => ([(5, c32 (crcR (~~~s) l))], H, V)) (fun _ => True) ?_ ?_
  · refine SWp.seq (Wp.s ?_)
    simp -implicitDefEqProofs [go_sem]
    refine SWp.block ?_
    refine SWp.loop (α := Nat × Reg) (fun x => ([(6, ci x.1), (5, c32 x.2), (1, .sl tk 1 (bs l))], H, V)) (fun x => x.1 ≤ l.length ∧ crcR x.2 (l.drop x.1) = crcR (~~~s) l) (fun x => l.length - x.1) (0, ~~~s) ⟨Nat.zero_le _, rfl⟩ (Sh.forget (by simp [go_sem]) rfl rfl) ?_
    rintro ⟨i, r⟩ ⟨hi, hr⟩
    dsimp only at hi hr ⊢
    refine Wp.s ?_
    by_cases h : i < l.length
    · rw [List.drop_eq_getElem_cons h] at hr
      have hr : crcR (regB r l[i]) (l.drop (i + 1)) = crcR (~~~s) l := hr
      simp -implicitDefEqProofs [go_sem, h]
      refine CC.mono (register_cc _ _ _ _) ?_
      rintro _ _ _ ⟨rfl, rfl, rfl⟩
      simp -implicitDefEqProofs [go_sem]
      exact ⟨i + 1, _, ⟨by omega, hr⟩, by omega, Sh.forget (by simp [go_sem, wrap_succ (show i ≤ 1000000000 by omega)]) rfl rfl⟩
    · simp -implicitDefEqProofs [go_sem, h]
      rw [List.drop_eq_nil_of_le (by omega)] at hr
      have hr : r = crcR (~~~s) l := hr
      rw [← hr]
      exact Sh.forget (by simp [go_sem]) rfl rfl
  · rintro _ -
    dsimp only
    refine Wp.s ?_
    simp -implicitDefEqProofs [go_sem, maxU32, notR]
    exact Fin.pu (.refl _) (by simp [go_sem]) hokH (by simp) (by simp)
theorem refSum_cc (H : Hp) (V : List Nat) (tk : Tk) (l : List UInt8) (hl : l.length ≤ 900000000) : CC Try.prog 33 [.sl tk 1 (bs l)] H V (Pu (c32 (crc l)) H V) := by
  refine CC.of_swp Try.func33 rfl (by kernel_rfl) (by rw [Try.ntmps33]; exact len_le _ _ rfl) fun hok hokH => Wp.s ?_
  simp -implicitDefEqProofs [go_sem, args0]
  refine CC.mono (refUpdate_cc H V tk 0#32 l hl) ?_
  rintro _ _ _ ⟨rfl, rfl, rfl⟩
  simp -implicitDefEqProofs [go_sem]
  exact Fin.pu (.refl _) (by simp [go_sem]) hokH (by simp) (by simp)
theorem seal_cc (H : Hp) (V : List Nat) (k v : Nat) (l : List UInt8) (hv : V[k]? = some v) (hl : l.length ≤ 900000000) : CC Try.prog 39 [.sl (.own k v) 1 (bs l)] H V (Ow k 1 (bs (sealed l)) H V) := by
  have hk : k < V.length := (List.getElem?_eq_some_iff.1 hv).1
  refine CC.of_swp Try.func39 rfl (by kernel_rfl) (by rw [Try.ntmps39]; exact len_le _ _ rfl) fun hok hokH => ?_
  clear hok
  refine SWp.seq (Wp.s ?_)
  simp -implicitDefEqProofs [go_sem, args0]
  refine SWp.seq (Wp.s ?_)
  simp -implicitDefEqProofs [go_sem]
  refine CC.mono (Sum_cc _ _ _ _ hl) ?_
  rintro _ _ _ ⟨rfl, rfl, rfl⟩
  simp -implicitDefEqProofs [go_sem]
  refine Wp.s ?_
  simp -implicitDefEqProofs [go_sem, shr8R, shr16R, shr24R, crc4_bytes, hv]
  refine ⟨by simp [crc4_len]; omega, Fin.ownB hk rfl hokH (by simp)⟩
theorem Sealed_cc (H : Hp) (V : List Nat) (tk : Tk) (l : List UInt8) (hl : l.length ≤ 900000000) : CC Try.prog 21 [.sl tk 1 (bs l)] H V (Fr 1 (bs (sealed l)) H V) := by
  refine CC.of_swp Try.func21 rfl (by kernel_rfl) (by rw [Try.ntmps21]; exact len_le _ _ rfl) fun hok hokH => ?_
  clear hok
  refine SWp.seq (Wp.s ?_)
  simp -implicitDefEqProofs [go_sem, args0]
  refine SWp.seq (Wp.s ?_)
  simp -implicitDefEqProofs [go_sem]
  refine SWp.seq (Wp.s ?_)
  simp -implicitDefEqProofs [go_sem]
  refine ⟨by omega, ?_⟩
  refine SWp.seq (Wp.s ?_)
  simp -implicitDefEqProofs [go_sem]
  refine CC.mono (refSum_cc _ _ _ _ hl) ?_
  rintro _ _ _ ⟨rfl, rfl, rfl⟩
  simp -implicitDefEqProofs [go_sem]
  refine Wp.s ?_
  simp -implicitDefEqProofs [go_sem, shr8R, shr16R, shr24R, crc4_bytes]
  refine ⟨by simp [crc4_len]; omega, Fin.freshB rfl hokH (by simp)⟩
end Go.Proofs.Ythakkopnoeinmaa
