import Derived.Test.YtdiblbjchhjccaaDoorA7
import Derived.Test.YtdiblbjchhjccaaDoorA5
set_option linter.unusedSimpArgs false
set_option linter.unusedVariables false
set_option linter.unusedSectionVars false
namespace Go.Proofs.YtdiblbjchhjccaaDoor
open Go.Proofs
@[go_sem] theorem hbx_c0 (cs : List CV) (H : Hp) (K : List CV → Prop) : hbx (some cs :: H) 0 K = K cs := id rfl
@[go_sem] theorem hbx_c1 (c : Option (List CV)) (H : Hp) (b : Nat) (K : List CV → Prop) : hbx (c :: H) (b + 1) K = hbx H b K := id rfl
theorem Fin.er {H H' : Hp} {V V' : List Nat} {a b : Nat} (h : b = a) (hokH : ∀ (b : Nat) cs, H[b]? = some (some cs) → okL H.length V.length cs) (hH : H'.take H.length = H) (hV : V'.take V.length = V) : Fin H.length V.length (Pu (er b) H V) (er a) H' V' := by
  subst h; exact Fin.pu (.refl _) (by simp [go_sem]) hokH hH hV
theorem Fin.int {H H' : Hp} {V V' : List Nat} {k : IntKind} {a b : Int} (h : a = b) (hokH : ∀ (b : Nat) cs, H[b]? = some (some cs) → okL H.length V.length cs) (hH : H'.take H.length = H) (hV : V'.take V.length = V) : Fin H.length V.length (Pu (.v (.int k b)) H V) (.v (.int k a)) H' V' := by
  subst h; exact Fin.pu (.refl _) trivial hokH hH hV
theorem Fin.cut {nb nv : Nat} {R : CV → Hp → List Nat → Prop} {r r' : CV} {H' H'' : Hp} {V' V'' : List Nat} (i j : Nat) (hR : R r' H'' V'') (hi : nb ≤ i) (hj : nv ≤ j) (hH : H'.take i = H'') (hV : V'.take j = V'') (hle : Le r r') (hok : okV i j r')
    (hokH : ∀ (b : Nat) cs, H''[b]? = some (some cs) → okL i j cs) : Fin nb nv R r H' V' := by
  refine ⟨r', H'', V'', ?_, hR⟩
  refine Gst.trans (T' := [(0, r')]) (H' := H') (V' := V') (Gst.forget fun p hp => ?_) ?_
  · simp at hp; subst hp; exact hle
  · have := Gst.cut (n := 1) (nb := nb) (nv := nv) (T := [(0, r')]) (H := H') (V := V') i j hi hj (fun p hp => by simp at hp; subst hp; exact hok) (by rw [hH]; exact hokH)
    rwa [hH, hV] at this
theorem Fin.self {nb nv : Nat} {R : CV → Hp → List Nat → Prop} {r : CV} {H : Hp} {V : List Nat} (h : R r H V) : Fin nb nv R r H V := ⟨r, H, V, Gst.refl, h⟩
/-- An index, or -1: whether there is one. -/
def Ix (b : Bool) (H : Hp) (V : List Nat) : CV → Hp → List Nat → Prop := fun r H' V' => ∃ k : Int, r = ci k ∧ decide (0 ≤ k) = b ∧ H = H' ∧ V = V'
theorem Fin.ix {k : Int} {b : Bool} {H H' : Hp} {V V' : List Nat} (h : decide (0 ≤ k) = b) (hokH : ∀ (b : Nat) cs, H[b]? = some (some cs) → okL H.length V.length cs) (hH : H'.take H.length = H) (hV : V'.take V.length = V) : Fin H.length V.length (Ix b H V) (ci k) H' V' :=
  Fin.pure ⟨k, rfl, h, rfl, rfl⟩ hH hV (.refl _) trivial hokH
theorem any_take {α : Type} {p : α → Bool} {l : List α} {i : Nat} (h : i < l.length) (h1 : (l.take i).any p = false) (h2 : p l[i] = false) : (l.take (i + 1)).any p = false := by
  rw [List.take_succ_eq_append_getElem h, List.any_append, h1]; simp [h2]
theorem any_at {α : Type} {p : α → Bool} {l : List α} {i : Nat} (h : i < l.length) (h2 : p l[i] = true) : l.any p = true := List.any_eq_true.2 ⟨_, List.getElem_mem h, h2⟩
theorem bitop_or (k : IntKind) (x y : Nat) (hx : x < 2 ^ k.bits) (hy : y < 2 ^ k.bits) : bitop .or k (x : Int) (y : Int) = k.wrap ((x ||| y : Nat) : Int) := by
  unfold bitop
  have h1 : (BitVec.ofInt k.bits (x : Int)).toNat = x := by
    rw [BitVec.ofInt_natCast, BitVec.toNat_ofNat, Nat.mod_eq_of_lt hx]
  have h2 : (BitVec.ofInt k.bits (y : Int)).toNat = y := by
    rw [BitVec.ofInt_natCast, BitVec.toNat_ofNat, Nat.mod_eq_of_lt hy]
  simp only [BitVec.toNat_or, h1, h2]
def sb (s : Sec) (i : Nat) : Nat := (s.val.getD i 0).toNat
theorem sb_lt (s : Sec) (i : Nat) : sb s i < 256 := UInt8.toNat_lt _
theorem secC_get (s : Sec) (i : Nat) (h : i < (secC s).length) : (secC s)[i] = CV.v (.int .u8 (sb s i : Int)) := by
  have h8 : i < s.val.length := by simpa [secC] using h
  simp only [secC, List.getElem_map, sb, List.getD_eq_getElem?_getD, List.getElem?_eq_getElem h8, Option.getD_some]
/-- The generation: the greatest digits of four. -/
def gi (s : Sec) : Nat → Nat
  | 0 => 0
  | i + 1 => gi s i * 256 + sb s (3 - i)
def gn (s : Sec) : Nat := gi s 4
theorem gi_lt (s : Sec) : ∀ i, gi s i < 256 ^ i
  | 0 => Nat.one_pos
  | i + 1 => by
    have := gi_lt s i
    have := sb_lt s (3 - i)
    rw [gi, Nat.pow_succ]; omega
theorem gn_lt (s : Sec) : gn s < 4294967296 := gi_lt s 4
theorem or_add (a b : Nat) (hb : b < 256) : a * 256 ||| b = a * 256 + b := by
  have := Nat.two_pow_add_eq_or_of_lt (i := 8) (b := b) hb a
  rw [Nat.mul_comm a 256]; exact this.symm
theorem gi_step (s : Sec) (i : Nat) (h : i < 4) : bitop .or .i64 (shl .i64 (gi s i : Int) 8) (sb s (3 - i) : Int) = ((gi s (i + 1) : Nat) : Int) := by
  have h1 := gi_lt s i
  have h2 := sb_lt s (3 - i)
  have h3 : gi s i < 16777216 := Nat.lt_of_lt_of_le h1 (by
    have := Nat.pow_le_pow_right (show 0 < 256 by decide) (show i ≤ 3 by omega)
    exact this)
  have e1 : shl .i64 (gi s i : Int) 8 = ((gi s i * 256 : Nat) : Int) := by
    unfold shl
    rw [show (2 : Int) ^ (min (8 : Int).toNat IntKind.i64.bits) = 256 by rfl, IntWalk.i64_in _ ⟨by omega, by omega⟩]
    omega
  rw [e1, bitop_or _ _ _ (by show _ < 2 ^ 64; omega) (by show _ < 2 ^ 64; omega), or_add _ _ h2, IntWalk.i64_in _ ⟨by omega, by omega⟩, gi]
theorem generation_cc (H : Hp) (V : List Nat) (s : Sec) : CC Tryd.prog 34 [.agg (secC s)] H V (Pu (ci (gn s)) H V) := by
  refine CC.of_swp Tryd.func34 rfl (by kernel_rfl) (by rw [Tryd.ntmps34]; exact len_le _ _ rfl) fun hok hokH => ?_
  clear hok
  refine SWp.seq (Wp.s ?_)
  simp -implicitDefEqProofs [go_sem, args0]
  refine SWp.seq (Wp.s ?_)
  simp -implicitDefEqProofs [go_sem]
  refine SWp.join (α := Unit) (fun _ => ([(3, ci (gn s))], H ++ [some (secC s)], V)) (fun _ => True) ?_ ?_
  · refine SWp.seq (Wp.s ?_)
    simp -implicitDefEqProofs [go_sem]
    refine SWp.block ?_
    refine SWp.loop (α := Nat) (fun i => ([(1, .ptr H.length 0), (3, ci (gi s i)), (4, ci (3 - (i : Int)))], H ++ [some (secC s)], V)) (fun i => i ≤ 4) (fun i => 4 - i) 0 (by simp) (Sh.forget (by simp [go_sem, gi]) rfl rfl) ?_
    intro i hi
    dsimp only
    refine SWp.seq (Wp.s ?_)
    simp -implicitDefEqProofs [go_sem]
    refine ⟨fun h => ?_, fun h => Sh.forget (by
      have h' : (3 : Int) < i := h
      obtain rfl : i = 4 := by omega
      simp [go_sem, gn]) rfl rfl⟩
    have h4 : i < 4 := by omega
    have e1 : (3 - (i : Int)).toNat = 3 - i := by omega
    have u : IntKind.i64.wrap (sb s (3 - i) : Int) = (sb s (3 - i) : Int) := by have := sb_lt s (3 - i); exact IntWalk.i64_in _ ⟨by omega, by omega⟩
    refine SWp.seq (SWp.block ?_)
    refine Wp.s ?_
    simp -implicitDefEqProofs [go_sem, u, show (i : Int) ≤ 3 by omega, show (3 - (i : Int)) < 8 by omega, e1, secC_get, show 3 - i < 8 by omega, gi_step s i h4]
    refine Wp.s ?_
    simp -implicitDefEqProofs [go_sem, IntWalk.i64_in (3 - (i : Int) - 1) ⟨by omega, by omega⟩]
    exact ⟨i + 1, by omega, by omega, Sh.forget (by simp [go_sem, show (3 - (i : Int) - 1) = 3 - ((i : Int) + 1) by omega]) rfl rfl⟩
  · rintro _ -
    dsimp only
    refine Wp.s ?_
    simp -implicitDefEqProofs [go_sem]
    exact Fin.int rfl hokH (by simp) (by simp)
theorem or_add' (a b i : Nat) (ha : a < 2 ^ i) : a ||| b * 2 ^ i = a + b * 2 ^ i := by
  have := Nat.two_pow_add_eq_or_of_lt (i := i) (b := a) ha b
  rw [Nat.or_comm, Nat.mul_comm b, ← this, Nat.add_comm]
theorem gi32 (s : Sec) : bitop .or .u32 (bitop .or .u32 (bitop .or .u32 (sb s 0 : Int) (shl .u32 (sb s 1 : Int) 8)) (shl .u32 (sb s 2 : Int) 16)) (shl .u32 (sb s 3 : Int) 24) = (gn s : Int) := by
  have h0 := sb_lt s 0
  have h1 := sb_lt s 1
  have h2 := sb_lt s 2
  have h3 := sb_lt s 3
  have u : ∀ x : Nat, x < 4294967296 → IntKind.u32.wrap (x : Int) = (x : Int) := fun x hx => by rw [IntKind.wrap_u32]; omega
  have e : ∀ (x k : Nat), x < 256 → k ≤ 24 → shl .u32 (x : Int) (k : Int) = ((x * 2 ^ k : Nat) : Int) := fun x k hx hk => by
    unfold shl
    rw [Int.toNat_natCast, Nat.min_eq_left (by show k ≤ 32; omega)]
    have e2 : (x : Int) * 2 ^ k = ((x * 2 ^ k : Nat) : Int) := by simp
    rw [e2]
    refine u _ ?_
    have := Nat.pow_le_pow_right (show 0 < 2 by decide) hk
    have := Nat.mul_le_mul (show x ≤ 255 by omega) this
    omega
  rw [show (8 : Int) = ((8 : Nat) : Int) from rfl, show (16 : Int) = ((16 : Nat) : Int) from rfl, show (24 : Int) = ((24 : Nat) : Int) from rfl, e _ _ h1 (by omega), e _ _ h2 (by omega), e _ _ h3 (by omega)]
  rw [bitop_or _ _ _ (by show _ < 2 ^ 32; omega) (by show _ < 2 ^ 32; omega), or_add' _ _ _ (by omega), u _ (by omega)]
  rw [bitop_or _ _ _ (by show _ < 2 ^ 32; omega) (by show _ < 2 ^ 32; omega), or_add' _ _ _ (by omega), u _ (by omega)]
  rw [bitop_or _ _ _ (by show _ < 2 ^ 32; omega) (by show _ < 2 ^ 32; omega), or_add' _ _ _ (by omega), u _ (by omega)]
  simp only [gn, gi, Nat.zero_mul, Nat.zero_add, Nat.sub_zero, Nat.sub_self, show 3 - 2 = 1 from rfl, show 3 - 1 = 2 from rfl]
  omega
theorem Generation_cc (H : Hp) (V : List Nat) (s : Sec) : CC Tryd.prog 35 [.agg (secC s)] H V (Pu (.v (.int .u32 (gn s))) H V) := by
  refine CC.of_swp Tryd.func35 rfl (by kernel_rfl) (by rw [Tryd.ntmps35]; exact len_le _ _ rfl) fun hok hokH => ?_
  clear hok
  refine SWp.seq (Wp.s ?_)
  simp -implicitDefEqProofs [go_sem, args0]
  refine SWp.seq (Wp.s ?_)
  have u : ∀ i, IntKind.u32.wrap (sb s i : Int) = (sb s i : Int) := fun i => by rw [IntKind.wrap_u32]; have := sb_lt s i; omega
  simp -implicitDefEqProofs [go_sem, secC_get, u, gi32]
  refine Wp.s ?_
  simp -implicitDefEqProofs [go_sem]
  exact Fin.int rfl hokH (by simp) (by simp)
theorem inside_cc (H : Hp) (V : List Nat) (d : Dk) (a n : Int) (hl : d.stable.length ≤ 1000000000) : CC Tryd.prog 57 [.agg (dkC d), ci a, ci n] H V (Pu (cb (insideB d a n)) H V) := by
  refine CC.of_swp Tryd.func57 rfl (by kernel_rfl) (by rw [Tryd.ntmps57]; exact len_le _ _ rfl) fun hok hokH => ?_
  clear hok
  refine SWp.seq (Wp.s ?_)
  simp -implicitDefEqProofs [go_sem, args0]
  refine SWp.seq (Wp.s ?_)
  by_cases h1 : 0 ≤ a
  case neg =>
    simp -implicitDefEqProofs [go_sem, h1]
    refine Wp.s ?_
    simp -implicitDefEqProofs [go_sem]
    exact Fin.bool (by simp [insideB, h1]) hokH (by simp) (by simp)
  by_cases h2 : 0 ≤ n
  case neg =>
    simp -implicitDefEqProofs [go_sem, h1, h2]
    refine Wp.s ?_
    simp -implicitDefEqProofs [go_sem]
    exact Fin.bool (by simp [insideB, h1, h2]) hokH (by simp) (by simp)
  by_cases h3 : n ≤ (d.stable.length : Int)
  case neg =>
    simp -implicitDefEqProofs [go_sem, h1, h2, h3]
    refine Wp.s ?_
    simp -implicitDefEqProofs [go_sem]
    exact Fin.bool (by simp [insideB, h1, h2, h3]) hokH (by simp) (by simp)
  simp -implicitDefEqProofs [go_sem, h1, h2, h3, IntWalk.i64_in ((d.stable.length : Int) - n) ⟨by omega, by omega⟩]
  refine Wp.s ?_
  simp -implicitDefEqProofs [go_sem]
  exact Fin.bool (by simp [insideB, h1, h2, h3]) hokH (by simp) (by simp)
theorem Check1_cc (H : Hp) (V : List Nat) (d : Dk) (c : Cach) (b : Nat) (hb : H[b]? = some (some (dkC d))) : CC Tryd.prog 47 [.agg (cachC c), .ptr b 0] H V (Pu (cb (badAt d c)) H V) := by
  refine CC.of_swp Tryd.func47 rfl (by kernel_rfl) (by rw [Tryd.ntmps47]; exact len_le _ _ rfl) fun hok hokH => ?_
  clear hok
  have hb' : ∀ K, hbx (H ++ [some (cachC c)]) b K = K (dkC d) := fun K => by
    have : b < H.length := by
      rcases Nat.lt_or_ge b H.length with h | h
      · exact h
      · rw [List.getElem?_eq_none h] at hb; cases hb
    unfold hbx; rw [List.getElem?_append_left this, hb]
  refine SWp.seq (Wp.s ?_)
  simp -implicitDefEqProofs [go_sem, args0]
  refine SWp.seq (Wp.s ?_)
  by_cases h1 : c.pos < 0
  · simp -implicitDefEqProofs [go_sem, h1]
    refine Wp.s ?_
    simp -implicitDefEqProofs [go_sem]
    exact Fin.bool (by simp [badAt, h1]) hokH (by simp) (by simp)
  · simp -implicitDefEqProofs [go_sem, h1, hb']
    refine Wp.s ?_
    simp -implicitDefEqProofs [go_sem]
    exact Fin.bool (by simp [badAt, h1]) hokH (by simp) (by simp)
end Go.Proofs.YtdiblbjchhjccaaDoor
namespace Go.Proofs.YtdiblbjchhjccaaDoor
open Go.Proofs
theorem indexC_cc (H : Hp) (V : List Nat) (tk : Tk) (l : List Cach) (d : Dk) (b : Nat) (hb : H[b]? = some (some (dkC d))) (hl : l.length ≤ 900000000) :
    CC Tryd.prog 61 [.sl tk 9 (l.map cachC), .fn 47 [.ptr b 0]] H V (Ix (l.any (badAt d)) H V) := by
  refine CC.of_swp Tryd.func61 rfl (by kernel_rfl) (by rw [Tryd.ntmps61]; exact len_le _ _ rfl) fun hok hokH => ?_
  clear hok
  refine SWp.seq (Wp.s ?_)
  simp -implicitDefEqProofs [go_sem, args0]
  refine SWp.join (α := Unit) (fun _ => ([], H, V)) (fun _ => l.any (badAt d) = false) ?_ ?_
  · refine SWp.seq (Wp.s ?_)
    simp -implicitDefEqProofs [go_sem]
    refine SWp.block ?_
    refine SWp.loop (α := Nat) (fun i => ([(0, .sl tk 9 (l.map cachC)), (1, .fn 47 [.ptr b 0]), (7, ci l.length), (8, ci i)], H, V)) (fun i => i ≤ l.length ∧ (l.take i).any (badAt d) = false) (fun i => l.length - i) 0 ⟨Nat.zero_le _, rfl⟩
      (Sh.forget (by simp [go_sem]) rfl rfl) ?_
    rintro i ⟨hi, hp⟩
    dsimp only
    refine Wp.s ?_
    simp -implicitDefEqProofs [go_sem]
    refine ⟨fun h => ⟨h, ?_⟩, fun h => ⟨?_, Sh.forget (by simp [go_sem]) rfl rfl⟩⟩
    · refine CC.mono (Check1_cc _ _ d _ _ hb) ?_
      rintro _ _ _ ⟨rfl, rfl, rfl⟩
      rcases hq : badAt d l[i] with - | -
      · simp -implicitDefEqProofs [go_sem]
        refine ⟨i + 1, ⟨by omega, by simpa using any_take h hp hq⟩, by omega, Sh.forget ?_ rfl rfl⟩
        simp [go_sem, wrap_succ (show i ≤ 1000000000 by omega)]
      · simp -implicitDefEqProofs [go_sem]
        exact Fin.ix (by rw [any_at h hq]; simp) hokH (by simp) (by simp)
    · rw [List.take_of_length_le h] at hp; simpa using hp
  · rintro _ hp
    dsimp only
    refine Wp.s ?_
    simp -implicitDefEqProofs [go_sem]
    exact Fin.ix (by rw [hp]; rfl) hokH (by simp) (by simp)
theorem containsC_cc (H : Hp) (V : List Nat) (tk : Tk) (l : List Cach) (d : Dk) (b : Nat) (hb : H[b]? = some (some (dkC d))) (hl : l.length ≤ 900000000) :
    CC Tryd.prog 46 [.sl tk 9 (l.map cachC), .fn 47 [.ptr b 0]] H V (Pu (cb (l.any (badAt d))) H V) := by
  refine CC.of_swp Tryd.func46 rfl (by kernel_rfl) (by rw [Tryd.ntmps46]; exact len_le _ _ rfl) fun hok hokH => Wp.s ?_
  simp -implicitDefEqProofs [go_sem, args0]
  refine CC.mono (indexC_cc _ _ _ _ d _ hb hl) ?_
  rintro _ _ _ ⟨k, rfl, hk, rfl, rfl⟩
  simp -implicitDefEqProofs [go_sem]
  exact Fin.bool hk hokH (by simp) (by simp)
/-- A disk that is not too long. -/
def DkS (d : Dk) : Prop := d.stable.length ≤ 1000000 ∧ d.cache.length ≤ 1000000
theorem Check_cc (H : Hp) (V : List Nat) (d : Dk) (hl : DkS d) : CC Tryd.prog 36 [.agg (dkC d)] H V (Pu (er (checkD d)) H V) := by
  refine CC.of_swp Tryd.func36 rfl (by kernel_rfl) (by rw [Tryd.ntmps36]; exact len_le _ _ rfl) fun hok hokH => ?_
  clear hok
  refine SWp.seq (Wp.s ?_)
  simp -implicitDefEqProofs [go_sem, args0]
  refine Wp.s ?_
  by_cases h1 : 4096 < d.stable.length
  · simp -implicitDefEqProofs [go_sem, show (4096 : Int) < d.stable.length by omega]
    exact Fin.er (by rw [checkD, if_pos (.inl h1)]) hokH (by simp) (by simp)
  · simp -implicitDefEqProofs [go_sem, show ¬ (4096 : Int) < d.stable.length by omega]
    refine CC.mono (containsC_cc _ _ .sh _ d _ (by simp) (by have := hl.2; omega)) ?_
    rintro _ _ _ ⟨rfl, rfl, rfl⟩
    rcases hq : d.cache.any (badAt d) with - | -
    · simp -implicitDefEqProofs [go_sem]
      exact Fin.er (by rw [checkD, if_neg (by simp only [hq, not_or]; exact ⟨h1, by decide⟩)]) hokH (by simp) (by simp)
    · simp -implicitDefEqProofs [go_sem]
      exact Fin.er (by rw [checkD, if_pos (.inr hq)]) hokH (by simp) (by simp)
theorem rCheck_cc (H : Hp) (V : List Nat) (d : Dk) (hl : DkS d) : CC Tryd.prog 43 [.agg (dkC d)] H V (Pu (er (checkD d)) H V) := by
  refine CC.of_swp Tryd.func43 rfl (by kernel_rfl) (by rw [Tryd.ntmps43]; exact len_le _ _ rfl) fun hok hokH => ?_
  clear hok
  refine SWp.seq (Wp.s ?_)
  simp -implicitDefEqProofs [go_sem, args0]
  refine SWp.seq (Wp.s ?_)
  by_cases h1 : 4096 < d.stable.length
  · simp -implicitDefEqProofs [go_sem, show (4096 : Int) < d.stable.length by omega]
    exact Fin.er (by rw [checkD, if_pos (.inl h1)]) hokH (by simp) (by simp)
  simp -implicitDefEqProofs [go_sem, show ¬ (4096 : Int) < d.stable.length by omega]
  have h2 := hl.2
  refine SWp.join (α := Unit) (fun _ => ([], H ++ [some (dkC d)], V)) (fun _ => d.cache.any (badAt d) = false) ?_ ?_
  · refine SWp.seq (Wp.s ?_)
    simp -implicitDefEqProofs [go_sem]
    refine SWp.block ?_
    refine SWp.loop (α := Nat) (fun i => ([(1, .ptr H.length 0), (3, ci i)], H ++ [some (dkC d)], V)) (fun i => i ≤ d.cache.length ∧ (d.cache.take i).any (badAt d) = false) (fun i => d.cache.length - i) 0 ⟨Nat.zero_le _, rfl⟩
      (Sh.forget (by simp [go_sem]) rfl rfl) ?_
    rintro i ⟨hi, hp⟩
    dsimp only
    refine SWp.seq (Wp.s ?_)
    simp -implicitDefEqProofs [go_sem]
    refine ⟨fun h => ?_, fun h => ⟨?_, Sh.forget (by simp [go_sem]) rfl rfl⟩⟩
    case refine_2 => rw [List.take_of_length_le h] at hp; simpa using hp
    refine SWp.seq (SWp.block ?_)
    refine SWp.seq (SWp.drawnL (List.range 19) (by kernel_rfl) (by kernel_rfl) rfl ?_)
    by_cases c1 : d.cache[i].pos < 0
    · simp -implicitDefEqProofs [go_sem, h, c1, List.range, List.range.loop]
      refine Wp.s ?_
      simp -implicitDefEqProofs [go_sem]
      exact Fin.er (by rw [checkD, if_pos (.inr (any_at h (by simp [badAt, c1])))]) hokH (by simp) (by simp)
    by_cases c2 : (d.stable.length : Int) ≤ d.cache[i].pos
    · simp -implicitDefEqProofs [go_sem, h, c1, c2, List.range, List.range.loop]
      refine Wp.s ?_
      simp -implicitDefEqProofs [go_sem]
      exact Fin.er (by rw [checkD, if_pos (.inr (any_at h (by simp [badAt, c2])))]) hokH (by simp) (by simp)
    simp -implicitDefEqProofs [go_sem, h, c1, c2, List.range, List.range.loop]
    refine Wp.s ?_
    simp -implicitDefEqProofs [go_sem]
    refine Wp.s ?_
    simp -implicitDefEqProofs [go_sem, wrap_succ (show i ≤ 1000000000 by omega)]
    refine ⟨i + 1, ⟨by omega, by simpa using any_take h hp (by simp [badAt, c1, c2])⟩, by omega, Sh.forget (by simp [go_sem]) rfl rfl⟩
  · rintro _ hq
    dsimp only
    refine Wp.s ?_
    simp -implicitDefEqProofs [go_sem]
    exact Fin.er (by rw [checkD, if_neg (by simp only [hq, not_or]; exact ⟨h1, by decide⟩)]) hokH (by simp) (by simp)
end Go.Proofs.YtdiblbjchhjccaaDoor
namespace Go.Proofs.YtdiblbjchhjccaaDoor
open Go.Proofs
/-- Boxes that refer to what is there. -/
def okH (i j : Nat) : Hp → Prop
  | [] => True
  | none :: L => okH i j L
  | some cs :: L => okL i j cs ∧ okH i j L
@[go_sem] theorem okH_nil (i j : Nat) : okH i j [] = True := rfl
@[go_sem] theorem okH_none (i j : Nat) (L : Hp) : okH i j (none :: L) = okH i j L := rfl
@[go_sem] theorem okH_some (i j : Nat) (cs : List CV) (L : Hp) : okH i j (some cs :: L) = (okL i j cs ∧ okH i j L) := rfl
theorem okH_get {i j : Nat} : ∀ {L : Hp}, okH i j L → ∀ (b : Nat) cs, L[b]? = some (some cs) → okL i j cs
  | none :: L, h, 0, cs, e => by simp at e
  | none :: L, h, b + 1, cs, e => okH_get (L := L) h b cs (by simpa using e)
  | some c :: L, h, 0, cs, e => by simp at e; exact e ▸ h.1
  | some c :: L, h, b + 1, cs, e => okH_get (L := L) h.2 b cs (by simpa using e)
/-- The boxes behind L, and the tokens behind V', are let go. -/
theorem Sh.trim {n : Nat} {T T' : Tm} {H0 L H : Hp} {V0 V V' : List Nat} (h : TLe T T') (hT : TOk (H0.length + L.length) V'.length T') (hokH : ∀ (b : Nat) cs, H0[b]? = some (some cs) → okL H0.length V0.length cs)
    (hL : okH (H0.length + L.length) V'.length L) (hV0 : V0.length ≤ V'.length) (eH : H.take (H0.length + L.length) = H0 ++ L) (eV : V.take V'.length = V') : Sh n H0.length V0.length T H V (T', H0 ++ L, V') := by
  refine Sh.cut (H0.length + L.length) V'.length h (Nat.le_add_right _ _) hV0 (TOk.all hT) (fun b cs hb => ?_) eH eV
  rw [List.getElem?_append] at hb
  split at hb
  · exact okL_mono (Nat.le_add_right _ _) hV0 (hokH b cs hb)
  · exact okH_get hL _ _ hb
/-- What is handed back is fixed. -/
theorem Fin.froz {nb nv : Nat} {R : CV → Hp → List Nat → Prop} {r : CV} {H H' : Hp} {V V' : List Nat} {b o n sz : Nat} {cs : List CV} {xs : List (List CV)} (hR : R (.sl .sh sz xs) H V) (hle : Le r (.bsl b o n sz)) (hb : H'[b]? = some (some cs)) (hx : chunks sz n (cs.drop o) = xs) (hn : o + n * sz ≤ cs.length)
    (hb0 : nb ≤ b) (hok : okE nb nv xs) (hokH : ∀ (b : Nat) cs, H[b]? = some (some cs) → okL nb nv cs) (hH : H'.take nb = H) (hV : V'.take nv = V) : Fin nb nv R r H' V' := by
  subst hx
  refine ⟨_, H, V, ?_, hR⟩
  refine Gst.trans (T' := [(0, .bsl b o n sz)]) (H' := H') (V' := V') (Gst.forget fun p hp => ?_) ?_
  · simp at hp; subst hp; exact hle
  refine Gst.trans (T' := [(0, .sl .sh sz (chunks sz n (cs.drop o)))]) (H' := H'.set b none) (V' := V') (Gst.freeze hb fun p hp => ?_) ?_
  · simp at hp; subst hp; exact Fz.bsl o n sz hn
  · have hH' : (H'.set b none).take nb = H := by rw [List.take_set_of_le hb0]; exact hH
    have := Gst.cut (n := 1) (nb := nb) (nv := nv) (T := [(0, .sl .sh sz (chunks sz n (cs.drop o)))]) (H := H'.set b none) (V := V') nb nv (Nat.le_refl _) (Nat.le_refl _) (fun p hp => by simp at hp; subst hp; simpa only [go_sem] using hok) (by rw [hH']; exact hokH)
    rwa [hH', hV] at this
theorem cloneC_cc (H : Hp) (V : List Nat) (tk : Tk) (l : List Cach) (hx : l.length ≤ 1000000000) : CC Tryd.prog 53 [.sl tk 9 (l.map cachC)] H V (Fr 9 (l.map cachC) H V) := by
  refine CC.of_swp Tryd.func53 rfl (by kernel_rfl) (by rw [Tryd.ntmps53]; exact len_le _ _ rfl) fun hok hokH => ?_
  clear hok
  refine SWp.seq (Wp.s ?_)
  simp -implicitDefEqProofs [go_sem, args0]
  refine SWp.seq (Wp.s ?_)
  simp -implicitDefEqProofs [go_sem]
  refine ⟨Wp.s ?_, fun e => Fin.frtok (by decide) (.inl ⟨rfl, by rw [e]; rfl⟩) (by simp [go_sem]) hokH (by simp) (by simp)⟩
  simp -implicitDefEqProofs [go_sem]
  exact ⟨by omega, Fin.fr (by simp [go_sem]) hokH (by simp)⟩
theorem cloneS_cc (H : Hp) (V : List Nat) (tk : Tk) (l : List Sec) (hx : l.length ≤ 1000000000) : CC Tryd.prog 48 [.sl tk 8 (l.map secC)] H V (Fr 8 (l.map secC) H V) := by
  refine CC.of_swp Tryd.func48 rfl (by kernel_rfl) (by rw [Tryd.ntmps48]; exact len_le _ _ rfl) fun hok hokH => ?_
  clear hok
  refine SWp.seq (Wp.s ?_)
  simp -implicitDefEqProofs [go_sem, args0]
  refine SWp.seq (Wp.s ?_)
  simp -implicitDefEqProofs [go_sem]
  refine ⟨Wp.s ?_, fun e => Fin.frtok (by decide) (.inl ⟨rfl, by rw [e]; rfl⟩) (by simp [go_sem]) hokH (by simp) (by simp)⟩
  simp -implicitDefEqProofs [go_sem]
  exact ⟨by omega, Fin.fr (by simp [go_sem]) hokH (by simp)⟩
/-- A clone that is written to. -/
theorem cloneB_cc (H : Hp) (V : List Nat) (tk : Tk) (l : List Sec) (h0 : l ≠ []) (hx : l.length ≤ 1000000000) : CC Tryd.prog 48 [.sl tk 8 (l.map secC)] H V (fun r H' V' => r = .bsl H.length 0 l.length 8 ∧ H' = H ++ [some (secsF l)] ∧ V = V') := by
  have hne : l.map secC ≠ [] := fun e => h0 (by simpa using e)
  refine CC.of_swp Tryd.func48 rfl (by kernel_rfl) (by rw [Tryd.ntmps48]; exact len_le _ _ rfl) fun hok hokH => ?_
  clear hok
  refine SWp.seq (Wp.s ?_)
  simp -implicitDefEqProofs [go_sem, args0]
  refine SWp.seq (Wp.s ?_)
  simp -implicitDefEqProofs [go_sem]
  refine ⟨SWp.seq (SWp.opx (pre := [_, _]) (post := [_]) rfl (by intro c e; cases e) ?_), fun e => absurd e h0⟩
  simp -implicitDefEqProofs [go_sem]
  refine ⟨_, _, _, appbox (sz := 8) (tk := tk) (ys := l.map secC) slTy32 slTy32 rfl rfl hne (by rw [List.length_map]; omega), ?_⟩
  rw [List.length_map]
  refine Wp.s ?_
  simp -implicitDefEqProofs [go_sem]
  refine Fin.cut (H.length + 1) V.length ⟨rfl, rfl, rfl⟩ (Nat.le_succ _) (Nat.le_refl _) (List.take_of_length_le (by simp)) (List.take_of_length_le (Nat.le_refl _)) (.bsa _ _ _) (by simp [go_sem]) ?_
  intro b cs hb
  rw [List.getElem?_append] at hb
  split at hb
  · exact okL_mono (Nat.le_succ _) (Nat.le_refl _) (hokH b cs hb)
  · exact okH_get (i := H.length + 1) (j := V.length) (L := [some (secsF l)]) (by simp [go_sem]) _ _ hb
end Go.Proofs.YtdiblbjchhjccaaDoor
namespace Go.Proofs.YtdiblbjchhjccaaDoor
open Go.Proofs
@[go_sem, simp] theorem cachC_tail (c : Cach) : (cachC c).tail = secC c.data := rfl
@[go_sem, simp] theorem take_add {α : Type} (H L : List α) (k : Nat) : (H ++ L).take (H.length + k) = H ++ L.take k := by rw [List.take_append, List.take_of_length_le (by omega), Nat.add_sub_cancel_left]
theorem foldl_take_succ {α β : Type} (f : β → α → β) (z : β) (l : List α) (i : Nat) (h : i < l.length) : (l.take (i + 1)).foldl f z = f ((l.take i).foldl f z) l[i] := by
  rw [List.take_succ_eq_append_getElem h, List.foldl_append]; rfl
/-- The first steps of newest. -/
def nst (d : Dk) (i : Nat) : List Sec := (d.cache.take i).foldl setC d.stable
theorem nst_len (d : Dk) (i : Nat) : (nst d i).length = d.stable.length := foldl_setC_len _ _
theorem nst_end (d : Dk) (i : Nat) (h : d.cache.length ≤ i) : nst d i = newestD d := by rw [nst, List.take_of_length_le h]; rfl
theorem nst_succ (d : Dk) (i : Nat) (h : i < d.cache.length) : nst d (i + 1) = (nst d i).set d.cache[i].pos.toNat d.cache[i].data := foldl_take_succ _ _ _ _ h
theorem chk_get {d : Dk} (h : checkD d = 0) (i : Nat) (hi : i < d.cache.length) : 0 ≤ d.cache[i].pos ∧ d.cache[i].pos.toNat < d.stable.length := (checkD_0 h).2 _ (List.getElem_mem hi)
theorem newest_cc (H : Hp) (V : List Nat) (d : Dk) (hl : DkS d) (hc : checkD d = 0) : CC Tryd.prog 58 [.agg (dkC d)] H V (Pu (secsV (newestD d)) H V) := by
  refine CC.of_swp Tryd.func58 rfl (by kernel_rfl) (by rw [Tryd.ntmps58]; exact len_le _ _ rfl) fun hok hokH => ?_
  clear hok
  have hl1 := hl.1
  have hl2 := hl.2
  refine SWp.seq (Wp.s ?_)
  simp -implicitDefEqProofs [go_sem, args0]
  refine SWp.seq (Wp.s ?_)
  simp -implicitDefEqProofs [go_sem]
  by_cases h0 : d.stable = []
  · have h1 : d.cache = [] := by
      rcases hd : d.cache with - | ⟨c, l⟩
      · rfl
      · have := chk_get hc 0 (by rw [hd]; simp)
        rw [h0] at this; simp at this
    have hn : newestD d = [] := by rw [newestD, h1, h0]; rfl
    refine CC.mono (cloneS_cc _ _ .sh _ (by omega)) ?_
    rintro _ _ _ ⟨v, rfl, rfl, rfl⟩
    simp -implicitDefEqProofs [go_sem]
    refine SWp.join (α := Unit) (fun _ => ([(3, .sl .sh 8 [])], H ++ [some (dkC d)], V ++ [v])) (fun _ => True) ?_ ?_
    · refine SWp.seq (Wp.s ?_)
      simp -implicitDefEqProofs [go_sem]
      refine SWp.block ?_
      refine SWp.loop (α := Unit) (fun i => ([(3, .sl .sh 8 []), (11, ci 0), (12, ci 0)], H ++ [some (dkC d)], V ++ [v])) (fun i => True) (fun i => 0) () trivial (Sh.forget (by simp [go_sem, h0, h1]) rfl rfl) ?_
      rintro i -
      dsimp only
      refine Wp.s ?_
      simp -implicitDefEqProofs [go_sem]
      exact Sh.forget (by simp [go_sem]) rfl rfl
    · rintro _ -
      dsimp only
      refine Wp.s ?_
      simp -implicitDefEqProofs [go_sem]
      exact Fin.pu (by rw [hn]; exact .refl _) (by simp [go_sem]) hokH (by simp) (by simp)
  refine CC.mono (cloneB_cc _ _ .sh _ h0 (by omega)) ?_
  rintro _ _ _ ⟨rfl, rfl, rfl⟩
  simp -implicitDefEqProofs [go_sem]
  refine SWp.join (α := Unit) (fun _ => ([(3, .bsl (H.length + 1) 0 d.stable.length 8)], H ++ [some (dkC d), some (secsF (newestD d))], V)) (fun _ => True) ?_ ?_
  · refine SWp.seq (Wp.s ?_)
    simp -implicitDefEqProofs [go_sem]
    refine SWp.block ?_
    refine SWp.loop (α := Nat) (fun i => ([(3, .bsl (H.length + 1) 0 d.stable.length 8), (10, cachV d.cache), (11, ci d.cache.length), (12, ci i)], H ++ [some (dkC d), some (secsF (nst d i))], V)) (fun i => i ≤ d.cache.length) (fun i => d.cache.length - i) 0 (Nat.zero_le _)
      (Sh.forget (by simp [go_sem]) (by simp [nst]) rfl) ?_
    rintro i hi
    dsimp only
    refine Wp.s ?_
    simp -implicitDefEqProofs [go_sem]
    refine ⟨fun h => ?_, fun h => Sh.forget (by simp [go_sem]) (by rw [nst_end _ _ h]) rfl⟩
    obtain ⟨c1, c2⟩ := chk_get hc i h
    refine ⟨h, c1, by omega, by rw [nst_len]; omega, i + 1, by omega, by omega, Sh.trim (L := [some (dkC d), some (secsF (nst d (i + 1)))]) ?_ ?_ hokH ?_ (Nat.le_refl _) ?_ (by simp)⟩
    · simp [go_sem, wrap_succ (show i ≤ 1000000000 by omega)]
    · simp [go_sem]
    · simp [go_sem]
    · rw [nst_succ _ _ h, ← secsF_set' (by rw [nst_len]; omega)]; simp
  · rintro _ -
    dsimp only
    refine Wp.s ?_
    simp -implicitDefEqProofs [go_sem]
    refine Fin.froz (b := H.length + 1) (cs := secsF (newestD d)) ⟨rfl, rfl, rfl⟩ (.refl _) (by simp) (xs := (newestD d).map secC) (by rw [List.drop_zero, ← newestD_len, chunks_secs]) (by simp [newestD_len]; omega) (by omega) (by simp [go_sem]) hokH (by simp) (by simp)
theorem rNewest_cc (H : Hp) (V : List Nat) (d : Dk) (hl : DkS d) (hc : checkD d = 0) : CC Tryd.prog 60 [.agg (dkC d)] H V (Pu (secsV (newestD d)) H V) := by
  refine CC.of_swp Tryd.func60 rfl (by kernel_rfl) (by rw [Tryd.ntmps60]; exact len_le _ _ rfl) fun hok hokH => ?_
  clear hok
  have hl1 := hl.1
  have hl2 := hl.2
  refine SWp.seq (Wp.s ?_)
  simp -implicitDefEqProofs [go_sem, args0]
  refine SWp.seq (Wp.s ?_)
  simp -implicitDefEqProofs [go_sem]
  by_cases h0 : d.stable = []
  · have h1 : d.cache = [] := by
      rcases hd : d.cache with - | ⟨c, l⟩
      · rfl
      · have := chk_get hc 0 (by rw [hd]; simp)
        rw [h0] at this; simp at this
    have hn : newestD d = [] := by rw [newestD, h1, h0]; rfl
    refine SWp.seq (Wp.s ?_)
    simp -implicitDefEqProofs [go_sem, h0]
    refine SWp.join (α := Unit) (fun _ => ([(3, .sl .sh 8 [])], H ++ [some (dkC d)], V ++ [0])) (fun _ => True) ?_ ?_
    · refine SWp.seq (Wp.s ?_)
      simp -implicitDefEqProofs [go_sem]
      refine SWp.block ?_
      refine SWp.loop (α := Unit) (fun i => ([(1, .ptr H.length 0), (3, .sl .sh 8 []), (4, ci 0)], H ++ [some (dkC d)], V ++ [0])) (fun i => True) (fun i => 0) () trivial (Sh.forget (by simp [go_sem]) rfl rfl) ?_
      rintro i -
      dsimp only
      refine SWp.seq (Wp.s ?_)
      simp -implicitDefEqProofs [go_sem, h1]
      exact Sh.forget (by simp [go_sem]) rfl rfl
    · rintro _ -
      dsimp only
      refine Wp.s ?_
      simp -implicitDefEqProofs [go_sem]
      exact Fin.pu (by rw [hn]; exact .refl _) (by simp [go_sem]) hokH (by simp) (by simp)
  refine SWp.ghost (T' := [(1, .ptr H.length 0), (3, .sl .ti 8 [])]) (Gst.forget (TLe.get (by simp [go_sem]; exact .nilti 8 (by decide)))) ?_
  refine SWp.seq (SWp.opx (pre := [_, _, _]) (post := [_]) rfl (by intro c e; cases e) ?_)
  simp -implicitDefEqProofs [go_sem]
  refine ⟨_, _, _, appbox (sz := 8) (tk := .sh) (ys := d.stable.map secC) slTy32 slTy32 rfl rfl (by simpa using h0) (by rw [List.length_map]; omega), ?_⟩
  rw [List.length_map]
  refine SWp.join (α := Unit) (fun _ => ([(3, .bsl (H.length + 1) 0 d.stable.length 8)], H ++ [some (dkC d), some (secsF (newestD d))], V)) (fun _ => True) ?_ ?_
  · refine SWp.seq (Wp.s ?_)
    simp -implicitDefEqProofs [go_sem]
    refine SWp.block ?_
    refine SWp.loop (α := Nat) (fun i => ([(1, .ptr H.length 0), (3, .bsl (H.length + 1) 0 d.stable.length 8), (4, ci i)], H ++ [some (dkC d), some (secsF (nst d i))], V)) (fun i => i ≤ d.cache.length) (fun i => d.cache.length - i) 0 (Nat.zero_le _)
      (Sh.forget (by simp [go_sem]; exact .bsa _ _ _) (by simp [nst]; rfl) rfl) ?_
    rintro i hi
    dsimp only
    refine SWp.seq (Wp.s ?_)
    simp -implicitDefEqProofs [go_sem]
    refine ⟨fun h => ?_, fun h => Sh.forget (by simp [go_sem]) (by rw [nst_end _ _ h]) rfl⟩
    obtain ⟨c1, c2⟩ := chk_get hc i h
    refine SWp.seq (SWp.block ?_)
    refine SWp.drawnT [] [14] (.s 0 .pl <| .s 1 .pl <| .s 2 .pl <| .s 3 .pl <| .s 4 .pl <| .s 5 .pl <| .s 6 .pl <| .s 7 .pl <| .s 8 .pl <| .s 9 .pl <| .s 10 .pl <| .s 11 .pl <| .s 12 .pl <| .s 13 .pl <| .s 14 .st <| .n) (by kernel_rfl) (by kernel_rfl) ?_
    simp -implicitDefEqProofs [go_sem, h, List.range, List.range.loop, c1, show d.cache[i].pos < (d.stable.length : Int) by omega, show d.cache[i].pos.toNat * 8 + 8 ≤ 8 * (nst d i).length by rw [nst_len]; omega]
    refine Wp.s ?_
    simp -implicitDefEqProofs [go_sem, wrap_succ (show i ≤ 1000000000 by omega)]
    refine ⟨i + 1, by omega, by omega, Sh.forget ?_ ?_ rfl⟩
    · simp [go_sem]
    · rw [nst_succ _ _ h, ← secsF_set' (by rw [nst_len]; omega)]
  · rintro _ -
    dsimp only
    refine Wp.s ?_
    simp -implicitDefEqProofs [go_sem]
    refine Fin.froz (b := H.length + 1) (cs := secsF (newestD d)) ⟨rfl, rfl, rfl⟩ (.refl _) (by simp) (xs := (newestD d).map secC) (by rw [List.drop_zero, ← newestD_len, chunks_secs]) (by simp [newestD_len]; omega) (by omega) (by simp [go_sem]) hokH (by simp) (by simp)
end Go.Proofs.YtdiblbjchhjccaaDoor
