import Derived.Test.YtffjhibomipemaaF1
import Derived.Test.YtffjhibomipemaaD1
namespace Go.Proofs.Ytffjhibomipemaa
open Go.Proofs
theorem clone_cc (H : Hp) (V : List Nat) (tk : Tk) (xs : List (List CV)) (hx : xs.length ≤ 1000000000) : CC Try.prog 27 [.sl tk 1 xs] H V (Fr 1 xs H V) := by
  refine CC.of_swp Try.func27 rfl (by kernel_rfl) (by rw [Try.ntmps27]; exact len_le _ _ rfl) fun hok hokH => Wp.s ?_
  simp [go_sem, args0]
  simp [okL, okV] at hok
  refine ⟨⟨by omega, ?_⟩, fun h => ?_⟩
  · exact Fin.fr hok.2 hokH (by simp)
  · exact Fin.frtok (by omega) (.inl ⟨rfl, h⟩) hok.2 hokH (by simp) (by simp)

theorem encN_lt {n : Nat} (h : n < 128) : encN n = [UInt8.ofNat n] := by rw [encN, dif_pos h]
theorem encN_ge {n : Nat} (h : 128 ≤ n) : encN n = UInt8.ofNat (n % 128 + 128) :: encN (n / 128) := by rw [encN, dif_neg (by omega)]
theorem or128' : (List.range 128).all (fun n => bitop .or .u8 (n : Int) 128 == (n : Int) + 128) = true := by decide +kernel
theorem or128 (n : Nat) : bitop .or .u8 (IntKind.u8.wrap ((n : Int).tmod 128)) 128 = ((UInt8.ofNat (n % 128 + 128)).toNat : Int) := by
  have h := List.all_eq_true.1 or128' (n % 128) (by simp; omega)
  simp at h
  have e : IntKind.u8.wrap ((n : Int).tmod 128) = ((n % 128 : Nat) : Int) := by
    rw [IntKind.wrap_u8, Int.tmod_eq_emod_of_nonneg (by omega)]; omega
  rw [e, UInt8.toNat_ofNat']
  have h2 : ((n % 128 : Nat) : Int) = (n : Int) % 128 := by omega
  rw [h2, h]
  omega
theorem norm_lt (n : Int) : norm n ≤ 9007199254740991 := by unfold norm; split <;> omega
theorem quo128 (n : Nat) (h : n ≤ 9007199254740991) : IntKind.i64.wrap ((n : Int) / 128) = ((n / 128 : Nat) : Int) := by
  rw [IntWalk.i64_in _ ⟨by omega, by omega⟩]; omega
theorem byt_nat (n : Nat) : byt (n : Int) = UInt8.ofNat n := by
  apply UInt8.toNat_inj.1
  have h := byt_toNat (n : Int)
  rw [UInt8.toNat_ofNat']
  omega
theorem set_self {V : List Nat} {k v : Nat} (h : V[k]? = some v) : V.set k v = V := by
  obtain ⟨h1, h2⟩ := List.getElem?_eq_some_iff.1 h
  rw [← h2]; exact List.set_getElem_self h1

theorem encN_len : ∀ (k n : Nat), n < 128 ^ (k + 1) → (encN n).length ≤ k + 1
  | 0, n, h => by rw [encN_lt (by simpa using h)]; simp
  | k + 1, n, h => by
    by_cases hn : n < 128
    · rw [encN_lt hn]; simp
    · rw [encN_ge (by omega), List.length_cons]
      have := encN_len k (n / 128) (by rw [Nat.div_lt_iff_lt_mul (by omega)]; rwa [← Nat.pow_succ])
      omega
theorem enc_len (n : Int) : (enc n).length ≤ 8 := encN_len 7 _ (Nat.lt_of_le_of_lt (norm_lt n) (by decide))
theorem snoc_or (l : List UInt8) (n : Nat) : bs l ++ [[CV.v (.int .u8 (bitop .or .u8 (IntKind.u8.wrap ((n : Int).tmod 128)) 128))]] = bs (l ++ [UInt8.ofNat (n % 128 + 128)]) := by
  rw [or128, bs, bs, List.map_append]; rfl

theorem add128 (n : Nat) : byt (IntKind.i64.wrap ((n : Int).tmod 128 + 128)) = UInt8.ofNat (n % 128 + 128) := by
  have e : IntKind.i64.wrap ((n : Int).tmod 128 + 128) = ((n % 128 + 128 : Nat) : Int) := by
    rw [Int.tmod_eq_emod_of_nonneg (by omega), IntWalk.i64_in _ ⟨by omega, by omega⟩]; omega
  rw [e, byt_nat]
theorem putInt_cc (H : Hp) (V : List Nat) (k v : Nat) (l : List UInt8) (n : Int) (hv : V[k]? = some v) (hl : l.length ≤ 1000000000) :
    CC Try.prog 51 [.sl (.own k v) 1 (bs l), .v (.int .i64 n)] H V (Ow k 1 (bs (l ++ enc n)) H V) := by
  have hk : k < V.length := (List.getElem?_eq_some_iff.1 hv).1
  have hel := enc_len n
  refine CC.of_swp Try.func51 rfl (by kernel_rfl) (by rw [Try.ntmps51]; exact len_le _ _ rfl) fun hok hokH => ?_
  clear hok
  refine SWp.seq (Wp.s ?_)
  simp [go_sem, args0]
  refine SWp.join (α := Unit) (fun _ => ([(0, .sl (.own k v) 1 (bs l)), (1, .v (.int .i64 (norm n)))], H, V)) (fun _ => True) ?_ ?_
  · refine Wp.s ?_
    simp [go_sem]
    refine ⟨fun h1 => ⟨fun h2 => ?_, fun h2 => ?_⟩, fun h1 => ?_⟩
    all_goals exact Sh.forget (by simp [go_sem]; exact .int (by unfold norm; split <;> omega)) rfl rfl
  · rintro _ -
    refine SWp.join (α := Nat × List UInt8 × Nat) (fun x => ([(0, .sl (.own k x.1) 1 (bs x.2.1)), (1, .v (.int .i64 x.2.2))], H, V.set k x.1)) (fun x => x.2.2 < 128 ∧ x.2.1 ++ encN x.2.2 = l ++ enc n) ?_ ?_
    · refine SWp.block ?_
      refine SWp.loop (α := Nat × List UInt8 × Nat) (fun x => ([(0, .sl (.own k x.1) 1 (bs x.2.1)), (1, .v (.int .i64 x.2.2))], H, V.set k x.1)) (fun x => x.2.2 ≤ 9007199254740991 ∧ x.2.1 ++ encN x.2.2 = l ++ enc n) (fun x => x.2.2) (v, l, norm n) ⟨norm_lt n, rfl⟩ (Sh.forget (by simp [go_sem]) rfl (set_self hv).symm) ?_
      rintro ⟨v1, l1, n1⟩ ⟨hb, h4⟩
      dsimp only at hb h4
      have hlen := congrArg List.length h4
      simp only [List.length_append] at hlen
      refine Wp.s ?_
      simp [go_sem, hk, quo128 n1 hb, snoc_or]
      refine ⟨fun h => ⟨by omega, v1 + 1, l1 ++ [UInt8.ofNat (n1 % 128 + 128)], n1 / 128, ⟨by omega, ?_⟩, by omega, Sh.forget (by simp [go_sem]) rfl rfl⟩, fun h => ⟨v1, l1, n1, ⟨by omega, h4⟩, Sh.forget (by simp [go_sem]) rfl rfl⟩⟩
      rw [← h4, encN_ge (n := n1) (by omega)]; simp
    · rintro ⟨v1, l1, n1⟩ ⟨h1, h3⟩
      dsimp only at h1 h3
      have hlen := congrArg List.length h3
      simp only [List.length_append] at hlen
      refine Wp.s ?_
      simp [go_sem, hk, byt_nat]
      exact ⟨by omega, Fin.ownB hk (by rw [← h3, encN_lt h1]) hokH (by simp)⟩

theorem PutInt_cc (H : Hp) (V : List Nat) (tk : Tk) (l : List UInt8) (n : Int) (hl : l.length ≤ 1000000000) :
    CC Try.prog 13 [.sl tk 1 (bs l), .v (.int .i64 n)] H V (Fr 1 (bs (l ++ enc n)) H V) := by
  refine CC.of_swp Try.func13 rfl (by kernel_rfl) (by rw [Try.ntmps13]; exact len_le _ _ rfl) fun hok hokH => Wp.s ?_
  simp [go_sem, args0]
  refine CC.mono (clone_cc _ _ _ _ (by simpa using hl)) ?_
  rintro _ _ _ ⟨v, rfl, rfl, rfl⟩
  try simp [go_sem]
  refine CC.mono (putInt_cc _ _ _ _ _ _ (by simp) hl) ?_
  rintro _ _ _ ⟨v', rfl, rfl, rfl⟩
  simp [go_sem]
  exact Fin.freshB rfl hokH (by simp)

theorem refPutInt_cc (H : Hp) (V : List Nat) (tk : Tk) (l : List UInt8) (n : Int) (hl : l.length ≤ 1000000000) :
    CC Try.prog 15 [.sl tk 1 (bs l), .v (.int .i64 n)] H V (Fr 1 (bs (l ++ enc n)) H V) := by
  have hel := enc_len n
  refine CC.of_swp Try.func15 rfl (by kernel_rfl) (by rw [Try.ntmps15]; exact len_le _ _ rfl) fun hok hokH => ?_
  clear hok
  refine SWp.seq (Wp.s ?_)
  simp [go_sem, args0]
  refine SWp.seq (Wp.s ?_)
  simp [go_sem]
  refine SWp.seq (Wp.s ?_)
  simp [go_sem]
  refine ⟨by omega, ?_⟩
  refine SWp.join (α := Unit) (fun _ => ([(5, .sl (.own V.length 0) 1 (bs l)), (1, .v (.int .i64 (norm n)))], H, V ++ [0])) (fun _ => True) ?_ ?_
  · refine Wp.s ?_
    simp [go_sem]
    refine ⟨fun h1 => ⟨fun h2 => ?_, fun h2 => ?_⟩, fun h1 => ?_⟩
    all_goals exact Sh.forget (by simp [go_sem]; exact .int (by unfold norm; split <;> omega)) rfl rfl
  · rintro _ -
    refine SWp.join (α := Nat × List UInt8 × Nat) (fun x => ([(5, .sl (.own V.length x.1) 1 (bs x.2.1)), (1, .v (.int .i64 x.2.2))], H, V ++ [x.1])) (fun x => x.2.2 < 128 ∧ x.2.1 ++ encN x.2.2 = l ++ enc n) ?_ ?_
    · refine SWp.block ?_
      refine SWp.loop (α := Nat × List UInt8 × Nat) (fun x => ([(5, .sl (.own V.length x.1) 1 (bs x.2.1)), (1, .v (.int .i64 x.2.2))], H, V ++ [x.1])) (fun x => x.2.2 ≤ 9007199254740991 ∧ x.2.1 ++ encN x.2.2 = l ++ enc n) (fun x => x.2.2) (0, l, norm n) ⟨norm_lt n, rfl⟩ (Sh.forget (by simp [go_sem]) rfl rfl) ?_
      rintro ⟨v1, l1, n1⟩ ⟨hb, h4⟩
      dsimp only at hb h4
      have hlen := congrArg List.length h4
      simp only [List.length_append] at hlen
      refine Wp.s ?_
      simp [go_sem, add128, quo128 n1 hb]
      refine ⟨fun h => ⟨by omega, v1 + 1, l1 ++ [UInt8.ofNat (n1 % 128 + 128)], n1 / 128, ⟨by omega, ?_⟩, by omega, Sh.forget (by simp [go_sem]) rfl rfl⟩, fun h => ⟨v1, l1, n1, ⟨by omega, h4⟩, Sh.forget (by simp [go_sem]) rfl rfl⟩⟩
      rw [← h4, encN_ge (n := n1) (by omega)]; simp
    · rintro ⟨v1, l1, n1⟩ ⟨h1, h3⟩
      dsimp only at h1 h3
      have hlen := congrArg List.length h3
      simp only [List.length_append] at hlen
      refine Wp.s ?_
      simp [go_sem, byt_nat]
      exact ⟨by omega, Fin.freshB (by rw [← h3, encN_lt h1]) hokH (by simp)⟩
end Go.Proofs.Ytffjhibomipemaa
