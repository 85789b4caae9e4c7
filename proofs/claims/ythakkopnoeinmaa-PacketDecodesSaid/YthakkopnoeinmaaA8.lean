import Derived.Test.YthakkopnoeinmaaA7
set_option linter.unusedSimpArgs false
set_option linter.unusedVariables false
namespace Go.Proofs.Ythakkopnoeinmaa
open Go.Proofs
theorem clone_cc (H : Hp) (V : List Nat) (tk : Tk) (xs : List (List CV)) (hx : xs.length ≤ 1000000000) : CC Try.prog 31 [.sl tk 1 xs] H V (Fr 1 xs H V) := by
  refine CC.of_swp Try.func31 rfl (by kernel_rfl) (by rw [Try.ntmps31]; exact len_le _ _ rfl) fun hok hokH => Wp.s ?_
  simp [go_sem, args0]
  simp [okL, okV] at hok
  refine ⟨⟨by omega, ?_⟩, fun h => ?_⟩
  · exact Fin.fr hok.2 hokH (by simp)
  · exact Fin.frtok (by omega) (.inl ⟨rfl, h⟩) hok.2 hokH (by simp) (by simp)

theorem encN_lt {n : Nat} (h : n < 128) : encN n = [UInt8.ofNat n] := by rw [encN, dif_pos h]
theorem encN_ge {n : Nat} (h : 128 ≤ n) : encN n = UInt8.ofNat (n % 128 + 128) :: encN (n / 128) := by rw [encN, dif_neg (by omega)]
theorem or128' : (List.range 128).all (fun n => bitop .or .u8 (n : Int) 128 == (n : Int) + 128) = true := by decide +kernel
theorem or128 (n : Nat) : bitop .or .u8 (IntKind.u8.wrap ((n : Int).tmod 128)) 128 = ((UInt8.ofNat (n % 128 + 128)).toNat : Int) := by
  have h := List.all_eq_true.1 or128' (n % 128) (by simp; omega)
  simp at h
  have e : IntKind.u8.wrap ((n : Int).tmod 128) = ((n % 128 : Nat) : Int) := by
    rw [IntKind.wrap_u8, Int.tmod_eq_emod_of_nonneg (by omega)]; omega
  rw [e, UInt8.toNat_ofNat']
  have h2 : ((n % 128 : Nat) : Int) = (n : Int) % 128 := by omega
  rw [h2, h]
  omega
theorem norm_lt (n : Int) : norm n ≤ 9007199254740991 := by unfold norm; split <;> omega
theorem quo128 (n : Nat) (h : n ≤ 9007199254740991) : IntKind.i64.wrap ((n : Int) / 128) = ((n / 128 : Nat) : Int) := by
  rw [IntWalk.i64_in _ ⟨by omega, by omega⟩]; omega
theorem byt_nat (n : Nat) : byt (n : Int) = UInt8.ofNat n := by
  apply UInt8.toNat_inj.1
  have h := byt_toNat (n : Int)
  rw [UInt8.toNat_ofNat']
  omega
theorem set_self {V : List Nat} {k v : Nat} (h : V[k]? = some v) : V.set k v = V := by
  obtain ⟨h1, h2⟩ := List.getElem?_eq_some_iff.1 h
  rw [← h2]; exact List.set_getElem_self h1

theorem encN_len : ∀ (k n : Nat), n < 128 ^ (k + 1) → (encN n).length ≤ k + 1
  | 0, n, h => by rw [encN_lt (by simpa using h)]; simp
  | k + 1, n, h => by
    by_cases hn : n < 128
    · rw [encN_lt hn]; simp
    · rw [encN_ge (by omega), List.length_cons]
      have := encN_len k (n / 128) (by rw [Nat.div_lt_iff_lt_mul (by omega)]; rwa [← Nat.pow_succ])
      omega
theorem enc_len (n : Int) : (enc n).length ≤ 8 := encN_len 7 _ (Nat.lt_of_le_of_lt (norm_lt n) (by decide))
theorem snoc_or (l : List UInt8) (n : Nat) : bs l ++ [[CV.v (.int .u8 (bitop .or .u8 (IntKind.u8.wrap ((n : Int).tmod 128)) 128))]] = bs (l ++ [UInt8.ofNat (n % 128 + 128)]) := by
  rw [or128, bs, bs, List.map_append]; rfl

theorem add128 (n : Nat) : byt (IntKind.i64.wrap ((n : Int).tmod 128 + 128)) = UInt8.ofNat (n % 128 + 128) := by
  have e : IntKind.i64.wrap ((n : Int).tmod 128 + 128) = ((n % 128 + 128 : Nat) : Int) := by
    rw [Int.tmod_eq_emod_of_nonneg (by omega), IntWalk.i64_in _ ⟨by omega, by omega⟩]; omega
  rw [e, byt_nat]
theorem putInt_cc (H : Hp) (V : List Nat) (k v : Nat) (l : List UInt8) (n : Int) (hv : V[k]? = some v) (hl : l.length ≤ 1000000000) :
    CC Try.prog 67 [.sl (.own k v) 1 (bs l), .v (.int .i64 n)] H V (Ow k 1 (bs (l ++ enc n)) H V) := by
  have hk : k < V.length := (List.getElem?_eq_some_iff.1 hv).1
  have hel := enc_len n
  refine CC.of_swp Try.func67 rfl (by kernel_rfl) (by rw [Try.ntmps67]; exact len_le _ _ rfl) fun hok hokH => ?_
  clear hok
  refine SWp.seq (Wp.s ?_)
  simp [go_sem, args0]
  refine SWp.join (α := Unit) (fun _ => ([(0, .sl (.own k v) 1 (bs l)), (1, .v (.int .i64 (norm n)))], H, V)) (fun _ => True) ?_ ?_
  · refine Wp.s ?_
    simp [go_sem]
    refine ⟨fun h1 => ⟨fun h2 => ?_, fun h2 => ?_⟩, fun h1 => ?_⟩
    all_goals exact Sh.forget (by simp [go_sem]; exact .int (by unfold norm; split <;> omega)) rfl rfl
  · rintro _ -
    refine SWp.join (α := Nat × List UInt8 × Nat) (fun x => ([(0, .sl (.own k x.1) 1 (bs x.2.1)), (1, .v (.int .i64 x.2.2))], H, V.set k x.1)) (fun x => x.2.2 < 128 ∧ x.2.1 ++ encN x.2.2 = l ++ enc n) ?_ ?_
    · refine SWp.block ?_
      refine SWp.loop (α := Nat × List UInt8 × Nat) (fun x => ([(0, .sl (.own k x.1) 1 (bs x.2.1)), (1, .v (.int .i64 x.2.2))], H, V.set k x.1)) (fun x => x.2.2 ≤ 9007199254740991 ∧ x.2.1 ++ encN x.2.2 = l ++ enc n) (fun x => x.2.2) (v, l, norm n) ⟨norm_lt n, rfl⟩ (Sh.forget (by simp [go_sem]) rfl (set_self hv).symm) ?_
      rintro ⟨v1, l1, n1⟩ ⟨hb, h4⟩
      dsimp only at hb h4
      have hlen := congrArg List.length h4
      simp only [List.length_append] at hlen
      refine Wp.s ?_
      simp [go_sem, hk, quo128 n1 hb, snoc_or]
      refine ⟨fun h => ⟨by omega, v1 + 1, l1 ++ [UInt8.ofNat (n1 % 128 + 128)], n1 / 128, ⟨by omega, ?_⟩, by omega, Sh.forget (by simp [go_sem]) rfl rfl⟩, fun h => ⟨v1, l1, n1, ⟨by omega, h4⟩, Sh.forget (by simp [go_sem]) rfl rfl⟩⟩
      rw [← h4, encN_ge (n := n1) (by omega)]; simp
    · rintro ⟨v1, l1, n1⟩ ⟨h1, h3⟩
      dsimp only at h1 h3
      have hlen := congrArg List.length h3
      simp only [List.length_append] at hlen
      refine Wp.s ?_
      simp [go_sem, hk, byt_nat]
      exact ⟨by omega, Fin.ownB hk (by rw [← h3, encN_lt h1]) hokH (by simp)⟩

theorem PutInt_cc (H : Hp) (V : List Nat) (tk : Tk) (l : List UInt8) (n : Int) (hl : l.length ≤ 1000000000) :
    CC Try.prog 38 [.sl tk 1 (bs l), .v (.int .i64 n)] H V (Fr 1 (bs (l ++ enc n)) H V) := by
  refine CC.of_swp Try.func38 rfl (by kernel_rfl) (by rw [Try.ntmps38]; exact len_le _ _ rfl) fun hok hokH => Wp.s ?_
  simp [go_sem, args0]
  refine CC.mono (clone_cc _ _ _ _ (by simpa using hl)) ?_
  rintro _ _ _ ⟨v, rfl, rfl, rfl⟩
  try simp [go_sem]
  refine CC.mono (putInt_cc _ _ _ _ _ _ (by simp) hl) ?_
  rintro _ _ _ ⟨v', rfl, rfl, rfl⟩
  simp [go_sem]
  exact Fin.freshB rfl hokH (by simp)

theorem refPutInt_cc (H : Hp) (V : List Nat) (tk : Tk) (l : List UInt8) (n : Int) (hl : l.length ≤ 1000000000) :
    CC Try.prog 42 [.sl tk 1 (bs l), .v (.int .i64 n)] H V (Fr 1 (bs (l ++ enc n)) H V) := by
  have hel := enc_len n
  refine CC.of_swp Try.func42 rfl (by kernel_rfl) (by rw [Try.ntmps42]; exact len_le _ _ rfl) fun hok hokH => ?_
  clear hok
  refine SWp.seq (Wp.s ?_)
  simp [go_sem, args0]
  refine SWp.seq (Wp.s ?_)
  simp [go_sem]
  refine SWp.seq (Wp.s ?_)
  simp [go_sem]
  refine ⟨by omega, ?_⟩
  refine SWp.join (α := Unit) (fun _ => ([(5, .sl (.own V.length 0) 1 (bs l)), (1, .v (.int .i64 (norm n)))], H, V ++ [0])) (fun _ => True) ?_ ?_
  · refine Wp.s ?_
    simp [go_sem]
    refine ⟨fun h1 => ⟨fun h2 => ?_, fun h2 => ?_⟩, fun h1 => ?_⟩
    all_goals exact Sh.forget (by simp [go_sem]; exact .int (by unfold norm; split <;> omega)) rfl rfl
  · rintro _ -
    refine SWp.join (α := Nat × List UInt8 × Nat) (fun x => ([(5, .sl (.own V.length x.1) 1 (bs x.2.1)), (1, .v (.int .i64 x.2.2))], H, V ++ [x.1])) (fun x => x.2.2 < 128 ∧ x.2.1 ++ encN x.2.2 = l ++ enc n) ?_ ?_
    · refine SWp.block ?_
      refine SWp.loop (α := Nat × List UInt8 × Nat) (fun x => ([(5, .sl (.own V.length x.1) 1 (bs x.2.1)), (1, .v (.int .i64 x.2.2))], H, V ++ [x.1])) (fun x => x.2.2 ≤ 9007199254740991 ∧ x.2.1 ++ encN x.2.2 = l ++ enc n) (fun x => x.2.2) (0, l, norm n) ⟨norm_lt n, rfl⟩ (Sh.forget (by simp [go_sem]) rfl rfl) ?_
      rintro ⟨v1, l1, n1⟩ ⟨hb, h4⟩
      dsimp only at hb h4
      have hlen := congrArg List.length h4
      simp only [List.length_append] at hlen
      refine Wp.s ?_
      simp [go_sem, add128, quo128 n1 hb]
      refine ⟨fun h => ⟨by omega, v1 + 1, l1 ++ [UInt8.ofNat (n1 % 128 + 128)], n1 / 128, ⟨by omega, ?_⟩, by omega, Sh.forget (by simp [go_sem]) rfl rfl⟩, fun h => ⟨v1, l1, n1, ⟨by omega, h4⟩, Sh.forget (by simp [go_sem]) rfl rfl⟩⟩
      rw [← h4, encN_ge (n := n1) (by omega)]; simp
    · rintro ⟨v1, l1, n1⟩ ⟨h1, h3⟩
      dsimp only at h1 h3
      have hlen := congrArg List.length h3
      simp only [List.length_append] at hlen
      refine Wp.s ?_
      simp [go_sem, byt_nat]
      exact ⟨by omega, Fin.freshB (by rw [← h3, encN_lt h1]) hokH (by simp)⟩
end Go.Proofs.Ythakkopnoeinmaa
namespace Go.Proofs.Ythakkopnoeinmaa
open Go.Proofs
/-- Can a number be encoded? -/
def inR (n : Int) : Bool := decide (0 ≤ n) && decide (n ≤ 9007199254740991)
def same (a b : List UInt8) : Bool := decide (a = b)
theorem Equal_cc (H : Hp) (V : List Nat) (t1 t2 : Tk) (a b : List UInt8) : CC Try.prog 20 [.sl t1 1 (bs a), .sl t2 1 (bs b)] H V (Pu (cb (same a b)) H V) := by
  refine CC.of_swp Try.func20 rfl (by kernel_rfl) (by rw [Try.ntmps20]; exact len_le _ _ rfl) fun hok hokH => Wp.s ?_
  simp [go_sem, args0]
  exact Fin.bool (by simp only [same]; by_cases h : a = b <;> simp [h]) hokH (by simp) (by simp)
end Go.Proofs.Ythakkopnoeinmaa
namespace Go.Proofs.Ythakkopnoeinmaa
open Go.Proofs
theorem flat_len {α : Type} {f : α → List UInt8} {c : Nat} (h : ∀ x, (f x).length ≤ c) : ∀ xs : List α, (xs.flatMap f).length ≤ c * xs.length
  | [] => by simp
  | x :: xs => by
    rw [List.flatMap_cons, List.length_append, List.length_cons, Nat.mul_succ]
    have := flat_len h xs
    have := h x
    omega
theorem flat_take {α : Type} {f : α → List UInt8} {xs : List α} {i : Nat} (h : i < xs.length) : (xs.take (i + 1)).flatMap f = (xs.take i).flatMap f ++ f xs[i] := by
  rw [List.take_succ_eq_append_getElem h, List.flatMap_append]; simp
theorem flat_all {α : Type} {f : α → List UInt8} {xs : List α} {i : Nat} (h : ¬ i < xs.length) : (xs.take i).flatMap f = xs.flatMap f := by
  rw [List.take_of_length_le (by omega)]

theorem putInts_cc (H : Hp) (V : List Nat) (k v : Nat) (tk : Tk) (l : List UInt8) (xs : List Int) (hv : V[k]? = some v) (hl : l.length + 8 * xs.length ≤ 900000000) :
    CC Try.prog 86 [.sl (.own k v) 1 (bs l), .sl tk 1 (xs.map ic), .fn 67 []] H V (Ow k 1 (bs (l ++ encInts xs)) H V) := by
  have hk : k < V.length := (List.getElem?_eq_some_iff.1 hv).1
  have hel := enc_len xs.length
  refine CC.of_swp Try.func86 rfl (by kernel_rfl) (by rw [Try.ntmps86]; exact len_le _ _ rfl) fun hok hokH => ?_
  clear hok
  refine SWp.seq (Wp.s ?_)
  simp [go_sem, args0]
  refine SWp.seq (Wp.s ?_)
  simp [go_sem]
  refine CC.mono (putInt_cc _ _ _ _ _ _ hv (by omega)) ?_
  rintro _ _ _ ⟨v', rfl, rfl, rfl⟩
  try simp [go_sem]
  refine SWp.join (α := Nat) (fun v => ([(0, .sl (.own k v) 1 (bs (l ++ encInts xs)))], H, V.set k v)) (fun _ => True) ?_ ?_
  · refine SWp.seq (Wp.s ?_)
    simp [go_sem]
    refine SWp.block ?_
    refine SWp.loop (α := Nat × Nat) (fun x => ([(0, .sl (.own k x.1) 1 (bs (l ++ enc xs.length ++ (xs.take x.2).flatMap enc))), (2, .fn 67 []), (13, .sl tk 1 (xs.map ic)), (14, ci xs.length), (15, ci x.2)], H, V.set k x.1)) (fun x => x.2 ≤ xs.length) (fun x => xs.length - x.2) (v', 0) (Nat.zero_le _) (Sh.forget (by simp [go_sem]) rfl rfl) ?_
    rintro ⟨v1, i⟩ hi
    dsimp only at hi ⊢
    have hlen := flat_len (f := enc) enc_len (xs.take i)
    rw [List.length_take] at hlen
    refine Wp.s ?_
    simp [go_sem]
    refine ⟨fun h => ⟨h, ?_⟩, fun h => ⟨v1, Sh.forget ?_ rfl rfl⟩⟩
    · refine CC.mono (putInt_cc _ _ _ _ _ _ (by simp [hk]) (by simp only [List.length_append]; omega)) ?_
      rintro _ _ _ ⟨v2, rfl, rfl, rfl⟩
      simp [go_sem]
      refine ⟨v2, i + 1, by omega, by omega, Sh.forget ?_ rfl (by simp)⟩
      simp [go_sem, wrap_succ (show i ≤ 1000000000 by omega), flat_take h]
    · simp [go_sem, encInts]
      rw [List.take_of_length_le h]; exact .refl _
  · rintro v1 -
    refine Wp.s ?_
    simp [go_sem]
    exact Fin.ownB hk rfl hokH (by simp)
end Go.Proofs.Ythakkopnoeinmaa
namespace Go.Proofs.Ythakkopnoeinmaa
open Go.Proofs
theorem flat_le {α : Type} {f : α → List UInt8} {xs : List α} {i : Nat} (h : i < xs.length) : ((xs.take i).flatMap f).length + (f xs[i]).length ≤ (xs.flatMap f).length := by
  have h1 := flat_take (f := f) h
  have h2 : xs.flatMap f = (xs.take (i + 1)).flatMap f ++ (xs.drop (i + 1)).flatMap f := by rw [← List.flatMap_append, List.take_append_drop]
  rw [h2, h1]
  simp only [List.length_append]; omega
theorem secs_len : ∀ l : List Sec, (l.flatMap Sec.val).length = 8 * l.length
  | [] => rfl
  | s :: l => by rw [List.flatMap_cons, List.length_append, secs_len l, s.len, List.length_cons]; omega
theorem encSecs_len (l : List Sec) : (encSecs l).length = (enc l.length).length + 8 * l.length := by rw [encSecs, List.length_append, secs_len]
theorem putExtent_cc (H : Hp) (V : List Nat) (k v : Nat) (l : List UInt8) (e : Ext2) (hv : V[k]? = some v) (hl : l.length ≤ 900000000) :
    CC Try.prog 70 [.sl (.own k v) 1 (bs l), .agg (extC e)] H V (Ow k 1 (bs (l ++ encExt e)) H V) := by
  have hk : k < V.length := (List.getElem?_eq_some_iff.1 hv).1
  have hel := enc_len e.start
  refine CC.of_swp Try.func70 rfl (by kernel_rfl) (by rw [Try.ntmps70]; exact len_le _ _ rfl) fun hok hokH => ?_
  clear hok
  refine SWp.seq (Wp.s ?_)
  simp [go_sem, args0]
  refine SWp.seq (SWp.drawnL [0, 1, 2, 4, 5, 3, 6, 7] (by kernel_rfl) (by kernel_rfl) rfl ?_)
  simp [go_sem]
  refine CC.mono (putInt_cc _ _ _ _ _ _ hv (by omega)) ?_
  rintro _ _ _ ⟨v', rfl, rfl, rfl⟩
  try simp [go_sem]
  refine CC.mono (putInt_cc _ _ _ _ _ _ (by simp [hk]) (by simp only [List.length_append]; omega)) ?_
  rintro _ _ _ ⟨v', rfl, rfl, rfl⟩
  simp [go_sem]
  refine Wp.s ?_
  simp [go_sem]
  exact Fin.ownB hk (by simp [encExt]) hokH (by simp)

theorem putExtents_cc (H : Hp) (V : List Nat) (k v : Nat) (tk : Tk) (l : List UInt8) (xs : List Ext2) (hv : V[k]? = some v) (hx : xs.length ≤ 900000000) (hl : l.length + (encExts xs).length ≤ 900000000) :
    CC Try.prog 69 [.sl (.own k v) 1 (bs l), .sl tk 2 (xs.map extC), .fn 70 []] H V (Ow k 1 (bs (l ++ encExts xs)) H V) := by
  have hk : k < V.length := (List.getElem?_eq_some_iff.1 hv).1
  have hel := enc_len xs.length
  simp only [encExts, List.length_append] at hl
  refine CC.of_swp Try.func69 rfl (by kernel_rfl) (by rw [Try.ntmps69]; exact len_le _ _ rfl) fun hok hokH => ?_
  simp [go_sem, okV_slt] at hok
  refine SWp.seq (Wp.s ?_)
  simp [go_sem, args0]
  refine SWp.seq (Wp.s ?_)
  simp [go_sem]
  refine CC.mono (putInt_cc _ _ _ _ _ _ hv (by omega)) ?_
  rintro _ _ _ ⟨v', rfl, rfl, rfl⟩
  try simp [go_sem]
  refine SWp.join (α := Nat) (fun v => ([(0, .sl (.own k v) 1 (bs (l ++ encExts xs)))], H, V.set k v)) (fun _ => True) ?_ ?_
  · refine SWp.seq (Wp.s ?_)
    simp [go_sem]
    refine SWp.block ?_
    refine SWp.loop (α := Nat × Nat) (fun x => ([(0, .sl (.own k x.1) 1 (bs (l ++ enc xs.length ++ (xs.take x.2).flatMap encExt))), (2, .fn 70 []), (13, .sl tk 2 (xs.map extC)), (14, ci xs.length), (15, ci x.2)], H, V.set k x.1)) (fun x => x.2 ≤ xs.length) (fun x => xs.length - x.2) (v', 0) (Nat.zero_le _) (Sh.forget (by simp [go_sem]) rfl rfl) ?_
    rintro ⟨v1, i⟩ hi
    dsimp only at hi ⊢
    refine Wp.s ?_
    simp [go_sem]
    refine ⟨fun h => ⟨h, ?_⟩, fun h => ⟨v1, Sh.forget ?_ rfl rfl⟩⟩
    · have hone := flat_le (f := encExt) h
      refine CC.mono (putExtent_cc _ _ _ _ _ _ (by simp [hk]) (by simp only [List.length_append]; omega)) ?_
      rintro _ _ _ ⟨v2, rfl, rfl, rfl⟩
      simp [go_sem]
      refine ⟨v2, i + 1, by omega, by omega, Sh.back ?_ rfl (by simp) (by simp [go_sem, okV_slt, hok]) (by simpa using hokH) (by simp) (by simp)⟩
      simp [go_sem, wrap_succ (show i ≤ 1000000000 by omega), flat_take h]
    · simp [go_sem, encExts]
      rw [List.take_of_length_le h]; exact .refl _
  · rintro v1 -
    refine Wp.s ?_
    simp [go_sem]
    exact Fin.ownB hk rfl hokH (by simp)

end Go.Proofs.Ythakkopnoeinmaa
namespace Go.Proofs.Ythakkopnoeinmaa
open Go.Proofs
section
variable {P : Program} {H : Hp} {V : List Nat}
theorem CC.args {f : FuncId} {xs ys : List CV} {R : CV → Hp → List Nat → Prop} (h : LeL xs ys) (hc : CC P f ys H V R) : CC P f xs H V R :=
  ⟨hc.1, fun m w us hi hu => hc.2 m w us hi (LeL.rel h hu)⟩
end
theorem LeL.self : ∀ l : List CV, LeL l l
  | [] => .nil
  | c :: l => .cons (.refl c) (LeL.self l)
theorem CC.nil0 {P : Program} {H : Hp} {V : List Nat} {f : FuncId} {sz : Nat} {xs : List CV} {R : CV → Hp → List Nat → Prop} (hsz : 0 < sz) (hc : CC P f (.sl .sh sz [] :: xs) H V R) : CC P f (.v (.slice none 0 0) :: xs) H V R :=
  CC.args (.cons (.nil sz hsz) (LeL.self xs)) hc

theorem PutInts_cc (H : Hp) (V : List Nat) (tk tk' : Tk) (l : List UInt8) (xs : List Int) (hl : l.length + 8 * xs.length ≤ 900000000) :
    CC Try.prog 64 [.sl tk 1 (bs l), .sl tk' 1 (xs.map ic)] H V (Fr 1 (bs (l ++ encInts xs)) H V) := by
  refine CC.of_swp Try.func64 rfl (by kernel_rfl) (by rw [Try.ntmps64]; exact len_le _ _ rfl) fun hok hokH => Wp.s ?_
  simp [go_sem, args0]
  refine CC.mono (clone_cc _ _ _ _ (by simp only [bs_len]; omega)) ?_
  rintro _ _ _ ⟨v, rfl, rfl, rfl⟩
  try simp [go_sem]
  refine CC.mono (putInts_cc _ _ _ _ _ _ _ (by simp) hl) ?_
  rintro _ _ _ ⟨v', rfl, rfl, rfl⟩
  simp [go_sem]
  exact Fin.freshB rfl hokH (by simp)

theorem PutExtents_cc (H : Hp) (V : List Nat) (tk tk' : Tk) (l : List UInt8) (xs : List Ext2) (hx : xs.length ≤ 900000000) (hl : l.length + (encExts xs).length ≤ 900000000) :
    CC Try.prog 41 [.sl tk 1 (bs l), .sl tk' 2 (xs.map extC)] H V (Fr 1 (bs (l ++ encExts xs)) H V) := by
  refine CC.of_swp Try.func41 rfl (by kernel_rfl) (by rw [Try.ntmps41]; exact len_le _ _ rfl) fun hok hokH => Wp.s ?_
  simp [go_sem, args0]
  refine CC.mono (clone_cc _ _ _ _ (by simp only [bs_len]; omega)) ?_
  rintro _ _ _ ⟨v, rfl, rfl, rfl⟩
  try simp [go_sem]
  refine CC.mono (putExtents_cc _ _ _ _ _ _ _ (by simp) hx hl) ?_
  rintro _ _ _ ⟨v', rfl, rfl, rfl⟩
  simp [go_sem]
  exact Fin.freshB rfl hokH (by simp)

theorem PutBytes_cc (H : Hp) (V : List Nat) (tk tk' : Tk) (l b : List UInt8) (hl : l.length + b.length ≤ 900000000) :
    CC Try.prog 40 [.sl tk 1 (bs l), .sl tk' 1 (bs b)] H V (Fr 1 (bs (l ++ encBytes b)) H V) := by
  have hel := enc_len b.length
  refine CC.of_swp Try.func40 rfl (by kernel_rfl) (by rw [Try.ntmps40]; exact len_le _ _ rfl) fun hok hokH => Wp.s ?_
  simp [go_sem, args0]
  refine CC.mono (PutInt_cc _ _ _ _ _ (by omega)) ?_
  rintro _ _ _ ⟨v, rfl, rfl, rfl⟩
  simp [go_sem]
  exact ⟨by omega, Fin.freshB (by simp [encBytes]) hokH (by simp)⟩

theorem refPutBytes_cc (H : Hp) (V : List Nat) (tk tk' : Tk) (l b : List UInt8) (hl : l.length + b.length ≤ 900000000) :
    CC Try.prog 44 [.sl tk 1 (bs l), .sl tk' 1 (bs b)] H V (Fr 1 (bs (l ++ encBytes b)) H V) := by
  have hel := enc_len b.length
  refine CC.of_swp Try.func44 rfl (by kernel_rfl) (by rw [Try.ntmps44]; exact len_le _ _ rfl) fun hok hokH => Wp.s ?_
  simp [go_sem, args0]
  refine CC.mono (refPutInt_cc _ _ _ _ _ (by omega)) ?_
  rintro _ _ _ ⟨v, rfl, rfl, rfl⟩
  simp [go_sem]
  exact ⟨by omega, Fin.freshB (by simp [encBytes]) hokH (by simp)⟩

theorem refPutInts_cc (H : Hp) (V : List Nat) (tk tk' : Tk) (l : List UInt8) (xs : List Int) (hl : l.length + 8 * xs.length ≤ 900000000) :
    CC Try.prog 65 [.sl tk 1 (bs l), .sl tk' 1 (xs.map ic)] H V (Pu (.sl .sh 1 (bs (l ++ encInts xs))) H V) := by
  have hel := enc_len xs.length
  refine CC.of_swp Try.func65 rfl (by kernel_rfl) (by rw [Try.ntmps65]; exact len_le _ _ rfl) fun hok hokH => ?_
  simp [go_sem, okV_slt] at hok
  refine SWp.seq (Wp.s ?_)
  simp [go_sem, args0]
  refine SWp.seq (Wp.s ?_)
  simp [go_sem]
  refine CC.mono (refPutInt_cc _ _ _ _ _ (by omega)) ?_
  rintro _ _ _ ⟨v', rfl, rfl, rfl⟩
  try simp [go_sem]
  refine SWp.join (α := Unit) (fun _ => ([(5, .sl .sh 1 (bs (l ++ encInts xs)))], H, V)) (fun _ => True) ?_ ?_
  · refine SWp.seq (Wp.s ?_)
    simp [go_sem]
    refine SWp.block ?_
    refine SWp.loop (α := Nat) (fun x => ([(5, .sl .sh 1 (bs (l ++ enc xs.length ++ (xs.take x).flatMap enc))), (1, .sl tk' 1 (xs.map ic)), (6, ci x)], H, V)) (fun x => x ≤ xs.length) (fun x => xs.length - x) 0 (Nat.zero_le _) (Sh.back (by simp [go_sem]) rfl rfl (by simp [go_sem, okV_slt, hok]) hokH (by simp) (by simp)) ?_
    intro i hi
    have hlen := flat_len (f := enc) enc_len (xs.take i)
    rw [List.length_take] at hlen
    refine Wp.s ?_
    simp [go_sem]
    refine ⟨fun h => ⟨h, ?_⟩, fun h => Sh.forget ?_ rfl rfl⟩
    · refine CC.mono (refPutInt_cc _ _ _ _ _ (by simp only [List.length_append]; omega)) ?_
      rintro _ _ _ ⟨v2, rfl, rfl, rfl⟩
      simp [go_sem]
      refine ⟨i + 1, by omega, by omega, Sh.back ?_ rfl rfl (by simp [go_sem, okV_slt, hok]) hokH (by simp) (by simp)⟩
      simp [go_sem, wrap_succ (show i ≤ 1000000000 by omega), flat_take h]
    · simp [go_sem, encInts]
      rw [List.take_of_length_le h]; exact .refl _
  · rintro _ -
    refine Wp.s ?_
    simp [go_sem]
    exact Fin.pu (.refl _) (by simp [go_sem]) hokH (by simp) (by simp)

@[go_sem] theorem sec_snoc (l : List UInt8) (s : Sec) (j : Nat) (h : j < (secC s).length) : bs l ++ [(secC s)[j].cells] = bs (l ++ [s.val[j]'(by simpa [s.len] using h)]) := by
  simp only [bs, secC, List.getElem_map, List.map_append]; rfl
@[go_sem] theorem sec_cells (s : Sec) (j : Nat) (h : j < (secC s).length) : (secC s)[j].cells.length = 1 ∧ allOne (secC s)[j].cells = true := by
  simp only [secC, List.getElem_map]; exact ⟨rfl, rfl⟩
theorem refPutExtents_cc (H : Hp) (V : List Nat) (tk tk' : Tk) (l : List UInt8) (xs : List Ext2) (hx : xs.length ≤ 900000000) (hl : l.length + (encExts xs).length ≤ 900000000) :
    CC Try.prog 43 [.sl tk 1 (bs l), .sl tk' 2 (xs.map extC)] H V (Pu (.sl .sh 1 (bs (l ++ encExts xs))) H V) := by
  have hel := enc_len xs.length
  simp only [encExts, List.length_append] at hl
  refine CC.of_swp Try.func43 rfl (by kernel_rfl) (by rw [Try.ntmps43]; exact len_le _ _ rfl) fun hok hokH => ?_
  simp [go_sem, okV_slt] at hok
  refine SWp.seq (Wp.s ?_)
  simp [go_sem, args0]
  refine SWp.seq (Wp.s ?_)
  simp [go_sem]
  refine CC.mono (refPutInt_cc _ _ _ _ _ (by omega)) ?_
  rintro _ _ _ ⟨v', rfl, rfl, rfl⟩
  try simp [go_sem]
  refine SWp.join (α := Unit) (fun _ => ([(5, .sl .sh 1 (bs (l ++ encExts xs)))], H, V)) (fun _ => True) ?_ ?_
  · refine SWp.seq (Wp.s ?_)
    simp [go_sem]
    refine SWp.block ?_
    refine SWp.loop (α := Nat) (fun x => ([(5, .sl .sh 1 (bs (l ++ enc xs.length ++ (xs.take x).flatMap encExt))), (1, .sl tk' 2 (xs.map extC)), (6, ci x)], H, V)) (fun x => x ≤ xs.length) (fun x => xs.length - x) 0 (Nat.zero_le _) (Sh.back (by simp [go_sem]) rfl rfl (by simp [go_sem, okV_slt, hok]) hokH (by simp) (by simp)) ?_
    intro i hi
    refine SWp.seq (Wp.s ?_)
    simp [go_sem]
    refine ⟨fun h => ?_, fun h => Sh.forget ?_ rfl rfl⟩
    · have hone := flat_le (f := encExt) h
      simp only [encExt, List.length_append] at hone
      refine SWp.seq (SWp.block (SWp.drawnL [0, 1, 2, 3, 4, 5, 7, 8, 9, 10, 11, 6, 12, 13] (by kernel_rfl) (by kernel_rfl) rfl ?_))
      simp [go_sem]
      refine ⟨h, ?_⟩
      refine CC.mono (refPutInt_cc _ _ _ _ _ (by simp only [List.length_append]; omega)) ?_
      rintro _ _ _ ⟨v2, rfl, rfl, rfl⟩
      simp [go_sem, h]
      refine CC.mono (refPutInt_cc _ _ _ _ _ (by simp only [List.length_append]; omega)) ?_
      rintro _ _ _ ⟨v2, rfl, rfl, rfl⟩
      simp [go_sem]
      refine Wp.s ?_
      simp [go_sem]
      refine ⟨i + 1, by omega, by omega, Sh.back ?_ rfl rfl (by simp [go_sem, okV_slt, hok]) hokH (by simp) (by simp)⟩
      simp [go_sem, wrap_succ (show i ≤ 1000000000 by omega), flat_take h, encExt]
    · simp [go_sem, encExts]
      rw [List.take_of_length_le h]; exact .refl _
  · rintro _ -
    refine Wp.s ?_
    simp [go_sem]
    exact Fin.pu (.refl _) (by simp [go_sem]) hokH (by simp) (by simp)

end Go.Proofs.Ythakkopnoeinmaa
namespace Go.Proofs.Ythakkopnoeinmaa
open Go.Proofs
theorem and127 (x : UInt8) : bitop .and .u8 (x.toNat : Int) 127 = ((x.toNat % 128 : Nat) : Int) := by
  have h : (List.range 256).all (fun n => bitop .and .u8 (n : Int) 127 == ((n % 128 : Nat) : Int)) = true := by decide +kernel
  have h1 := List.all_eq_true.1 h x.toNat (List.mem_range.2 x.toNat_lt)
  exact eq_of_beq h1
theorem and128 (x : UInt8) : bitop .and .u8 (x.toNat : Int) 128 = if x.toNat < 128 then 0 else 128 := by
  have h : (List.range 256).all (fun n => bitop .and .u8 (n : Int) 128 == if n < 128 then 0 else 128) = true := by decide +kernel
  have h1 := List.all_eq_true.1 h x.toNat (List.mem_range.2 x.toNat_lt)
  exact eq_of_beq h1
theorem wrap_nat {n : Nat} (h : n < 9223372036854775808) : IntKind.i64.wrap (n : Int) = (n : Int) := IntWalk.i64_in _ ⟨by omega, by omega⟩
theorem pow128 (i : Nat) : 128 ^ i = 2 ^ (7 * i) := by rw [Nat.pow_mul]
theorem part_lt {a i : Nat} (hi : i < 8) (ha : a < 128) : a * 128 ^ i < 72057594037927936 := by
  have h2 : 128 ^ i ≤ 128 ^ 7 := Nat.pow_le_pow_right (by omega) (by omega)
  have h3 : a * 128 ^ i ≤ 127 * 128 ^ 7 := Nat.mul_le_mul (by omega) h2
  have h4 : 127 * 128 ^ 7 < 72057594037927936 := by decide
  omega
theorem or_shift {n a i : Nat} (hi : i < 8) (hn : n < 128 ^ i) (ha : a < 128) : bitop .or .i64 (n : Int) (shl .i64 (a : Int) (IntKind.i64.wrap (7 * (i : Int)))) = ((n + a * 128 ^ i : Nat) : Int) := by
  have h1 := part_lt hi ha
  have h2 : 128 ^ i ≤ 128 ^ 7 := Nat.pow_le_pow_right (by omega) (by omega)
  have h3 : (128 : Nat) ^ 7 = 562949953421312 := by decide
  have e0 : IntKind.i64.wrap (7 * (i : Int)) = ((7 * i : Nat) : Int) := by rw [IntWalk.i64_in _ ⟨by omega, by omega⟩]; omega
  have e1 : shl .i64 (a : Int) (IntKind.i64.wrap (7 * (i : Int))) = ((a * 128 ^ i : Nat) : Int) := by
    rw [e0, shl]
    have hb : min ((7 * i : Nat) : Int).toNat IntKind.i64.bits = 7 * i := by
      have : IntKind.i64.bits = 64 := rfl
      omega
    rw [hb]
    have hc : ((a : Int) * 2 ^ (7 * i)) = ((a * 128 ^ i : Nat) : Int) := by rw [pow128]; simp
    rw [hc, wrap_nat (by omega)]
  rw [e1]
  have e2 : (BitVec.ofInt 64 (n : Int) ||| BitVec.ofInt 64 ((a * 128 ^ i : Nat) : Int)).toNat = n + a * 128 ^ i := by
    rw [BitVec.toNat_or, BitVec.ofInt_natCast, BitVec.ofInt_natCast, BitVec.toNat_ofNat, BitVec.toNat_ofNat, Nat.mod_eq_of_lt (by omega), Nat.mod_eq_of_lt (by omega), Nat.or_comm, pow128, ← Nat.shiftLeft_eq, ← Nat.shiftLeft_add_eq_or_of_lt (by rw [← pow128]; exact hn), Nat.add_comm]
  have e3 : bitop .or .i64 (n : Int) ((a * 128 ^ i : Nat) : Int) = IntKind.i64.wrap ((BitVec.ofInt 64 (n : Int) ||| BitVec.ofInt 64 ((a * 128 ^ i : Nat) : Int)).toNat : Int) := rfl
  rw [e3, e2, wrap_nat (by omega)]

/-- A number at the beginning of bytes: the number and the rest, or the error. -/
def numG : Nat → Nat → Nat → List UInt8 → Except Nat (Nat × List UInt8)
  | 0, _, _, _ => .error 3
  | _ + 1, _, _, [] => .error 10
  | f + 1, i, n, b :: r =>
    if b.toNat < 128 then
      if (b.toNat = 0 ∧ 0 < i) ∨ 9007199254740991 < n + b.toNat * 128 ^ i then .error 3 else .ok (n + b.toNat * 128 ^ i, r)
    else numG f (i + 1) (n + b.toNat % 128 * 128 ^ i) r
def number (src : List UInt8) : Except Nat (Nat × List UInt8) := numG 8 0 0 src
abbrev er (e : Nat) : CV := .v (.int .i64 e)
/-- A cursor's call: the value and no error, and the rest left behind; or the error, and what was left. -/
def Cur {α : Type} (b : Nat) (tk : Tk) (val : α → CV) (zero : CV) (x : Except Nat (α × List UInt8)) (H : Hp) (V : List Nat) : CV → Hp → List Nat → Prop := fun r H' V' =>
  match x with
  | .ok (a, s) => r = .tup [val a, er 0] ∧ H.set b (some [.sl tk 1 (bs s)]) = H' ∧ V = V'
  | .error e => r = .tup [zero, er e] ∧ H = H' ∧ V = V'
section
variable {H : Hp} {V : List Nat} {b : Nat} {tk : Tk} {src : List UInt8}
/-- How a cursor's call ends with an error. -/
theorem Fin.curErr {α : Type} {val : α → CV} {zero z c : CV} {x : Except Nat (α × List UInt8)} {e : Nat} (hx : x = .error e) (hz : okV H.length V.length zero) (h1 : z = zero) (h2 : c = er e) (hokH : ∀ (b : Nat) cs, H[b]? = some (some cs) → okL H.length V.length cs) {H' : Hp} {V' : List Nat} (hH : H'.take H.length = H) (hV : V'.take V.length = V) :
    Fin H.length V.length (Cur b tk val zero x H V) (.tup [z, c]) H' V' := by
  subst hx h1 h2
  exact Fin.pure (by exact ⟨rfl, rfl, rfl⟩) hH hV (.refl _) (by simp [go_sem, hz]) hokH
theorem ok_set {jb jv : Nat} {c : List CV} (hc : okL jb jv c) (hokH : ∀ (b : Nat) cs, H[b]? = some (some cs) → okL jb jv cs) (b' : Nat) (cs : List CV) (h : (H.set b (some c))[b']? = some (some cs)) : okL jb jv cs := by
  by_cases hb : b = b'
  · subst hb
    by_cases hl : b < H.length
    · rw [List.getElem?_set_self hl] at h; cases h; exact hc
    · rw [List.set_eq_of_length_le (by omega)] at h; exact hokH _ _ h
  · rw [List.getElem?_set_ne hb] at h; exact hokH _ _ h
theorem tk_of_box {n m sz : Nat} {xs : List (List CV)} {r : List CV} (hb : H[b]? = some (some (.sl tk sz xs :: r))) (hokH : ∀ (b : Nat) cs, H[b]? = some (some cs) → okL n m cs) : okTk m tk := by
  have := hokH b _ hb
  rw [okL, okV] at this; exact this.1.1
theorem Fin.curOk {α : Type} {val : α → CV} {zero z c : CV} {x : Except Nat (α × List UInt8)} {a : α} {s : List UInt8} (hx : x = .ok (a, s)) (hz : okV H.length V.length (val a)) (h1 : Le z (val a)) (h2 : c = er 0) (ht : okTk V.length tk) (hokH : ∀ (b : Nat) cs, H[b]? = some (some cs) → okL H.length V.length cs) {H' : Hp} {V' : List Nat} (hH : H'.take H.length = H.set b (some [.sl tk 1 (bs s)])) (hV : V'.take V.length = V) :
    Fin H.length V.length (Cur b tk val zero x H V) (.tup [z, c]) H' V' := by
  subst hx h2
  exact Fin.pure (r' := .tup [val a, er 0]) (by exact ⟨rfl, rfl, rfl⟩) hH hV (.tup (.cons h1 (.cons (.refl _) .nil))) (by simp [go_sem, hz]) (ok_set (by simp [go_sem, okV_slt, ht]) hokH)
end
set_option maxHeartbeats 1000000 in
theorem number_cc (H : Hp) (V : List Nat) (b : Nat) (tk : Tk) (src : List UInt8) (hb : H[b]? = some (some [.sl tk 1 (bs src)])) :
    CC Try.prog 90 [.ptr b 0] H V (Cur b tk (fun n : Nat => ci n) (ci 0) (number src) H V) := by
  refine CC.of_swp Try.func90 rfl (by kernel_rfl) (by rw [Try.ntmps90]; exact len_le _ _ rfl) fun hok hokH => ?_
  refine SWp.seq (Wp.s ?_)
  simp [go_sem, args0]
  refine SWp.seq (Wp.s ?_)
  simp [go_sem]
  refine SWp.join (α := Unit) (fun _ => ([], H, V)) (fun _ => number src = .error 3) ?_ ?_
  · refine SWp.seq (Wp.s ?_)
    simp [go_sem]
    refine SWp.block ?_
    refine SWp.loop (α := Nat × Nat) (fun x => ([(0, .ptr b 0), (4, ci x.1), (7, ci x.2)], H, V)) (fun x => x.2 ≤ 8 ∧ x.1 < 128 ^ x.2 ∧ numG (8 - x.2) x.2 x.1 (src.drop x.2) = number src) (fun x => 8 - x.2) (0, 0) ⟨by omega, by simp, rfl⟩ (Sh.forget (by simp [go_sem]) rfl rfl) ?_
    rintro ⟨n, i⟩ ⟨hi, hn, h⟩
    dsimp only at hi hn h ⊢
    by_cases h8 : i < 8
    · by_cases hs : i < src.length
      · rw [show 8 - i = (7 - i) + 1 by omega, List.drop_eq_getElem_cons hs, numG] at h
        have e' : IntKind.i64.wrap ((src[i].toNat : Int) % 128) = ((src[i].toNat % 128 : Nat) : Int) := by
          rw [show (src[i].toNat : Int) % 128 = ((src[i].toNat % 128 : Nat) : Int) by omega]; exact wrap_nat (by omega)
        have e : bitop .or .i64 n (shl .i64 (IntKind.i64.wrap ((src[i].toNat : Int) % 128)) (IntKind.i64.wrap (7 * (i : Int)))) = ((n + src[i].toNat % 128 * 128 ^ i : Nat) : Int) := by
          rw [e']; exact or_shift h8 hn (by omega)
        have e7 : 0 ≤ IntKind.i64.wrap (7 * (i : Int)) := by rw [IntWalk.i64_in _ ⟨by omega, by omega⟩]; omega
        have hlt : n + src[i].toNat % 128 * 128 ^ i < 128 ^ (i + 1) := by
          have h1 : src[i].toNat % 128 * 128 ^ i ≤ 127 * 128 ^ i := Nat.mul_le_mul_right _ (by omega)
          rw [Nat.pow_succ]; omega
        have hmod : src[i].toNat < 128 → src[i].toNat % 128 = src[i].toNat := fun h => Nat.mod_eq_of_lt h
        generalize hN : n + src[i].toNat % 128 * 128 ^ i = N at *
        refine Wp.s ?_
        simp [go_sem, hbx_some hb, and127, and128, e, e7, hs, wrap_succ (show i ≤ 1000000000 by omega), show (i : Int) < 8 by omega]
        have hT := tk_of_box hb hokH
        refine ⟨fun hq => absurd hq (by omega), fun h1 => ?_, fun h1 => ⟨fun h2 => ⟨fun h3 => ⟨fun h4 => ?_, fun h4 => ⟨by omega, by omega, ?_⟩⟩, fun h3 => ?_⟩, fun h2 => ⟨fun h4 => ?_, fun h4 => ⟨by omega, by omega, ?_⟩⟩⟩⟩
        · rw [if_neg (by omega)] at h
          refine ⟨N, i + 1, ⟨by omega, hlt, ?_⟩, by omega, Sh.forget (by simp [go_sem]) rfl rfl⟩
          rw [show 8 - (i + 1) = 7 - i by omega]; exact h
        all_goals
          rw [if_pos h1, ← hmod h1, hN] at h
        · rw [if_pos (by omega)] at h
          exact Fin.curErr h.symm (by simp [go_sem]) rfl rfl hokH (by simp) (by simp)
        · rw [if_neg (by omega)] at h
          exact Fin.curOk h.symm (by simp [go_sem]) (.refl _) rfl hT hokH (by simp) (by simp)
        · rw [if_pos (by have := hmod h1; omega)] at h
          exact Fin.curErr h.symm (by simp [go_sem]) rfl rfl hokH (by simp) (by simp)
        · rw [if_pos (by omega)] at h
          exact Fin.curErr h.symm (by simp [go_sem]) rfl rfl hokH (by simp) (by simp)
        · rw [if_neg (by have := hmod h1; omega)] at h
          exact Fin.curOk h.symm (by simp [go_sem]) (.refl _) rfl hT hokH (by simp) (by simp)
      · rw [show 8 - i = (7 - i) + 1 by omega, List.drop_eq_nil_of_le (by omega), numG] at h
        refine Wp.s ?_
        simp [go_sem, hbx_some hb, show (i : Int) < 8 by omega, show src.length ≤ i by omega]
        exact Fin.curErr h.symm (by simp [go_sem]) rfl rfl hokH (by simp) (by simp)
    · rw [show 8 - i = 0 by omega, numG] at h
      refine Wp.s ?_
      simp [go_sem, show ¬ ((i : Int) < 8) by omega]
      exact ⟨h.symm, Sh.forget (by simp [go_sem]) rfl rfl⟩
  · rintro _ he
    refine Wp.s ?_
    simp [go_sem]
    exact Fin.curErr he (by simp [go_sem]) rfl rfl hokH (by simp) (by simp)
end Go.Proofs.Ythakkopnoeinmaa
namespace Go.Proofs.Ythakkopnoeinmaa
open Go.Proofs
/-- What a reader returns. -/
def rdv {α : Type} (val : α → CV) (zero : CV) : Except Nat (α × List UInt8) → CV
  | .ok (a, s) => .tup [val a, .sl .sh 1 (bs s), er 0]
  | .error e => .tup [zero, .v (.slice none 0 0), er e]
theorem number_len : ∀ (f i n : Nat) (src : List UInt8) {m : Nat} {r : List UInt8}, numG f i n src = .ok (m, r) → r.length ≤ src.length
  | 0, _, _, _, _, _, h => by rw [numG] at h; cases h
  | f + 1, _, _, [], _, _, h => by rw [numG] at h; cases h
  | f + 1, i, n, b :: s, m, r, h => by
    rw [numG] at h
    split at h
    · split at h
      · cases h
      · cases h; simp
    · have := number_len f _ _ s h
      rw [List.length_cons]; omega
theorem number_err : ∀ (f i n : Nat) (src : List UInt8) {e : Nat}, numG f i n src = .error e → e = 3 ∨ e = 10
  | 0, _, _, _, _, h => by rw [numG] at h; cases h; simp
  | f + 1, _, _, [], _, h => by rw [numG] at h; cases h; simp
  | f + 1, i, n, b :: s, e, h => by
    rw [numG] at h
    split at h
    · split at h
      · cases h; simp
      · cases h
    · exact number_err f _ _ s h

theorem readInt_cc (H : Hp) (V : List Nat) (tk : Tk) (src : List UInt8) (hl : src.length ≤ 1000000000) :
    CC Try.prog 89 [.sl tk 1 (bs src), .fn 90 []] H V (Pu (rdv (fun n : Nat => ci n) (ci 0) (number src)) H V) := by
  refine CC.of_swp Try.func89 rfl (by kernel_rfl) (by rw [Try.ntmps89]; exact len_le _ _ rfl) fun hok hokH => Wp.s ?_
  simp [go_sem, args0]
  refine CC.mono (number_cc _ _ _ _ _ (at_len _ _)) ?_
  intro r H' V' h
  unfold Cur at h
  rcases hn : number src with e | ⟨n, s⟩
  · rw [hn] at h
    obtain ⟨rfl, rfl, rfl⟩ := h
    have he : ¬ e = 0 := by rcases number_err _ _ _ _ hn with rfl | rfl <;> decide
    simp [go_sem, he]
    exact Fin.pu (.refl _) (by simp [go_sem, rdv]) hokH (by simp) (by simp)
  · rw [hn] at h
    obtain ⟨rfl, rfl, rfl⟩ := h
    simp [go_sem]
    refine CC.mono (clone_cc _ _ _ _ (by have := number_len _ _ _ _ hn; simp only [bs_len]; omega)) ?_
    rintro _ _ _ ⟨v', rfl, rfl, rfl⟩
    try simp [go_sem]
    exact Fin.pu (.tup (.cons (.refl _) (.cons (.sh ..) (.cons (.refl _) .nil)))) (by simp [go_sem, rdv]) hokH (by simp) (by simp)
theorem Int_cc (H : Hp) (V : List Nat) (tk : Tk) (src : List UInt8) (hl : src.length ≤ 1000000000) :
    CC Try.prog 73 [.sl tk 1 (bs src)] H V (Pu (rdv (fun n : Nat => ci n) (ci 0) (number src)) H V) := by
  refine CC.of_swp Try.func73 rfl (by kernel_rfl) (by rw [Try.ntmps73]; exact len_le _ _ rfl) fun hok hokH => Wp.s ?_
  simp [go_sem, args0]
  refine CC.mono (readInt_cc _ _ _ _ hl) ?_
  rintro _ _ _ ⟨rfl, rfl, rfl⟩
  rcases hn : number src with e | ⟨n, s⟩
  · simp [go_sem, rdv]
    exact Fin.pu (.refl _) (by simp [go_sem]) hokH (by simp) (by simp)
  · simp [go_sem, rdv]
    exact Fin.pu (.refl _) (by simp [go_sem]) hokH (by simp) (by simp)
end Go.Proofs.Ythakkopnoeinmaa
namespace Go.Proofs.Ythakkopnoeinmaa
open Go.Proofs
def zeroSec : Sec := ⟨[0, 0, 0, 0, 0, 0, 0, 0], rfl⟩
def exWr : Wr := ⟨1, 2, [zeroSec]⟩
def exExts : List Ext2 := [⟨0, 4⟩, ⟨200, 1⟩]
theorem enc_lt {n : Int} (h : 0 ≤ n) (h2 : n < 128) : enc n = [UInt8.ofNat n.toNat] := by
  rw [enc, norm, if_neg (by omega), encN_lt (by omega)]
theorem enc_200 : enc 200 = [200, 1] := by
  rw [enc, show norm 200 = 200 from rfl, encN_ge (by decide), encN_lt (by decide)]; rfl
theorem exWr_enc : encWrs [exWr] = [1, 1, 2, 1, 0, 0, 0, 0, 0, 0, 0, 0] := by
  simp only [encWrs, encWr, encSecs, exWr, List.flatMap_cons, List.flatMap_nil, List.length_cons, List.length_nil]
  rw [enc_lt (n := 1) (by decide) (by decide), enc_lt (n := 2) (by decide) (by decide), enc_lt (n := ((0 + 1 : Nat) : Int)) (by decide) (by decide)]
  rfl
theorem exExts_enc : encExts exExts = [2, 0, 4, 200, 1, 1] := by
  simp only [encExts, encExt, exExts, List.flatMap_cons, List.flatMap_nil, List.length_cons, List.length_nil]
  rw [enc_200, enc_lt (n := 0) (by decide) (by decide), enc_lt (n := 4) (by decide) (by decide), enc_lt (n := 1) (by decide) (by decide), enc_lt (n := ((0 + 1 + 1 : Nat) : Int)) (by decide) (by decide)]
  rfl
end Go.Proofs.Ythakkopnoeinmaa
namespace Go.Proofs.Ythakkopnoeinmaa
open Go.Proofs
@[go_sem] theorem hbx_c0 (cs : List CV) (H : Hp) (K : List CV → Prop) : hbx (some cs :: H) 0 K = K cs := id rfl
@[go_sem] theorem hbx_c1 (c : Option (List CV)) (H : Hp) (b : Nat) (K : List CV → Prop) : hbx (c :: H) (b + 1) K = hbx H b K := id rfl
theorem same_self (l : List UInt8) : same l l = true := by simp [same]
/-- An index, or -1: whether there is one. -/
def Ix (b : Bool) (H : Hp) (V : List Nat) : CV → Hp → List Nat → Prop := fun r H' V' => ∃ k : Int, r = ci k ∧ decide (0 ≤ k) = b ∧ H = H' ∧ V = V'
theorem Fin.ix {k : Int} {b : Bool} {H H' : Hp} {V V' : List Nat} (h : decide (0 ≤ k) = b) (hokH : ∀ (b : Nat) cs, H[b]? = some (some cs) → okL H.length V.length cs) (hH : H'.take H.length = H) (hV : V'.take V.length = V) : Fin H.length V.length (Ix b H V) (ci k) H' V' :=
  Fin.pure ⟨k, rfl, h, rfl, rfl⟩ hH hV (.refl _) trivial hokH
theorem any_take {α : Type} {p : α → Bool} {l : List α} {i : Nat} (h : i < l.length) (h1 : (l.take i).any p = false) (h2 : p l[i] = false) : (l.take (i + 1)).any p = false := by
  rw [List.take_succ_eq_append_getElem h, List.any_append, h1]; simp [h2]
theorem any_at {α : Type} {p : α → Bool} {l : List α} {i : Nat} (h : i < l.length) (h2 : p l[i] = true) : l.any p = true := List.any_eq_true.2 ⟨_, List.getElem_mem h, h2⟩

theorem indexInt_cc (H : Hp) (V : List Nat) (tk : Tk) (l : List Int) (g : Nat) (p : Int → Bool) (hg : ∀ (H : Hp) (V : List Nat) (a : Int), CC Try.prog g [ci a] H V (Pu (cb (p a)) H V)) (hl : l.length ≤ 900000000) :
    CC Try.prog 101 [.sl tk 1 (l.map ic), .fn g []] H V (Ix (l.any p) H V) := by
  refine CC.of_swp Try.func101 rfl (by kernel_rfl) (by rw [Try.ntmps101]; exact len_le _ _ rfl) fun hok hokH => ?_
  simp [go_sem, okV_slt] at hok
  refine SWp.seq (Wp.s ?_)
  simp -implicitDefEqProofs [go_sem, args0]
  refine SWp.join (α := Unit) (fun _ => ([], H, V)) (fun _ => l.any p = false) ?_ ?_
  · refine SWp.seq (Wp.s ?_)
    simp -implicitDefEqProofs [go_sem]
    refine SWp.block ?_
    refine SWp.loop (α := Nat) (fun i => ([(0, .sl tk 1 (l.map ic)), (1, .fn g []), (7, ci l.length), (8, ci i)], H, V)) (fun i => i ≤ l.length ∧ (l.take i).any p = false) (fun i => l.length - i) 0 ⟨Nat.zero_le _, rfl⟩
      (Sh.forget (by simp [go_sem]) rfl rfl) ?_
    rintro i ⟨hi, hp⟩
    dsimp only
    refine Wp.s ?_
    simp -implicitDefEqProofs [go_sem]
    refine ⟨fun h => ⟨h, ?_⟩, fun h => ⟨?_, Sh.forget (by simp [go_sem]) rfl rfl⟩⟩
    · refine CC.mono (hg _ _ _) ?_
      rintro _ _ _ ⟨rfl, rfl, rfl⟩
      rcases hq : p l[i] with - | -
      · simp -implicitDefEqProofs [go_sem]
        refine ⟨i + 1, ⟨by omega, by simpa using any_take h hp hq⟩, by omega, Sh.forget ?_ rfl rfl⟩
        simp [go_sem, wrap_succ (show i ≤ 1000000000 by omega)]
      · simp -implicitDefEqProofs [go_sem]
        exact Fin.ix (by rw [any_at h hq]; simp) hokH (by simp) (by simp)
    · rw [List.take_of_length_le h] at hp; simpa using hp
  · rintro _ hp
    dsimp only
    refine Wp.s ?_
    simp -implicitDefEqProofs [go_sem]
    exact Fin.ix (by rw [hp]; rfl) hokH (by simp) (by simp)
theorem containsInt_cc (H : Hp) (V : List Nat) (tk : Tk) (l : List Int) (g : Nat) (p : Int → Bool) (hg : ∀ (H : Hp) (V : List Nat) (a : Int), CC Try.prog g [ci a] H V (Pu (cb (p a)) H V)) (hl : l.length ≤ 900000000) :
    CC Try.prog 84 [.sl tk 1 (l.map ic), .fn g []] H V (Pu (cb (l.any p)) H V) := by
  refine CC.of_swp Try.func84 rfl (by kernel_rfl) (by rw [Try.ntmps84]; exact len_le _ _ rfl) fun hok hokH => Wp.s ?_
  simp -implicitDefEqProofs [go_sem, args0]
  refine CC.mono (indexInt_cc _ _ _ _ _ _ hg hl) ?_
  rintro _ _ _ ⟨k, rfl, hk, rfl, rfl⟩
  simp -implicitDefEqProofs [go_sem]
  exact Fin.bool hk hokH (by simp) (by simp)

structure Vals where
  ints : List Int
  secs : List Sec
  exts : List Ext2
  wrs : List Wr
def valC (x : Vals) : List CV := [.sl .sh 1 (x.ints.map ic), .sl .sh 8 (x.secs.map secC), .sl .sh 2 (x.exts.map extC), .sl .sh 3 (x.wrs.map wrC)]
@[go_sem, simp] theorem valC_len (x : Vals) : (valC x).length = 4 := by rw [valC]; rfl
@[go_sem, simp] theorem valC_take (x : Vals) : (valC x).take 4 = valC x := rfl
@[go_sem, simp] theorem valC_all (x : Vals) : allOne (valC x) = true := rfl
@[go_sem, simp] theorem valC_0 (x : Vals) (h : 0 < (valC x).length) : (valC x)[0] = .sl .sh 1 (x.ints.map ic) := rfl
@[go_sem, simp] theorem valC_1 (x : Vals) (h : 1 < (valC x).length) : (valC x)[1] = .sl .sh 8 (x.secs.map secC) := rfl
@[go_sem, simp] theorem valC_2 (x : Vals) (h : 2 < (valC x).length) : (valC x)[2] = .sl .sh 2 (x.exts.map extC) := rfl
@[go_sem, simp] theorem valC_3 (x : Vals) (h : 3 < (valC x).length) : (valC x)[3] = .sl .sh 3 (x.wrs.map wrC) := rfl
@[go_sem] theorem okL_valC (jb jv : Nat) (x : Vals) : okL jb jv (valC x) = True := by simp [valC, okL, okV, okTk, okE_wrs, okE_ints, okE_secs, okE_exts]
/-- Few values. -/
def few (x : Vals) : Bool := decide (x.ints.length ≤ 40) && decide (x.secs.length ≤ 40) && decide (x.exts.length ≤ 40) && decide (x.wrs.length ≤ 20) && !(x.wrs.any fun w => decide (20 < w.data.length))
end Go.Proofs.Ythakkopnoeinmaa
