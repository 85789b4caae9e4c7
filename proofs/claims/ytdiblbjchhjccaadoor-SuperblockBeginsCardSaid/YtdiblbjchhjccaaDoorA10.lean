import Derived.Test.YtdiblbjchhjccaaDoorA8
import Derived.Test.YtdiblbjchhjccaaDoorA9
set_option linter.unusedSimpArgs false
set_option linter.unusedVariables false
set_option linter.unusedSectionVars false
namespace Go.Proofs.YtdiblbjchhjccaaDoor
def le4 (n : Nat) : List UInt8 := [UInt8.ofNat (n % 256), UInt8.ofNat (n / 256 % 256), UInt8.ofNat (n / 65536 % 256), UInt8.ofNat (n / 16777216 % 256)]
theorem le4_len (n : Nat) : (le4 n).length = 4 := rfl
def mkSec (l : List UInt8) : Sec := if h : l.length = 8 then ⟨l, h⟩ else sec0
theorem mkSec_val {l : List UInt8} (h : l.length = 8) : (mkSec l).val = l := by rw [mkSec, dif_pos h]
/-- The data of a copy. -/
def dataOf (p : List UInt8) : List UInt8 := UInt8.ofNat p.length :: p ++ List.replicate (31 - p.length) 0
theorem dataOf_len {p : List UInt8} (h : p.length ≤ 31) : (dataOf p).length = 32 := by simp [dataOf]; omega
def partOf (p : List UInt8) (i : Nat) : List UInt8 := ((dataOf p).drop (4 * i)).take 4
theorem partOf_len {p : List UInt8} (h : p.length ≤ 31) {i : Nat} (hi : i < 8) : (partOf p i).length = 4 := by
  rw [partOf, List.length_take, List.length_drop, dataOf_len h]; omega
def secOf (n : Nat) (p : List UInt8) (i : Nat) : Sec := mkSec (le4 n ++ partOf p i)
theorem secOf_val {p : List UInt8} (n : Nat) (h : p.length ≤ 31) {i : Nat} (hi : i < 8) : (secOf n p i).val = le4 n ++ partOf p i := mkSec_val (by rw [List.length_append, le4_len, partOf_len h hi])
/-- The sectors of a copy. -/
def copyS (n : Nat) (p : List UInt8) : List Sec := (List.range 8).map (secOf n p)
theorem copyS_len (n : Nat) (p : List UInt8) : (copyS n p).length = 8 := by simp [copyS]
/-- The data of sectors. -/
def dataS (l : List Sec) : List UInt8 := l.flatMap fun s => s.val.drop 4
theorem dataS_len (l : List Sec) : (dataS l).length = 4 * l.length := by
  induction l with
  | nil => rfl
  | cons a l ih =>
    have := a.len
    rw [dataS, List.flatMap_cons, List.length_append, List.length_drop, List.length_cons, this]
    rw [dataS] at ih
    omega
/-- What n bytes of a payload behind the length say: whether the rest is zero. -/
def okData (l : List UInt8) : Bool := decide ((l.getD 0 0).toNat ≤ 31) && (l.drop ((l.getD 0 0).toNat + 1)).all (· == 0)
def g0 (l : List Sec) : Nat := gn (l.getD 0 sec0)
/-- Whether sectors are a copy. -/
def valid (l : List Sec) : Bool := l.all (fun s => gn s == g0 l) && okData (dataS l)
def pay (l : List Sec) : List UInt8 := ((dataS l).drop 1).take ((dataS l).getD 0 0).toNat
/-- A copy: its generation, and its payload. -/
def parseS (l : List Sec) : Nat × List UInt8 := if valid l = true then (g0 l, pay l) else (0, [])
def findE (d : Dk) (a : Int) : Nat := (readD d a 16).2
def findL (d : Dk) (a : Int) : List Sec := (readD d a 16).1
def cA (l : List Sec) : Nat × List UInt8 := parseS (l.take 8)
def cB (l : List Sec) : Nat × List UInt8 := parseS (l.drop 8)
def new1 (l : List Sec) : Nat := if (cA l).1 < (cB l).1 then 1 else 0
/-- The newest copy. -/
def best (l : List Sec) : Nat × List UInt8 := if (cA l).1 < (cB l).1 then cB l else cA l
/-- The value and its generation, or the error. -/
def loadS (d : Dk) (a : Int) : List UInt8 × Nat × Nat :=
  if findE d a ≠ 0 then ([], 0, findE d a) else if (best (findL d a)).1 = 0 then ([], 0, 9) else ((best (findL d a)).2, (best (findL d a)).1, 0)
def topS (l : List Sec) : Nat := l.foldl (fun m s => max m (gn s)) 0
def opW (a : Int) (l : List Sec) : Opn := ⟨0, a, l⟩
def opS : Opn := ⟨1, 0, []⟩
def storeS (d : Dk) (a : Int) (p : List UInt8) : List Opn × Nat :=
  if findE d a ≠ 0 then ([], findE d a) else if (best (findL d a)).1 = 0 then ([], 9) else if 31 < p.length then ([], 5) else if topS (findL d a) = 4294967295 then ([], 11)
  else ([opW (a + 8 - 8 * (new1 (findL d a) : Int)) (copyS (topS (findL d a) + 1) p), opS], 0)
def formatS (a : Int) (p : List UInt8) : List Opn × Nat :=
  if a < 0 ∨ 4080 < a then ([], 2) else if 31 < p.length then ([], 5) else ([opW a (List.replicate 16 sec0), opS, opW a (copyS 1 p), opS], 0)
end Go.Proofs.YtdiblbjchhjccaaDoor
namespace Go.Proofs.YtdiblbjchhjccaaDoor
open Go.Proofs
theorem Chunk_cc (H : Hp) (V : List Nat) (l : List UInt8) : CC Tryd.prog 40 [.sl .sh 1 (bs l), ci 4] H V (fun r H' V' => r = .fn 56 [.ptr H.length 0, .ptr (H.length + 1) 0] ∧ H' = H ++ [some [.sl .sh 1 (bs l)], some [ci 4]] ∧ V = V') := by
  refine CC.of_swp Tryd.func40 rfl (by kernel_rfl) (by rw [Tryd.ntmps40]; exact len_le _ _ rfl) fun hok hokH => ?_
  clear hok
  refine SWp.seq (Wp.s ?_)
  simp -implicitDefEqProofs [go_sem, args0]
  refine SWp.seq (Wp.s ?_)
  simp -implicitDefEqProofs [go_sem]
  refine Wp.s ?_
  simp -implicitDefEqProofs [go_sem]
  refine Fin.cut (H.length + 2) V.length ⟨rfl, rfl, rfl⟩ (by omega) (Nat.le_refl _) (List.take_of_length_le (by simp)) (List.take_of_length_le (Nat.le_refl _)) (.refl _) (by simp [go_sem]) ?_
  intro b cs hb
  rw [List.getElem?_append] at hb
  split at hb
  · exact okL_mono (by omega) (Nat.le_refl _) (hokH b cs hb)
  · exact okH_get (i := H.length + 2) (j := V.length) (L := [some [.sl .sh 1 (bs l)], some [ci 4]]) (by simp [go_sem]) _ _ hb
theorem hbx_of {H : Hp} {b : Nat} {cs : List CV} (h : H[b]? = some (some cs)) (K : List CV → Prop) : hbx H b K = K cs := by
  unfold hbx; rw [h]
theorem chunk1_cc (H : Hp) (V : List Nat) (L b2 b3 : Nat) (l : List UInt8) (hl : l.length = 32) (I : Nat → Hp → List Nat → Prop) (h0 : I 0 H V)
    (hI : ∀ i H V, I i H V → H[b2]? = some (some [.sl .sh 1 (bs l)]) ∧ H[b3]? = some (some [ci 4]))
    (hy : ∀ i, i < 8 → ∀ H V, I i H V → YC Tryd.prog L [.sl .ti 1 (bs ((l.drop (4 * i)).take 4))] H V (fun r H' V' => r = .v (.bool true) ∧ I (i + 1) H' V')) :
    CC Tryd.prog 56 [.yl L, .ptr b2 0, .ptr b3 0] H V (fun _ H' V' => I 8 H' V') := by
  refine CC.of_swp Tryd.func56 rfl (by kernel_rfl) (by rw [Tryd.ntmps56]; exact len_le _ _ rfl) fun hok hokH => ?_
  clear hok
  refine SWp.seq (Wp.s ?_)
  simp -implicitDefEqProofs [go_sem, args0]
  refine SWp.block ?_
  refine SWp.loop (α := Nat × Hp × List Nat) (fun x => ([(0, .yl L), (1, .ptr b2 0), (2, .ptr b3 0), (4, ci (4 * x.1 : Nat))], x.2.1, x.2.2)) (fun x => x.1 ≤ 8 ∧ I x.1 x.2.1 x.2.2) (fun x => 8 - x.1) (0, H, V) ⟨by omega, h0⟩ (Sh.forget (by simp [go_sem]) rfl rfl) ?_
  rintro ⟨i, H1, V1⟩ ⟨hi, hi1⟩
  dsimp only at hi hi1 ⊢
  obtain ⟨g2, g3⟩ := hI _ _ _ hi1
  refine SWp.seq (Wp.s ?_)
  simp -implicitDefEqProofs [go_sem, hbx_of g2, hbx_of g3, hl]
  refine ⟨fun h => ?_, fun h => ?_⟩
  case refine_2 =>
    obtain rfl : i = 8 := by omega
    exact Fin.self hi1
  have h8 : i < 8 := by omega
  refine SWp.seq (SWp.block (SWp.seq (SWp.drawnL (List.range 7) (by kernel_rfl) (by kernel_rfl) rfl ?_)))
  simp -implicitDefEqProofs [go_sem, List.range, List.range.loop, hbx_of g2, hbx_of g3, hl]
  have e1 : (4 * (i : Int)).toNat = 4 * i := by omega
  have e4 : min (4 : Int) ((32 - (4 * (i : Int)).toNat : Nat) : Int) = 4 := by omega
  refine ⟨by omega, by omega, ?_⟩
  rw [e4]
  refine Wp.s ?_
  simp -implicitDefEqProofs [go_sem, hbx_of g2, hbx_of g3, hl, IntWalk.i64_in (4 * (i : Int) + 4) ⟨by omega, by omega⟩]
  refine ⟨by omega, by omega, by omega, by omega, ?_⟩
  have ex : (l.take (4 * (i : Int) + 4).toNat).drop (4 * (i : Int)).toNat = (l.drop (4 * i)).take 4 := by
    rw [show (4 * (i : Int) + 4).toNat = 4 * i + 4 by omega, e1, List.drop_take, Nat.add_sub_cancel_left]
  rw [ex]
  refine YC.mono (hy i h8 _ _ hi1) ?_
  rintro _ H2 V2 ⟨rfl, hi2⟩
  obtain ⟨k2, k3⟩ := hI _ _ _ hi2
  simp -implicitDefEqProofs [go_sem]
  refine Wp.s ?_
  simp -implicitDefEqProofs [go_sem, hbx_of k2, hbx_of k3, IntWalk.i64_in (4 * (i : Int) + 4) ⟨by omega, by omega⟩]
  refine ⟨i + 1, H2, V2, ⟨by omega, hi2⟩, by omega, Sh.forget ?_ rfl rfl⟩
  simp [go_sem, show 4 * (i : Int) + 4 = 4 * ((i : Int) + 1) by omega]
/-- Bytes, one cell each. -/
def fb (l : List UInt8) : List CV := l.map fun b => CV.v (.int .u8 (b.toNat : Int))
theorem fb_flat : ∀ l : List UInt8, (bs l).flatten = fb l
  | [] => rfl
  | b :: l => by rw [bs, List.map_cons, List.flatten_cons]; exact congrArg (_ :: ·) (fb_flat l)
@[go_sem, simp] theorem fb_len (l : List UInt8) : (fb l).length = l.length := by rw [fb, List.length_map]
@[go_sem] theorem fb_get (l : List UInt8) (i : Nat) (h : i < (fb l).length) : (fb l)[i] = CV.v (.int .u8 ((l[i]'(by simpa using h)).toNat : Int)) := by simp [fb]
theorem fb_set (l : List UInt8) (i : Nat) (c : UInt8) (h : i < l.length) : (fb l).take i ++ CV.v (.int .u8 (c.toNat : Int)) :: (fb l).drop (i + 1) = fb (l.set i c) := by
  rw [List.set_eq_take_append_cons_drop, if_pos h]
  simp [fb]
theorem fb_app (a b : List UInt8) : fb a ++ fb b = fb (a ++ b) := by simp [fb]
theorem fb_all (l : List UInt8) : allOne (fb l) = true := by simp only [allOne, fb, List.all_map, List.all_eq_true]; intros; rfl
theorem fb_chunks : ∀ l : List UInt8, chunks 1 l.length (fb l) = bs l
  | [] => rfl
  | b :: l => by
    rw [List.length_cons, chunks]
    exact congrArg (_ :: ·) (fb_chunks l)
@[go_sem] theorem okL_fb (i j : Nat) : ∀ l : List UInt8, okL i j (fb l) = True
  | [] => by rw [fb, List.map_nil, okL]
  | b :: l => by rw [fb, List.map_cons, okL, okV]; exact (true_and _).trans (okL_fb i j l)
theorem hget (H L : Hp) (k : Nat) : (H ++ L)[H.length + k]? = L[k]? := by rw [List.getElem?_append_right (by omega), Nat.add_sub_cancel_left]
theorem shr_le4 (n k : Nat) (hk : k < 4) : IntKind.u8.wrap (shr .i64 (n : Int) (8 * (k : Int))) = (((le4 n).getD k 0).toNat : Int) := by
  have e : ∀ m : Nat, IntKind.u8.wrap (m : Int) = ((UInt8.ofNat (m % 256)).toNat : Int) := fun m => by
    rw [IntKind.wrap_u8, UInt8.toNat_ofNat']; omega
  have h : k = 0 ∨ k = 1 ∨ k = 2 ∨ k = 3 := by omega
  unfold shr
  rcases h with rfl | rfl | rfl | rfl
  · rw [show (n : Int).fdiv (2 ^ (min (8 * ((0 : Nat) : Int)).toNat IntKind.i64.bits)) = (n : Int) from Int.fdiv_one _, e]; rfl
  · rw [show (n : Int).fdiv (2 ^ (min (8 * ((1 : Nat) : Int)).toNat IntKind.i64.bits)) = ((n / 256 : Nat) : Int) by rw [Int.fdiv_eq_ediv_of_nonneg _ (by decide)]; show (n : Int) / 256 = _; omega, e]; rfl
  · rw [show (n : Int).fdiv (2 ^ (min (8 * ((2 : Nat) : Int)).toNat IntKind.i64.bits)) = ((n / 65536 : Nat) : Int) by rw [Int.fdiv_eq_ediv_of_nonneg _ (by decide)]; show (n : Int) / 65536 = _; omega, e]; rfl
  · rw [show (n : Int).fdiv (2 ^ (min (8 * ((3 : Nat) : Int)).toNat IntKind.i64.bits)) = ((n / 16777216 : Nat) : Int) by rw [Int.fdiv_eq_ediv_of_nonneg _ (by decide)]; show (n : Int) / 16777216 = _; omega, e]; rfl
theorem le4_step (n k : Nat) (hk : k < 4) : ((le4 n).take k ++ List.replicate (8 - k) 0).set k ((le4 n).getD k 0) = (le4 n).take (k + 1) ++ List.replicate (8 - (k + 1)) 0 := by
  have h : k = 0 ∨ k = 1 ∨ k = 2 ∨ k = 3 := by omega
  rcases h with rfl | rfl | rfl | rfl <;> rfl
theorem zeros31 (x : CV) (k : Nat) : List.drop (1 + k) (x :: [CV.v (.int .u8 0), CV.v (.int .u8 0), CV.v (.int .u8 0), CV.v (.int .u8 0), CV.v (.int .u8 0), CV.v (.int .u8 0), CV.v (.int .u8 0), CV.v (.int .u8 0), CV.v (.int .u8 0), CV.v (.int .u8 0), CV.v (.int .u8 0), CV.v (.int .u8 0), CV.v (.int .u8 0), CV.v (.int .u8 0), CV.v (.int .u8 0), CV.v (.int .u8 0), CV.v (.int .u8 0), CV.v (.int .u8 0), CV.v (.int .u8 0), CV.v (.int .u8 0), CV.v (.int .u8 0), CV.v (.int .u8 0), CV.v (.int .u8 0), CV.v (.int .u8 0), CV.v (.int .u8 0), CV.v (.int .u8 0), CV.v (.int .u8 0), CV.v (.int .u8 0), CV.v (.int .u8 0), CV.v (.int .u8 0), CV.v (.int .u8 0)]) = fb (List.replicate (31 - k) 0) := by
  rw [Nat.add_comm, List.drop_succ_cons, fb, List.map_replicate]
  exact List.drop_replicate (i := k) (n := 31) (a := CV.v (.int .u8 0))
theorem dataOf_fb (p : List UInt8) (x : CV) : CV.v (.int .u8 (IntKind.u8.wrap (p.length : Int))) :: ((bs p).flatten ++ List.drop (1 + p.length) (x :: [CV.v (.int .u8 0), CV.v (.int .u8 0), CV.v (.int .u8 0), CV.v (.int .u8 0), CV.v (.int .u8 0), CV.v (.int .u8 0), CV.v (.int .u8 0), CV.v (.int .u8 0), CV.v (.int .u8 0), CV.v (.int .u8 0), CV.v (.int .u8 0), CV.v (.int .u8 0), CV.v (.int .u8 0), CV.v (.int .u8 0), CV.v (.int .u8 0), CV.v (.int .u8 0), CV.v (.int .u8 0), CV.v (.int .u8 0), CV.v (.int .u8 0), CV.v (.int .u8 0), CV.v (.int .u8 0), CV.v (.int .u8 0), CV.v (.int .u8 0), CV.v (.int .u8 0), CV.v (.int .u8 0), CV.v (.int .u8 0), CV.v (.int .u8 0), CV.v (.int .u8 0), CV.v (.int .u8 0), CV.v (.int .u8 0), CV.v (.int .u8 0)])) = fb (dataOf p) := by
  rw [zeros31, fb_flat, fb_app, dataOf, wrap_u8]
  have : byt (p.length : Int) = UInt8.ofNat p.length := by
    apply UInt8.toNat_inj.1
    have := byt_toNat (p.length : Int)
    rw [UInt8.toNat_ofNat']
    omega
  rw [this]; rfl
/-- Sectors that may be appended to. -/
def ApS (j : Nat) (l : List Sec) (cv : CV) (V : List Nat) : Prop := (cv = .v (.slice none 0 0) ∧ l = []) ∨ ∃ k v, cv = .sl (.own k v) 8 (l.map secC) ∧ V[k]? = some v ∧ j ≤ k
theorem ApS.le {j : Nat} {l : List Sec} {cv : CV} {V : List Nat} (h : ApS j l cv V) : Le cv (secsV l) := by
  rcases h with ⟨rfl, rfl⟩ | ⟨k, v, rfl, _⟩
  · exact .nil 8 (by decide)
  · exact .sh _ _ _
theorem ApS.one {j : Nat} {l : List Sec} {cv : CV} {V : List Nat} (h : ApS j l cv V) : cv.one = true := by
  rcases h with ⟨rfl, rfl⟩ | ⟨k, v, rfl, _⟩ <;> rfl
theorem ApS.ok {i j : Nat} {l : List Sec} {cv : CV} {V : List Nat} (h : ApS j l cv V) : okV i V.length cv := by
  rcases h with ⟨rfl, rfl⟩ | ⟨k, v, rfl, h, _⟩
  · rw [okV]; trivial
  · rw [okV_own, okE_secs]; exact ⟨(List.getElem?_eq_some_iff.1 h).1, trivial⟩
abbrev HP (H : Hp) (n : Nat) (tk : Tk) (p : List UInt8) (cv lp : CV) (W : Hp) : Hp :=
  H ++ (some [ci n] :: some [ci 0, .v (.slice none 0 0), .v (.slice none 0 0)] :: none :: some [ci n, .sl tk 1 (bs p), cv] :: some [.sl .sh 1 (bs (dataOf p))] :: some [ci 4] :: some [lp] :: W)
@[go_sem] theorem hbx_W7 (H W L : Hp) (a0 a1 a2 a3 a4 a5 a6 : Option (List CV)) (K : List CV → Prop) : hbx (H ++ (a0 :: a1 :: a2 :: a3 :: a4 :: a5 :: a6 :: (W ++ L))) (H.length + (W.length + 7)) K = hbx L 0 K := by
  unfold hbx
  have : (H ++ (a0 :: a1 :: a2 :: a3 :: a4 :: a5 :: a6 :: (W ++ L)))[H.length + (W.length + 7)]? = L[0]? := by
    rw [hget]
    simp only [List.getElem?_cons_succ]
    exact hget W L 0
  rw [this]
theorem put_cc (H : Hp) (V : List Nat) (n : Nat) (tk : Tk) (p : List UInt8) (hn : n < 4294967296) (hp : p.length ≤ 31) : CC Tryd.prog 27 [ci n, .sl tk 1 (bs p)] H V (Pu (.agg [ci n, .sl .sh 1 (bs p), secsV (copyS n p)]) H V) := by
  refine CC.of_swp0 Tryd.func27 rfl (by kernel_rfl) (by rw [Tryd.ntmps27]; exact len_le _ _ rfl) fun hok hokH => ?_
  refine SWp0.seq (SWp.s0 (Wp.s ?_))
  simp -implicitDefEqProofs [go_sem, args0]
  refine SWp0.seq (SWp.s0 (Wp.s ?_))
  simp -implicitDefEqProofs [go_sem]
  refine SWp0.seq (SWp.s0 (Wp.s ?_))
  simp -implicitDefEqProofs [go_sem]
  refine SWp0.seq (SWp.s0 (Wp.s ?_))
  simp -implicitDefEqProofs [go_sem]
  refine ⟨hp, by rw [fb_flat, fb_all], by omega, ?_⟩
  refine SWp0.seq (SWp.s0 (Wp.s ?_))
  simp -implicitDefEqProofs [go_sem]
  rw [dataOf_fb]
  have hD := dataOf_len hp
  have hch : chunks 1 32 ((fb (dataOf p)).drop 0) = bs (dataOf p) := by
    have := fb_chunks (dataOf p)
    rwa [hD] at this
  refine SWp0.ghost (T' := [(2, .ptr H.length 0), (4, .ptr (H.length + 1) 0), (6, .ptr (H.length + 3) 0), (5, .bsl (H.length + 2) 0 32 1)]) (Gst.forget (TLe.get (by simp [go_sem]))) ?_
  refine SWp0.ghost (T' := [(2, .ptr H.length 0), (4, .ptr (H.length + 1) 0), (6, .ptr (H.length + 3) 0), (5, .sl .sh 1 (bs (dataOf p)))]) (Gst.freeze (b := H.length + 2) (cs := fb (dataOf p)) (by simp) ?_) ?_
  · intro q hq
    simp at hq
    rcases hq with rfl | rfl | rfl | rfl
    · exact .refl _
    · exact .refl _
    · exact .refl _
    · show Fz _ _ (.bsl (H.length + 2) 0 32 1) (.sl .sh 1 (bs (dataOf p)))
      rw [← hch]; exact .bsl _ _ _ (by simp [hD])
  simp -implicitDefEqProofs [go_sem]
  refine SWp0.join (α := CV × List Nat) (fun x => ([(4, .ptr (H.length + 1) 0), (6, .ptr (H.length + 3) 0)], H ++ [some [ci n], some [ci 0, .v (.slice none 0 0), .v (.slice none 0 0)], none, some [ci n, .sl tk 1 (bs p), x.1]], x.2))
    (fun x => ApS V.length (copyS n p) x.1 x.2 ∧ V.length ≤ x.2.length ∧ x.2.take V.length = V) ?_ ?_
  · refine SWp0.seq (SWp.s0 (Wp.s ?_))
    simp -implicitDefEqProofs [go_sem]
    refine CC.mono (Chunk_cc _ _ _) ?_
    rintro _ _ _ ⟨rfl, rfl, rfl⟩
    simp -implicitDefEqProofs [go_sem]
    refine SWp0.block (SWp0.range [(2, .ptr H.length 0), (6, .ptr (H.length + 3) 0)] rfl (by simp [go_sem]) ?_)
    simp -implicitDefEqProofs [go_sem]
    generalize hbd : Code.block 1 _ = bd
    generalize has : Code.region 6 _ _ = asg
    refine CC.mono (chunk1_cc _ V _ _ _ (dataOf p) hD (fun i G V' => ∃ cv W, ApS V.length ((List.range i).map (secOf n p)) cv V' ∧ V.length ≤ V'.length ∧ V'.take V.length = V ∧
      G = H ++ (some [ci n] :: some [ci 0, .v (.slice none 0 0), .v (.slice none 0 0)] :: none :: some [ci n, .sl tk 1 (bs p), cv] :: some [.sl .sh 1 (bs (dataOf p))] :: some [ci 4] :: some [lpc 48 #[26] asg bd [(2, .ptr H.length 0), (6, .ptr (H.length + 3) 0)] .ready none] :: W))
      ⟨.v (.slice none 0 0), [], .inl ⟨rfl, rfl⟩, Nat.le_refl _, by simp, rfl⟩ ?_ ?_) ?_
    · rintro i _ V' ⟨cv, W, _, _, _, rfl⟩
      exact ⟨hget _ _ 4, hget _ _ 5⟩
    · rintro i hi _ V' ⟨cv, W, ha, hv1, hv2, rfl⟩
      refine YC.of_round (n := 48) (ps := #[26]) (bd := bd) (T := [(2, .ptr H.length 0), (6, .ptr (H.length + 3) 0)]) (hget _ _ 6) rfl (by decide) ?_
      subst hbd has
      refine Wp.s ?_
      simp -implicitDefEqProofs [go_sem, tps]
      refine SWp.block (SWp.seq (Wp.s ?_))
      simp -implicitDefEqProofs [go_sem]
      generalize hlp : lpc 48 #[26] _ _ _ LoopState.busy none = lp
      generalize hqq : RQ 48 #[26] _ _ _ _ _ = QQ
      refine SWp.join (α := Unit) (fun x => ([(2, .ptr H.length 0), (6, .ptr (H.length + 3) 0), (7, .sl .ti 1 (bs (partOf p i))), (8, .ptr (H.length + (W.length + 7)) 0)], HP H n tk p cv lp (W ++ [some (fb (le4 n ++ List.replicate 4 0))]), V')) (fun _ => True) ?_ ?_
      · refine SWp.seq (Wp.s ?_)
        simp -implicitDefEqProofs [go_sem]
        refine SWp.block ?_
        refine SWp.loop (α := Nat) (fun k => ([(2, .ptr H.length 0), (6, .ptr (H.length + 3) 0), (7, .sl .ti 1 (bs (partOf p i))), (8, .ptr (H.length + (W.length + 7)) 0), (27, ci k)], HP H n tk p cv lp (W ++ [some (fb ((le4 n).take k ++ List.replicate (8 - k) 0))]), V')) (fun k => k ≤ 4) (fun k => 4 - k) 0 (by omega) (Sh.forget (by simp [go_sem, partOf]) rfl rfl) ?_
        intro k hk
        dsimp only
        refine SWp.seq (Wp.s ?_)
        simp -implicitDefEqProofs [go_sem]
        refine SWp.seq (Wp.s ?_)
        simp -implicitDefEqProofs [go_sem]
        refine ⟨fun h => ?_, fun h => ?_⟩
        case refine_2 =>
          obtain rfl : k = 4 := by omega
          exact Sh.forget (by simp [go_sem]) rfl rfl
        have h4 : k < 4 := by omega
        refine SWp.seq (SWp.block (SWp.seq (Wp.s ?_)))
        simp -implicitDefEqProofs [go_sem]
        refine Wp.s ?_
        simp -implicitDefEqProofs [go_sem, HP, IntWalk.i64_in (8 * (k : Int)) ⟨by omega, by omega⟩, show (k : Int) < 8 by omega]
        have hkl : k < ((le4 n).take k ++ List.replicate (8 - k) (0 : UInt8)).length := by simp [le4_len]; omega
        refine ⟨by omega, by simp [le4_len]; omega, Wp.s ?_⟩
        simp -implicitDefEqProofs [go_sem, wrap_succ (show k ≤ 1000000000 by omega)]
        refine ⟨k + 1, by omega, by omega, Sh.forget (by simp [go_sem]) ?_ rfl⟩
        rw [shr_le4 n k h4, fb_set _ _ _ hkl, le4_step n k h4]
      · rintro _ -
        dsimp only
        refine SWp.seq (Wp.s ?_)
        simp -implicitDefEqProofs [go_sem, HP]
        have hpl := partOf_len hp hi
        have hsec : List.take 4 (fb (le4 n ++ [0, 0, 0, 0])) ++ ((bs (partOf p i)).flatten ++ List.drop (4 + (partOf p i).length) (fb (le4 n ++ [0, 0, 0, 0]))) = secC (secOf n p i) := by
          rw [hpl, fb_flat]
          have e1 : List.take 4 (fb (le4 n ++ [0, 0, 0, 0])) = fb (le4 n) := rfl
          have e2 : List.drop (4 + 4) (fb (le4 n ++ [0, 0, 0, 0])) = [] := rfl
          rw [e1, e2, List.append_nil, fb_app]
          show fb _ = fb (secOf n p i).val
          rw [secOf_val n hp hi]
        rw [hsec]
        refine ⟨by omega, by rw [fb_flat, fb_all], by rw [hpl, le4_len]; exact Nat.le_refl _, ?_⟩
        rcases ha with ⟨rfl, he⟩ | ⟨k, v, rfl, hv, hk⟩
        · refine Wp.s ?_
          simp -implicitDefEqProofs [go_sem]
          rw [← hqq, ← hlp]
          refine ⟨hget _ _ 6, rfl, .sl (.own V'.length 0) 8 [secC (secOf n p i)], .inr ⟨V'.length, 0, ?_, by simp, hv1⟩, by simp; omega, ?_, W ++ [some (secC (secOf n p i))], ?_⟩
          · rw [List.map_append, he]; rfl
          · rw [List.take_append_of_le_length hv1]; exact hv2
          · simp
        · refine Wp.s ?_
          simp -implicitDefEqProofs [go_sem, hv]
          rw [← hqq, ← hlp]
          have hkv := (List.getElem?_eq_some_iff.1 hv).1
          refine ⟨by omega, hget _ _ 6, rfl, .sl (.own k (v + 1)) 8 (((List.range i).map (secOf n p)).map secC ++ [secC (secOf n p i)]), .inr ⟨k, v + 1, ?_, by rw [List.getElem?_set_self hkv], hk⟩, by simpa using hv1, ?_, W ++ [some (secC (secOf n p i))], ?_⟩
          · rw [List.map_append]; rfl
          · rw [List.take_set_of_le hk]; exact hv2
          · simp
    · rintro _ _ V' ⟨cv, W, ha, hv1, hv2, rfl⟩
      refine .inl ⟨hget _ _ 6, ?_⟩
      refine ⟨cv, V', ⟨ha, hv1, hv2⟩, ?_⟩
      refine Sh.trim (L := [some [ci n], some [ci 0, .v (.slice none 0 0), .v (.slice none 0 0)], none, some [ci n, .sl tk 1 (bs p), cv]]) ?_ ?_ hokH ?_ hv1 ?_ (List.take_of_length_le (Nat.le_refl _))
      · simp [go_sem]
      · simp [go_sem]
      · rw [okL, okL] at hok
        rw [okH_some, okH_some, okH_none, okH_some, okL, okL, okL, okL]
        exact ⟨by simp [go_sem], by simp [go_sem], ⟨by rw [okV]; trivial, okV_mono (by omega) (by omega) hok.2.1, ha.ok, trivial⟩, trivial⟩
      · simp
  · rintro ⟨cv, V'⟩ ⟨h1, h2, h3⟩
    dsimp only
    refine SWp0.seq (SWp.s0 (Wp.s ?_))
    simp -implicitDefEqProofs [go_sem]
    refine ⟨h1.one, SWp.s0 (Wp.s ?_)⟩
    simp -implicitDefEqProofs [go_sem]
    refine Fin.pu (.agg (.cons (.refl _) (.cons (.sh _ _ _) (.cons h1.le .nil)))) ?_ hokH (by simp) h3
    rw [okV_agg, okL, okL, okL, okL]
    exact ⟨by rw [okV]; trivial, by rw [okV_sh, okBs_t]; trivial, okV_secsV _ _ _, trivial⟩
end Go.Proofs.YtdiblbjchhjccaaDoor
