import Derived.Test.YthakkopnoeinmaaA3
import Derived.Test.YthakkopnoeinmaaProg
import Derived.Test.YthakkopnoeinmaaA4
set_option linter.unusedSimpArgs false
set_option linter.unusedVariables false
namespace Go.Proofs.Ythakkopnoeinmaa
open Go.Proofs
@[go_sem] theorem slTy22 : slTy Try.prog 22 = some (33, 2) := by kernel_rfl
@[go_sem] theorem slTy23 : slTy Try.prog 23 = some (5, 1) := by kernel_rfl
@[go_sem] theorem slTy41 : slTy Try.prog 41 = some (23, 1) := by kernel_rfl
@[go_sem] theorem slTy46 : slTy Try.prog 46 = some (3, 1) := by kernel_rfl
@[go_sem] theorem arTy60 : arTy Try.prog 60 = some (2, false, 1) := by kernel_rfl
@[go_sem] theorem slTy77 : slTy Try.prog 77 = some (1, 1) := by kernel_rfl
@[go_sem] theorem arTy138 : arTy Try.prog 138 = some (256, false, 1) := by kernel_rfl
@[go_sem] theorem ldTy1 : ldTy Try.prog 1 = some (false, 1) := by kernel_rfl
@[go_sem] theorem ldTy3 : ldTy Try.prog 3 = some (false, 1) := by kernel_rfl
@[go_sem] theorem ldTy5 : ldTy Try.prog 5 = some (false, 1) := by kernel_rfl
@[go_sem] theorem ldTy22 : ldTy Try.prog 22 = some (false, 1) := by kernel_rfl
@[go_sem] theorem ldTy23 : ldTy Try.prog 23 = some (false, 1) := by kernel_rfl
@[go_sem] theorem ldTy25 : ldTy Try.prog 25 = some (true, 7) := by kernel_rfl
@[go_sem] theorem ldTy28 : ldTy Try.prog 28 = some (false, 1) := by kernel_rfl
@[go_sem] theorem ldTy33 : ldTy Try.prog 33 = some (true, 2) := by kernel_rfl
@[go_sem] theorem ldTy46 : ldTy Try.prog 46 = some (false, 1) := by kernel_rfl
@[go_sem] theorem ldTy48 : ldTy Try.prog 48 = some (true, 8) := by kernel_rfl
@[go_sem] theorem ldTy63 : ldTy Try.prog 63 = some (false, 1) := by kernel_rfl
@[go_sem] theorem ldTy77 : ldTy Try.prog 77 = some (false, 1) := by kernel_rfl
@[go_sem] theorem ldTy80 : ldTy Try.prog 80 = some (false, 1) := by kernel_rfl
@[go_sem] theorem ldTy82 : ldTy Try.prog 82 = some (false, 1) := by kernel_rfl
@[go_sem] theorem ldTy84 : ldTy Try.prog 84 = some (false, 1) := by kernel_rfl
@[go_sem] theorem ldTy94 : ldTy Try.prog 94 = some (false, 1) := by kernel_rfl
@[go_sem] theorem ldTy104 : ldTy Try.prog 104 = some (false, 1) := by kernel_rfl
@[go_sem] theorem ldTy138 : ldTy Try.prog 138 = some (true, 256) := by kernel_rfl
@[go_sem] theorem fdTy25_0 : fdTy Try.prog 25 0 = some (0, false, 1) := by kernel_rfl
@[go_sem] theorem fdTy25_1 : fdTy Try.prog 25 1 = some (1, false, 1) := by kernel_rfl
@[go_sem] theorem fdTy25_2 : fdTy Try.prog 25 2 = some (2, false, 1) := by kernel_rfl
@[go_sem] theorem fdTy25_3 : fdTy Try.prog 25 3 = some (3, false, 1) := by kernel_rfl
@[go_sem] theorem fdTy25_4 : fdTy Try.prog 25 4 = some (4, false, 1) := by kernel_rfl
@[go_sem] theorem fdTy25_5 : fdTy Try.prog 25 5 = some (5, false, 1) := by kernel_rfl
@[go_sem] theorem fdTy25_6 : fdTy Try.prog 25 6 = some (6, false, 1) := by kernel_rfl
@[go_sem] theorem fdTy33_0 : fdTy Try.prog 33 0 = some (0, false, 1) := by kernel_rfl
@[go_sem] theorem fdTy33_1 : fdTy Try.prog 33 1 = some (1, false, 1) := by kernel_rfl
@[go_sem] theorem fdTy48_0 : fdTy Try.prog 48 0 = some (0, false, 1) := by kernel_rfl
@[go_sem] theorem fdTy48_1 : fdTy Try.prog 48 1 = some (1, false, 1) := by kernel_rfl
@[go_sem] theorem fdTy48_2 : fdTy Try.prog 48 2 = some (2, false, 1) := by kernel_rfl
@[go_sem] theorem fdTy48_3 : fdTy Try.prog 48 3 = some (3, false, 1) := by kernel_rfl
@[go_sem] theorem fdTy48_4 : fdTy Try.prog 48 4 = some (4, false, 1) := by kernel_rfl
@[go_sem] theorem fdTy48_5 : fdTy Try.prog 48 5 = some (5, false, 1) := by kernel_rfl
@[go_sem] theorem fdTy48_6 : fdTy Try.prog 48 6 = some (6, false, 1) := by kernel_rfl
@[go_sem] theorem fdTy48_7 : fdTy Try.prog 48 7 = some (7, false, 1) := by kernel_rfl
@[go_sem] theorem fdTy76_0 : fdTy Try.prog 76 0 = some (0, false, 1) := by kernel_rfl
@[go_sem] theorem fdTy79_0 : fdTy Try.prog 79 0 = some (0, true, 1) := by kernel_rfl
@[go_sem] theorem fdTy79_1 : fdTy Try.prog 79 1 = some (1, false, 1) := by kernel_rfl
@[go_sem] theorem fdTy141_0 : fdTy Try.prog 141 0 = some (0, false, 1) := by kernel_rfl
@[go_sem] theorem zcTy25 : zcTy Try.prog 25 = some [.int .i64 0, .int .i64 0, .int .i64 0, .int .i64 0, .int .i64 0, .slice none 0 0, .slice none 0 0] := by kernel_rfl
@[go_sem] theorem zcTy28 : zcTy Try.prog 28 = some [.int .i64 0] := by kernel_rfl
@[go_sem] theorem zcTy33 : zcTy Try.prog 33 = some [.int .i64 0, .int .i64 0] := by kernel_rfl
@[go_sem] theorem zcTy48 : zcTy Try.prog 48 = some [.int .i64 0, .int .i64 0, .int .i64 0, .int .i64 0, .int .i64 0, .int .i64 0, .slice none 0 0, .slice none 0 0] := by kernel_rfl
def z256 : List Value := List.replicate 256 (.int .u32 0)
@[go_sem] theorem zcTy138 : zcTy Try.prog 138 = some z256 := by kernel_rfl
@[go_sem] theorem bdTy25 : bdTy Try.prog 25 = some ([(0, 1), (1, 1), (2, 1), (3, 1), (4, 1), (5, 1), (6, 1)], [.int .i64 0, .int .i64 0, .int .i64 0, .int .i64 0, .int .i64 0, .slice none 0 0, .slice none 0 0]) := by kernel_rfl
@[go_sem] theorem bdTy33 : bdTy Try.prog 33 = some ([(0, 1), (1, 1)], [.int .i64 0, .int .i64 0]) := by kernel_rfl
@[go_sem] theorem bdTy48 : bdTy Try.prog 48 = some ([(0, 1), (1, 1), (2, 1), (3, 1), (4, 1), (5, 1), (6, 1), (7, 1)], [.int .i64 0, .int .i64 0, .int .i64 0, .int .i64 0, .int .i64 0, .int .i64 0, .slice none 0 0, .slice none 0 0]) := by kernel_rfl
@[go_sem] theorem bdTy76 : bdTy Try.prog 76 = some ([(0, 1)], [.slice none 0 0]) := by kernel_rfl
@[go_sem] theorem bdTy79 : bdTy Try.prog 79 = some ([(0, 1), (1, 1)], [.slice none 0 0, .slice none 0 0]) := by kernel_rfl
@[go_sem] theorem bdTy141 : bdTy Try.prog 141 = some ([(0, 1)], [.slice none 0 0]) := by kernel_rfl
@[go_sem] theorem cvTy3_5 : cvTy Try.prog 3 5 = some (some .u8) := by kernel_rfl
@[go_sem] theorem cvTy3_63 : cvTy Try.prog 3 63 = some (some .u32) := by kernel_rfl
@[go_sem] theorem cvTy5_3 : cvTy Try.prog 5 3 = some (some .i64) := by kernel_rfl
@[go_sem] theorem cvTy5_63 : cvTy Try.prog 5 63 = some (some .u32) := by kernel_rfl
@[go_sem] theorem cvTy23_9 : cvTy Try.prog 23 9 = some none := by kernel_rfl
@[go_sem] theorem cvTy63_5 : cvTy Try.prog 63 5 = some (some .u8) := by kernel_rfl
@[go_sem] theorem boolTy4 : Try.prog.underlying 4 = some .bool := by kernel_rfl
end Go.Proofs.Ythakkopnoeinmaa
namespace Go.Proofs.Ythakkopnoeinmaa

/-- Bytes, as the elements of a slice. -/
def bs (l : List UInt8) : List (List CV) := l.map u8
@[go_sem, simp] theorem bs_len (l : List UInt8) : (bs l).length = l.length := List.length_map ..
@[go_sem, simp] theorem bs_app (a b : List UInt8) : bs a ++ bs b = bs (a ++ b) := (List.map_append ..).symm
@[go_sem, simp] theorem bs_drop (l : List UInt8) (n : Nat) : (bs l).drop n = bs (l.drop n) := (List.map_drop ..).symm
@[go_sem, simp] theorem bs_take (l : List UInt8) (n : Nat) : (bs l).take n = bs (l.take n) := (List.map_take ..).symm
@[go_sem, simp] theorem bs_get (l : List UInt8) (n : Nat) (h : n < (bs l).length) : (bs l)[n] = u8 (l[n]'(by simpa using h)) := List.getElem_map ..
@[go_sem, simp] theorem bs_nil : bs [] = [] := rfl
theorem bs_nil' : ([] : List (List CV)) = bs [] := rfl
theorem u8_inj {a b : List UInt8} (h : a.map u8 = b.map u8) : a = b := by
  refine List.map_inj_right (fun x y e => ?_) |>.1 h
  simp only [u8, List.cons.injEq, CV.v.injEq, Value.int.injEq, true_and, and_true] at e
  exact UInt8.toNat_inj.1 (by omega)
@[go_sem, simp] theorem hconv_bs (tk : Tk) (sz : Nat) (l : List UInt8) (K : CV → Prop) : hconv none (.sl tk sz (bs l)) K = K (.v (.string ⟨l.toArray⟩)) := by
  rw [hconv_sl]
  exact propext ⟨fun ⟨b, h, k⟩ => by rw [u8_inj h]; exact k, fun k => ⟨l, rfl, k⟩⟩
abbrev ci (n : Int) : CV := .v (.int .i64 n)
abbrev cb (b : Bool) : CV := .v (.bool b)
def ic (n : Int) : List CV := [.v (.int .i64 n)]
/-- The byte of a number. -/
def byt (n : Int) : UInt8 := UInt8.ofNat (n % 256).toNat
theorem byt_toNat (n : Int) : ((byt n).toNat : Int) = n % 256 := by
  unfold byt
  rw [UInt8.toNat_ofNat']
  omega
theorem wrap_u8 (n : Int) : IntKind.u8.wrap n = ((byt n).toNat : Int) := by
  rw [byt_toNat, IntKind.wrap_u8]
@[go_sem, simp] theorem bs_snoc (l : List UInt8) (n : Int) : bs l ++ [[CV.v (.int .u8 (IntKind.u8.wrap n))]] = bs (l ++ [byt n]) := by
  rw [wrap_u8, bs, bs, List.map_append]; rfl
theorem u8_byt (n : Int) : [CV.v (.int .u8 (IntKind.u8.wrap n))] = u8 (byt n) := by rw [wrap_u8]; rfl
theorem byt_u8 (b : UInt8) : byt (b.toNat : Int) = b := by
  apply UInt8.toNat_inj.1
  have h := byt_toNat (b.toNat : Int)
  have := b.toNat_lt
  omega
theorem okV_sl {jb jv sz : Nat} {α : Type} (f : α → List CV) (l : List α) (h : ∀ a ∈ l, okL jb jv (f a)) : okV jb jv (.sl .sh sz (l.map f)) := by
  rw [okV]
  refine ⟨trivial, ?_⟩
  rw [okE_iff]
  intro e he c hc
  obtain ⟨a, ha, rfl⟩ := List.mem_map.1 he
  exact okL_iff.1 (h a ha) c hc
theorem okL_u8 (jb jv : Nat) (b : UInt8) : okL jb jv (u8 b) := by simp [u8, okL, okV]
@[go_sem] theorem okBs_t (jb jv : Nat) (l : List UInt8) : okE jb jv (bs l) = True := eq_true (okE_map u8 l (okL_u8 jb jv))
theorem okBs (jb jv : Nat) (l : List UInt8) : okE jb jv (bs l) := okE_map u8 l (okL_u8 jb jv)
theorem okL_ic (jb jv : Nat) (n : Int) : okL jb jv (ic n) := by simp [ic, okL, okV]

@[go_sem, simp] theorem ic_get (n : Int) (h : 0 < (ic n).length) : (ic n)[0] = CV.v (.int .i64 n) := rfl
@[go_sem, simp] theorem ic_len (n : Int) : (ic n).length = 1 := by rw [ic]; rfl
theorem wrap_succ {i : Nat} (h : i ≤ 1000000000) : IntKind.i64.wrap ((i : Int) + 1) = ((i + 1 : Nat) : Int) := by
  rw [IntWalk.i64_in _ ⟨by omega, by omega⟩]; rfl
@[go_sem, simp] theorem u8_get (b : UInt8) (h : 0 < (u8 b).length) : (u8 b)[0] = CV.v (.int .u8 (b.toNat : Int)) := rfl
@[go_sem, simp] theorem u8_len (b : UInt8) : (u8 b).length = 1 := by rw [u8]; rfl
/-- A sector. -/
structure Sec where
  val : List UInt8
  len : val.length = 8
def secC (s : Sec) : List CV := s.val.map fun b => CV.v (.int .u8 (b.toNat : Int))
@[go_sem, simp] theorem secC_len (s : Sec) : (secC s).length = 8 := by rw [secC, List.length_map, s.len]
@[go_sem, simp] theorem secC_take (s : Sec) : (secC s).take 8 = secC s := List.take_of_length_le (by simp)
@[go_sem, simp] theorem secC_all (s : Sec) : allOne (secC s) = true := by
  simp only [allOne, secC, List.all_map, List.all_eq_true]; intros; rfl
theorem chunks_u8 : ∀ l : List UInt8, chunks 1 l.length (l.map fun b => CV.v (.int .u8 (b.toNat : Int))) = bs l
  | [] => rfl
  | b :: l => by
    rw [List.length_cons, List.map_cons, chunks, List.take_succ_cons, List.take_zero, List.drop_succ_cons, List.drop_zero, chunks_u8 l]; rfl
@[go_sem, simp] theorem secC_chunks (s : Sec) : chunks 1 8 (secC s) = bs s.val := by
  have := chunks_u8 s.val
  rw [s.len] at this; exact this
theorem okSecs (jb jv : Nat) (l : List Sec) : okE jb jv (l.map secC) := okE_map secC l fun s => by
  rw [okL_iff]; intro c hc
  simp only [secC, List.mem_map] at hc
  obtain ⟨b, _, rfl⟩ := hc
  rw [okV]; trivial
structure Ext2 where
  start : Int
  count : Int
def extC (e : Ext2) : List CV := [.v (.int .i64 e.start), .v (.int .i64 e.count)]
@[go_sem, simp] theorem extC_len (e : Ext2) : (extC e).length = 2 := by rw [extC]; rfl
@[go_sem, simp] theorem extC_take (e : Ext2) : (extC e).take 2 = extC e := rfl
@[go_sem, simp] theorem extC_all (e : Ext2) : allOne (extC e) = true := rfl
@[go_sem, simp] theorem extC_0 (e : Ext2) (h : 0 < (extC e).length) : (extC e)[0] = CV.v (.int .i64 e.start) := rfl
@[go_sem, simp] theorem extC_1 (e : Ext2) (h : 1 < (extC e).length) : (extC e)[1] = CV.v (.int .i64 e.count) := rfl
structure Wr where
  volume : Int
  start : Int
  data : List Sec
def wrC (x : Wr) : List CV := [.v (.int .i64 x.volume), .v (.int .i64 x.start), .sl .sh 8 (x.data.map secC)]
@[go_sem, simp] theorem wrC_len (x : Wr) : (wrC x).length = 3 := by rw [wrC]; rfl
@[go_sem, simp] theorem wrC_take (x : Wr) : (wrC x).take 3 = wrC x := rfl
@[go_sem, simp] theorem wrC_all (x : Wr) : allOne (wrC x) = true := rfl
@[go_sem, simp] theorem wrC_0 (x : Wr) (h : 0 < (wrC x).length) : (wrC x)[0] = CV.v (.int .i64 x.volume) := rfl
@[go_sem, simp] theorem wrC_1 (x : Wr) (h : 1 < (wrC x).length) : (wrC x)[1] = CV.v (.int .i64 x.start) := rfl
@[go_sem, simp] theorem wrC_2 (x : Wr) (h : 2 < (wrC x).length) : (wrC x)[2] = CV.sl .sh 8 (x.data.map secC) := rfl


@[go_sem] theorem okL_secC (jb jv : Nat) (s : Sec) : okL jb jv (secC s) = True := by
  refine eq_true (okL_iff.2 fun c hc => ?_)
  simp only [secC, List.mem_map] at hc
  obtain ⟨b, _, rfl⟩ := hc
  rw [okV]; trivial
@[go_sem] theorem okE_ints (jb jv : Nat) (l : List Int) : okE jb jv (l.map ic) = True := eq_true (okE_map ic l (okL_ic jb jv))
@[go_sem] theorem okE_secs (jb jv : Nat) (l : List Sec) : okE jb jv (l.map secC) = True := eq_true (okSecs jb jv l)
@[go_sem] theorem okL_extC (jb jv : Nat) (e : Ext2) : okL jb jv (extC e) = True := by simp [extC, okL, okV]
@[go_sem] theorem okE_exts (jb jv : Nat) (l : List Ext2) : okE jb jv (l.map extC) = True := eq_true (okE_map extC l fun e => by rw [okL_extC]; trivial)
@[go_sem] theorem okL_wrC (jb jv : Nat) (e : Wr) : okL jb jv (wrC e) = True := by simp [wrC, okL, okV, okTk, okE_secs]
@[go_sem] theorem okE_wrs (jb jv : Nat) (l : List Wr) : okE jb jv (l.map wrC) = True := eq_true (okE_map wrC l fun e => by rw [okL_wrC]; trivial)
/-! ### The encoding -/
/-- A number's groups of seven digits. -/
def encN : Nat → List UInt8
  | n => if h : n < 128 then [UInt8.ofNat n] else UInt8.ofNat (n % 128 + 128) :: encN (n / 128)
termination_by n => n
decreasing_by omega
/-- What is encoded of a number: 0 for those out of range. -/
def norm (n : Int) : Nat := if n < 0 ∨ n > 9007199254740991 then 0 else n.toNat
def enc (n : Int) : List UInt8 := encN (norm n)
def encInts (l : List Int) : List UInt8 := enc l.length ++ l.flatMap enc
def encBytes (b : List UInt8) : List UInt8 := enc b.length ++ b
def encSecs (l : List Sec) : List UInt8 := enc l.length ++ l.flatMap Sec.val
def encExt (e : Ext2) : List UInt8 := enc e.start ++ enc e.count
def encExts (l : List Ext2) : List UInt8 := enc l.length ++ l.flatMap encExt
def encWr (x : Wr) : List UInt8 := enc x.volume ++ enc x.start ++ encSecs x.data
def encWrs (l : List Wr) : List UInt8 := enc l.length ++ l.flatMap encWr

section
variable {H H' : Hp} {V V' : List Nat} {sz : Nat} {x y : List UInt8}
theorem Fin.ownB {k v : Nat} (hk : k < V.length) (hx : x = y) (hokH : ∀ (b : Nat) cs, H[b]? = some (some cs) → okL H.length V.length cs) (hH : H'.take H.length = H) : Fin H.length V.length (Ow k sz (bs y) H V) (.sl (.own k v) sz (bs x)) H' (V.set k v) :=
  Fin.own hk (by rw [hx]) (okBs _ _ _) hokH hH
theorem Fin.freshB {v : Nat} {W : List Nat} (hx : x = y) (hokH : ∀ (b : Nat) cs, H[b]? = some (some cs) → okL H.length V.length cs) (hH : H'.take H.length = H) : Fin H.length V.length (Fr sz (bs y) H V) (.sl (.own V.length v) sz (bs x)) H' (V ++ v :: W) :=
  Fin.fresh (by rw [hx]) (okBs _ _ _) hokH hH
end
end Go.Proofs.Ythakkopnoeinmaa
