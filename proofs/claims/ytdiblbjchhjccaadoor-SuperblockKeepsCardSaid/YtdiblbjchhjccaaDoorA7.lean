import Derived.Test.YtdiblbjchhjccaaDoorA4
import Derived.Test.YtdiblbjchhjccaaDoorA3
import Derived.Test.YtdiblbjchhjccaaDoorProg
set_option linter.unusedSimpArgs false
set_option linter.unusedVariables false
set_option linter.unusedSectionVars false
namespace Go.Proofs.YtdiblbjchhjccaaDoor

/-- Bytes, as the elements of a slice. -/
def bs (l : List UInt8) : List (List CV) := l.map u8
@[go_sem, simp] theorem bs_len (l : List UInt8) : (bs l).length = l.length := List.length_map ..
@[go_sem, simp] theorem bs_app (a b : List UInt8) : bs a ++ bs b = bs (a ++ b) := (List.map_append ..).symm
@[go_sem, simp] theorem bs_drop (l : List UInt8) (n : Nat) : (bs l).drop n = bs (l.drop n) := (List.map_drop ..).symm
@[go_sem, simp] theorem bs_take (l : List UInt8) (n : Nat) : (bs l).take n = bs (l.take n) := (List.map_take ..).symm
@[go_sem, simp] theorem bs_get (l : List UInt8) (n : Nat) (h : n < (bs l).length) : (bs l)[n] = u8 (l[n]'(by simpa using h)) := List.getElem_map ..
@[go_sem, simp] theorem bs_nil : bs [] = [] := rfl
theorem bs_nil' : ([] : List (List CV)) = bs [] := rfl
theorem u8_inj {a b : List UInt8} (h : a.map u8 = b.map u8) : a = b := by
  refine List.map_inj_right (fun x y e => ?_) |>.1 h
  simp only [u8, List.cons.injEq, CV.v.injEq, Value.int.injEq, true_and, and_true] at e
  exact UInt8.toNat_inj.1 (by omega)
@[go_sem, simp] theorem hconv_bs (tk : Tk) (sz : Nat) (l : List UInt8) (K : CV → Prop) : hconv none (.sl tk sz (bs l)) K = K (.v (.string ⟨l.toArray⟩)) := by
  rw [hconv_sl]
  exact propext ⟨fun ⟨b, h, k⟩ => by rw [u8_inj h]; exact k, fun k => ⟨l, rfl, k⟩⟩
abbrev ci (n : Int) : CV := .v (.int .i64 n)
abbrev cb (b : Bool) : CV := .v (.bool b)
def ic (n : Int) : List CV := [.v (.int .i64 n)]
/-- The byte of a number. -/
def byt (n : Int) : UInt8 := UInt8.ofNat (n % 256).toNat
theorem byt_toNat (n : Int) : ((byt n).toNat : Int) = n % 256 := by
  unfold byt
  rw [UInt8.toNat_ofNat']
  omega
theorem wrap_u8 (n : Int) : IntKind.u8.wrap n = ((byt n).toNat : Int) := by
  rw [byt_toNat, IntKind.wrap_u8]
@[go_sem, simp] theorem bs_snoc (l : List UInt8) (n : Int) : bs l ++ [[CV.v (.int .u8 (IntKind.u8.wrap n))]] = bs (l ++ [byt n]) := by
  rw [wrap_u8, bs, bs, List.map_append]; rfl
theorem u8_byt (n : Int) : [CV.v (.int .u8 (IntKind.u8.wrap n))] = u8 (byt n) := by rw [wrap_u8]; rfl
theorem byt_u8 (b : UInt8) : byt (b.toNat : Int) = b := by
  apply UInt8.toNat_inj.1
  have h := byt_toNat (b.toNat : Int)
  have := b.toNat_lt
  omega
theorem okV_sl {jb jv sz : Nat} {α : Type} (f : α → List CV) (l : List α) (h : ∀ a ∈ l, okL jb jv (f a)) : okV jb jv (.sl .sh sz (l.map f)) := by
  rw [okV]
  refine ⟨trivial, ?_⟩
  rw [okE_iff]
  intro e he c hc
  obtain ⟨a, ha, rfl⟩ := List.mem_map.1 he
  exact okL_iff.1 (h a ha) c hc
theorem okL_u8 (jb jv : Nat) (b : UInt8) : okL jb jv (u8 b) := by simp [u8, okL, okV]
@[go_sem] theorem okBs_t (jb jv : Nat) (l : List UInt8) : okE jb jv (bs l) = True := eq_true (okE_map u8 l (okL_u8 jb jv))
theorem okBs (jb jv : Nat) (l : List UInt8) : okE jb jv (bs l) := okE_map u8 l (okL_u8 jb jv)
theorem okL_ic (jb jv : Nat) (n : Int) : okL jb jv (ic n) := by simp [ic, okL, okV]

@[go_sem, simp] theorem ic_get (n : Int) (h : 0 < (ic n).length) : (ic n)[0] = CV.v (.int .i64 n) := rfl
@[go_sem, simp] theorem ic_len (n : Int) : (ic n).length = 1 := by rw [ic]; rfl
theorem wrap_succ {i : Nat} (h : i ≤ 1000000000) : IntKind.i64.wrap ((i : Int) + 1) = ((i + 1 : Nat) : Int) := by
  rw [IntWalk.i64_in _ ⟨by omega, by omega⟩]; rfl
@[go_sem, simp] theorem u8_get (b : UInt8) (h : 0 < (u8 b).length) : (u8 b)[0] = CV.v (.int .u8 (b.toNat : Int)) := rfl
@[go_sem, simp] theorem u8_len (b : UInt8) : (u8 b).length = 1 := by rw [u8]; rfl
/-- A sector. -/
structure Sec where
  val : List UInt8
  len : val.length = 8
def secC (s : Sec) : List CV := s.val.map fun b => CV.v (.int .u8 (b.toNat : Int))
@[go_sem, simp] theorem secC_len (s : Sec) : (secC s).length = 8 := by rw [secC, List.length_map, s.len]
@[go_sem, simp] theorem secC_take (s : Sec) : (secC s).take 8 = secC s := List.take_of_length_le (by simp)
@[go_sem, simp] theorem secC_all (s : Sec) : allOne (secC s) = true := by
  simp only [allOne, secC, List.all_map, List.all_eq_true]; intros; rfl
theorem chunks_u8 : ∀ l : List UInt8, chunks 1 l.length (l.map fun b => CV.v (.int .u8 (b.toNat : Int))) = bs l
  | [] => rfl
  | b :: l => by
    rw [List.length_cons, List.map_cons, chunks, List.take_succ_cons, List.take_zero, List.drop_succ_cons, List.drop_zero, chunks_u8 l]; rfl
@[go_sem, simp] theorem secC_chunks (s : Sec) : chunks 1 8 (secC s) = bs s.val := by
  have := chunks_u8 s.val
  rw [s.len] at this; exact this
theorem okSecs (jb jv : Nat) (l : List Sec) : okE jb jv (l.map secC) := okE_map secC l fun s => by
  rw [okL_iff]; intro c hc
  simp only [secC, List.mem_map] at hc
  obtain ⟨b, _, rfl⟩ := hc
  rw [okV]; trivial
structure Ext2 where
  start : Int
  count : Int
def extC (e : Ext2) : List CV := [.v (.int .i64 e.start), .v (.int .i64 e.count)]
@[go_sem, simp] theorem extC_len (e : Ext2) : (extC e).length = 2 := by rw [extC]; rfl
@[go_sem, simp] theorem extC_take (e : Ext2) : (extC e).take 2 = extC e := rfl
@[go_sem, simp] theorem extC_all (e : Ext2) : allOne (extC e) = true := rfl
@[go_sem, simp] theorem extC_0 (e : Ext2) (h : 0 < (extC e).length) : (extC e)[0] = CV.v (.int .i64 e.start) := rfl
@[go_sem, simp] theorem extC_1 (e : Ext2) (h : 1 < (extC e).length) : (extC e)[1] = CV.v (.int .i64 e.count) := rfl
structure Wr where
  volume : Int
  start : Int
  data : List Sec
def wrC (x : Wr) : List CV := [.v (.int .i64 x.volume), .v (.int .i64 x.start), .sl .sh 8 (x.data.map secC)]
@[go_sem, simp] theorem wrC_len (x : Wr) : (wrC x).length = 3 := by rw [wrC]; rfl
@[go_sem, simp] theorem wrC_take (x : Wr) : (wrC x).take 3 = wrC x := rfl
@[go_sem, simp] theorem wrC_all (x : Wr) : allOne (wrC x) = true := rfl
@[go_sem, simp] theorem wrC_0 (x : Wr) (h : 0 < (wrC x).length) : (wrC x)[0] = CV.v (.int .i64 x.volume) := rfl
@[go_sem, simp] theorem wrC_1 (x : Wr) (h : 1 < (wrC x).length) : (wrC x)[1] = CV.v (.int .i64 x.start) := rfl
@[go_sem, simp] theorem wrC_2 (x : Wr) (h : 2 < (wrC x).length) : (wrC x)[2] = CV.sl .sh 8 (x.data.map secC) := rfl


@[go_sem] theorem okL_secC (jb jv : Nat) (s : Sec) : okL jb jv (secC s) = True := by
  refine eq_true (okL_iff.2 fun c hc => ?_)
  simp only [secC, List.mem_map] at hc
  obtain ⟨b, _, rfl⟩ := hc
  rw [okV]; trivial
@[go_sem] theorem okE_ints (jb jv : Nat) (l : List Int) : okE jb jv (l.map ic) = True := eq_true (okE_map ic l (okL_ic jb jv))
@[go_sem] theorem okE_secs (jb jv : Nat) (l : List Sec) : okE jb jv (l.map secC) = True := eq_true (okSecs jb jv l)
@[go_sem] theorem okL_extC (jb jv : Nat) (e : Ext2) : okL jb jv (extC e) = True := by simp [extC, okL, okV]
@[go_sem] theorem okE_exts (jb jv : Nat) (l : List Ext2) : okE jb jv (l.map extC) = True := eq_true (okE_map extC l fun e => by rw [okL_extC]; trivial)
@[go_sem] theorem okL_wrC (jb jv : Nat) (e : Wr) : okL jb jv (wrC e) = True := by simp [wrC, okL, okV, okTk, okE_secs]
@[go_sem] theorem okE_wrs (jb jv : Nat) (l : List Wr) : okE jb jv (l.map wrC) = True := eq_true (okE_map wrC l fun e => by rw [okL_wrC]; trivial)
/-! ### The encoding -/
/-- A number's groups of seven digits. -/
def encN : Nat → List UInt8
  | n => if h : n < 128 then [UInt8.ofNat n] else UInt8.ofNat (n % 128 + 128) :: encN (n / 128)
termination_by n => n
decreasing_by omega
/-- What is encoded of a number: 0 for those out of range. -/
def norm (n : Int) : Nat := if n < 0 ∨ n > 9007199254740991 then 0 else n.toNat
def enc (n : Int) : List UInt8 := encN (norm n)
def encInts (l : List Int) : List UInt8 := enc l.length ++ l.flatMap enc
def encBytes (b : List UInt8) : List UInt8 := enc b.length ++ b
def encSecs (l : List Sec) : List UInt8 := enc l.length ++ l.flatMap Sec.val
def encExt (e : Ext2) : List UInt8 := enc e.start ++ enc e.count
def encExts (l : List Ext2) : List UInt8 := enc l.length ++ l.flatMap encExt
def encWr (x : Wr) : List UInt8 := enc x.volume ++ enc x.start ++ encSecs x.data
def encWrs (l : List Wr) : List UInt8 := enc l.length ++ l.flatMap encWr

section
variable {H H' : Hp} {V V' : List Nat} {sz : Nat} {x y : List UInt8}
theorem Fin.ownB {k v : Nat} (hk : k < V.length) (hx : x = y) (hokH : ∀ (b : Nat) cs, H[b]? = some (some cs) → okL H.length V.length cs) (hH : H'.take H.length = H) : Fin H.length V.length (Ow k sz (bs y) H V) (.sl (.own k v) sz (bs x)) H' (V.set k v) :=
  Fin.own hk (by rw [hx]) (okBs _ _ _) hokH hH
theorem Fin.freshB {v : Nat} {W : List Nat} (hx : x = y) (hokH : ∀ (b : Nat) cs, H[b]? = some (some cs) → okL H.length V.length cs) (hH : H'.take H.length = H) : Fin H.length V.length (Fr sz (bs y) H V) (.sl (.own V.length v) sz (bs x)) H' (V ++ v :: W) :=
  Fin.fresh (by rw [hx]) (okBs _ _ _) hokH hH
end
end Go.Proofs.YtdiblbjchhjccaaDoor
namespace Go.Proofs.YtdiblbjchhjccaaDoor
open Go.Proofs
@[go_sem] theorem slTy22 : slTy Tryd.prog 22 = some (5, 1) := by kernel_rfl
@[go_sem] theorem slTy24 : slTy Tryd.prog 24 = some (67, 3) := by kernel_rfl
@[go_sem] theorem slTy32 : slTy Tryd.prog 32 = some (57, 8) := by kernel_rfl
@[go_sem] theorem slTy33 : slTy Tryd.prog 33 = some (109, 9) := by kernel_rfl
@[go_sem] theorem slTy46 : slTy Tryd.prog 46 = some (54, 3) := by kernel_rfl
@[go_sem] theorem slTy52 : slTy Tryd.prog 52 = some (3, 1) := by kernel_rfl
@[go_sem] theorem arTy57 : arTy Tryd.prog 57 = some (8, false, 1) := by kernel_rfl
@[go_sem] theorem arTy76 : arTy Tryd.prog 76 = some (2, true, 3) := by kernel_rfl
@[go_sem] theorem arTy122 : arTy Tryd.prog 122 = some (2, false, 1) := by kernel_rfl
@[go_sem] theorem ldTy3 : ldTy Tryd.prog 3 = some (false, 1) := by kernel_rfl
@[go_sem] theorem ldTy5 : ldTy Tryd.prog 5 = some (false, 1) := by kernel_rfl
@[go_sem] theorem ldTy22 : ldTy Tryd.prog 22 = some (false, 1) := by kernel_rfl
@[go_sem] theorem ldTy32 : ldTy Tryd.prog 32 = some (false, 1) := by kernel_rfl
@[go_sem] theorem ldTy33 : ldTy Tryd.prog 33 = some (false, 1) := by kernel_rfl
@[go_sem] theorem ldTy35 : ldTy Tryd.prog 35 = some (true, 2) := by kernel_rfl
@[go_sem] theorem ldTy52 : ldTy Tryd.prog 52 = some (false, 1) := by kernel_rfl
@[go_sem] theorem ldTy54 : ldTy Tryd.prog 54 = some (true, 3) := by kernel_rfl
@[go_sem] theorem ldTy57 : ldTy Tryd.prog 57 = some (true, 8) := by kernel_rfl
@[go_sem] theorem ldTy67 : ldTy Tryd.prog 67 = some (true, 3) := by kernel_rfl
@[go_sem] theorem ldTy71 : ldTy Tryd.prog 71 = some (true, 3) := by kernel_rfl
@[go_sem] theorem ldTy76 : ldTy Tryd.prog 76 = some (true, 6) := by kernel_rfl
@[go_sem] theorem ldTy109 : ldTy Tryd.prog 109 = some (true, 9) := by kernel_rfl
@[go_sem] theorem ldTy111 : ldTy Tryd.prog 111 = some (false, 1) := by kernel_rfl
@[go_sem] theorem ldTy121 : ldTy Tryd.prog 121 = some (false, 1) := by kernel_rfl
@[go_sem] theorem ldTy122 : ldTy Tryd.prog 122 = some (true, 2) := by kernel_rfl
@[go_sem] theorem ldTy132 : ldTy Tryd.prog 132 = some (true, 256) := by kernel_rfl
@[go_sem] theorem fdTy35_0 : fdTy Tryd.prog 35 0 = some (0, false, 1) := by kernel_rfl
@[go_sem] theorem fdTy35_1 : fdTy Tryd.prog 35 1 = some (1, false, 1) := by kernel_rfl
@[go_sem] theorem fdTy54_0 : fdTy Tryd.prog 54 0 = some (0, false, 1) := by kernel_rfl
@[go_sem] theorem fdTy54_1 : fdTy Tryd.prog 54 1 = some (1, false, 1) := by kernel_rfl
@[go_sem] theorem fdTy54_2 : fdTy Tryd.prog 54 2 = some (2, false, 1) := by kernel_rfl
@[go_sem] theorem fdTy67_0 : fdTy Tryd.prog 67 0 = some (0, false, 1) := by kernel_rfl
@[go_sem] theorem fdTy67_1 : fdTy Tryd.prog 67 1 = some (1, false, 1) := by kernel_rfl
@[go_sem] theorem fdTy67_2 : fdTy Tryd.prog 67 2 = some (2, false, 1) := by kernel_rfl
@[go_sem] theorem fdTy69_0 : fdTy Tryd.prog 69 0 = some (0, false, 1) := by kernel_rfl
@[go_sem] theorem fdTy69_1 : fdTy Tryd.prog 69 1 = some (1, false, 1) := by kernel_rfl
@[go_sem] theorem fdTy71_0 : fdTy Tryd.prog 71 0 = some (0, true, 2) := by kernel_rfl
@[go_sem] theorem fdTy71_1 : fdTy Tryd.prog 71 1 = some (2, false, 1) := by kernel_rfl
@[go_sem] theorem fdTy90_0 : fdTy Tryd.prog 90 0 = some (0, true, 2) := by kernel_rfl
@[go_sem] theorem fdTy100_0 : fdTy Tryd.prog 100 0 = some (0, false, 1) := by kernel_rfl
@[go_sem] theorem fdTy100_1 : fdTy Tryd.prog 100 1 = some (1, false, 1) := by kernel_rfl
@[go_sem] theorem fdTy109_0 : fdTy Tryd.prog 109 0 = some (0, false, 1) := by kernel_rfl
@[go_sem] theorem fdTy109_1 : fdTy Tryd.prog 109 1 = some (1, true, 8) := by kernel_rfl
@[go_sem] theorem zcTy5 : zcTy Tryd.prog 5 = some [.int .u8 0] := by kernel_rfl
@[go_sem] theorem zcTy35 : zcTy Tryd.prog 35 = some [.slice none 0 0, .slice none 0 0] := by kernel_rfl
@[go_sem] theorem zcTy57 : zcTy Tryd.prog 57 = some [.int .u8 0, .int .u8 0, .int .u8 0, .int .u8 0, .int .u8 0, .int .u8 0, .int .u8 0, .int .u8 0] := by kernel_rfl
@[go_sem] theorem zcTy67 : zcTy Tryd.prog 67 = some [.int .i64 0, .int .i64 0, .slice none 0 0] := by kernel_rfl
@[go_sem] theorem zcTy71 : zcTy Tryd.prog 71 = some [.int .i64 0, .slice none 0 0, .slice none 0 0] := by kernel_rfl
@[go_sem] theorem zcTy76 : zcTy Tryd.prog 76 = some [.int .i64 0, .slice none 0 0, .slice none 0 0, .int .i64 0, .slice none 0 0, .slice none 0 0] := by kernel_rfl
@[go_sem] theorem zcTy109 : zcTy Tryd.prog 109 = some [.int .i64 0, .int .u8 0, .int .u8 0, .int .u8 0, .int .u8 0, .int .u8 0, .int .u8 0, .int .u8 0, .int .u8 0] := by kernel_rfl
@[go_sem] theorem zcTy122 : zcTy Tryd.prog 122 = some [.nilFunc, .nilFunc] := by kernel_rfl
@[go_sem] theorem zcTy132 : zcTy Tryd.prog 132 = some [.bool false, .bool false, .bool false, .bool false, .bool false, .bool false, .bool false, .bool false, .bool false, .bool false, .bool false, .bool false, .bool false, .bool false, .bool false, .bool false, .bool false, .bool false, .bool false, .bool false, .bool false, .bool false, .bool false, .bool false, .bool false, .bool false, .bool false, .bool false, .bool false, .bool false, .bool false, .bool false, .bool false, .bool false, .bool false, .bool false, .bool false, .bool false, .bool false, .bool false, .bool false, .bool false, .bool false, .bool false, .bool false, .bool false, .bool false, .bool false, .bool false, .bool false, .bool false, .bool false, .bool false, .bool false, .bool false, .bool false, .bool false, .bool false, .bool false, .bool false, .bool false, .bool false, .bool false, .bool false, .bool false, .bool false, .bool false, .bool false, .bool false, .bool false, .bool false, .bool false, .bool false, .bool false, .bool false, .bool false, .bool false, .bool false, .bool false, .bool false, .bool false, .bool false, .bool false, .bool false, .bool false, .bool false, .bool false, .bool false, .bool false, .bool false, .bool false, .bool false, .bool false, .bool false, .bool false, .bool false, .bool false, .bool false, .bool false, .bool false, .bool false, .bool false, .bool false, .bool false, .bool false, .bool false, .bool false, .bool false, .bool false, .bool false, .bool false, .bool false, .bool false, .bool false, .bool false, .bool false, .bool false, .bool false, .bool false, .bool false, .bool false, .bool false, .bool false, .bool false, .bool false, .bool false, .bool false, .bool false, .bool false, .bool false, .bool false, .bool false, .bool false, .bool false, .bool false, .bool false, .bool false, .bool false, .bool false, .bool false, .bool false, .bool false, .bool false, .bool false, .bool false, .bool false, .bool false, .bool false, .bool false, .bool false, .bool false, .bool false, .bool false, .bool false, .bool false, .bool false, .bool false, .bool false, .bool false, .bool false, .bool false, .bool false, .bool false, .bool false, .bool false, .bool false, .bool false, .bool false, .bool false, .bool false, .bool false, .bool false, .bool false, .bool false, .bool false, .bool false, .bool false, .bool false, .bool false, .bool false, .bool false, .bool false, .bool false, .bool false, .bool false, .bool false, .bool false, .bool false, .bool false, .bool false, .bool false, .bool false, .bool false, .bool false, .bool false, .bool false, .bool false, .bool false, .bool false, .bool false, .bool false, .bool false, .bool false, .bool false, .bool false, .bool false, .bool false, .bool false, .bool false, .bool false, .bool false, .bool false, .bool false, .bool false, .bool false, .bool false, .bool false, .bool false, .bool false, .bool false, .bool false, .bool false, .bool false, .bool false, .bool false, .bool false, .bool false, .bool false, .bool false, .bool false, .bool false, .bool false, .bool false, .bool false, .bool false, .bool false, .bool false, .bool false, .bool false, .bool false, .bool false, .bool false, .bool false, .bool false, .bool false, .bool false, .bool false, .bool false, .bool false, .bool false, .bool false, .bool false, .bool false, .bool false, .bool false, .bool false] := by kernel_rfl
@[go_sem] theorem bdTy35 : bdTy Tryd.prog 35 = some ([(0, 1), (1, 1)], [.slice none 0 0, .slice none 0 0]) := by kernel_rfl
@[go_sem] theorem bdTy57 : bdTy Tryd.prog 57 = some ([(0, 1), (1, 1), (2, 1), (3, 1), (4, 1), (5, 1), (6, 1), (7, 1)], [.int .u8 0, .int .u8 0, .int .u8 0, .int .u8 0, .int .u8 0, .int .u8 0, .int .u8 0, .int .u8 0]) := by kernel_rfl
@[go_sem] theorem bdTy67 : bdTy Tryd.prog 67 = some ([(0, 1), (1, 1), (2, 1)], [.int .i64 0, .int .i64 0, .slice none 0 0]) := by kernel_rfl
@[go_sem] theorem bdTy69 : bdTy Tryd.prog 69 = some ([(0, 1), (1, 1)], [.int .i64 0, .slice none 0 0]) := by kernel_rfl
@[go_sem] theorem bdTy71 : bdTy Tryd.prog 71 = some ([(0, 2), (2, 1)], [.int .i64 0, .slice none 0 0, .slice none 0 0]) := by kernel_rfl
@[go_sem] theorem bdTy76 : bdTy Tryd.prog 76 = some ([(0, 3), (3, 3)], [.int .i64 0, .slice none 0 0, .slice none 0 0, .int .i64 0, .slice none 0 0, .slice none 0 0]) := by kernel_rfl
@[go_sem] theorem bdTy90 : bdTy Tryd.prog 90 = some ([(0, 2)], [.slice none 0 0, .slice none 0 0]) := by kernel_rfl
@[go_sem] theorem bdTy100 : bdTy Tryd.prog 100 = some ([(0, 1), (1, 1)], [.int .i64 0, .int .i64 0]) := by kernel_rfl
@[go_sem] theorem bdTy109 : bdTy Tryd.prog 109 = some ([(0, 1), (1, 8)], [.int .i64 0, .int .u8 0, .int .u8 0, .int .u8 0, .int .u8 0, .int .u8 0, .int .u8 0, .int .u8 0, .int .u8 0]) := by kernel_rfl
@[go_sem] theorem bdTy122 : bdTy Tryd.prog 122 = some ([(0, 1), (1, 1)], [.nilFunc, .nilFunc]) := by kernel_rfl
@[go_sem] theorem cvTy3_5 : cvTy Tryd.prog 3 5 = some (some .u8) := by kernel_rfl
@[go_sem] theorem cvTy3_96 : cvTy Tryd.prog 3 96 = some (some .u64) := by kernel_rfl
@[go_sem] theorem cvTy5_3 : cvTy Tryd.prog 5 3 = some (some .i64) := by kernel_rfl
@[go_sem] theorem cvTy5_74 : cvTy Tryd.prog 5 74 = some (some .u32) := by kernel_rfl
@[go_sem] theorem cvTy22_9 : cvTy Tryd.prog 22 9 = some none := by kernel_rfl
@[go_sem] theorem cvTy74_3 : cvTy Tryd.prog 74 3 = some (some .i64) := by kernel_rfl
@[go_sem] theorem cvTy74_5 : cvTy Tryd.prog 74 5 = some (some .u8) := by kernel_rfl
@[go_sem] theorem mpTy111 : mpTy Tryd.prog 111 = some (.slice none 0 0) := by kernel_rfl
@[go_sem] theorem strTy9 : Tryd.prog.underlying 9 = some .string := by kernel_rfl
@[go_sem] theorem boolTy4 : Tryd.prog.underlying 4 = some .bool := by kernel_rfl
end Go.Proofs.YtdiblbjchhjccaaDoor
namespace Go.Proofs.YtdiblbjchhjccaaDoor
abbrev er (e : Nat) : CV := .v (.int .i64 e)
structure Cach where
  pos : Int
  data : Sec
def cachC (c : Cach) : List CV := .v (.int .i64 c.pos) :: secC c.data
@[go_sem, simp] theorem cachC_len (c : Cach) : (cachC c).length = 9 := by rw [cachC, List.length_cons, secC_len]
@[go_sem, simp] theorem cachC_0 (c : Cach) (h : 0 < (cachC c).length) : (cachC c)[0] = CV.v (.int .i64 c.pos) := rfl
@[go_sem, simp] theorem cachC_drop (c : Cach) : (cachC c).drop 1 = secC c.data := rfl
@[go_sem, simp] theorem cachC_take (c : Cach) : (cachC c).take 9 = cachC c := List.take_of_length_le (by simp)
@[go_sem, simp] theorem cachC_all (c : Cach) : allOne (cachC c) = true := by rw [cachC, allOne_cons, secC_all]; rfl
@[go_sem] theorem okL_cachC (jb jv : Nat) (c : Cach) : okL jb jv (cachC c) = True := by simp [cachC, okL, okV, okL_secC]
@[go_sem] theorem okE_cach (jb jv : Nat) (l : List Cach) : okE jb jv (l.map cachC) = True := eq_true (okE_map cachC l fun e => by rw [okL_cachC]; trivial)
structure Dk where
  stable : List Sec
  cache : List Cach
abbrev secsV (l : List Sec) : CV := .sl .sh 8 (l.map secC)
abbrev cachV (l : List Cach) : CV := .sl .sh 9 (l.map cachC)
def dkC (d : Dk) : List CV := [secsV d.stable, cachV d.cache]
@[go_sem, simp] theorem dkC_len (d : Dk) : (dkC d).length = 2 := by rw [dkC]; rfl
@[go_sem, simp] theorem dkC_take (d : Dk) : (dkC d).take 2 = dkC d := rfl
@[go_sem, simp] theorem dkC_all (d : Dk) : allOne (dkC d) = true := rfl
@[go_sem, simp] theorem dkC_0 (d : Dk) (h : 0 < (dkC d).length) : (dkC d)[0] = secsV d.stable := rfl
@[go_sem, simp] theorem dkC_1 (d : Dk) (h : 1 < (dkC d).length) : (dkC d)[1] = cachV d.cache := rfl
@[go_sem] theorem okL_dkC (jb jv : Nat) (d : Dk) : okL jb jv (dkC d) = True := by simp [dkC, okL, okV, okTk, okE_secs, okE_cach]
structure Opn where
  kind : Int
  pos : Int
  data : List Sec
def opC (x : Opn) : List CV := [.v (.int .i64 x.kind), .v (.int .i64 x.pos), secsV x.data]
@[go_sem, simp] theorem opC_len (x : Opn) : (opC x).length = 3 := by rw [opC]; rfl
@[go_sem, simp] theorem opC_take (x : Opn) : (opC x).take 3 = opC x := rfl
@[go_sem, simp] theorem opC_all (x : Opn) : allOne (opC x) = true := rfl
@[go_sem, simp] theorem opC_0 (x : Opn) (h : 0 < (opC x).length) : (opC x)[0] = CV.v (.int .i64 x.kind) := rfl
@[go_sem, simp] theorem opC_1 (x : Opn) (h : 1 < (opC x).length) : (opC x)[1] = CV.v (.int .i64 x.pos) := rfl
@[go_sem, simp] theorem opC_2 (x : Opn) (h : 2 < (opC x).length) : (opC x)[2] = secsV x.data := rfl
@[go_sem] theorem okL_opC (jb jv : Nat) (x : Opn) : okL jb jv (opC x) = True := by simp [opC, okL, okV, okTk, okE_secs]
@[go_sem] theorem okE_ops (jb jv : Nat) (l : List Opn) : okE jb jv (l.map opC) = True := eq_true (okE_map opC l fun e => by rw [okL_opC]; trivial)
abbrev opsV (l : List Opn) : CV := .sl .sh 3 (l.map opC)
/-! ### Sectors in a row -/
def secsF (l : List Sec) : List CV := (l.map secC).flatten
@[go_sem, simp] theorem secsF_len (l : List Sec) : (secsF l).length = 8 * l.length := by
  induction l with
  | nil => rfl
  | cons a l ih => rw [secsF, List.map_cons, List.flatten_cons, List.length_append, secC_len, List.length_cons]; rw [secsF] at ih; rw [ih]; omega
theorem secsF_cons (a : Sec) (l : List Sec) : secsF (a :: l) = secC a ++ secsF l := by rw [secsF, List.map_cons, List.flatten_cons]; rfl
theorem secsF_app (a b : List Sec) : secsF (a ++ b) = secsF a ++ secsF b := by simp [secsF]
theorem secsF_take : ∀ (l : List Sec) (i : Nat), (secsF l).take (i * 8) = secsF (l.take i)
  | [], i => by simp [secsF]
  | a :: l, 0 => by simp [secsF]
  | a :: l, i + 1 => by
    rw [secsF_cons, List.take_succ_cons, secsF_cons, List.take_append, secC_len, List.take_of_length_le (by rw [secC_len]; omega), show (i + 1) * 8 - 8 = i * 8 by omega, secsF_take l i]
theorem secsF_drop : ∀ (l : List Sec) (i : Nat), (secsF l).drop (i * 8) = secsF (l.drop i)
  | [], i => by simp [secsF]
  | a :: l, 0 => by simp
  | a :: l, i + 1 => by
    rw [secsF_cons, List.drop_succ_cons, List.drop_append, secC_len, List.drop_of_length_le (by rw [secC_len]; omega), show (i + 1) * 8 - 8 = i * 8 by omega, secsF_drop l i]; rfl
theorem secsF_set {l : List Sec} {i : Nat} (h : i < l.length) (s : Sec) : (secsF l).take (i * 8) ++ secC s ++ (secsF l).drop (i * 8 + 8) = secsF (l.set i s) := by
  rw [show i * 8 + 8 = (i + 1) * 8 by omega, secsF_take, secsF_drop, List.set_eq_take_append_cons_drop, if_pos h, secsF_app, secsF_cons, List.append_assoc]
theorem secsF_set' {l : List Sec} {i : Nat} (h : i < l.length) (s : Sec) : (secsF l).take (i * 8) ++ (secC s ++ (secsF l).drop (i * 8 + 8)) = secsF (l.set i s) := by
  rw [← List.append_assoc, secsF_set h]
theorem chunks_secs : ∀ l : List Sec, chunks 8 l.length (secsF l) = l.map secC
  | [] => rfl
  | a :: l => by
    rw [List.length_cons, secsF_cons, chunks, List.take_append_of_le_length (by rw [secC_len]; exact Nat.le_refl _), secC_take, List.drop_append_of_le_length (by rw [secC_len]; exact Nat.le_refl _), List.drop_of_length_le (by rw [secC_len]; exact Nat.le_refl _), List.nil_append, chunks_secs l]; rfl
theorem secsF_get {l : List Sec} {i : Nat} (h : i < l.length) : ((secsF l).drop (i * 8)).take 8 = secC l[i] := by
  rw [secsF_drop, List.drop_eq_getElem_cons h, secsF_cons, List.take_append_of_le_length (by rw [secC_len]; exact Nat.le_refl _), secC_take]
@[go_sem, simp] theorem secsF_all (l : List Sec) : allOne (secsF l) = true := by
  induction l with
  | nil => rfl
  | cons a l ih => rw [secsF_cons, allOne, List.all_append, ← allOne, ← allOne, secC_all, ih]; rfl
@[go_sem] theorem okL_secsF (jb jv : Nat) (l : List Sec) : okL jb jv (secsF l) = True := by
  induction l with
  | nil => simp [secsF, okL]
  | cons a l ih =>
    refine eq_true (okL_iff.2 fun c hc => ?_)
    rw [secsF_cons] at hc
    rcases List.mem_append.1 hc with h | h
    · exact okL_iff.1 (by rw [okL_secC]; trivial) c h
    · exact okL_iff.1 (by rw [ih]; trivial) c h
/-- A sector of zeros. -/
def sec0 : Sec := ⟨List.replicate 8 0, rfl⟩
theorem zeros_secs : ∀ n : Nat, (List.replicate n (List.map CV.v [.int .u8 0, .int .u8 0, .int .u8 0, .int .u8 0, .int .u8 0, .int .u8 0, .int .u8 0, .int .u8 0])).flatten = secsF (List.replicate n sec0)
  | 0 => rfl
  | n + 1 => by rw [List.replicate_succ, List.flatten_cons, zeros_secs n, List.replicate_succ, secsF_cons]; rfl
/-! ### Disks -/
def badAt (d : Dk) (c : Cach) : Bool := decide (c.pos < 0) || decide ((d.stable.length : Int) ≤ c.pos)
def checkD (d : Dk) : Nat := if 4096 < d.stable.length ∨ d.cache.any (badAt d) = true then 2 else 0
def setC (l : List Sec) (c : Cach) : List Sec := l.set c.pos.toNat c.data
def newestD (d : Dk) : List Sec := d.cache.foldl setC d.stable
theorem foldl_setC_len : ∀ (cs : List Cach) (l : List Sec), (cs.foldl setC l).length = l.length
  | [], l => rfl
  | c :: cs, l => by rw [List.foldl_cons, foldl_setC_len cs, setC, List.length_set]
theorem newestD_len (d : Dk) : (newestD d).length = d.stable.length := foldl_setC_len _ _
def insideB (d : Dk) (a n : Int) : Bool := decide (0 ≤ a) && decide (0 ≤ n) && decide (n ≤ (d.stable.length : Int)) && decide (a ≤ (d.stable.length : Int) - n)
/-- Sectors of a disk, and the error. -/
def readD (d : Dk) (a n : Int) : List Sec × Nat :=
  if checkD d ≠ 0 then ([], checkD d) else if insideB d a n = false then ([], 2) else (((newestD d).drop a.toNat).take n.toNat, 0)
theorem checkD_0 {d : Dk} (h : checkD d = 0) : d.stable.length ≤ 4096 ∧ ∀ c ∈ d.cache, 0 ≤ c.pos ∧ c.pos.toNat < d.stable.length := by
  unfold checkD at h
  by_cases hc : 4096 < d.stable.length ∨ d.cache.any (badAt d) = true
  · rw [if_pos hc] at h; cases h
  · obtain ⟨h1, h2⟩ := not_or.1 hc
    refine ⟨by omega, fun c hm => ?_⟩
    have h3 : ¬ badAt d c = true := fun h3 => h2 (List.any_eq_true.2 ⟨c, hm, h3⟩)
    unfold badAt at h3
    rw [Bool.or_eq_true, decide_eq_true_eq, decide_eq_true_eq, not_or] at h3
    omega
/-- One operation. -/
def writeD (d : Dk) (a : Int) (l : List Sec) : Option Dk :=
  if insideB d a l.length = true then some ⟨d.stable, d.cache ++ (l.zipIdx.map fun p => ⟨a + p.2, p.1⟩)⟩ else none
def stepD (d : Dk) (o : Opn) : Except Nat Dk :=
  if o.kind < 0 ∨ 2 ≤ o.kind then .error 1 else if o.kind = 0 then (match writeD d o.pos o.data with | some d' => .ok d' | none => .error 2) else .ok ⟨newestD d, []⟩
/-- The disk behind operations; or the number of those that were executed, and the error. -/
def runD : Dk → List Opn → Nat → Except (Nat × Nat) (Dk × Nat)
  | d, [], i => .ok (d, i)
  | d, o :: os, i => match stepD d o with | .ok d' => runD d' os (i + 1) | .error e => .error (i, e)
end Go.Proofs.YtdiblbjchhjccaaDoor
