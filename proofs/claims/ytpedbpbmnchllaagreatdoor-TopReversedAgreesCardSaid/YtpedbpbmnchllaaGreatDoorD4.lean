import Derived.Test.YtpedbpbmnchllaaGreatDoorD3
import Derived.Test.YtpedbpbmnchllaaGreatDoorChecked
import Derived.ChangeKeysEq
import Derived.WalkSmall
set_option linter.unusedSimpArgs false
set_option linter.unusedVariables false
set_option linter.unusedSectionVars false
namespace Go.Proofs.YtpedbpbmnchllaaGreatDoor
abbrev Img := List (List Sec)
def imE (v : List Sec) : List CV := [secsV v]
@[go_sem, simp] theorem imE_len (v : List Sec) : (imE v).length = 1 := rfl
@[go_sem, simp] theorem imE_get (v : List Sec) (h : 0 < (imE v).length) : (imE v)[0] = secsV v := rfl
@[go_sem] theorem okL_imE (jb jv : Nat) (v : List Sec) : okL jb jv (imE v) = True := by simp [imE, okL, okV, okTk, okE_secs]
@[go_sem] theorem okE_ims (jb jv : Nat) (l : Img) : okE jb jv (l.map imE) = True := eq_true (okE_map imE l fun e => by rw [okL_imE]; trivial)
abbrev imV (l : Img) : CV := .sl .sh 1 (l.map imE)
def imgSz (l : Img) : List Int := l.map fun v => (v.length : Int)
def imOf (l : List Int) : Img := l.map fun n => zer n.toNat
@[go_sem, simp] theorem imgSz_len (l : Img) : (imgSz l).length = l.length := List.length_map ..
@[go_sem, simp] theorem imOf_len (l : List Int) : (imOf l).length = l.length := List.length_map ..
def badSz (n : Int) : Bool := decide (n < 1) || decide (4096 < n)
def sizesE (l : List Int) : Nat := if l.length < 1 ∨ 8 < l.length then 6 else if l.any badSz = true then 2 else 0
theorem sizesE_0 {l : List Int} (h : sizesE l = 0) : 1 ≤ l.length ∧ l.length ≤ 8 ∧ ∀ n ∈ l, 1 ≤ n ∧ n ≤ 4096 := by
  unfold sizesE at h
  split at h
  · cases h
  · split at h
    · cases h
    · rename_i h1 h2
      refine ⟨by omega, by omega, fun n hn => ?_⟩
      have : ¬ badSz n = true := fun hb => h2 (List.any_eq_true.2 ⟨n, hn, hb⟩)
      simp only [badSz, Bool.or_eq_true, decide_eq_true_eq] at this
      omega
theorem imgSz_of {l : List Int} (h : sizesE l = 0) : imgSz (imOf l) = l := by
  rw [imgSz, imOf, List.map_map]
  conv => rhs; rw [← List.map_id l]
  refine List.map_congr_left fun n hn => ?_
  have := (sizesE_0 h).2.2 n hn
  simp only [Function.comp, zer_len, id]
  omega
def fitsS (sizes : List Int) (w : Wr) : Nat :=
  if w.volume < 0 ∨ (sizes.length : Int) ≤ w.volume then 7 else if w.data.length = 0 then 1 else if w.start < 0 ∨ sizes.getD w.volume.toNat 0 - w.data.length < w.start then 2 else 0
def badO (x w : Wr) : Bool := decide (w.volume < x.volume) || (decide (w.volume = x.volume) && decide (w.start ≤ x.start + x.data.length))
def chkW (f : Wr → Nat) : Option Wr → List Wr → Nat
  | _, [] => 0
  | none, w :: l => if f w ≠ 0 then f w else chkW f (some w) l
  | some x, w :: l => if f w ≠ 0 then f w else if badO x w = true then 3 else chkW f (some w) l
def wsE (sizes : List Int) (l : List Wr) : Nat := if sizesE sizes ≠ 0 then sizesE sizes else chkW (fitsS sizes) none l
def WrS (l : List Wr) : Prop := ∀ w ∈ l, w.data.length ≤ 1000000
structure Cyc where
  base : Int
  number : Int
  time : Int
  poss : List Int
  wrs : List Wr
def cycC (c : Cyc) : List CV := [.v (.int .i64 c.base), .v (.int .i64 c.number), .v (.int .i64 c.time), .sl .sh 1 (c.poss.map ic), .sl .sh 3 (c.wrs.map wrC)]
@[go_sem, simp] theorem cycC_len (c : Cyc) : (cycC c).length = 5 := by rw [cycC]; rfl
@[go_sem, simp] theorem cycC_take (c : Cyc) : (cycC c).take 5 = cycC c := rfl
@[go_sem, simp] theorem cycC_all (c : Cyc) : allOne (cycC c) = true := rfl
@[go_sem, simp] theorem cycC_0 (c : Cyc) (h : 0 < (cycC c).length) : (cycC c)[0] = CV.v (.int .i64 c.base) := rfl
@[go_sem, simp] theorem cycC_1 (c : Cyc) (h : 1 < (cycC c).length) : (cycC c)[1] = CV.v (.int .i64 c.number) := rfl
@[go_sem, simp] theorem cycC_2 (c : Cyc) (h : 2 < (cycC c).length) : (cycC c)[2] = CV.v (.int .i64 c.time) := rfl
@[go_sem, simp] theorem cycC_3 (c : Cyc) (h : 3 < (cycC c).length) : (cycC c)[3] = .sl .sh 1 (c.poss.map ic) := rfl
@[go_sem, simp] theorem cycC_4 (c : Cyc) (h : 4 < (cycC c).length) : (cycC c)[4] = .sl .sh 3 (c.wrs.map wrC) := rfl
@[go_sem] theorem okL_cycC (jb jv : Nat) (c : Cyc) : okL jb jv (cycC c) = True := by simp [cycC, okL, okV, okTk, okE_wrs, okE_ints]
@[go_sem] theorem okE_cycs (jb jv : Nat) (l : List Cyc) : okE jb jv (l.map cycC) = True := eq_true (okE_map cycC l fun e => by rw [okL_cycC]; trivial)
def inB (n lo hi : Int) : Bool := decide (lo ≤ n) && decide (n ≤ hi)
def badPos (n : Int) : Bool := !inB n 0 1073741824
def posE (l : List Int) (least : Int) : Nat := if inB l.length least 8 = false then 6 else if l.any badPos = true then 2 else 0
def chkC (c : Cyc) (sizes : List Int) : Nat :=
  if sizesE sizes ≠ 0 then sizesE sizes else if c.base < 0 ∨ c.number ≤ c.base ∨ 1073741824 < c.number then 2 else if inB c.time 0 1073741824 = false then 24
  else if posE c.poss 0 ≠ 0 then posE c.poss 0 else wsE sizes c.wrs
end Go.Proofs.YtpedbpbmnchllaaGreatDoor
namespace Go.Proofs.YtpedbpbmnchllaaGreatDoor
open Go.Proofs
@[go_sem] theorem slTy22 : slTy Tryz.prog 22 = some (93, 1) := by kernel_rfl
@[go_sem] theorem slTy23 : slTy Tryz.prog 23 = some (93, 1) := by kernel_rfl
@[go_sem] theorem slTy24 : slTy Tryz.prog 24 = some (101, 3) := by kernel_rfl
@[go_sem] theorem slTy25 : slTy Tryz.prog 25 = some (24, 1) := by kernel_rfl
@[go_sem] theorem slTy29 : slTy Tryz.prog 29 = some (82, 3) := by kernel_rfl
@[go_sem] theorem slTy30 : slTy Tryz.prog 30 = some (110, 2) := by kernel_rfl
@[go_sem] theorem slTy33 : slTy Tryz.prog 33 = some (3, 1) := by kernel_rfl
@[go_sem] theorem slTy34 : slTy Tryz.prog 34 = some (106, 3) := by kernel_rfl
@[go_sem] theorem slTy41 : slTy Tryz.prog 41 = some (94, 1) := by kernel_rfl
@[go_sem] theorem arTy60 : arTy Tryz.prog 60 = some (2, false, 1) := by kernel_rfl
@[go_sem] theorem slTy72 : slTy Tryz.prog 72 = some (46, 5) := by kernel_rfl
@[go_sem] theorem slTy93 : slTy Tryz.prog 93 = some (99, 8) := by kernel_rfl
@[go_sem] theorem slTy94 : slTy Tryz.prog 94 = some (96, 2) := by kernel_rfl
@[go_sem] theorem arTy99 : arTy Tryz.prog 99 = some (8, false, 1) := by kernel_rfl
@[go_sem] theorem slTy108 : slTy Tryz.prog 108 = some (116, 1) := by kernel_rfl
@[go_sem] theorem slTy148 : slTy Tryz.prog 148 = some (32, 4) := by kernel_rfl
@[go_sem] theorem slTy190 : slTy Tryz.prog 190 = some (4, 1) := by kernel_rfl
@[go_sem] theorem slTy207 : slTy Tryz.prog 207 = some (23, 1) := by kernel_rfl
@[go_sem] theorem arTy218 : arTy Tryz.prog 218 = some (64, false, 1) := by kernel_rfl
@[go_sem] theorem ldTy3 : ldTy Tryz.prog 3 = some (false, 1) := by kernel_rfl
@[go_sem] theorem ldTy4 : ldTy Tryz.prog 4 = some (false, 1) := by kernel_rfl
@[go_sem] theorem ldTy5 : ldTy Tryz.prog 5 = some (false, 1) := by kernel_rfl
@[go_sem] theorem ldTy23 : ldTy Tryz.prog 23 = some (false, 1) := by kernel_rfl
@[go_sem] theorem ldTy24 : ldTy Tryz.prog 24 = some (false, 1) := by kernel_rfl
@[go_sem] theorem ldTy25 : ldTy Tryz.prog 25 = some (false, 1) := by kernel_rfl
@[go_sem] theorem ldTy27 : ldTy Tryz.prog 27 = some (true, 4) := by kernel_rfl
@[go_sem] theorem ldTy29 : ldTy Tryz.prog 29 = some (false, 1) := by kernel_rfl
@[go_sem] theorem ldTy30 : ldTy Tryz.prog 30 = some (false, 1) := by kernel_rfl
@[go_sem] theorem ldTy32 : ldTy Tryz.prog 32 = some (true, 4) := by kernel_rfl
@[go_sem] theorem ldTy33 : ldTy Tryz.prog 33 = some (false, 1) := by kernel_rfl
@[go_sem] theorem ldTy34 : ldTy Tryz.prog 34 = some (false, 1) := by kernel_rfl
@[go_sem] theorem ldTy36 : ldTy Tryz.prog 36 = some (true, 2) := by kernel_rfl
@[go_sem] theorem ldTy40 : ldTy Tryz.prog 40 = some (true, 8) := by kernel_rfl
@[go_sem] theorem ldTy41 : ldTy Tryz.prog 41 = some (false, 1) := by kernel_rfl
@[go_sem] theorem ldTy42 : ldTy Tryz.prog 42 = some (false, 1) := by kernel_rfl
@[go_sem] theorem ldTy46 : ldTy Tryz.prog 46 = some (true, 5) := by kernel_rfl
@[go_sem] theorem ldTy60 : ldTy Tryz.prog 60 = some (true, 2) := by kernel_rfl
@[go_sem] theorem ldTy63 : ldTy Tryz.prog 63 = some (true, 11) := by kernel_rfl
@[go_sem] theorem ldTy82 : ldTy Tryz.prog 82 = some (true, 3) := by kernel_rfl
@[go_sem] theorem ldTy93 : ldTy Tryz.prog 93 = some (false, 1) := by kernel_rfl
@[go_sem] theorem ldTy94 : ldTy Tryz.prog 94 = some (false, 1) := by kernel_rfl
@[go_sem] theorem ldTy96 : ldTy Tryz.prog 96 = some (true, 2) := by kernel_rfl
@[go_sem] theorem ldTy99 : ldTy Tryz.prog 99 = some (true, 8) := by kernel_rfl
@[go_sem] theorem ldTy101 : ldTy Tryz.prog 101 = some (true, 3) := by kernel_rfl
@[go_sem] theorem ldTy106 : ldTy Tryz.prog 106 = some (true, 3) := by kernel_rfl
@[go_sem] theorem ldTy108 : ldTy Tryz.prog 108 = some (false, 1) := by kernel_rfl
@[go_sem] theorem ldTy110 : ldTy Tryz.prog 110 = some (true, 2) := by kernel_rfl
@[go_sem] theorem ldTy116 : ldTy Tryz.prog 116 = some (false, 1) := by kernel_rfl
@[go_sem] theorem ldTy121 : ldTy Tryz.prog 121 = some (true, 8) := by kernel_rfl
@[go_sem] theorem ldTy159 : ldTy Tryz.prog 159 = some (false, 1) := by kernel_rfl
@[go_sem] theorem ldTy162 : ldTy Tryz.prog 162 = some (false, 1) := by kernel_rfl
@[go_sem] theorem ldTy233 : ldTy Tryz.prog 233 = some (false, 1) := by kernel_rfl
@[go_sem] theorem fdTy27_0 : fdTy Tryz.prog 27 0 = some (0, false, 1) := by kernel_rfl
@[go_sem] theorem fdTy27_1 : fdTy Tryz.prog 27 1 = some (1, false, 1) := by kernel_rfl
@[go_sem] theorem fdTy27_2 : fdTy Tryz.prog 27 2 = some (2, false, 1) := by kernel_rfl
@[go_sem] theorem fdTy27_3 : fdTy Tryz.prog 27 3 = some (3, false, 1) := by kernel_rfl
@[go_sem] theorem fdTy32_0 : fdTy Tryz.prog 32 0 = some (0, false, 1) := by kernel_rfl
@[go_sem] theorem fdTy32_1 : fdTy Tryz.prog 32 1 = some (1, false, 1) := by kernel_rfl
@[go_sem] theorem fdTy32_2 : fdTy Tryz.prog 32 2 = some (2, false, 1) := by kernel_rfl
@[go_sem] theorem fdTy32_3 : fdTy Tryz.prog 32 3 = some (3, false, 1) := by kernel_rfl
@[go_sem] theorem fdTy36_0 : fdTy Tryz.prog 36 0 = some (0, false, 1) := by kernel_rfl
@[go_sem] theorem fdTy36_1 : fdTy Tryz.prog 36 1 = some (1, false, 1) := by kernel_rfl
@[go_sem] theorem fdTy40_0 : fdTy Tryz.prog 40 0 = some (0, false, 1) := by kernel_rfl
@[go_sem] theorem fdTy40_1 : fdTy Tryz.prog 40 1 = some (1, false, 1) := by kernel_rfl
@[go_sem] theorem fdTy40_2 : fdTy Tryz.prog 40 2 = some (2, false, 1) := by kernel_rfl
@[go_sem] theorem fdTy40_3 : fdTy Tryz.prog 40 3 = some (3, false, 1) := by kernel_rfl
@[go_sem] theorem fdTy40_4 : fdTy Tryz.prog 40 4 = some (4, false, 1) := by kernel_rfl
@[go_sem] theorem fdTy40_5 : fdTy Tryz.prog 40 5 = some (5, false, 1) := by kernel_rfl
@[go_sem] theorem fdTy40_6 : fdTy Tryz.prog 40 6 = some (6, false, 1) := by kernel_rfl
@[go_sem] theorem fdTy40_7 : fdTy Tryz.prog 40 7 = some (7, false, 1) := by kernel_rfl
@[go_sem] theorem fdTy46_0 : fdTy Tryz.prog 46 0 = some (0, false, 1) := by kernel_rfl
@[go_sem] theorem fdTy46_1 : fdTy Tryz.prog 46 1 = some (1, false, 1) := by kernel_rfl
@[go_sem] theorem fdTy46_2 : fdTy Tryz.prog 46 2 = some (2, false, 1) := by kernel_rfl
@[go_sem] theorem fdTy46_3 : fdTy Tryz.prog 46 3 = some (3, false, 1) := by kernel_rfl
@[go_sem] theorem fdTy46_4 : fdTy Tryz.prog 46 4 = some (4, false, 1) := by kernel_rfl
@[go_sem] theorem fdTy63_0 : fdTy Tryz.prog 63 0 = some (0, true, 4) := by kernel_rfl
@[go_sem] theorem fdTy63_1 : fdTy Tryz.prog 63 1 = some (4, true, 4) := by kernel_rfl
@[go_sem] theorem fdTy63_2 : fdTy Tryz.prog 63 2 = some (8, true, 2) := by kernel_rfl
@[go_sem] theorem fdTy63_3 : fdTy Tryz.prog 63 3 = some (10, false, 1) := by kernel_rfl
@[go_sem] theorem fdTy82_0 : fdTy Tryz.prog 82 0 = some (0, false, 1) := by kernel_rfl
@[go_sem] theorem fdTy82_1 : fdTy Tryz.prog 82 1 = some (1, false, 1) := by kernel_rfl
@[go_sem] theorem fdTy82_2 : fdTy Tryz.prog 82 2 = some (2, false, 1) := by kernel_rfl
@[go_sem] theorem fdTy96_0 : fdTy Tryz.prog 96 0 = some (0, false, 1) := by kernel_rfl
@[go_sem] theorem fdTy96_1 : fdTy Tryz.prog 96 1 = some (1, false, 1) := by kernel_rfl
@[go_sem] theorem fdTy101_0 : fdTy Tryz.prog 101 0 = some (0, false, 1) := by kernel_rfl
@[go_sem] theorem fdTy101_1 : fdTy Tryz.prog 101 1 = some (1, false, 1) := by kernel_rfl
@[go_sem] theorem fdTy101_2 : fdTy Tryz.prog 101 2 = some (2, false, 1) := by kernel_rfl
@[go_sem] theorem fdTy106_0 : fdTy Tryz.prog 106 0 = some (0, false, 1) := by kernel_rfl
@[go_sem] theorem fdTy106_1 : fdTy Tryz.prog 106 1 = some (1, false, 1) := by kernel_rfl
@[go_sem] theorem fdTy106_2 : fdTy Tryz.prog 106 2 = some (2, false, 1) := by kernel_rfl
@[go_sem] theorem fdTy110_0 : fdTy Tryz.prog 110 0 = some (0, false, 1) := by kernel_rfl
@[go_sem] theorem fdTy110_1 : fdTy Tryz.prog 110 1 = some (1, false, 1) := by kernel_rfl
@[go_sem] theorem fdTy121_0 : fdTy Tryz.prog 121 0 = some (0, true, 8) := by kernel_rfl
@[go_sem] theorem fdTy196_0 : fdTy Tryz.prog 196 0 = some (0, false, 1) := by kernel_rfl
@[go_sem] theorem zcTy3 : zcTy Tryz.prog 3 = some [.int .i64 0] := by kernel_rfl
@[go_sem] theorem zcTy23 : zcTy Tryz.prog 23 = some [.slice none 0 0] := by kernel_rfl
@[go_sem] theorem zcTy32 : zcTy Tryz.prog 32 = some [.int .i64 0, .slice none 0 0, .slice none 0 0, .slice none 0 0] := by kernel_rfl
@[go_sem] theorem zcTy36 : zcTy Tryz.prog 36 = some [.slice none 0 0, .slice none 0 0] := by kernel_rfl
@[go_sem] theorem zcTy40 : zcTy Tryz.prog 40 = some [.int .i64 0, .int .i64 0, .int .i64 0, .int .i64 0, .int .i64 0, .int .i64 0, .bool false, .bool false] := by kernel_rfl
@[go_sem] theorem zcTy41 : zcTy Tryz.prog 41 = some [.slice none 0 0] := by kernel_rfl
@[go_sem] theorem zcTy42 : zcTy Tryz.prog 42 = some [.int .i64 0] := by kernel_rfl
@[go_sem] theorem zcTy46 : zcTy Tryz.prog 46 = some [.int .i64 0, .int .i64 0, .int .i64 0, .slice none 0 0, .slice none 0 0] := by kernel_rfl
@[go_sem] theorem zcTy63 : zcTy Tryz.prog 63 = some [.int .i64 0, .slice none 0 0, .slice none 0 0, .slice none 0 0, .int .i64 0, .slice none 0 0, .slice none 0 0, .slice none 0 0, .slice none 0 0, .slice none 0 0, .bool false] := by kernel_rfl
@[go_sem] theorem zcTy82 : zcTy Tryz.prog 82 = some [.int .i64 0, .int .i64 0, .int .i64 0] := by kernel_rfl
@[go_sem] theorem zcTy93 : zcTy Tryz.prog 93 = some [.slice none 0 0] := by kernel_rfl
@[go_sem] theorem zcTy94 : zcTy Tryz.prog 94 = some [.slice none 0 0] := by kernel_rfl
@[go_sem] theorem zcTy96 : zcTy Tryz.prog 96 = some [.int .i64 0, .int .i64 0] := by kernel_rfl
@[go_sem] theorem zcTy99 : zcTy Tryz.prog 99 = some [.int .u8 0, .int .u8 0, .int .u8 0, .int .u8 0, .int .u8 0, .int .u8 0, .int .u8 0, .int .u8 0] := by kernel_rfl
@[go_sem] theorem zcTy101 : zcTy Tryz.prog 101 = some [.int .i64 0, .int .i64 0, .slice none 0 0] := by kernel_rfl
@[go_sem] theorem zcTy106 : zcTy Tryz.prog 106 = some [.int .i64 0, .int .i64 0, .slice none 0 0] := by kernel_rfl
@[go_sem] theorem zcTy110 : zcTy Tryz.prog 110 = some [.int .i64 0, .slice none 0 0] := by kernel_rfl
@[go_sem] theorem zcTy116 : zcTy Tryz.prog 116 = some [.int .u64 0] := by kernel_rfl
@[go_sem] theorem zcTy121 : zcTy Tryz.prog 121 = some [.int .i64 0, .int .i64 0, .int .i64 0, .int .i64 0, .int .i64 0, .int .i64 0, .bool false, .bool false] := by kernel_rfl
@[go_sem] theorem zcTy233 : zcTy Tryz.prog 233 = some [.int .u64 0] := by kernel_rfl
@[go_sem] theorem bdTy32 : bdTy Tryz.prog 32 = some ([(0, 1), (1, 1), (2, 1), (3, 1)], [.int .i64 0, .slice none 0 0, .slice none 0 0, .slice none 0 0]) := by kernel_rfl
@[go_sem] theorem bdTy36 : bdTy Tryz.prog 36 = some ([(0, 1), (1, 1)], [.slice none 0 0, .slice none 0 0]) := by kernel_rfl
@[go_sem] theorem bdTy40 : bdTy Tryz.prog 40 = some ([(0, 1), (1, 1), (2, 1), (3, 1), (4, 1), (5, 1), (6, 1), (7, 1)], [.int .i64 0, .int .i64 0, .int .i64 0, .int .i64 0, .int .i64 0, .int .i64 0, .bool false, .bool false]) := by kernel_rfl
@[go_sem] theorem bdTy46 : bdTy Tryz.prog 46 = some ([(0, 1), (1, 1), (2, 1), (3, 1), (4, 1)], [.int .i64 0, .int .i64 0, .int .i64 0, .slice none 0 0, .slice none 0 0]) := by kernel_rfl
@[go_sem] theorem bdTy60 : bdTy Tryz.prog 60 = some ([(0, 1), (1, 1)], [.slice none 0 0, .slice none 0 0]) := by kernel_rfl
@[go_sem] theorem bdTy63 : bdTy Tryz.prog 63 = some ([(0, 4), (4, 4), (8, 2), (10, 1)], [.int .i64 0, .slice none 0 0, .slice none 0 0, .slice none 0 0, .int .i64 0, .slice none 0 0, .slice none 0 0, .slice none 0 0, .slice none 0 0, .slice none 0 0, .bool false]) := by kernel_rfl
@[go_sem] theorem bdTy82 : bdTy Tryz.prog 82 = some ([(0, 1), (1, 1), (2, 1)], [.int .i64 0, .int .i64 0, .int .i64 0]) := by kernel_rfl
@[go_sem] theorem bdTy96 : bdTy Tryz.prog 96 = some ([(0, 1), (1, 1)], [.int .i64 0, .int .i64 0]) := by kernel_rfl
@[go_sem] theorem bdTy99 : bdTy Tryz.prog 99 = some ([(0, 1), (1, 1), (2, 1), (3, 1), (4, 1), (5, 1), (6, 1), (7, 1)], [.int .u8 0, .int .u8 0, .int .u8 0, .int .u8 0, .int .u8 0, .int .u8 0, .int .u8 0, .int .u8 0]) := by kernel_rfl
@[go_sem] theorem bdTy101 : bdTy Tryz.prog 101 = some ([(0, 1), (1, 1), (2, 1)], [.int .i64 0, .int .i64 0, .slice none 0 0]) := by kernel_rfl
@[go_sem] theorem bdTy106 : bdTy Tryz.prog 106 = some ([(0, 1), (1, 1), (2, 1)], [.int .i64 0, .int .i64 0, .slice none 0 0]) := by kernel_rfl
@[go_sem] theorem bdTy110 : bdTy Tryz.prog 110 = some ([(0, 1), (1, 1)], [.int .i64 0, .slice none 0 0]) := by kernel_rfl
@[go_sem] theorem bdTy121 : bdTy Tryz.prog 121 = some ([(0, 8)], [.int .i64 0, .int .i64 0, .int .i64 0, .int .i64 0, .int .i64 0, .int .i64 0, .bool false, .bool false]) := by kernel_rfl
@[go_sem] theorem bdTy196 : bdTy Tryz.prog 196 = some ([(0, 1)], [.nilFunc]) := by kernel_rfl
@[go_sem] theorem cvTy3_216 : cvTy Tryz.prog 3 216 = some (some .u64) := by kernel_rfl
@[go_sem] theorem cvTy3_233 : cvTy Tryz.prog 3 233 = some (some .u64) := by kernel_rfl
@[go_sem] theorem cvTy5_3 : cvTy Tryz.prog 5 3 = some (some .i64) := by kernel_rfl
@[go_sem] theorem cvTy116_5 : cvTy Tryz.prog 116 5 = some (some .u8) := by kernel_rfl
@[go_sem] theorem cvTy216_3 : cvTy Tryz.prog 216 3 = some (some .i64) := by kernel_rfl
@[go_sem] theorem cvTy216_232 : cvTy Tryz.prog 216 232 = some (some .u32) := by kernel_rfl
@[go_sem] theorem cvTy232_5 : cvTy Tryz.prog 232 5 = some (some .u8) := by kernel_rfl
@[go_sem] theorem strTy9 : Tryz.prog.underlying 9 = some .string := by kernel_rfl
@[go_sem] theorem boolTy4 : Tryz.prog.underlying 4 = some .bool := by kernel_rfl
end Go.Proofs.YtpedbpbmnchllaaGreatDoor
namespace Go.Proofs.YtpedbpbmnchllaaGreatDoor
open Go.Proofs
def wv (n : Nat) : CV := .v (.int .u64 (n : Int))
theorem wrap64 {n : Nat} (h : n < 18446744073709551616) : IntKind.u64.wrap (n : Int) = (n : Int) := by
  rw [IntKind.wrap_u64]; omega
theorem and64 {a b : Nat} (ha : a < 18446744073709551616) (hb : b < 18446744073709551616) : bitop .and .u64 (a : Int) (b : Int) = ((a &&& b : Nat) : Int) := by
  show IntKind.u64.wrap ((BitVec.ofInt 64 (a : Int) &&& BitVec.ofInt 64 (b : Int)).toNat : Int) = _
  rw [BitVec.ofInt_natCast, BitVec.ofInt_natCast, BitVec.toNat_and, BitVec.toNat_ofNat, BitVec.toNat_ofNat, Nat.mod_eq_of_lt ha, Nat.mod_eq_of_lt hb]
  exact wrap64 (Nat.lt_of_le_of_lt Nat.and_le_left ha)
theorem or64 {a b : Nat} (ha : a < 18446744073709551616) (hb : b < 18446744073709551616) : bitop .or .u64 (a : Int) (b : Int) = ((a ||| b : Nat) : Int) := by
  show IntKind.u64.wrap ((BitVec.ofInt 64 (a : Int) ||| BitVec.ofInt 64 (b : Int)).toNat : Int) = _
  rw [BitVec.ofInt_natCast, BitVec.ofInt_natCast, BitVec.toNat_or, BitVec.toNat_ofNat, BitVec.toNat_ofNat, Nat.mod_eq_of_lt ha, Nat.mod_eq_of_lt hb]
  exact wrap64 (Nat.or_lt_two_pow (n := 64) ha hb)
theorem shr64 (a k : Nat) (hk : k ≤ 64) : shr .u64 (a : Int) (k : Int) = ((a >>> k : Nat) : Int) := by
  unfold shr
  have : min ((k : Int)).toNat IntKind.u64.bits = k := by
    have : IntKind.u64.bits = 64 := rfl
    omega
  rw [this, Int.fdiv_eq_ediv_of_nonneg _ (Int.le_of_lt (Int.pow_pos (by decide))), Nat.shiftRight_eq_div_pow]
  push_cast
  rfl
theorem shl64 (a k : Nat) (hk : k ≤ 64) (h : a * 2 ^ k < 18446744073709551616) : shl .u64 (a : Int) (k : Int) = ((a * 2 ^ k : Nat) : Int) := by
  unfold shl
  have : min ((k : Int)).toNat IntKind.u64.bits = k := by
    have : IntKind.u64.bits = 64 := rfl
    omega
  rw [this]
  have := wrap64 h
  push_cast at this ⊢
  exact this
def maskN (f t : Nat) : Nat := (2 ^ (t - f) - 1) * 2 ^ f
theorem maskN_bit (f t i : Nat) : (maskN f t).testBit i = (decide (f ≤ i) && decide (i < t)) := by
  rw [maskN, Nat.testBit_mul_two_pow]
  by_cases h : f ≤ i
  · rw [Nat.testBit_two_pow_sub_one]
    simp [h]; omega
  · simp [h]
theorem pow_le64 {k : Nat} (h : k ≤ 64) : 2 ^ k ≤ 18446744073709551616 := Nat.pow_le_pow_right (n := 2) (by decide) h
theorem pow_lt64 {k n : Nat} (hn : n < 2 ^ k) (h : k ≤ 64) : n < 18446744073709551616 := Nat.lt_of_lt_of_le hn (pow_le64 h)
theorem maskN_lt (f t : Nat) : maskN f t < 2 ^ (max f t) := by
  rw [maskN]
  have h1 : 0 < 2 ^ (t - f) := Nat.two_pow_pos _
  have h2 : 0 < 2 ^ f := Nat.two_pow_pos _
  have : 2 ^ (t - f) * 2 ^ f = 2 ^ (max f t) := by rw [← Nat.pow_add]; congr 1; omega
  rw [Nat.sub_mul, this]
  have : 0 < 2 ^ (max f t) := Nat.two_pow_pos _
  omega
theorem shrAll {d : Nat} (h : d ≤ 64) : 18446744073709551615 >>> (64 - d) = 2 ^ d - 1 := by
  rw [Nat.shiftRight_eq_div_pow]
  have h1 : 2 ^ d * 2 ^ (64 - d) = 18446744073709551616 := by rw [← Nat.pow_add, show d + (64 - d) = 64 by omega]
  have h2 : 0 < 2 ^ (64 - d) := Nat.two_pow_pos _
  have h3 : 0 < 2 ^ d := Nat.two_pow_pos _
  rw [Nat.div_eq_iff h2]
  rw [Nat.sub_mul, h1]
  omega
theorem odd_bit (m j : Nat) : (2 * m + 1).testBit j = (decide (j = 0) || (decide (0 < j) && m.testBit (j - 1))) := by
  cases j with
  | zero => simp [Nat.testBit_zero]
  | succ j => rw [Nat.testBit_succ]; simp; congr 1; omega
theorem even_bit (m j : Nat) : (2 * m).testBit j = (decide (0 < j) && m.testBit (j - 1)) := by
  cases j with
  | zero => simp [Nat.testBit_zero]
  | succ j => rw [Nat.testBit_succ]; simp
theorem low_form : ∀ (w : Nat), 0 < w → ∃ k m, w = (2 * m + 1) * 2 ^ k := by
  intro w
  induction w using Nat.strongRecOn with
  | ind w ih =>
    intro h
    rcases Nat.mod_two_eq_zero_or_one w with h2 | h2
    · obtain ⟨k, m, e⟩ := ih (w / 2) (by omega) (by omega)
      exact ⟨k + 1, m, by rw [Nat.pow_succ, ← Nat.mul_assoc, ← e]; omega⟩
    · exact ⟨0, w / 2, by omega⟩
theorem low_lt {k m n : Nat} (h : (2 * m + 1) * 2 ^ k < 2 ^ n) : k < n := by
  have : 2 ^ k < 2 ^ n := Nat.lt_of_le_of_lt (Nat.le_mul_of_pos_left _ (by omega)) h
  exact (Nat.pow_lt_pow_iff_right (by decide)).1 this
theorem low_bit (k m i : Nat) : ((2 * m + 1) * 2 ^ k).testBit i = (decide (i = k) || (decide (k < i) && m.testBit (i - k - 1))) := by
  rw [Nat.testBit_mul_two_pow]
  rcases Nat.lt_trichotomy i k with h | h | h
  · simp [show ¬ k ≤ i by omega, show ¬ i = k by omega, show ¬ k < i by omega]
  · subst h; simp [odd_bit]
  · rw [odd_bit]; simp [show k ≤ i by omega, show ¬ i = k by omega, h, show ¬ (i - k = 0) by omega, show 0 < i - k by omega]
theorem low_bit1 (k m i : Nat) : ((2 * m + 1) * 2 ^ k - 1).testBit i = (decide (i < k) || (decide (k < i) && m.testBit (i - k - 1))) := by
  have hp : 0 < 2 ^ k := Nat.two_pow_pos _
  have e : (2 * m + 1) * 2 ^ k - 1 = 2 ^ k * (2 * m) + (2 ^ k - 1) := by
    rw [Nat.add_mul, Nat.one_mul, Nat.mul_comm (2 ^ k)]; omega
  rw [e, Nat.testBit_two_pow_mul_add _ (by omega)]
  rcases Nat.lt_trichotomy i k with h | h | h
  · rw [if_pos h, Nat.testBit_two_pow_sub_one]; simp [h]
  · subst h; rw [if_neg (by omega), even_bit]; simp
  · rw [if_neg (by omega), even_bit]; simp [h, show ¬ i < k by omega, show 0 < i - k by omega]
theorem low_neg {k m : Nat} (h : (2 * m + 1) * 2 ^ k < 18446744073709551616) : (2 * m + 1) * 2 ^ k &&& (18446744073709551616 - (2 * m + 1) * 2 ^ k) = 2 ^ k := by
  have hp : 0 < (2 * m + 1) * 2 ^ k := Nat.mul_pos (by omega) (Nat.two_pow_pos _)
  refine Nat.eq_of_testBit_eq fun i => ?_
  have e : 18446744073709551616 - (2 * m + 1) * 2 ^ k = 2 ^ 64 - ((2 * m + 1) * 2 ^ k - 1 + 1) := by
    rw [Nat.sub_add_cancel hp]
  rw [Nat.testBit_and, e, Nat.testBit_two_pow_sub_succ (by show _ < 18446744073709551616; omega), low_bit, low_bit1, Nat.testBit_two_pow]
  have hk : k < 64 := low_lt (n := 64) h
  rcases Nat.lt_trichotomy i k with h1 | h1 | h1
  · simp [h1, show ¬ i = k by omega, show ¬ k < i by omega, show ¬ k = i by omega]
  · subst h1; simp [hk]
  · simp [h1, show ¬ i = k by omega, show ¬ i < k by omega, show ¬ k = i by omega, show 0 < i - k by omega]
    intro h2 _; exact h2
theorem low_clr (k m : Nat) : (2 * m + 1) * 2 ^ k &&& ((2 * m + 1) * 2 ^ k - 1) = (2 * m) * 2 ^ k := by
  refine Nat.eq_of_testBit_eq fun i => ?_
  rw [Nat.testBit_and, low_bit, low_bit1, Nat.testBit_mul_two_pow]
  rcases Nat.lt_trichotomy i k with h1 | h1 | h1
  · simp [h1, show ¬ i = k by omega, show ¬ k < i by omega, show ¬ k ≤ i by omega]
  · subst h1; simp [even_bit]
  · rw [even_bit]; simp [h1, show ¬ i = k by omega, show ¬ i < k by omega, show k ≤ i by omega, show 0 < i - k by omega]
def elsN (n w : Nat) : List Nat := (List.range n).filter (fun i => w.testBit i)
theorem filter_first (n k : Nat) (p q : Nat → Bool) (hk : k < n) (h1 : ∀ i, i < k → p i = false ∧ q i = false) (h2 : p k = true) (h3 : q k = false) (h4 : ∀ i, k < i → p i = q i) : (List.range n).filter p = k :: (List.range n).filter q := by
  obtain ⟨r, rfl⟩ : ∃ r, n = k + (1 + r) := ⟨n - k - 1, by omega⟩
  have e : List.range (k + (1 + r)) = List.range k ++ k :: (List.range r).map (fun i => k + (1 + i)) := by
    rw [List.range_add, List.range_add, List.map_append, List.map_map]
    rfl
  rw [e, List.filter_append, List.filter_append, List.filter_cons_of_pos h2, List.filter_cons_of_neg (by rw [h3]; simp)]
  have f1 : (List.range k).filter p = [] := by rw [List.filter_eq_nil_iff]; intro i hi; rw [(h1 i (List.mem_range.1 hi)).1]; simp
  have f2 : (List.range k).filter q = [] := by rw [List.filter_eq_nil_iff]; intro i hi; rw [(h1 i (List.mem_range.1 hi)).2]; simp
  rw [f1, f2, List.nil_append, List.nil_append]
  congr 1
  refine List.filter_congr fun i hi => ?_
  obtain ⟨j, _, rfl⟩ := List.mem_map.1 hi
  exact h4 _ (by omega)
theorem elsN_zero (n : Nat) : elsN n 0 = [] := by
  rw [elsN, List.filter_eq_nil_iff]; simp
theorem elsN_low {n k m : Nat} (hk : k < n) : elsN n ((2 * m + 1) * 2 ^ k) = k :: elsN n ((2 * m) * 2 ^ k) := by
  refine filter_first n k _ _ hk (fun i hi => ?_) ?_ ?_ fun i hi => ?_
  · rw [low_bit, Nat.testBit_mul_two_pow]; simp; omega
  · rw [low_bit]; simp
  · rw [Nat.testBit_mul_two_pow, even_bit]; simp
  · rw [low_bit, Nat.testBit_mul_two_pow, even_bit]; simp [show ¬ i = k by omega, hi, show k ≤ i by omega, show 0 < i - k by omega]
theorem clr_le (k m : Nat) : (2 * m) * 2 ^ k < (2 * m + 1) * 2 ^ k := by
  rw [Nat.add_mul, Nat.one_mul]
  have := Nat.two_pow_pos k; omega
theorem bruijn_all : (List.range 64).all (fun k => decide (dbT[((2 ^ k * 285870213051353865) % 18446744073709551616) / 288230376151711744]? = some k)) = true := by kernel_rfl
theorem bruijn (k : Nat) (h : k < 64) : dbT[((2 ^ k * 285870213051353865) % 18446744073709551616) / 288230376151711744]? = some k := by
  have := List.all_eq_true.1 bruijn_all k (List.mem_range.2 h)
  exact of_decide_eq_true this
end Go.Proofs.YtpedbpbmnchllaaGreatDoor
namespace Go.Proofs.YtpedbpbmnchllaaGreatDoor
end Go.Proofs.YtpedbpbmnchllaaGreatDoor
namespace Go.Proofs.YtpedbpbmnchllaaGreatDoor
open Go.Proofs
def sb (s : Sec) (i : Nat) : Nat := (s.val.getD i 0).toNat
def gi (s : Sec) : Nat → Nat
  | 0 => 0
  | i + 1 => gi s i * 256 + sb s (3 - i)
def gn (s : Sec) : Nat := gi s 4
end Go.Proofs.YtpedbpbmnchllaaGreatDoor
namespace Go.Proofs.YtpedbpbmnchllaaGreatDoor
end Go.Proofs.YtpedbpbmnchllaaGreatDoor
namespace Go.Proofs.YtpedbpbmnchllaaGreatDoor
instance : DecidableEq Sec := fun a b => decidable_of_iff (a.val = b.val) ⟨fun h => by obtain ⟨x, hx⟩ := a; obtain ⟨y, hy⟩ := b; dsimp only at h; subst h; rfl, fun h => by rw [h]⟩
deriving instance DecidableEq for Wr
end Go.Proofs.YtpedbpbmnchllaaGreatDoor
namespace Go.Proofs.YtpedbpbmnchllaaGreatDoor
open Go.Proofs
theorem in_cc (H : Hp) (V : List Nat) (a b c : Int) : CC Tryz.prog 81 [ci a, ci b, ci c] H V (Pu (cb (inB a b c)) H V) := by
  refine CC.of_swp Tryz.func81 rfl (by kernel_rfl) (by rw [Tryz.ntmps81]; exact len_le _ _ rfl) fun hok hokH => ?_
  clear hok
  refine SWp.seq (Wp.s ?_)
  simp -implicitDefEqProofs [go_sem, args0]
  by_cases h : b ≤ a
  · refine Wp.s ?_
    simp -implicitDefEqProofs [go_sem, h]
    exact Fin.bool (by simp [inB, h]) hokH (by simp) (by simp)
  · refine Wp.s ?_
    simp -implicitDefEqProofs [go_sem, h]
    exact Fin.bool (by simp [inB, h]) hokH (by simp) (by simp)
theorem indexInt_cc (H : Hp) (V : List Nat) (tk : Tk) (l : List Int) (g : Nat) (p : Int → Bool) (hg : ∀ (H : Hp) (V : List Nat) (a : Int), CC Tryz.prog g [ci a] H V (Pu (cb (p a)) H V)) (hl : l.length ≤ 9223372036854775807) :
    CC Tryz.prog 139 [.sl tk 1 (l.map ic), .fn g []] H V (Ix (l.any p) H V) := by
  refine CC.of_swp Tryz.func139 rfl (by kernel_rfl) (by rw [Tryz.ntmps139]; exact len_le _ _ rfl) fun hok hokH => ?_
  clear hok
  refine SWp.seq (Wp.s ?_)
  simp -implicitDefEqProofs [go_sem, args0]
  refine SWp.join (α := Unit) (fun _ => ([], H, V)) (fun _ => l.any p = false) ?_ ?_
  · refine SWp.seq (Wp.s ?_)
    simp -implicitDefEqProofs [go_sem]
    refine SWp.block ?_
    refine SWp.loop (α := Nat) (fun i => ([(0, .sl tk 1 (l.map ic)), (1, .fn g []), (7, ci l.length), (8, ci i)], H, V)) (fun i => i ≤ l.length ∧ (l.take i).any p = false) (fun i => l.length - i) 0 ⟨Nat.zero_le _, rfl⟩
      (Sh.forget (by simp [go_sem]) rfl rfl) ?_
    rintro i ⟨hi, hp⟩
    dsimp only
    refine Wp.s ?_
    simp -implicitDefEqProofs [go_sem]
    refine ⟨fun h => ⟨h, ?_⟩, fun h => ⟨?_, Sh.forget (by simp [go_sem]) rfl rfl⟩⟩
    · refine CC.mono (hg _ _ _) ?_
      rintro _ _ _ ⟨rfl, rfl, rfl⟩
      rcases hq : p l[i] with - | -
      · simp -implicitDefEqProofs [go_sem]
        refine ⟨i + 1, ⟨by omega, by simpa using any_take h hp hq⟩, by omega, Sh.forget ?_ rfl rfl⟩
        simp [go_sem, wrap_big (show i < 9223372036854775807 by omega)]
      · simp -implicitDefEqProofs [go_sem]
        exact Fin.ix (by rw [any_at h hq]; simp) hokH (by simp) (by simp)
    · rw [List.take_of_length_le h] at hp; simpa using hp
  · rintro _ hp
    dsimp only
    refine Wp.s ?_
    simp -implicitDefEqProofs [go_sem]
    exact Fin.ix (by rw [hp]; rfl) hokH (by simp) (by simp)
theorem containsInt_cc (H : Hp) (V : List Nat) (tk : Tk) (l : List Int) (g : Nat) (p : Int → Bool) (hg : ∀ (H : Hp) (V : List Nat) (a : Int), CC Tryz.prog g [ci a] H V (Pu (cb (p a)) H V)) (hl : l.length ≤ 9223372036854775807) :
    CC Tryz.prog 119 [.sl tk 1 (l.map ic), .fn g []] H V (Pu (cb (l.any p)) H V) := by
  refine CC.of_swp Tryz.func119 rfl (by kernel_rfl) (by rw [Tryz.ntmps119]; exact len_le _ _ rfl) fun hok hokH => Wp.s ?_
  simp -implicitDefEqProofs [go_sem, args0]
  refine CC.mono (indexInt_cc _ _ _ _ _ _ hg hl) ?_
  rintro _ _ _ ⟨k, rfl, hk, rfl, rfl⟩
  simp -implicitDefEqProofs [go_sem]
  exact Fin.bool hk hokH (by simp) (by simp)
theorem pos1_cc (H : Hp) (V : List Nat) (a : Int) : CC Tryz.prog 120 [ci a] H V (Pu (cb (badPos a)) H V) := by
  refine CC.of_swp Tryz.func120 rfl (by kernel_rfl) (by rw [Tryz.ntmps120]; exact len_le _ _ rfl) fun hok hokH => ?_
  clear hok
  refine SWp.seq (Wp.s ?_)
  simp -implicitDefEqProofs [go_sem, args0]
  refine SWp.seq (Wp.s ?_)
  simp -implicitDefEqProofs [go_sem]
  refine CC.mono (in_cc _ _ a 0 1073741824) ?_
  rintro _ _ _ ⟨rfl, rfl, rfl⟩
  simp -implicitDefEqProofs [go_sem]
  refine Wp.s ?_
  simp -implicitDefEqProofs [go_sem]
  exact Fin.bool rfl hokH (by simp) (by simp)
theorem positions_cc (H : Hp) (V : List Nat) (tk : Tk) (l : List Int) (n : Int) (hl : l.length ≤ 9223372036854775807) : CC Tryz.prog 82 [.sl tk 1 (l.map ic), ci n] H V (Pu (er (posE l n)) H V) := by
  refine CC.of_swp Tryz.func82 rfl (by kernel_rfl) (by rw [Tryz.ntmps82]; exact len_le _ _ rfl) fun hok hokH => ?_
  clear hok
  refine SWp.seq (Wp.s ?_)
  simp -implicitDefEqProofs [go_sem, args0]
  refine SWp.seq (Wp.s ?_)
  simp -implicitDefEqProofs [go_sem]
  refine CC.mono (in_cc _ _ l.length n 8) ?_
  rintro _ _ _ ⟨rfl, rfl, rfl⟩
  rcases h : inB l.length n 8 with - | -
  · simp -implicitDefEqProofs [go_sem]
    exact Fin.er (by rw [posE, if_pos h]) hokH (by simp) (by simp)
  simp -implicitDefEqProofs [go_sem]
  refine SWp.seq (Wp.s ?_)
  simp -implicitDefEqProofs [go_sem]
  refine CC.mono (containsInt_cc _ _ tk l _ badPos (fun H V a => pos1_cc H V a) hl) ?_
  rintro _ _ _ ⟨rfl, rfl, rfl⟩
  rcases h2 : l.any badPos with - | -
  · simp -implicitDefEqProofs [go_sem]
    refine Wp.s ?_
    simp -implicitDefEqProofs [go_sem]
    exact Fin.er (by rw [posE, if_neg (by simp [h]), if_neg (by simp [h2])]) hokH (by simp) (by simp)
  · simp -implicitDefEqProofs [go_sem]
    exact Fin.er (by rw [posE, if_neg (by simp [h]), if_pos h2]) hokH (by simp) (by simp)
theorem size1_cc (H : Hp) (V : List Nat) (a : Int) : CC Tryz.prog 130 [ci a] H V (Pu (cb (badSz a)) H V) := by
  refine CC.of_swp Tryz.func130 rfl (by kernel_rfl) (by rw [Tryz.ntmps130]; exact len_le _ _ rfl) fun hok hokH => ?_
  clear hok
  refine SWp.seq (Wp.s ?_)
  simp -implicitDefEqProofs [go_sem, args0]
  by_cases h : a < 1
  · refine Wp.s ?_
    simp -implicitDefEqProofs [go_sem, h]
    exact Fin.bool (by simp [badSz, h]) hokH (by simp) (by simp)
  · refine Wp.s ?_
    simp -implicitDefEqProofs [go_sem, h]
    exact Fin.bool (by simp [badSz, h]) hokH (by simp) (by simp)
theorem checkSizes_cc (H : Hp) (V : List Nat) (tk : Tk) (l : List Int) (hl : l.length ≤ 9223372036854775807) : CC Tryz.prog 95 [.sl tk 1 (l.map ic)] H V (Pu (er (sizesE l)) H V) := by
  refine CC.of_swp Tryz.func95 rfl (by kernel_rfl) (by rw [Tryz.ntmps95]; exact len_le _ _ rfl) fun hok hokH => ?_
  clear hok
  refine SWp.seq (Wp.s ?_)
  simp -implicitDefEqProofs [go_sem, args0]
  refine SWp.seq (Wp.s ?_)
  by_cases h1 : l.length < 1
  · simp -implicitDefEqProofs [go_sem, h1, show (l.length : Int) < 1 by omega]
    exact Fin.er (by rw [sizesE, if_pos (.inl h1)]) hokH (by simp) (by simp)
  by_cases h2 : 8 < l.length
  · simp -implicitDefEqProofs [go_sem, h1, show ¬ (l.length : Int) < 1 by omega, show (8 : Int) < l.length by omega]
    exact Fin.er (by rw [sizesE, if_pos (.inr h2)]) hokH (by simp) (by simp)
  simp -implicitDefEqProofs [go_sem, h1, show ¬ (l.length : Int) < 1 by omega, show ¬ (8 : Int) < l.length by omega]
  refine SWp.seq (Wp.s ?_)
  simp -implicitDefEqProofs [go_sem]
  refine CC.mono (containsInt_cc _ _ tk l _ badSz (fun H V a => size1_cc H V a) hl) ?_
  rintro _ _ _ ⟨rfl, rfl, rfl⟩
  rcases h3 : l.any badSz with - | -
  · simp -implicitDefEqProofs [go_sem]
    refine Wp.s ?_
    simp -implicitDefEqProofs [go_sem]
    exact Fin.er (by rw [sizesE, if_neg (by omega), if_neg (by simp [h3])]) hokH (by simp) (by simp)
  · simp -implicitDefEqProofs [go_sem]
    exact Fin.er (by rw [sizesE, if_neg (by omega), if_pos h3]) hokH (by simp) (by simp)
end Go.Proofs.YtpedbpbmnchllaaGreatDoor
namespace Go.Proofs.YtpedbpbmnchllaaGreatDoor
open Go.Proofs
end Go.Proofs.YtpedbpbmnchllaaGreatDoor
namespace Go.Proofs.YtpedbpbmnchllaaGreatDoor
open Go.Proofs
theorem new1_cc (H : Hp) (V : List Nat) (n : Int) (h0 : 0 ≤ n) (h1 : n ≤ 1000000) : CC Tryz.prog 118 [ci n] H V (Pu (secsV (zer n.toNat)) H V) := by
  refine CC.of_swp Tryz.func118 rfl (by kernel_rfl) (by rw [Tryz.ntmps118]; exact len_le _ _ rfl) fun hok hokH => ?_
  clear hok
  have hz : (List.replicate n.toNat [CV.v (.int .u8 0), CV.v (.int .u8 0), CV.v (.int .u8 0), CV.v (.int .u8 0), CV.v (.int .u8 0), CV.v (.int .u8 0), CV.v (.int .u8 0), CV.v (.int .u8 0)]).flatten = secsF (zer n.toNat) := zeros_secs n.toNat
  refine SWp.seq (Wp.s ?_)
  simp -implicitDefEqProofs [go_sem, args0]
  refine Wp.s ?_
  simp -implicitDefEqProofs [go_sem]
  refine ⟨h0, by omega, ?_⟩
  rw [hz]
  exact Fin.froz (b := H.length) (cs := secsF (zer n.toNat)) ⟨rfl, rfl, rfl⟩ (.refl _) (by simp) (xs := (zer n.toNat).map secC) (by have := chunks_secs (zer n.toNat); rw [zer_len] at this; rw [List.drop_zero, this]) (by simp; omega) (by omega) (by simp [go_sem]) hokH (by simp) (by simp)
theorem mapNew_cc (H : Hp) (V : List Nat) (tk : Tk) (l : List Int) (hl : l.length ≤ 1000000) (hn : ∀ n ∈ l, 0 ≤ n ∧ n ≤ 1000000) : CC Tryz.prog 117 [.sl tk 1 (l.map ic), .fn 118 []] H V (Fr 1 ((imOf l).map imE) H V) := by
  refine CC.of_swp Tryz.func117 rfl (by kernel_rfl) (by rw [Tryz.ntmps117]; exact len_le _ _ rfl) fun hok hokH => ?_
  clear hok
  refine SWp.seq (Wp.s ?_)
  simp -implicitDefEqProofs [go_sem, args0]
  refine SWp.seq (Wp.s ?_)
  simp -implicitDefEqProofs [go_sem]
  refine ⟨by omega, ?_⟩
  refine SWp.join (α := Unit) (fun _ => ([(5, .sl (.own V.length l.length) 1 ((imOf l).map imE))], H, V ++ [l.length])) (fun _ => True) ?_ ?_
  · refine SWp.seq (Wp.s ?_)
    simp -implicitDefEqProofs [go_sem]
    refine SWp.block ?_
    refine SWp.loop (α := Nat) (fun i => ([(1, .fn 118 []), (5, .sl (.own V.length i) 1 ((imOf (l.take i)).map imE)), (11, .sl tk 1 (l.map ic)), (12, ci l.length), (13, ci i)], H, V ++ [i])) (fun i => i ≤ l.length) (fun i => l.length - i) 0 (Nat.zero_le _) (Sh.forget (by simp [go_sem, imOf]) rfl rfl) ?_
    intro i hi
    dsimp only
    refine Wp.s ?_
    simp -implicitDefEqProofs [go_sem]
    refine ⟨fun h => ⟨h, ?_⟩, fun h => Sh.forget (by simp [go_sem]; rw [List.take_of_length_le h]; exact .of_eq (by rw [show i = l.length by omega])) rfl (by rw [show i = l.length by omega])⟩
    obtain ⟨n1, n2⟩ := hn l[i] (List.getElem_mem h)
    refine CC.mono (new1_cc _ _ l[i] n1 n2) ?_
    rintro _ _ _ ⟨rfl, rfl, rfl⟩
    simp -implicitDefEqProofs [go_sem]
    refine ⟨by omega, i + 1, by omega, by omega, Sh.forget ?_ rfl rfl⟩
    have : (imOf (l.take (i + 1))).map imE = (imOf (l.take i)).map imE ++ [imE (zer l[i].toNat)] := by
      rw [List.take_succ_eq_append_getElem h, imOf, List.map_append, List.map_append]; rfl
    rw [this]
    simp [go_sem, wrap_succ (show i ≤ 1000000000 by omega)]
    exact .refl _
  · rintro _ -
    dsimp only
    refine Wp.s ?_
    simp -implicitDefEqProofs [go_sem]
    exact Fin.fr (by simp [go_sem]) hokH (by simp)
theorem New_cc (H : Hp) (V : List Nat) (tk : Tk) (l : List Int) (hl : l.length ≤ 9223372036854775807) : CC Tryz.prog 80 [.sl tk 1 (l.map ic)] H V (Pu (.tup [imV (if sizesE l ≠ 0 then [] else imOf l), er (sizesE l)]) H V) := by
  refine CC.of_swp Tryz.func80 rfl (by kernel_rfl) (by rw [Tryz.ntmps80]; exact len_le _ _ rfl) fun hok hokH => ?_
  clear hok
  refine SWp.seq (Wp.s ?_)
  simp -implicitDefEqProofs [go_sem, args0]
  refine SWp.seq (Wp.s ?_)
  simp -implicitDefEqProofs [go_sem]
  refine CC.mono (checkSizes_cc _ _ tk l hl) ?_
  rintro _ _ _ ⟨rfl, rfl, rfl⟩
  by_cases he : sizesE l = 0
  · simp -implicitDefEqProofs [go_sem, he]
    refine Wp.s ?_
    simp -implicitDefEqProofs [go_sem]
    obtain ⟨s1, s2, s3⟩ := sizesE_0 he
    refine CC.mono (mapNew_cc _ _ tk l (by omega) (fun n hn => by have := s3 n hn; omega)) ?_
    rintro _ _ _ ⟨v, rfl, rfl, rfl⟩
    simp -implicitDefEqProofs [go_sem]
    exact Fin.tup2 (.sh _ _ _) (.refl _) (by simp [go_sem]) (by simp [go_sem]) hokH (by simp) (by simp)
  · simp -implicitDefEqProofs [go_sem, he]
    exact Fin.tup2 (.nil 1 (by decide)) (.refl _) (by simp [go_sem]) (by simp [go_sem]) hokH (by simp) (by simp)
theorem sizes1_cc (H : Hp) (V : List Nat) (v : List Sec) : CC Tryz.prog 132 [secsV v] H V (Pu (ci v.length) H V) := by
  refine CC.of_swp Tryz.func132 rfl (by kernel_rfl) (by rw [Tryz.ntmps132]; exact len_le _ _ rfl) fun hok hokH => ?_
  clear hok
  refine SWp.seq (Wp.s ?_)
  simp -implicitDefEqProofs [go_sem, args0]
  refine Wp.s ?_
  simp -implicitDefEqProofs [go_sem]
  exact Fin.int rfl hokH (by simp) (by simp)
theorem mapSz_cc (H : Hp) (V : List Nat) (tk : Tk) (l : Img) (hl : l.length ≤ 1000000000) : CC Tryz.prog 131 [.sl tk 1 (l.map imE), .fn 132 []] H V (Fr 1 ((imgSz l).map ic) H V) := by
  refine CC.of_swp Tryz.func131 rfl (by kernel_rfl) (by rw [Tryz.ntmps131]; exact len_le _ _ rfl) fun hok hokH => ?_
  clear hok
  refine SWp.seq (Wp.s ?_)
  simp -implicitDefEqProofs [go_sem, args0]
  refine SWp.seq (Wp.s ?_)
  simp -implicitDefEqProofs [go_sem]
  refine ⟨by omega, ?_⟩
  refine SWp.join (α := Unit) (fun _ => ([(5, .sl (.own V.length l.length) 1 ((imgSz l).map ic))], H, V ++ [l.length])) (fun _ => True) ?_ ?_
  · refine SWp.seq (Wp.s ?_)
    simp -implicitDefEqProofs [go_sem]
    refine SWp.block ?_
    refine SWp.loop (α := Nat) (fun i => ([(1, .fn 132 []), (5, .sl (.own V.length i) 1 ((imgSz (l.take i)).map ic)), (11, .sl tk 1 (l.map imE)), (12, ci l.length), (13, ci i)], H, V ++ [i])) (fun i => i ≤ l.length) (fun i => l.length - i) 0 (Nat.zero_le _) (Sh.forget (by simp [go_sem, imgSz]) rfl rfl) ?_
    intro i hi
    dsimp only
    refine Wp.s ?_
    simp -implicitDefEqProofs [go_sem]
    refine ⟨fun h => ⟨h, ?_⟩, fun h => Sh.forget (by simp [go_sem]; rw [List.take_of_length_le h]; exact .of_eq (by rw [show i = l.length by omega])) rfl (by rw [show i = l.length by omega])⟩
    refine CC.mono (sizes1_cc _ _ l[i]) ?_
    rintro _ _ _ ⟨rfl, rfl, rfl⟩
    simp -implicitDefEqProofs [go_sem]
    refine ⟨by omega, i + 1, by omega, by omega, Sh.forget ?_ rfl rfl⟩
    have : (imgSz (l.take (i + 1))).map ic = (imgSz (l.take i)).map ic ++ [[ci l[i].length]] := by
      rw [List.take_succ_eq_append_getElem h, imgSz, List.map_append, List.map_append]; rfl
    rw [this]
    simp [go_sem, wrap_succ (show i ≤ 1000000000 by omega)]
  · rintro _ -
    dsimp only
    refine Wp.s ?_
    simp -implicitDefEqProofs [go_sem]
    exact Fin.fr (by simp [go_sem, okE_ints]) hokH (by simp)
theorem sizes_cc (H : Hp) (V : List Nat) (tk : Tk) (l : Img) (hl : l.length ≤ 1000000000) : CC Tryz.prog 96 [.sl tk 1 (l.map imE)] H V (Fr 1 ((imgSz l).map ic) H V) := by
  refine CC.of_swp Tryz.func96 rfl (by kernel_rfl) (by rw [Tryz.ntmps96]; exact len_le _ _ rfl) fun hok hokH => ?_
  clear hok
  refine SWp.seq (Wp.s ?_)
  simp -implicitDefEqProofs [go_sem, args0]
  refine Wp.s ?_
  simp -implicitDefEqProofs [go_sem]
  refine CC.mono (mapSz_cc _ _ tk l hl) ?_
  rintro _ _ _ ⟨v, rfl, rfl, rfl⟩
  simp -implicitDefEqProofs [go_sem]
  exact Fin.fr (by simp [go_sem, okE_ints]) hokH (by simp)
theorem iCheck_cc (H : Hp) (V : List Nat) (tk : Tk) (l : Img) (hl : l.length ≤ 1000000000) : CC Tryz.prog 54 [.sl tk 1 (l.map imE)] H V (Pu (er (sizesE (imgSz l))) H V) := by
  refine CC.of_swp Tryz.func54 rfl (by kernel_rfl) (by rw [Tryz.ntmps54]; exact len_le _ _ rfl) fun hok hokH => ?_
  clear hok
  refine SWp.seq (Wp.s ?_)
  simp -implicitDefEqProofs [go_sem, args0]
  refine Wp.s ?_
  simp -implicitDefEqProofs [go_sem]
  refine CC.mono (sizes_cc _ _ tk l hl) ?_
  rintro _ _ _ ⟨v, rfl, rfl, rfl⟩
  simp -implicitDefEqProofs [go_sem]
  refine CC.mono (checkSizes_cc _ _ _ (imgSz l) (by simp; omega)) ?_
  rintro _ _ _ ⟨rfl, rfl, rfl⟩
  simp -implicitDefEqProofs [go_sem]
  exact Fin.er rfl hokH (by simp) (by simp)
end Go.Proofs.YtpedbpbmnchllaaGreatDoor
namespace Go.Proofs.YtpedbpbmnchllaaGreatDoor
open Go.Proofs
theorem imgSz_getD (l : Img) (n : Nat) (h : n < l.length) : (imgSz l).getD n 0 = ((l[n]).length : Int) := by
  rw [List.getD_eq_getElem?_getD, imgSz, List.getElem?_map, List.getElem?_eq_getElem h]; rfl
theorem fits_cc (H : Hp) (V : List Nat) (tk : Tk) (l : Img) (w : Wr) (hl : l.length ≤ 1000000000) (hs : ∀ v ∈ l, v.length ≤ 1000000000) (hw : w.data.length ≤ 1000000000) : CC Tryz.prog 75 [.sl tk 1 (l.map imE), .agg (wrC w)] H V (Pu (er (fitsS (imgSz l) w)) H V) := by
  refine CC.of_swp Tryz.func75 rfl (by kernel_rfl) (by rw [Tryz.ntmps75]; exact len_le _ _ rfl) fun hok hokH => ?_
  clear hok
  refine SWp.seq (Wp.s ?_)
  simp -implicitDefEqProofs [go_sem, args0]
  refine SWp.seq (SWp.block (SWp.seq (Wp.s ?_)))
  by_cases h1 : w.volume < 0
  · simp -implicitDefEqProofs [go_sem, h1]
    refine Wp.s ?_
    simp -implicitDefEqProofs [go_sem]
    exact Fin.er (by rw [fitsS, if_pos (.inl h1)]) hokH (by simp) (by simp)
  by_cases h2 : (l.length : Int) ≤ w.volume
  · simp -implicitDefEqProofs [go_sem, h1, h2]
    refine Wp.s ?_
    simp -implicitDefEqProofs [go_sem]
    exact Fin.er (by rw [fitsS, if_pos (.inr (by simpa using h2))]) hokH (by simp) (by simp)
  simp -implicitDefEqProofs [go_sem, h1, h2]
  refine Wp.s ?_
  obtain ⟨n, hn⟩ := Int.eq_ofNat_of_zero_le (Int.not_lt.1 h1)
  have hnl : n < l.length := by omega
  have hvl := hs l[n] (List.getElem_mem hnl)
  by_cases h3 : w.data.length = 0
  · simp -implicitDefEqProofs [go_sem, h1, h2, h3]
    exact Fin.er (by rw [fitsS, if_neg (by simp; omega), if_pos h3]) hokH (by simp) (by simp)
  simp -implicitDefEqProofs [go_sem, h1, h2, h3]
  refine SWp.drawnT [] [] (.s 0 .pl <| .s 1 .pl <| .s 2 .pl <| .s 3 .pl <| .s 4 .pl <| .s 5 .pl <| .s 6 .pl <| .s 7 .pl <| .s 8 .pl <| .s 9 .pl <| .s 10 .pl <| .s 11 .pl <| .s 12 .pl <| .s 13 .pl <| .s 14 .pl <| .s 15 .pl <| .s 16 .pl <| .s 17 .pl <| .s 18 .pl <| .n) (by kernel_rfl) (by kernel_rfl) ?_
  have hg : (imgSz l).getD w.volume.toNat 0 = (l[n].length : Int) := by rw [hn]; exact imgSz_getD l n hnl
  have hwr : IntKind.i64.wrap ((l[n].length : Int) - (w.data.length : Int)) = (l[n].length : Int) - (w.data.length : Int) := IntWalk.i64_in _ ⟨by omega, by omega⟩
  have hfit : fitsS (imgSz l) w = if w.start < 0 ∨ (l[n].length : Int) - (w.data.length : Int) < w.start then 2 else 0 := by
    rw [fitsS, if_neg (by simp; omega), if_neg h3, hg]
  rw [hfit]
  by_cases h4 : w.start < 0
  · simp -implicitDefEqProofs [go_sem, h4]
    exact Fin.er rfl hokH (by simp) (by simp)
  · simp -implicitDefEqProofs [go_sem, h4, hn, hnl, hwr]
    refine ⟨fun h5 => Fin.er (by rw [if_pos h5]) hokH (by simp) (by simp), fun h5 => ?_⟩
    refine Wp.s ?_
    simp -implicitDefEqProofs [go_sem]
    exact Fin.er (by rw [if_neg (by omega)]) hokH (by simp) (by simp)
def fitsI (l : Img) (w : Wr) : Nat := if sizesE (imgSz l) ≠ 0 then sizesE (imgSz l) else fitsS (imgSz l) w
theorem Fits_cc (H : Hp) (V : List Nat) (tk : Tk) (l : Img) (w : Wr) (hl : l.length ≤ 1000000000) (hs : ∀ v ∈ l, v.length ≤ 1000000000) (hw : w.data.length ≤ 1000000000) : CC Tryz.prog 113 [.sl tk 1 (l.map imE), .agg (wrC w)] H V (Pu (er (fitsI l w)) H V) := by
  refine CC.of_swp Tryz.func113 rfl (by kernel_rfl) (by rw [Tryz.ntmps113]; exact len_le _ _ rfl) fun hok hokH => ?_
  clear hok
  refine SWp.seq (Wp.s ?_)
  simp -implicitDefEqProofs [go_sem, args0]
  refine SWp.seq (Wp.s ?_)
  simp -implicitDefEqProofs [go_sem]
  refine CC.mono (iCheck_cc _ _ _ l hl) ?_
  rintro _ _ _ ⟨rfl, rfl, rfl⟩
  by_cases he : sizesE (imgSz l) = 0
  · simp -implicitDefEqProofs [go_sem, he]
    refine Wp.s ?_
    simp -implicitDefEqProofs [go_sem]
    refine CC.mono (fits_cc _ _ _ l w hl hs hw) ?_
    rintro _ _ _ ⟨rfl, rfl, rfl⟩
    simp -implicitDefEqProofs [go_sem]
    exact Fin.er (by rw [fitsI, if_neg (by simp [he])]) hokH (by simp) (by simp)
  · simp -implicitDefEqProofs [go_sem, he]
    exact Fin.er (by rw [fitsI, if_pos he]) hokH (by simp) (by simp)
theorem chkW_step {f : Wr → Nat} {o : Option Wr} {l : List Wr} {i : Nat} (h : i < l.length) (hf : f l[i] = 0) (hb : ∀ x, o = some x → badO x l[i] = false) : chkW f o (l.drop i) = chkW f (some l[i]) (l.drop (i + 1)) := by
  rw [List.drop_eq_getElem_cons h]
  cases o with
  | none => rw [chkW, if_neg (by simp [hf])]
  | some x => rw [chkW, if_neg (by simp [hf]), if_neg (by simp [hb x rfl])]
def prevW (l : List Wr) (i : Nat) : Option Wr := match i with | 0 => none | i + 1 => l[i]?
theorem check_cc (H : Hp) (V : List Nat) (tk : Tk) (l : List Wr) (g : Nat) (caps : List CV) (f : Wr → Nat) (hcap : caps.length = 0 ∨ ∃ b, caps = [.ptr b 0] ∧ b < H.length) (hl : l.length ≤ 1000000000) (hw : WrS l) (hf : ∀ (H' : Hp) (V' : List Nat) (w : Wr), w ∈ l → (∀ (b : Nat) cs, H[b]? = some (some cs) → H'[b]? = some (some cs)) → CC Tryz.prog g (.agg (wrC w) :: caps) H' V' (Pu (er (f w)) H' V')) (hfb : ∀ w ∈ l, f w = 0 → 0 ≤ w.start ∧ w.start ≤ 1000000000) : CC Tryz.prog 121 [.sl tk 3 (l.map wrC), .fn g caps] H V (Pu (er (chkW f none l)) H V) := by
  refine CC.of_swp Tryz.func121 rfl (by kernel_rfl) (by rw [Tryz.ntmps121]; exact len_le _ _ rfl) fun hok hokH => ?_
  have hfn : okV H.length V.length (.fn g caps) := by
    rw [okV]
    rcases hcap with h | ⟨b, rfl, h⟩
    · rw [List.eq_nil_of_length_eq_zero h, okL]; trivial
    · rw [okL, okL, okV]; exact ⟨h, trivial⟩
  refine SWp.seq (Wp.s ?_)
  simp -implicitDefEqProofs [go_sem, args0]
  refine SWp.join (α := Unit) (fun _ => ([], H, V)) (fun _ => chkW f none l = 0) ?_ ?_
  · refine SWp.seq (Wp.s ?_)
    simp -implicitDefEqProofs [go_sem]
    refine SWp.block ?_
    refine SWp.loop (α := Nat) (fun i => ([(0, .sl tk 3 (l.map wrC)), (1, .fn g caps), (9, .sl tk 3 (l.map wrC)), (10, ci l.length), (11, ci i)], H, V)) (fun i => i ≤ l.length ∧ chkW f none l = chkW f (prevW l i) (l.drop i) ∧ ∀ x, prevW l i = some x → f x = 0) (fun i => l.length - i) 0 ⟨Nat.zero_le _, rfl, fun x hx => by cases hx⟩ (Sh.forget (by simp [go_sem]) rfl rfl) ?_
    rintro i ⟨hi, hp, hpf⟩
    dsimp only
    refine SWp.seq (Wp.s ?_)
    simp -implicitDefEqProofs [go_sem]
    refine SWp.seq (Wp.s ?_)
    simp -implicitDefEqProofs [go_sem]
    refine ⟨fun h => ?_, fun h => ⟨?_, Sh.forget (by simp [go_sem]) rfl rfl⟩⟩
    case refine_2 => rw [hp, List.drop_of_length_le h]; cases prevW l i <;> rfl
    have hwi := hw _ (List.getElem_mem h)
    refine SWp.seq (SWp.block (SWp.seq (Wp.s ?_)))
    simp -implicitDefEqProofs [go_sem, h]
    refine SWp.seq (SWp.seq (Wp.s ?_))
    simp -implicitDefEqProofs [go_sem]
    refine CC.mono (hf _ _ l[i] (List.getElem_mem h) (fun b cs hb => at_old _ _ hb)) ?_
    rintro _ _ _ ⟨rfl, rfl, rfl⟩
    simp -implicitDefEqProofs [go_sem]
    refine SWp.seq (Wp.s ?_)
    have next : (∀ x, prevW l i = some x → badO x l[i] = false) → f l[i] = 0 → (chkW f none l = chkW f (prevW l (i + 1)) (l.drop (i + 1)) ∧ ∀ x, prevW l (i + 1) = some x → f x = 0) := fun hb h0 => by
      have e : prevW l (i + 1) = some l[i] := List.getElem?_eq_getElem h
      rw [hp, chkW_step h h0 hb, e]
      exact ⟨rfl, fun x hx => by cases hx; exact h0⟩
    by_cases h0 : f l[i] = 0
    · simp -implicitDefEqProofs [go_sem, h0]
      refine Wp.s ?_
      simp -implicitDefEqProofs [go_sem]
      have fin : ∀ {T : Tm} {L : Hp}, TLe T [(0, .sl tk 3 (l.map wrC)), (1, .fn g caps), (9, .sl tk 3 (l.map wrC)), (10, ci l.length), (11, ci (i + 1 : Nat))] → Sh 53 H.length V.length T (H ++ L) V ([(0, .sl tk 3 (l.map wrC)), (1, .fn g caps), (9, .sl tk 3 (l.map wrC)), (10, ci l.length), (11, ci (i + 1 : Nat))], H, V) := fun {T L} hT =>
        Sh.cut H.length V.length hT (Nat.le_refl _) (Nat.le_refl _) (by
          intro p hp'
          simp only [List.mem_cons, List.not_mem_nil, or_false] at hp'
          rcases hp' with rfl | rfl | rfl | rfl | rfl
          · exact okL_iff.1 hok _ (by simp)
          · exact hfn
          · exact okL_iff.1 hok _ (by simp)
          · rw [okV]; trivial
          · rw [okV]; trivial) hokH (by simp) (by simp)
      by_cases hi0 : i = 0
      · subst hi0
        refine SWp.seq (Wp.s ?_)
        simp -implicitDefEqProofs [go_sem]
        refine Wp.s ?_
        simp -implicitDefEqProofs [go_sem, show IntKind.i64.wrap 1 = 1 from rfl]
        refine ⟨1, ⟨by omega, next (fun x hx => by cases hx) h0⟩, by omega, fin ?_⟩
        simp [go_sem]
      · have hwm : IntKind.i64.wrap ((i : Int) - 1) = ((i - 1 : Nat) : Int) := by rw [IntWalk.i64_in _ ⟨by omega, by omega⟩]; omega
        have hx1 : i - 1 < l.length := by omega
        have hprev : prevW l i = some l[i - 1] := by
          obtain ⟨k, rfl⟩ : ∃ k, i = k + 1 := ⟨i - 1, by omega⟩
          simp only [prevW, Nat.add_sub_cancel]
          exact List.getElem?_eq_getElem (by omega)
        refine SWp.seq (Wp.s ?_)
        simp -implicitDefEqProofs [go_sem, hi0]
        refine SWp.seq (Wp.s ?_)
        simp -implicitDefEqProofs [go_sem, hwm, hx1]
        have hwx := hw _ (List.getElem_mem hx1)
        obtain ⟨s1, s2⟩ := hfb _ (List.getElem_mem hx1) (hpf _ hprev)
        have hadd : IntKind.i64.wrap (l[i - 1].start + (l[i - 1].data.length : Int)) = l[i - 1].start + (l[i - 1].data.length : Int) := IntWalk.i64_in _ ⟨by omega, by omega⟩
        have bad : badO l[i - 1] l[i] = true → chkW f none l = 3 := fun hb => by
          rw [hp, hprev, List.drop_eq_getElem_cons h, chkW, if_neg (by simp [h0]), if_pos hb]
        have good : badO l[i - 1] l[i] = false → _ := fun hb => next (fun x hx => by rw [hprev] at hx; cases hx; exact hb) h0
        refine SWp.seq (Wp.s ?_)
        by_cases b1 : l[i].volume < l[i - 1].volume
        · simp -implicitDefEqProofs [go_sem, b1]
          refine Wp.s ?_
          simp -implicitDefEqProofs [go_sem]
          exact Fin.er (bad (by simp [badO, b1])) hokH (by simp) (by simp)
        by_cases b2 : l[i].volume = l[i - 1].volume
        · by_cases b3 : l[i].start ≤ l[i - 1].start + l[i - 1].data.length
          · simp -implicitDefEqProofs [go_sem, b1, b2, hadd, b3]
            refine Wp.s ?_
            simp -implicitDefEqProofs [go_sem]
            exact Fin.er (bad (by simp [badO, b2, b3])) hokH (by simp) (by simp)
          · simp -implicitDefEqProofs [go_sem, b1, b2, hadd, b3]
            refine Wp.s ?_
            simp -implicitDefEqProofs [go_sem]
            refine Wp.s ?_
            simp -implicitDefEqProofs [go_sem, wrap_succ (show i ≤ 1000000000 by omega)]
            refine ⟨i + 1, ⟨by omega, good (by simp [badO, b2]; omega)⟩, by omega, fin ?_⟩
            simp [go_sem]
        · simp -implicitDefEqProofs [go_sem, b1, b2]
          refine Wp.s ?_
          simp -implicitDefEqProofs [go_sem]
          refine Wp.s ?_
          simp -implicitDefEqProofs [go_sem, wrap_succ (show i ≤ 1000000000 by omega)]
          refine ⟨i + 1, ⟨by omega, good (by simp [badO, b2]; omega)⟩, by omega, fin ?_⟩
          simp [go_sem]
    · simp -implicitDefEqProofs [go_sem, h0]
      refine Wp.s ?_
      simp -implicitDefEqProofs [go_sem]
      exact Fin.er (by rw [hp, List.drop_eq_getElem_cons h]; cases prevW l i <;> simp [chkW, h0]) hokH (by simp) (by simp)
  · rintro _ hp
    dsimp only
    refine Wp.s ?_
    simp -implicitDefEqProofs [go_sem]
    exact Fin.er (by rw [hp]) hokH (by simp) (by simp)
end Go.Proofs.YtpedbpbmnchllaaGreatDoor
namespace Go.Proofs.YtpedbpbmnchllaaGreatDoor
open Go.Proofs
theorem refSizes_cc (H : Hp) (V : List Nat) (tk : Tk) (l : List Int) (hl : l.length ≤ 9223372036854775807) : CC Tryz.prog 99 [.sl tk 1 (l.map ic)] H V (Pu (er (sizesE l)) H V) := by
  refine CC.of_swp Tryz.func99 rfl (by kernel_rfl) (by rw [Tryz.ntmps99]; exact len_le _ _ rfl) fun hok hokH => ?_
  clear hok
  refine SWp.seq (Wp.s ?_)
  simp -implicitDefEqProofs [go_sem, args0]
  refine SWp.seq (SWp.seq (Wp.s ?_))
  by_cases h1 : l.length < 1
  · simp -implicitDefEqProofs [go_sem, h1, show (l.length : Int) < 1 by omega]
    refine Wp.s ?_
    simp -implicitDefEqProofs [go_sem]
    exact Fin.er (by rw [sizesE, if_pos (.inl h1)]) hokH (by simp) (by simp)
  by_cases h2 : 8 < l.length
  · simp -implicitDefEqProofs [go_sem, h1, show ¬ (l.length : Int) < 1 by omega, show (8 : Int) < l.length by omega]
    refine Wp.s ?_
    simp -implicitDefEqProofs [go_sem]
    exact Fin.er (by rw [sizesE, if_pos (.inr h2)]) hokH (by simp) (by simp)
  simp -implicitDefEqProofs [go_sem, h1, show ¬ (l.length : Int) < 1 by omega, show ¬ (8 : Int) < l.length by omega]
  refine Wp.s ?_
  simp -implicitDefEqProofs [go_sem]
  refine SWp.join (α := Unit) (fun _ => ([], H, V)) (fun _ => sizesE l = 0) ?_ ?_
  · refine SWp.seq (Wp.s ?_)
    simp -implicitDefEqProofs [go_sem]
    refine SWp.block ?_
    refine SWp.loop (α := Nat) (fun i => ([(0, .sl tk 1 (l.map ic)), (3, ci i)], H, V)) (fun i => i ≤ l.length ∧ (l.take i).any badSz = false) (fun i => l.length - i) 0 ⟨Nat.zero_le _, rfl⟩ (Sh.forget (by simp [go_sem]) rfl rfl) ?_
    rintro i ⟨hi, hp⟩
    dsimp only
    refine SWp.seq (SWp.seq (Wp.s ?_))
    simp -implicitDefEqProofs [go_sem]
    refine Wp.s ?_
    simp -implicitDefEqProofs [go_sem]
    refine ⟨fun h => ?_, fun h => ⟨?_, Sh.forget (by simp [go_sem]) rfl rfl⟩⟩
    · refine SWp.seq (SWp.block (SWp.seq (Wp.s ?_)))
      have bad : l[i] < 1 ∨ 4096 < l[i] → sizesE l = 2 := fun q => by rw [sizesE, if_neg (by omega), if_pos (any_at h (by simpa [badSz] using q))]
      by_cases b1 : l[i] < 1
      · simp -implicitDefEqProofs [go_sem, h, b1]
        refine Wp.s ?_
        simp -implicitDefEqProofs [go_sem]
        exact Fin.er (bad (.inl b1)) hokH (by simp) (by simp)
      by_cases b2 : 4096 < l[i]
      · simp -implicitDefEqProofs [go_sem, h, b1, b2]
        refine Wp.s ?_
        simp -implicitDefEqProofs [go_sem]
        exact Fin.er (bad (.inr b2)) hokH (by simp) (by simp)
      simp -implicitDefEqProofs [go_sem, h, b1, b2]
      refine Wp.s ?_
      simp -implicitDefEqProofs [go_sem]
      refine Wp.s ?_
      simp -implicitDefEqProofs [go_sem]
      refine ⟨i + 1, ⟨by omega, by simpa using any_take h hp (by simp only [badSz, b1, b2, decide_false, Bool.or_false])⟩, by omega, Sh.forget ?_ rfl rfl⟩
      simp [go_sem, wrap_big (show i < 9223372036854775807 by omega)]
    · rw [List.take_of_length_le h] at hp
      rw [sizesE, if_neg (by omega), if_neg (by rw [hp]; decide)]
  · rintro _ hp
    dsimp only
    refine SWp.seq (Wp.s ?_)
    simp -implicitDefEqProofs [go_sem]
    refine Wp.s ?_
    simp -implicitDefEqProofs [go_sem]
    exact Fin.er hp hokH (by simp) (by simp)
theorem fitsS_7 {l : List Int} {w : Wr} (h : w.volume < 0 ∨ (l.length : Int) ≤ w.volume) : fitsS l w = 7 := by rw [fitsS, if_pos h]
set_option maxRecDepth 8000 in
theorem refFits_cc (H : Hp) (V : List Nat) (tk : Tk) (l : List Int) (w : Wr) (hl : l.length ≤ 1000000000) (hs : ∀ n ∈ l, 1 ≤ n ∧ n ≤ 4096) (hw : w.data.length ≤ 1000000000) : CC Tryz.prog 133 [.sl tk 1 (l.map ic), .agg (wrC w)] H V (Pu (er (fitsS l w)) H V) := by
  refine CC.of_swp Tryz.func133 rfl (by kernel_rfl) (by rw [Tryz.ntmps133]; exact len_le _ _ rfl) fun hok hokH => ?_
  clear hok
  refine SWp.seq (Wp.s ?_)
  simp -implicitDefEqProofs [go_sem, args0]
  refine SWp.seq (SWp.seq (Wp.s ?_))
  by_cases h1 : w.volume < 0
  · simp -implicitDefEqProofs [go_sem, h1]
    refine Wp.s ?_
    simp -implicitDefEqProofs [go_sem]
    exact Fin.er (fitsS_7 (.inl h1)) hokH (by simp) (by simp)
  by_cases h2 : (l.length : Int) ≤ w.volume
  · simp -implicitDefEqProofs [go_sem, h1, h2]
    refine Wp.s ?_
    simp -implicitDefEqProofs [go_sem]
    exact Fin.er (fitsS_7 (.inr h2)) hokH (by simp) (by simp)
  simp -implicitDefEqProofs [go_sem, h1, h2]
  refine Wp.s ?_
  simp -implicitDefEqProofs [go_sem]
  refine SWp.seq (SWp.seq (Wp.s ?_))
  by_cases h3 : w.data.length = 0
  · have h3' : w.data = [] := List.length_eq_zero_iff.1 h3
    simp -implicitDefEqProofs [go_sem, h3']
    refine Wp.s ?_
    simp -implicitDefEqProofs [go_sem]
    exact Fin.er (by rw [fitsS, if_neg (by omega), if_pos h3]) hokH (by simp) (by simp)
  have h3' : ¬ w.data = [] := fun q => h3 (by rw [q]; rfl)
  simp -implicitDefEqProofs [go_sem, h3']
  refine Wp.s ?_
  simp -implicitDefEqProofs [go_sem]
  obtain ⟨k, hk⟩ := Int.eq_ofNat_of_zero_le (show 0 ≤ w.volume by omega)
  have hkl : k < l.length := by omega
  have hlk := hs _ (List.getElem_mem hkl)
  have e0 : fitsS l w = if w.start < 0 ∨ l[k] - w.data.length < w.start then 2 else 0 := by
    rw [fitsS, if_neg (by omega), if_neg h3, hk, Int.toNat_natCast, List.getD_eq_getElem?_getD, List.getElem?_eq_getElem hkl]; rfl
  refine SWp.seq (SWp.seq (SWp.drawnT [] [] (.s 0 .pl <| .s 1 .pl <| .s 2 .pl <| .s 3 .pl <| .s 4 .pl <| .s 5 .pl <| .s 6 .pl <| .s 7 .pl <| .s 8 .pl <| .s 9 .pl <| .s 10 .pl <| .s 11 .pl <| .s 12 .pl <| .s 13 .pl <| .s 14 .pl <| .s 15 .pl <| .s 16 .pl <| .s 17 .pl <| .s 18 .pl <| .s 19 .pl <| .s 20 .pl <| .s 21 .pl <| .s 22 .pl <| .s 23 .pl <| .s 24 .pl <| .s 25 .pl <| .s 26 .pl <| .n) (by kernel_rfl) (by kernel_rfl) ?_))
  by_cases b1 : w.start < 0
  · simp -implicitDefEqProofs [go_sem, b1]
    refine Wp.s ?_
    simp -implicitDefEqProofs [go_sem]
    exact Fin.er (by rw [e0, if_pos (.inl b1)]) hokH (by simp) (by simp)
  by_cases b2 : l[k] ≤ w.start
  · simp -implicitDefEqProofs [go_sem, b1, hk, hkl, b2]
    refine Wp.s ?_
    simp -implicitDefEqProofs [go_sem]
    exact Fin.er (by rw [e0, if_pos (.inr (by omega))]) hokH (by simp) (by simp)
  have w1 : IntKind.i64.wrap (l[k] - w.start) = l[k] - w.start := IntWalk.i64_in _ ⟨by omega, by omega⟩
  by_cases b3 : l[k] - w.start < (w.data.length : Int)
  · simp -implicitDefEqProofs [go_sem, b1, hk, hkl, b2, w1, b3]
    refine Wp.s ?_
    simp -implicitDefEqProofs [go_sem]
    exact Fin.er (by rw [e0, if_pos (.inr (by omega))]) hokH (by simp) (by simp)
  · simp -implicitDefEqProofs [go_sem, b1, hk, hkl, b2, w1, b3]
    refine Wp.s ?_
    simp -implicitDefEqProofs [go_sem]
    refine SWp.seq (Wp.s ?_)
    simp -implicitDefEqProofs [go_sem]
    refine Wp.s ?_
    simp -implicitDefEqProofs [go_sem]
    exact Fin.er (by rw [e0, if_neg (by omega)]) hokH (by simp) (by simp)
end Go.Proofs.YtpedbpbmnchllaaGreatDoor
namespace Go.Proofs.YtpedbpbmnchllaaGreatDoor
open Go.Proofs
theorem eq_of_take {α : Type} {x y : List α} (hl : x.length = y.length) {i : Nat} (hi : x.length ≤ i) (h : x.take i = y.take i) : x = y := by
  rwa [List.take_of_length_le hi, List.take_of_length_le (by omega)] at h
theorem take_eq_succ {α : Type} {x y : List α} {i : Nat} (h1 : i < x.length) (h2 : i < y.length) (h : x.take i = y.take i) (he : x[i] = y[i]) : x.take (i + 1) = y.take (i + 1) := by
  rw [List.take_succ_eq_append_getElem h1, List.take_succ_eq_append_getElem h2, h, he]
theorem ne_at {α : Type} {x y : List α} {i : Nat} (h1 : i < x.length) (h2 : i < y.length) (he : x[i] ≠ y[i]) : x ≠ y := fun e => he (by subst e; rfl)
end Go.Proofs.YtpedbpbmnchllaaGreatDoor
namespace Go.Proofs.YtpedbpbmnchllaaGreatDoor
open Go.Proofs
theorem flatSec : FlatEq Tryz.prog 99 (List.replicate 8 .u8) := by
  obtain ⟨i, hi⟩ := Option.isSome_iff_exists.1 (show (Tryz.prog.info? 5).isSome = true by kernel_rfl)
  exact flatEq_array Tryz.underlying99 hi Tryz.underlying5 (by kernel_rfl) (by kernel_rfl)
theorem fits_secW (s : Sec) : fits (List.replicate 8 .u8) (secC s) := by
  have := fits_rep .u8 (s.val.map fun b => (b.toNat : Int))
  rw [List.length_map, s.len, List.map_map] at this
  exact this
theorem secC_inj {a b : Sec} (h : secC a = secC b) : a = b := by
  obtain ⟨x, hx⟩ := a
  obtain ⟨y, hy⟩ := b
  simp only [secC] at h
  have hm : ∀ (u v : List UInt8), (u.map fun b => CV.v (.int .u8 (b.toNat : Int))) = (v.map fun b => CV.v (.int .u8 (b.toNat : Int))) → u = v := by
    intro u
    induction u with
    | nil => intro v hv; cases v; rfl; simp at hv
    | cons c u ih =>
      intro v hv
      cases v with
      | nil => simp at hv
      | cons d v =>
        simp only [List.map_cons, List.cons.injEq, CV.v.injEq, Value.int.injEq, true_and, Int.natCast_inj] at hv
        obtain ⟨h1, h2⟩ := hv
        rw [UInt8.toNat_inj.1 h1, ih v h2]
  obtain rfl := hm x y h
  rfl
theorem SameSecs_cc (H : Hp) (V : List Nat) (t1 t2 : Tk) (x y : List Sec) (hl : x.length ≤ 1000000000) : CC Tryz.prog 97 [.sl t1 8 (x.map secC), .sl t2 8 (y.map secC)] H V (Pu (.v (.bool (decide (x = y)))) H V) := by
  refine CC.of_swp Tryz.func97 rfl (by kernel_rfl) (by rw [Tryz.ntmps97]; exact len_le _ _ rfl) fun hok hokH => ?_
  clear hok
  refine SWp.seq (Wp.s ?_)
  simp -implicitDefEqProofs [go_sem, args0]
  refine SWp.seq (SWp.seq (Wp.s ?_))
  by_cases hlen : x.length = y.length
  case neg =>
    have hlen' : ¬ (x.length : Int) = (y.length : Int) := by omega
    simp -implicitDefEqProofs [go_sem, hlen']
    refine Wp.s ?_
    simp -implicitDefEqProofs [go_sem, hlen, hlen']
    exact Fin.bool (by simp [show x ≠ y from fun e => hlen (by rw [e])]) hokH (by simp) (by simp)
  simp -implicitDefEqProofs [go_sem, hlen]
  refine Wp.s ?_
  simp -implicitDefEqProofs [go_sem, hlen]
  refine SWp.join (α := Unit) (fun _ => ([], H, V)) (fun _ => x = y) ?_ ?_
  · refine SWp.seq (Wp.s ?_)
    simp -implicitDefEqProofs [go_sem]
    refine SWp.block ?_
    refine SWp.loop (α := Nat) (fun i => ([(0, .sl t1 8 (x.map secC)), (1, .sl t2 8 (y.map secC)), (5, ci i)], H, V)) (fun i => i ≤ x.length ∧ x.take i = y.take i) (fun i => x.length - i) 0 ⟨Nat.zero_le _, rfl⟩ (Sh.forget (by simp [go_sem]) rfl rfl) ?_
    rintro i ⟨hi, hp⟩
    dsimp only
    refine SWp.seq (SWp.seq (Wp.s ?_))
    simp -implicitDefEqProofs [go_sem]
    refine Wp.s ?_
    simp -implicitDefEqProofs [go_sem]
    refine ⟨fun h => ?_, fun h => ⟨eq_of_take hlen h hp, Sh.forget (by simp [go_sem]) rfl rfl⟩⟩
    have h2 : i < y.length := by omega
    refine SWp.seq (SWp.block (SWp.seq (SWp.drawnT [] [] (.s 0 .pl <| .s 1 .pl <| .s 2 .pl <| .s 3 .pl <| .s 4 .pl <| .s 5 .pl <| .s 6 .pl <| .s 7 .pl <| .s 8 .pl <| .n) (by kernel_rfl) (by kernel_rfl) ?_)))
    simp -implicitDefEqProofs [go_sem, h, h2]
    refine ⟨_, flatSec, fits_secW _, fits_secW _, fun he => ?_, fun he => ?_⟩
    · refine Wp.s ?_
      simp -implicitDefEqProofs [go_sem]
      exact Fin.bool (by simp [ne_at h h2 (fun e => he (by rw [e]))]) hokH (by simp) (by simp)
    · refine Wp.s ?_
      simp -implicitDefEqProofs [go_sem]
      refine Wp.s ?_
      simp -implicitDefEqProofs [go_sem]
      refine ⟨i + 1, ⟨by omega, take_eq_succ h h2 hp (secC_inj he)⟩, by omega, Sh.forget ?_ rfl rfl⟩
      simp [go_sem, wrap_succ (show i ≤ 1000000000 by omega)]
  · rintro _ he
    dsimp only
    refine Wp.s ?_
    simp -implicitDefEqProofs [go_sem]
    exact Fin.bool (by simp [he]) hokH (by simp) (by simp)
end Go.Proofs.YtpedbpbmnchllaaGreatDoor
namespace Go.Proofs.YtpedbpbmnchllaaGreatDoor
open Go.Proofs
theorem wr_ext {a b : Wr} (h1 : a.volume = b.volume) (h2 : a.start = b.start) (h3 : a.data = b.data) : a = b := by
  obtain ⟨p, q, r⟩ := a
  obtain ⟨p', q', r'⟩ := b
  simp_all
set_option maxRecDepth 20000 in
theorem SameWrs_cc (H : Hp) (V : List Nat) (t1 t2 : Tk) (x y : List Wr) (hl : x.length ≤ 1000000000) (hw : WrS x) : CC Tryz.prog 55 [.sl t1 3 (x.map wrC), .sl t2 3 (y.map wrC)] H V (Pu (.v (.bool (decide (x = y)))) H V) := by
  refine CC.of_swp Tryz.func55 rfl (by kernel_rfl) (by rw [Tryz.ntmps55]; exact len_le _ _ rfl) fun hok hokH => ?_
  clear hok
  refine SWp.seq (Wp.s ?_)
  simp -implicitDefEqProofs [go_sem, args0]
  refine SWp.seq (SWp.seq (Wp.s ?_))
  by_cases hlen : x.length = y.length
  case neg =>
    have hlen' : ¬ (x.length : Int) = (y.length : Int) := by omega
    simp -implicitDefEqProofs [go_sem, hlen']
    refine Wp.s ?_
    simp -implicitDefEqProofs [go_sem, hlen, hlen']
    exact Fin.bool (by simp [show x ≠ y from fun e => hlen (by rw [e])]) hokH (by simp) (by simp)
  simp -implicitDefEqProofs [go_sem, hlen]
  refine Wp.s ?_
  simp -implicitDefEqProofs [go_sem, hlen]
  refine SWp.join (α := Unit) (fun _ => ([], H, V)) (fun _ => x = y) ?_ ?_
  · refine SWp.seq (Wp.s ?_)
    simp -implicitDefEqProofs [go_sem]
    refine SWp.block ?_
    refine SWp.loop (α := Nat) (fun i => ([(0, .sl t1 3 (x.map wrC)), (1, .sl t2 3 (y.map wrC)), (5, ci i)], H, V)) (fun i => i ≤ x.length ∧ x.take i = y.take i) (fun i => x.length - i) 0 ⟨Nat.zero_le _, rfl⟩ (Sh.forget (by simp [go_sem]) rfl rfl) ?_
    rintro i ⟨hi, hp⟩
    dsimp only
    refine SWp.seq (SWp.seq (Wp.s ?_))
    simp -implicitDefEqProofs [go_sem]
    refine Wp.s ?_
    simp -implicitDefEqProofs [go_sem]
    refine ⟨fun h => ?_, fun h => ⟨eq_of_take hlen h hp, Sh.forget (by simp [go_sem]) rfl rfl⟩⟩
    have h2 : i < y.length := by omega
    have hwx := hw _ (List.getElem_mem h)
    refine SWp.seq (SWp.block (SWp.seq (SWp.drawnT [] [] (.s 0 .pl <| .s 1 .pl <| .s 2 .pl <| .s 3 .pl <| .s 4 .pl <| .s 5 .pl <| .s 6 .pl <| .s 7 .pl <| .s 8 .pl <| .s 9 .pl <| .s 10 .pl <| .s 11 .pl <| .s 12 .pl <| .s 13 .pl <| .s 14 .pl <| .s 15 .pl <| .s 16 .pl <| .s 17 .pl <| .s 18 .pl <| .s 19 .pl <| .s 20 .pl <| .s 21 .pl <| .s 22 .pl <| .s 23 .pl <| .s 24 .pl <| .s 25 .pl <| .s 26 .pl <| .s 27 .pl <| .s 28 .pl <| .s 29 .pl <| .s 30 .pl <| .s 31 .pl <| .s 32 .pl <| .s 33 .pl <| .s 34 .pl <| .s 35 .pl <| .s 36 .pl <| .s 37 .pl <| .n) (by kernel_rfl) (by kernel_rfl) ?_)))
    by_cases e1 : x[i].volume = y[i].volume
    case neg =>
      simp -implicitDefEqProofs [go_sem, h, h2, e1]
      refine Wp.s ?_
      simp -implicitDefEqProofs [go_sem]
      exact Fin.bool (by simp [ne_at h h2 (fun e => e1 (by rw [e]))]) hokH (by simp) (by simp)
    by_cases e2 : x[i].start = y[i].start
    case neg =>
      simp -implicitDefEqProofs [go_sem, h, h2, e1, e2]
      refine Wp.s ?_
      simp -implicitDefEqProofs [go_sem]
      exact Fin.bool (by simp [ne_at h h2 (fun e => e2 (by rw [e]))]) hokH (by simp) (by simp)
    simp -implicitDefEqProofs [go_sem, h, h2, e1, e2]
    refine CC.mono (SameSecs_cc _ _ _ _ x[i].data y[i].data (by omega)) ?_
    rintro _ _ _ ⟨rfl, rfl, rfl⟩
    by_cases e3 : x[i].data = y[i].data
    · simp -implicitDefEqProofs [go_sem, h, h2, e1, e2, e3]
      refine Wp.s ?_
      simp -implicitDefEqProofs [go_sem]
      refine Wp.s ?_
      simp -implicitDefEqProofs [go_sem]
      refine ⟨i + 1, ⟨by omega, take_eq_succ h h2 hp (wr_ext e1 e2 e3)⟩, by omega, Sh.forget ?_ rfl rfl⟩
      simp [go_sem, wrap_succ (show i ≤ 1000000000 by omega)]
    · simp -implicitDefEqProofs [go_sem, h, h2, e1, e2, e3]
      refine Wp.s ?_
      simp -implicitDefEqProofs [go_sem]
      exact Fin.bool (by simp [ne_at h h2 (fun e => e3 (by rw [e]))]) hokH (by simp) (by simp)
  · rintro _ he
    dsimp only
    refine Wp.s ?_
    simp -implicitDefEqProofs [go_sem]
    exact Fin.bool (by simp [he]) hokH (by simp) (by simp)
end Go.Proofs.YtpedbpbmnchllaaGreatDoor
namespace Go.Proofs.YtpedbpbmnchllaaGreatDoor
open Go.Proofs
theorem eqSec_cc (H : Hp) (V : List Nat) (t1 t2 : Tk) (x y : List Sec) (hl : x.length ≤ 1000000000) : CC Tryz.prog 57 [.sl t1 8 (x.map secC), .sl t2 8 (y.map secC)] H V (Pu (.v (.bool (decide (x = y)))) H V) := by
  refine CC.of_swp Tryz.func57 rfl (by kernel_rfl) (by rw [Tryz.ntmps57]; exact len_le _ _ rfl) fun hok hokH => ?_
  clear hok
  refine SWp.seq (Wp.s ?_)
  simp -implicitDefEqProofs [go_sem, args0]
  refine SWp.seq (SWp.seq (Wp.s ?_))
  by_cases hlen : x.length = y.length
  case neg =>
    have hlen' : ¬ (x.length : Int) = (y.length : Int) := by omega
    simp -implicitDefEqProofs [go_sem, hlen']
    refine Wp.s ?_
    simp -implicitDefEqProofs [go_sem, hlen, hlen']
    exact Fin.bool (by simp [show x ≠ y from fun e => hlen (by rw [e])]) hokH (by simp) (by simp)
  simp -implicitDefEqProofs [go_sem, hlen]
  refine Wp.s ?_
  simp -implicitDefEqProofs [go_sem, hlen]
  refine SWp.join (α := Unit) (fun _ => ([], H, V)) (fun _ => x = y) ?_ ?_
  · refine SWp.seq (Wp.s ?_)
    simp -implicitDefEqProofs [go_sem]
    refine SWp.block ?_
    refine SWp.loop (α := Nat) (fun i => ([(0, .sl t1 8 (x.map secC)), (1, .sl t2 8 (y.map secC)), (12, ci x.length), (13, ci i)], H, V)) (fun i => i ≤ x.length ∧ x.take i = y.take i) (fun i => x.length - i) 0 ⟨Nat.zero_le _, rfl⟩ (Sh.forget (by simp [go_sem, hlen]) rfl rfl) ?_
    rintro i ⟨hi, hp⟩
    dsimp only
    refine SWp.seq (Wp.s ?_)
    simp -implicitDefEqProofs [go_sem]
    refine SWp.seq (Wp.s ?_)
    simp -implicitDefEqProofs [go_sem]
    refine ⟨fun h => ?_, fun h => ⟨eq_of_take hlen h hp, Sh.forget (by simp [go_sem]) rfl rfl⟩⟩
    have h2 : i < y.length := by omega
    refine SWp.seq (SWp.block (SWp.seq (Wp.s ?_)))
    simp -implicitDefEqProofs [go_sem]
    refine SWp.seq (SWp.drawnT [] [] (.s 0 .pl <| .s 1 .pl <| .s 2 .pl <| .s 3 .pl <| .s 4 .pl <| .s 5 .pl <| .s 6 .pl <| .s 7 .pl <| .s 8 .pl <| .n) (by kernel_rfl) (by kernel_rfl) ?_)
    simp -implicitDefEqProofs [go_sem, h, h2]
    refine ⟨_, flatSec, fits_secW _, fits_secW _, fun he => ?_, fun he => ?_⟩
    · refine Wp.s ?_
      simp -implicitDefEqProofs [go_sem]
      exact Fin.bool (by simp [ne_at h h2 (fun e => he (by rw [e]))]) hokH (by simp) (by simp)
    · refine Wp.s ?_
      simp -implicitDefEqProofs [go_sem]
      refine Wp.s ?_
      simp -implicitDefEqProofs [go_sem]
      refine ⟨i + 1, ⟨by omega, take_eq_succ h h2 hp (secC_inj he)⟩, by omega, Sh.forget ?_ rfl rfl⟩
      simp [go_sem, wrap_succ (show i ≤ 1000000000 by omega)]
  · rintro _ he
    dsimp only
    refine Wp.s ?_
    simp -implicitDefEqProofs [go_sem]
    exact Fin.bool (by simp [he]) hokH (by simp) (by simp)
theorem eqImg_cc (H : Hp) (V : List Nat) (t1 t2 : Tk) (x y : Img) (hl : x.length ≤ 1000000000) (hs : ∀ v ∈ x, v.length ≤ 1000000000) : CC Tryz.prog 56 [.sl t1 1 (x.map imE), .sl t2 1 (y.map imE), .fn 57 []] H V (Pu (.v (.bool (decide (x = y)))) H V) := by
  refine CC.of_swp Tryz.func56 rfl (by kernel_rfl) (by rw [Tryz.ntmps56]; exact len_le _ _ rfl) fun hok hokH => ?_
  clear hok
  refine SWp.seq (Wp.s ?_)
  simp -implicitDefEqProofs [go_sem, args0]
  refine SWp.seq (SWp.seq (Wp.s ?_))
  by_cases hlen : x.length = y.length
  case neg =>
    have hlen' : ¬ (x.length : Int) = (y.length : Int) := by omega
    simp -implicitDefEqProofs [go_sem, hlen']
    refine Wp.s ?_
    simp -implicitDefEqProofs [go_sem, hlen, hlen']
    exact Fin.bool (by simp [show x ≠ y from fun e => hlen (by rw [e])]) hokH (by simp) (by simp)
  simp -implicitDefEqProofs [go_sem, hlen]
  refine Wp.s ?_
  simp -implicitDefEqProofs [go_sem, hlen]
  refine SWp.join (α := Unit) (fun _ => ([], H, V)) (fun _ => x = y) ?_ ?_
  · refine SWp.seq (Wp.s ?_)
    simp -implicitDefEqProofs [go_sem]
    refine SWp.block ?_
    refine SWp.loop (α := Nat) (fun i => ([(1, .sl t2 1 (y.map imE)), (2, .fn 57 []), (15, .sl t1 1 (x.map imE)), (16, ci x.length), (17, ci i)], H, V)) (fun i => i ≤ x.length ∧ x.take i = y.take i) (fun i => x.length - i) 0 ⟨Nat.zero_le _, rfl⟩ (Sh.forget (by simp [go_sem, hlen]) rfl rfl) ?_
    rintro i ⟨hi, hp⟩
    dsimp only
    refine SWp.seq (Wp.s ?_)
    simp -implicitDefEqProofs [go_sem]
    refine SWp.seq (Wp.s ?_)
    simp -implicitDefEqProofs [go_sem]
    refine ⟨fun h => ?_, fun h => ⟨eq_of_take hlen h hp, Sh.forget (by simp [go_sem]) rfl rfl⟩⟩
    have h2 : i < y.length := by omega
    refine SWp.seq (SWp.block (SWp.seq (Wp.s ?_)))
    simp -implicitDefEqProofs [go_sem, h]
    refine SWp.seq (Wp.s ?_)
    simp -implicitDefEqProofs [go_sem, h2]
    refine SWp.seq (Wp.s ?_)
    simp -implicitDefEqProofs [go_sem]
    refine CC.mono (eqSec_cc _ _ .sh .sh x[i] y[i] (hs _ (List.getElem_mem h))) ?_
    rintro _ _ _ ⟨rfl, rfl, rfl⟩
    by_cases he : x[i] = y[i]
    · simp -implicitDefEqProofs [go_sem, he]
      refine Wp.s ?_
      simp -implicitDefEqProofs [go_sem]
      refine Wp.s ?_
      simp -implicitDefEqProofs [go_sem]
      refine ⟨i + 1, ⟨by omega, take_eq_succ h h2 hp he⟩, by omega, Sh.forget ?_ rfl rfl⟩
      simp [go_sem, wrap_succ (show i ≤ 1000000000 by omega)]
    · simp -implicitDefEqProofs [go_sem, he]
      refine Wp.s ?_
      simp -implicitDefEqProofs [go_sem]
      exact Fin.bool (by simp [ne_at h h2 he]) hokH (by simp) (by simp)
  · rintro _ he
    dsimp only
    refine Wp.s ?_
    simp -implicitDefEqProofs [go_sem]
    exact Fin.bool (by simp [he]) hokH (by simp) (by simp)
theorem imSame_cc (H : Hp) (V : List Nat) (t1 t2 : Tk) (x y : Img) (hl : x.length ≤ 1000000000) (hs : ∀ v ∈ x, v.length ≤ 1000000000) : CC Tryz.prog 14 [.sl t1 1 (x.map imE), .sl t2 1 (y.map imE)] H V (Pu (.v (.bool (decide (x = y)))) H V) := by
  refine CC.of_swp Tryz.func14 rfl (by kernel_rfl) (by rw [Tryz.ntmps14]; exact len_le _ _ rfl) fun hok hokH => ?_
  clear hok
  refine SWp.seq (Wp.s ?_)
  simp -implicitDefEqProofs [go_sem, args0]
  refine SWp.seq (Wp.s ?_)
  simp -implicitDefEqProofs [go_sem]
  refine CC.mono (eqImg_cc _ _ t1 t2 x y hl hs) ?_
  rintro _ _ _ ⟨rfl, rfl, rfl⟩
  simp -implicitDefEqProofs [go_sem]
  refine Wp.s ?_
  simp -implicitDefEqProofs [go_sem]
  exact Fin.bool rfl hokH (by simp) (by simp)
end Go.Proofs.YtpedbpbmnchllaaGreatDoor
namespace Go.Proofs.YtpedbpbmnchllaaGreatDoor
open Go.Proofs
def bxs : Nat → Img → List (List CV)
  | _, [] => []
  | n, v :: l => [.bsl n 0 v.length 8] :: bxs (n + 1) l
@[go_sem, simp] theorem bxs_len : ∀ (n : Nat) (l : Img), (bxs n l).length = l.length
  | _, [] => rfl
  | n, v :: l => by rw [bxs, List.length_cons, List.length_cons, bxs_len (n + 1) l]
@[go_sem, simp] theorem bxs_get : ∀ (n : Nat) (l : Img) (i : Nat) (h : i < (bxs n l).length), (bxs n l)[i] = [.bsl (n + i) 0 (l[i]'(by simpa using h)).length 8]
  | n, v :: l, 0, h => rfl
  | n, v :: l, i + 1, h => by
    have hi : i < (bxs (n + 1) l).length := by rw [bxs_len]; have := h; rw [bxs_len, List.length_cons] at this; omega
    have := bxs_get (n + 1) l i hi
    show (bxs (n + 1) l)[i]'hi = _
    rw [this, show n + 1 + i = n + (i + 1) by omega]
    rfl
  | n, [], i, h => absurd h (Nat.not_lt_zero _)
theorem bxs_snoc : ∀ (n : Nat) (l : Img) (v : List Sec), bxs n (l ++ [v]) = bxs n l ++ [[.bsl (n + l.length) 0 v.length 8]]
  | n, [], v => rfl
  | n, u :: l, v => by
    rw [List.cons_append, bxs, bxs, bxs_snoc (n + 1) l v, List.cons_append, List.length_cons, show n + 1 + l.length = n + (l.length + 1) by omega]
theorem bxs_eq : ∀ (n : Nat) {l k : Img}, l.map List.length = k.map List.length → bxs n l = bxs n k
  | _, [], [], _ => rfl
  | n, u :: l, v :: k, h => by
    rw [List.map_cons, List.map_cons, List.cons.injEq] at h
    rw [bxs, bxs, h.1, bxs_eq (n + 1) h.2]
  | _, [], _ :: _, h => by cases h
  | _, _ :: _, [], h => by cases h
def imH (l : Img) : Hp := l.map fun v => some (secsF v)
@[go_sem, simp] theorem imH_len (l : Img) : (imH l).length = l.length := List.length_map ..
theorem okE_bxs (jb jv : Nat) : ∀ (n : Nat) (l : Img), n + l.length ≤ jb → okE jb jv (bxs n l)
  | _, [], _ => trivial
  | n, v :: l, h => by
    rw [List.length_cons] at h
    rw [bxs, okE]
    exact ⟨⟨by rw [okV]; omega, trivial⟩, okE_bxs jb jv (n + 1) l (by omega)⟩
theorem cloneSecB_cc (H : Hp) (V : List Nat) (tk : Tk) (l : List Sec) (h0 : l ≠ []) (hx : l.length ≤ 1000000000) : CC Tryz.prog 39 [.sl tk 8 (l.map secC)] H V (fun r H' V' => r = .bsl H.length 0 l.length 8 ∧ H' = H ++ [some (secsF l)] ∧ V = V') := by
  refine CC.of_swp Tryz.func39 rfl (by kernel_rfl) (by rw [Tryz.ntmps39]; exact len_le _ _ rfl) fun hok hokH => ?_
  clear hok
  have hne : l.map secC ≠ [] := by simpa using h0
  refine SWp.seq (Wp.s ?_)
  simp -implicitDefEqProofs [go_sem, args0]
  refine SWp.seq (SWp.seq (Wp.s ?_))
  simp -implicitDefEqProofs [go_sem, h0]
  refine Wp.s ?_
  simp -implicitDefEqProofs [go_sem, h0]
  refine SWp.seq (SWp.opx (pre := [_, _]) (post := [_]) rfl (by intro c e; cases e) ?_)
  simp -implicitDefEqProofs [go_sem]
  refine ⟨_, _, _, appbox (sz := 8) (tk := tk) (ys := l.map secC) slTy93 slTy93 rfl rfl hne (by rw [List.length_map]; omega), ?_⟩
  simp -implicitDefEqProofs [go_sem]
  refine Wp.s ?_
  simp -implicitDefEqProofs [go_sem]
  rw [show (List.map secC l).flatten = secsF l from rfl]
  refine Fin.cut (H.length + 1) V.length ⟨rfl, rfl, rfl⟩ (Nat.le_succ _) (Nat.le_refl _) (List.take_of_length_le (by simp)) (List.take_of_length_le (Nat.le_refl _)) (.bsa _ _ _) (by simp [go_sem]) ?_
  intro b cs hb
  rw [List.getElem?_append] at hb
  split at hb
  · exact okL_mono (Nat.le_succ _) (Nat.le_refl _) (hokH b cs hb)
  · exact okH_get (i := H.length + 1) (j := V.length) (L := [some (secsF l)]) (by simp [go_sem]) _ _ hb
theorem mapCl_cc (H : Hp) (V : List Nat) (tk : Tk) (l : Img) (hl : l.length ≤ 1000000) (hn : ∀ v ∈ l, v ≠ [] ∧ v.length ≤ 1000000) : CC Tryz.prog 112 [.sl tk 1 (l.map imE), .fn 39 []] H V (fun r H' V' => r = .sl (.own V.length l.length) 1 (bxs H.length l) ∧ H' = H ++ imH l ∧ V' = V ++ [l.length]) := by
  refine CC.of_swp Tryz.func112 rfl (by kernel_rfl) (by rw [Tryz.ntmps112]; exact len_le _ _ rfl) fun hok hokH => ?_
  clear hok
  refine SWp.seq (Wp.s ?_)
  simp -implicitDefEqProofs [go_sem, args0]
  refine SWp.seq (Wp.s ?_)
  simp -implicitDefEqProofs [go_sem]
  refine ⟨by omega, ?_⟩
  refine SWp.join (α := Unit) (fun _ => ([(5, .sl (.own V.length l.length) 1 (bxs H.length l))], H ++ imH l, V ++ [l.length])) (fun _ => True) ?_ ?_
  · refine SWp.seq (Wp.s ?_)
    simp -implicitDefEqProofs [go_sem]
    refine SWp.block ?_
    refine SWp.loop (α := Nat) (fun i => ([(1, .fn 39 []), (5, .sl (.own V.length i) 1 (bxs H.length (l.take i))), (11, .sl tk 1 (l.map imE)), (12, ci l.length), (13, ci i)], H ++ imH (l.take i), V ++ [i])) (fun i => i ≤ l.length) (fun i => l.length - i) 0 (Nat.zero_le _) (Sh.forget (by simp [go_sem, bxs]) (by simp [imH]) rfl) ?_
    intro i hi
    dsimp only
    refine Wp.s ?_
    simp -implicitDefEqProofs [go_sem]
    refine ⟨fun h => ⟨h, ?_⟩, fun h => Sh.forget (by simp [go_sem]; rw [List.take_of_length_le h]; exact .of_eq (by rw [show i = l.length by omega])) (by rw [List.take_of_length_le h]) (by rw [show i = l.length by omega])⟩
    obtain ⟨n1, n2⟩ := hn l[i] (List.getElem_mem h)
    refine CC.mono (cloneSecB_cc _ _ .sh l[i] n1 (by omega)) ?_
    rintro _ _ _ ⟨rfl, rfl, rfl⟩
    simp -implicitDefEqProofs [go_sem]
    refine ⟨by omega, i + 1, by omega, by omega, Sh.forget ?_ ?_ rfl⟩
    · rw [List.take_succ_eq_append_getElem h, bxs_snoc, List.length_take, Nat.min_eq_left (by omega)]
      simp [go_sem, wrap_succ (show i ≤ 1000000000 by omega), Nat.min_eq_left hi]
    · rw [List.take_succ_eq_append_getElem h, imH, imH, List.map_append]
      rfl
  · rintro _ -
    dsimp only
    refine Wp.s ?_
    simp -implicitDefEqProofs [go_sem]
    refine Fin.cut (H.length + l.length) (V.length + 1) ⟨rfl, rfl, rfl⟩ (by omega) (by omega) (List.take_of_length_le (by simp)) (List.take_of_length_le (by simp)) (.refl _) ?_ ?_
    · rw [okV]
      exact ⟨Nat.lt_succ_self _, okE_bxs _ _ _ _ (Nat.le_refl _)⟩
    intro b cs hb
    rw [List.getElem?_append] at hb
    split at hb
    · exact okL_mono (by omega) (Nat.le_succ _) (hokH b cs hb)
    · obtain ⟨v, -, hv⟩ := List.mem_map.1 (List.mem_of_getElem? hb)
      obtain rfl := Option.some.inj hv
      rw [okL_secsF]; trivial
theorem imCopied_cc (H : Hp) (V : List Nat) (tk : Tk) (l : Img) (hl : l.length ≤ 1000000) (hn : ∀ v ∈ l, v ≠ [] ∧ v.length ≤ 1000000) : CC Tryz.prog 74 [.sl tk 1 (l.map imE)] H V (fun r H' V' => r = .sl (.own V.length l.length) 1 (bxs H.length l) ∧ H' = H ++ imH l ∧ V' = V ++ [l.length]) := by
  refine CC.of_swp Tryz.func74 rfl (by kernel_rfl) (by rw [Tryz.ntmps74]; exact len_le _ _ rfl) fun hok hokH => ?_
  clear hok
  refine SWp.seq (Wp.s ?_)
  simp -implicitDefEqProofs [go_sem, args0]
  refine SWp.seq (Wp.s ?_)
  simp -implicitDefEqProofs [go_sem]
  refine CC.mono (mapCl_cc _ _ tk l hl hn) ?_
  rintro _ _ _ ⟨rfl, rfl, rfl⟩
  simp -implicitDefEqProofs [go_sem]
  refine Wp.s ?_
  simp -implicitDefEqProofs [go_sem]
  refine Fin.cut (H.length + l.length) (V.length + 1) ⟨rfl, rfl, rfl⟩ (by omega) (by omega) (List.take_of_length_le (by simp)) (List.take_of_length_le (by simp)) (.refl _) ?_ ?_
  · rw [okV]
    exact ⟨Nat.lt_succ_self _, okE_bxs _ _ _ _ (Nat.le_refl _)⟩
  intro b cs hb
  rw [List.getElem?_append] at hb
  split at hb
  · exact okL_mono (by omega) (Nat.le_succ _) (hokH b cs hb)
  · obtain ⟨v, -, hv⟩ := List.mem_map.1 (List.mem_of_getElem? hb)
    obtain rfl := Option.some.inj hv
    rw [okL_secsF]; trivial
theorem fitsB_cc (H : Hp) (V : List Nat) (tk : Tk) (b : Nat) (l : Img) (w : Wr) (hl : l.length ≤ 1000000000) (hs : ∀ v ∈ l, v.length ≤ 1000000000) (hw : w.data.length ≤ 1000000000) (hb : b + l.length ≤ H.length) : CC Tryz.prog 75 [.sl tk 1 (bxs b l), .agg (wrC w)] H V (Pu (er (fitsS (imgSz l) w)) H V) := by
  refine CC.of_swp Tryz.func75 rfl (by kernel_rfl) (by rw [Tryz.ntmps75]; exact len_le _ _ rfl) fun hok hokH => ?_
  clear hok
  refine SWp.seq (Wp.s ?_)
  simp -implicitDefEqProofs [go_sem, args0]
  refine SWp.seq (SWp.block (SWp.seq (Wp.s ?_)))
  by_cases h1 : w.volume < 0
  · simp -implicitDefEqProofs [go_sem, h1]
    refine Wp.s ?_
    simp -implicitDefEqProofs [go_sem]
    exact Fin.er (by rw [fitsS, if_pos (.inl h1)]) hokH (by simp) (by simp)
  by_cases h2 : (l.length : Int) ≤ w.volume
  · simp -implicitDefEqProofs [go_sem, h1, h2]
    refine Wp.s ?_
    simp -implicitDefEqProofs [go_sem]
    exact Fin.er (by rw [fitsS, if_pos (.inr (by simpa using h2))]) hokH (by simp) (by simp)
  simp -implicitDefEqProofs [go_sem, h1, h2]
  refine Wp.s ?_
  obtain ⟨n, hn⟩ := Int.eq_ofNat_of_zero_le (Int.not_lt.1 h1)
  have hnl : n < l.length := by omega
  have hvl := hs l[n] (List.getElem_mem hnl)
  by_cases h3 : w.data.length = 0
  · simp -implicitDefEqProofs [go_sem, h1, h2, h3]
    exact Fin.er (by rw [fitsS, if_neg (by simp; omega), if_pos h3]) hokH (by simp) (by simp)
  simp -implicitDefEqProofs [go_sem, h1, h2, h3]
  refine SWp.drawnT [] [] (.s 0 .pl <| .s 1 .pl <| .s 2 .pl <| .s 3 .pl <| .s 4 .pl <| .s 5 .pl <| .s 6 .pl <| .s 7 .pl <| .s 8 .pl <| .s 9 .pl <| .s 10 .pl <| .s 11 .pl <| .s 12 .pl <| .s 13 .pl <| .s 14 .pl <| .s 15 .pl <| .s 16 .pl <| .s 17 .pl <| .s 18 .pl <| .n) (by kernel_rfl) (by kernel_rfl) ?_
  have hg : (imgSz l).getD w.volume.toNat 0 = (l[n].length : Int) := by rw [hn]; exact imgSz_getD l n hnl
  have hwr : IntKind.i64.wrap ((l[n].length : Int) - (w.data.length : Int)) = (l[n].length : Int) - (w.data.length : Int) := IntWalk.i64_in _ ⟨by omega, by omega⟩
  have hfit : fitsS (imgSz l) w = if w.start < 0 ∨ (l[n].length : Int) - (w.data.length : Int) < w.start then 2 else 0 := by
    rw [fitsS, if_neg (by simp; omega), if_neg h3, hg]
  rw [hfit]
  by_cases h4 : w.start < 0
  · simp -implicitDefEqProofs [go_sem, h4]
    exact Fin.er rfl hokH (by simp) (by simp)
  · simp -implicitDefEqProofs [go_sem, h4, hn, hnl, hwr]
    refine ⟨fun h5 => Fin.er (by rw [if_pos h5]) hokH (by simp) (by simp), fun h5 => ?_⟩
    refine Wp.s ?_
    simp -implicitDefEqProofs [go_sem]
    exact Fin.er (by rw [if_neg (by omega)]) hokH (by simp) (by simp)
def putV (v : List Sec) (p : Nat) (d : List Sec) : List Sec := v.take p ++ d ++ v.drop (p + d.length)
def ap1 (l : Img) (w : Wr) : Img := l.set w.volume.toNat (putV (l.getD w.volume.toNat []) w.start.toNat w.data)
def apI : Img → List Wr → Nat → Img × Nat × Nat
  | l, [], _ => (l, 0, 0)
  | l, w :: ws, i => if fitsS (imgSz l) w ≠ 0 then ([], i, fitsS (imgSz l) w) else apI (ap1 l w) ws (i + 1)
theorem putV_len {v : List Sec} {p : Nat} {d : List Sec} (h : p + d.length ≤ v.length) : (putV v p d).length = v.length := by
  rw [putV, List.length_append, List.length_append, List.length_take, List.length_drop]; omega
end Go.Proofs.YtpedbpbmnchllaaGreatDoor
namespace Go.Proofs.YtpedbpbmnchllaaGreatDoor
open Go.Proofs
def apR (l : Img) (ws : List Wr) : Img × Nat × Nat := if sizesE (imgSz l) ≠ 0 then ([], 0, sizesE (imgSz l)) else apI l ws 0
def apV (x : Img × Nat × Nat) : CV := .tup [imV x.1, ci x.2.1, er x.2.2]
theorem okV_apV (i j : Nat) (x : Img × Nat × Nat) : okV i j (apV x) := by
  rw [apV, okV, okL, okL, okL, okL]
  simp [go_sem, okL, okV]
theorem imH_get (H : Hp) (k : Img) (j : Nat) (h : j < k.length) : (H ++ imH k)[H.length + j]? = some (some (secsF k[j])) := by
  rw [hget, imH, List.getElem?_map, List.getElem?_eq_getElem h]; rfl
theorem sizes_pos {l : Img} (h : sizesE (imgSz l) = 0) : l.length ≤ 8 ∧ ∀ v ∈ l, v ≠ [] ∧ v.length ≤ 4096 := by
  obtain ⟨s1, s2, s3⟩ := sizesE_0 h
  rw [imgSz, List.length_map] at s2
  refine ⟨by omega, fun v hv => ?_⟩
  have := s3 (v.length : Int) (List.mem_map.2 ⟨v, hv, rfl⟩)
  refine ⟨fun e => ?_, by omega⟩
  rw [e] at this; simp at this
theorem fitsI_0 {k : Img} {w : Wr} (h : fitsS (imgSz k) w = 0) : ∃ n : Nat, w.volume = (n : Int) ∧ ∃ hn : n < k.length, w.data.length ≠ 0 ∧ ∃ p : Nat, w.start = (p : Int) ∧ p + w.data.length ≤ k[n].length := by
  unfold fitsS at h
  rw [imgSz, List.length_map] at h
  split at h
  · cases h
  · rename_i h1
    split at h
    · cases h
    · rename_i h2
      split at h
      · cases h
      · rename_i h3
        obtain ⟨n, hn⟩ := Int.eq_ofNat_of_zero_le (show 0 ≤ w.volume by omega)
        obtain ⟨p, hp⟩ := Int.eq_ofNat_of_zero_le (show 0 ≤ w.start by omega)
        have hnk : n < k.length := by omega
        have hg := imgSz_getD k n hnk
        rw [imgSz] at hg
        rw [hn, Int.toNat_natCast, hg] at h3
        exact ⟨n, hn, hnk, h2, p, hp, by omega⟩
theorem ap1_len (k : Img) (w : Wr) : (ap1 k w).length = k.length := List.length_set ..
theorem ap1_sz {k : Img} {w : Wr} (h : fitsS (imgSz k) w = 0) : (ap1 k w).map List.length = k.map List.length := by
  obtain ⟨n, hvn, hnk, hd0, p, hpn, hpl⟩ := fitsI_0 h
  rw [ap1, hvn, hpn, Int.toNat_natCast, Int.toNat_natCast, List.getD_eq_getElem?_getD, List.getElem?_eq_getElem hnk, Option.getD_some, List.map_set, putV_len hpl]
  apply List.ext_getElem
  · simp
  · intro i h1 h2
    by_cases e : n = i
    · subst e; simp
    · simp [List.getElem_set_ne e]
theorem okE_bxs' (b : Nat) (k : Img) (jb jv : Nat) (h : b + k.length ≤ jb) : okE jb jv (bxs b k) := okE_bxs jb jv b k h
theorem okH_imH (i j : Nat) : ∀ l : Img, okH i j (imH l)
  | [] => trivial
  | v :: l => ⟨by rw [okL_secsF]; trivial, okH_imH i j l⟩
theorem imH_set (H : Hp) (k : Img) (n : Nat) (v : List Sec) : (H ++ imH k).set (H.length + n) (some (secsF v)) = H ++ imH (k.set n v) := by
  rw [List.set_append_right _ _ (by omega), Nat.add_sub_cancel_left, imH, imH, List.map_set]
theorem FyL.rflI (b : Nat) (cs : List CV) : ∀ l : List CV, FyL b cs l l
  | [] => .nil
  | c :: l => .cons (.refl c) (FyL.rflI b cs l)
theorem FyE.rflI (b : Nat) (cs : List CV) : ∀ l : List (List CV), FyE b cs l l
  | [] => .nil
  | c :: l => .cons (FyL.rflI b cs c) (FyE.rflI b cs l)
theorem FyE.appI {bx : Nat} {cs : List CV} {a b : List (List CV)} {c d : List (List CV)} : FyE bx cs a b → FyE bx cs c d → FyE bx cs (a ++ c) (b ++ d)
  | .nil, h => h
  | .cons h t, g => .cons h (FyE.appI t g)
theorem gst_bxs {n nb nv b : Nat} {V : List Nat} {cs : List CV} : ∀ (l d : Img) (H : Hp) (tk : Tk), (∀ j (h : j < l.length), H[b + d.length + j]? = some (some (secsF l[j]))) →
    ∃ H' : Hp, H'.take b = H.take b ∧ Gst n nb nv [(0, .tup (.sl tk 1 (d.map imE ++ bxs (b + d.length) l) :: cs))] H V [(0, .tup (.sl .sh 1 ((d ++ l).map imE) :: cs))] H' V
  | [], d, H, tk, h => ⟨H, rfl, Gst.forget fun p hp => by
      obtain rfl : p = _ := by simpa using hp
      simp only [tget, if_pos, bxs, List.append_nil]
      exact .tup (.cons (.sh _ _ _) (LeL.refl cs))⟩
  | v :: l, d, H, tk, h => by
    have h0 : H[b + d.length]? = some (some (secsF v)) := h 0 (by simp)
    obtain ⟨H', h1, h2⟩ := gst_bxs (n := n) (nb := nb) (nv := nv) (b := b) (V := V) (cs := cs) l (d ++ [v]) (H.set (b + d.length) none) .sh (fun j hj => by
      rw [List.length_append, List.length_singleton, List.getElem?_set_ne (by omega)]
      have := h (j + 1) (by simpa using hj)
      rw [show b + (d.length + 1) + j = b + d.length + (j + 1) by omega, this]
      rfl)
    refine ⟨H', by rw [h1, List.take_set_of_le (by omega)], Gst.trans (T' := [(0, .tup (.sl .sh 1 (d.map imE ++ (imE v :: bxs (b + d.length + 1) l)) :: cs))]) (Gst.freezeY h0 fun p hp => ?_) ?_⟩
    · obtain rfl : p = _ := by simpa using hp
      simp only [tget, if_pos, bxs]
      have := Fy.bsl (b := b + d.length) (cs := secsF v) 0 v.length 8 (by rw [secsF_len]; omega)
      rw [List.drop_zero, chunks_secs] at this
      exact .tup (.cons (.sl _ _ (FyE.appI (FyE.rflI _ _ _) (.cons (.cons this .nil) (FyE.rflI _ _ _)))) (FyL.rflI _ _ _))
    · have e1 : d.map imE ++ (imE v :: bxs (b + d.length + 1) l) = (d ++ [v]).map imE ++ bxs (b + (d ++ [v]).length) l := by simp [Nat.add_assoc]
      rw [e1]
      rw [List.append_assoc] at h2
      exact h2
theorem fin_bxs {H : Hp} {V V' : List Nat} {tk : Tk} {k : Img} {a b : Nat} (hokH : ∀ (b : Nat) cs, H[b]? = some (some cs) → okL H.length V.length cs) (hV : V'.take V.length = V) :
    Fin H.length V.length (Pu (apV (k, a, b)) H V) (.tup [.sl tk 1 (bxs H.length k), ci a, er b]) (H ++ imH k) V' := by
  obtain ⟨H', h1, h2⟩ := gst_bxs (n := 1) (nb := H.length) (nv := V.length) (b := H.length) (V := V') (cs := [ci a, er b]) k [] (H ++ imH k) tk (fun j hj => imH_get H k j hj)
  refine ⟨_, H, V, Gst.trans h2 ?_, ⟨rfl, rfl, rfl⟩⟩
  rw [List.take_left] at h1
  have := Gst.cut (n := 1) (nb := H.length) (nv := V.length) (T := [(0, apV (k, a, b))]) (H := H') (V := V') H.length V.length (Nat.le_refl _) (Nat.le_refl _) (fun p hp => by simp at hp; subst hp; exact okV_apV _ _ _) (by rw [h1]; exact hokH)
  rwa [h1, hV] at this
set_option maxRecDepth 8000 in
theorem imApply_cc (H : Hp) (V : List Nat) (tk : Tk) (l : Img) (ws : List Wr) (hl : l.length ≤ 1000000000) (hn : ws.length ≤ 1000000000) (hw : ∀ w ∈ ws, w.data.length ≤ 1000000000) : CC Tryz.prog 25 [.sl tk 1 (l.map imE), .sl .sh 3 (ws.map wrC)] H V (Pu (apV (apR l ws)) H V) := by
  refine CC.of_swp Tryz.func25 rfl (by kernel_rfl) (by rw [Tryz.ntmps25]; exact len_le _ _ rfl) fun hok hokH => ?_
  clear hok
  have bad : ∀ (i e : Nat) (H' : Hp) (V' : List Nat), apR l ws = ([], i, e) → H'.take H.length = H → V'.take V.length = V → Fin H.length V.length (Pu (apV (apR l ws)) H V) (.tup [.v (.slice none 0 0), ci i, er e]) H' V' := fun i e H' V' h1 h2 h3 => by
    rw [h1]
    exact Fin.pu (.tup (.cons (.nil 1 (by decide)) (.cons (.refl _) (.cons (.refl _) .nil)))) (okV_apV _ _ _) hokH h2 h3
  refine SWp.seq (Wp.s ?_)
  simp -implicitDefEqProofs [go_sem, args0]
  refine SWp.seq (SWp.seq (Wp.s ?_))
  simp -implicitDefEqProofs [go_sem]
  refine CC.mono (iCheck_cc _ _ tk l hl) ?_
  rintro _ _ _ ⟨rfl, rfl, rfl⟩
  simp -implicitDefEqProofs [go_sem]
  refine SWp.seq (Wp.s ?_)
  by_cases h0 : sizesE (imgSz l) = 0
  case neg =>
    simp -implicitDefEqProofs [go_sem, h0]
    refine Wp.s ?_
    simp -implicitDefEqProofs [go_sem]
    exact bad 0 _ _ _ (by rw [apR, if_pos h0]) (by simp) (by simp)
  have e0 : apR l ws = apI l ws 0 := by rw [apR, if_neg (by simp [h0])]
  simp -implicitDefEqProofs [go_sem, h0]
  refine Wp.s ?_
  simp -implicitDefEqProofs [go_sem]
  obtain ⟨hl8, hvs⟩ := sizes_pos h0
  refine SWp.seq (Wp.s ?_)
  simp -implicitDefEqProofs [go_sem]
  refine CC.mono (imCopied_cc _ _ tk l (by omega) (fun v hv => ⟨(hvs v hv).1, by have := (hvs v hv).2; omega⟩)) ?_
  rintro _ _ _ ⟨rfl, rfl, rfl⟩
  simp -implicitDefEqProofs [go_sem]
  refine SWp.join (α := Img) (fun k => ([(8, .sl (.own V.length l.length) 1 (bxs H.length l))], H ++ imH k, V ++ [l.length])) (fun k => k.map List.length = l.map List.length ∧ apI l ws 0 = (k, 0, 0)) ?_ ?_
  · refine SWp.seq (Wp.s ?_)
    simp -implicitDefEqProofs [go_sem]
    refine SWp.block ?_
    refine SWp.loop (α := Nat × Img) (fun x => ([(8, .sl (.own V.length l.length) 1 (bxs H.length l)), (19, .sl .sh 3 (ws.map wrC)), (20, ci ws.length), (21, ci x.1)], H ++ imH x.2, V ++ [l.length])) (fun x => x.1 ≤ ws.length ∧ x.2.map List.length = l.map List.length ∧ apI l ws 0 = apI x.2 (ws.drop x.1) x.1) (fun x => ws.length - x.1) (0, l) ⟨Nat.zero_le _, rfl, rfl⟩ (Sh.forget (by simp [go_sem]) rfl rfl) ?_
    rintro ⟨i, k⟩ ⟨hi, hk, hap⟩
    dsimp only at hi hk hap ⊢
    refine SWp.seq (Wp.s ?_)
    simp -implicitDefEqProofs [go_sem]
    refine SWp.seq (Wp.s ?_)
    simp -implicitDefEqProofs [go_sem]
    have hkl : k.length = l.length := by have := congrArg List.length hk; simpa using this
    refine ⟨fun h => ?_, fun h => ?_⟩
    case refine_2 =>
      rw [List.drop_of_length_le h] at hap
      exact ⟨k, ⟨hk, hap⟩, Sh.forget (by simp [go_sem]) rfl rfl⟩
    rw [List.drop_eq_getElem_cons h] at hap
    have hbxe := bxs_eq H.length hk
    have hkn : ∀ v ∈ k, v.length ≤ 4096 := fun v hv => by
      have : v.length ∈ k.map List.length := List.mem_map.2 ⟨v, hv, rfl⟩
      rw [hk] at this
      obtain ⟨u, hu, he⟩ := List.mem_map.1 this
      have := (hvs u hu).2; omega
    have hdw := hw _ (List.getElem_mem h)
    obtain ⟨G, hG⟩ : ∃ G, G = H ++ imH k := ⟨_, rfl⟩
    have hGl : G.length = H.length + l.length := by rw [hG]; simp [hkl]
    have hGH : G.take H.length = H := by rw [hG]; simp
    rw [← hG]
    rw [← hbxe]
    refine SWp.seq (SWp.block (SWp.seq (Wp.s ?_)))
    simp -implicitDefEqProofs [go_sem, h]
    refine SWp.seq (SWp.seq (Wp.s ?_))
    simp -implicitDefEqProofs [go_sem]
    refine CC.mono (fitsB_cc _ _ _ H.length k ws[i] (by omega) (fun v hv => by have := hkn v hv; omega) hdw (by simp [hGl, hkl])) ?_
    rintro _ _ _ ⟨rfl, rfl, rfl⟩
    simp -implicitDefEqProofs [go_sem]
    refine SWp.seq (Wp.s ?_)
    by_cases hf : fitsS (imgSz k) ws[i] = 0
    case neg =>
      simp -implicitDefEqProofs [go_sem, hf]
      refine Wp.s ?_
      simp -implicitDefEqProofs [go_sem]
      refine bad i _ _ _ (by rw [e0, hap, apI, if_pos hf]) ?_ (by simp)
      rw [List.take_append_of_le_length (by omega)]; exact hGH
    rw [apI, if_neg (by simp [hf])] at hap
    simp -implicitDefEqProofs [go_sem, hf]
    refine Wp.s ?_
    simp -implicitDefEqProofs [go_sem]
    obtain ⟨n, hvn, hnk, hd0, p, hpn, hpl⟩ := fitsI_0 hf
    have hGn : G[H.length + n]? = some (some (secsF k[n])) := by rw [hG]; exact imH_get H k n hnk
    have hkl4 := hkn _ (List.getElem_mem hnk)
    refine SWp.drawnT [G.length] [10] (.s 0 .pl <| .s 1 .pl <| .s 2 .ld <| .s 3 .pl <| .s 4 .ld <| .s 5 .pl <| .s 6 .ld <| .s 7 .pl <| .s 8 .pl <| .s 9 .pl <| .s 10 .st <| .n) (by kernel_rfl) (by kernel_rfl) ?_
    have hX : ∀ (z : List CV) (K : List CV → Prop), hbx (G ++ [some z]) (H.length + n) K = K (secsF k[n]) := fun z K => hbx_of (by rw [List.getElem?_append_left (by omega)]; exact hGn) K
    simp -implicitDefEqProofs [go_sem, hvn, hpn, hnk, hX]
    refine ⟨by omega, by omega, secsF_all _, by omega, Kp.keep fun b hb => ?_, Wp.s ?_⟩
    · obtain rfl : b = G.length := by simpa using hb
      rw [List.getElem?_set_ne (by omega)]
    simp -implicitDefEqProofs [go_sem, wrap_succ (show i ≤ 1000000000 by omega)]
    refine ⟨i + 1, ap1 k ws[i], ⟨by omega, (ap1_sz hf).trans hk, hap⟩, by omega, ?_⟩
    refine Sh.trim (L := imH (ap1 k ws[i])) (by simp [go_sem]) (by simp [go_sem, okE_bxs' H.length k, ap1_len]) hokH (okH_imH _ _ _) (by simp) ?_ (by simp)
    rw [imH_len, ap1_len, hkl, List.set_append_left _ _ (by omega), List.take_append_of_le_length (by simp; omega), List.take_of_length_le (by simp; omega), hG]
    rw [show List.take (p * 8) (secsF k[n]) ++ ((List.map secC ws[i].data).flatten ++ List.drop (p * 8 + ws[i].data.length * 8) (secsF k[n])) = secsF (putV k[n] p ws[i].data) from by
      rw [← Nat.add_mul, secsF_take, secsF_drop, putV, secsF_app, secsF_app, List.append_assoc]; rfl]
    rw [imH_set, ap1, hvn, hpn, Int.toNat_natCast, Int.toNat_natCast, List.getD_eq_getElem?_getD, List.getElem?_eq_getElem hnk, Option.getD_some]
  rintro k ⟨hk, hap⟩
  dsimp only
  have hkl : k.length = l.length := by have := congrArg List.length hk; simpa using this
  rw [← bxs_eq H.length hk]
  refine Wp.s ?_
  simp -implicitDefEqProofs [go_sem]
  rw [e0, hap]
  exact fin_bxs hokH (by simp)
end Go.Proofs.YtpedbpbmnchllaaGreatDoor
namespace Go.Proofs.YtpedbpbmnchllaaGreatDoor
open Go.Proofs
structure Bm where
  n : Nat
  w : Nat
@[go_sem] theorem gcv_0 : gcv 0 = .eptr (gtabC dbT) 0 := rfl
@[go_sem, simp] theorem gtabC_len (l : List Nat) : (gtabC l).length = l.length := List.length_map ..
@[go_sem, simp] theorem gtabC_get (l : List Nat) (i : Nat) (h : i < (gtabC l).length) : (gtabC l)[i] = .v (.int .u8 ((l[i]'(by simpa using h) : Nat) : Int)) := by simp [gtabC]
def bmC (b : Bm) : List CV := [ci b.n, .sl .sh 1 [[wv b.w]]]
@[go_sem, simp] theorem bmC_len (b : Bm) : (bmC b).length = 2 := rfl
@[go_sem, simp] theorem bmC_all (b : Bm) : allOne (bmC b) = true := rfl
@[go_sem, simp] theorem bmC_0 (b : Bm) (h : 0 < (bmC b).length) : (bmC b)[0] = ci b.n := rfl
@[go_sem, simp] theorem bmC_1 (b : Bm) (h : 1 < (bmC b).length) : (bmC b)[1] = .sl .sh 1 [[wv b.w]] := rfl
@[go_sem, simp] theorem bmC_take (b : Bm) : (bmC b).take 2 = bmC b := rfl
@[go_sem, simp] theorem bmC_drop (b : Bm) : (bmC b).drop 2 = [] := rfl
@[go_sem] theorem okL_bmC (jb jv : Nat) (b : Bm) : okL jb jv (bmC b) = True := by simp [bmC, go_sem, okL, okV, okE, okTk, wv]
@[go_sem] theorem wv_one (n : Nat) : (wv n).one = true := rfl
@[go_sem] theorem wv_cells (n : Nat) : (wv n).cells = [wv n] := rfl
theorem wv_eq (n : Nat) : wv n = .v (.int .u64 (n : Int)) := rfl
structure BmOk (b : Bm) : Prop where
  lo : 1 ≤ b.n
  hi : b.n ≤ 63
  lt : b.w < 2 ^ b.n
theorem BmOk.lt64 {b : Bm} (h : BmOk b) : b.w < 18446744073709551616 := pow_lt64 h.lt (by have := h.hi; omega)
theorem words_cc (H : Hp) (V : List Nat) (n : Nat) (h1 : 1 ≤ n) (h2 : n ≤ 63) : CC Tryz.prog 125 [ci n] H V (Pu (ci 1) H V) := by
  refine CC.of_swp Tryz.func125 rfl (by kernel_rfl) (by rw [Tryz.ntmps125]; exact len_le _ _ rfl) fun hok hokH => ?_
  clear hok
  have w1 : IntKind.i64.wrap ((n : Int) + 64) = (n : Int) + 64 := IntWalk.i64_in _ ⟨by omega, by omega⟩
  have w2 : IntKind.i64.wrap ((n : Int) + 64 - 1) = (n : Int) + 63 := by rw [IntWalk.i64_in _ ⟨by omega, by omega⟩]; omega
  have t1 : ((n : Int) + 63).tdiv 64 = 1 := by rw [Int.tdiv_eq_ediv_of_nonneg (by omega)]; omega
  have w3 : IntKind.i64.wrap (1 : Int) = 1 := rfl
  refine SWp.seq (Wp.s ?_)
  simp -implicitDefEqProofs [go_sem, args0]
  refine SWp.seq (Wp.s ?_)
  simp -implicitDefEqProofs [go_sem, w1, w2, t1, w3]
  refine Wp.s ?_
  simp -implicitDefEqProofs [go_sem]
  exact Fin.int rfl hokH (by simp) (by simp)
theorem bmNew_cc (H : Hp) (V : List Nat) (n : Nat) (h1 : 1 ≤ n) (h2 : n ≤ 63) : CC Tryz.prog 87 [ci n] H V (Pu (.tup [.agg (bmC ⟨n, 0⟩), er 0]) H V) := by
  refine CC.of_swp Tryz.func87 rfl (by kernel_rfl) (by rw [Tryz.ntmps87]; exact len_le _ _ rfl) fun hok hokH => ?_
  clear hok
  refine SWp.seq (Wp.s ?_)
  simp -implicitDefEqProofs [go_sem, args0]
  refine SWp.seq (SWp.seq (Wp.s ?_))
  simp -implicitDefEqProofs [go_sem, show ¬ (n : Int) < 0 by omega, show ¬ (4096 : Int) < n by omega]
  refine Wp.s ?_
  simp -implicitDefEqProofs [go_sem]
  refine SWp.seq (Wp.s ?_)
  simp -implicitDefEqProofs [go_sem]
  refine CC.mono (words_cc _ _ n h1 h2) ?_
  rintro _ _ _ ⟨rfl, rfl, rfl⟩
  simp -implicitDefEqProofs [go_sem]
  refine Wp.s ?_
  simp -implicitDefEqProofs [go_sem]
  refine Fin.frozY (b := H.length + 1) (cs := [wv 0]) (r1 := .tup [.agg [ci n, .bsl (H.length + 1) 0 1 1], er 0]) (r2 := .tup [.agg (bmC ⟨n, 0⟩), er 0]) ⟨rfl, rfl, rfl⟩ ?_ (hget _ _ 1) ?_ (by omega) (by simp [go_sem]) hokH (by simp) (by simp)
  · exact .refl _
  · exact .tup (.cons (.agg (.cons (.refl _) (.cons (.bsl 0 1 1 (by simp)) .nil))) (.cons (.refl _) .nil))
theorem bmCheck_cc (H : Hp) (V : List Nat) (b : Bm) (hb : BmOk b) : CC Tryz.prog 93 [.agg (bmC b)] H V (Pu (er 0) H V) := by
  refine CC.of_swp Tryz.func93 rfl (by kernel_rfl) (by rw [Tryz.ntmps93]; exact len_le _ _ rfl) fun hok hokH => ?_
  clear hok
  have b1 := hb.lo
  have b2 := hb.hi
  refine SWp.seq (Wp.s ?_)
  simp -implicitDefEqProofs [go_sem, args0]
  refine SWp.seq (SWp.seq (SWp.drawnT [] [] (.s 0 .pl <| .s 1 .pl <| .s 2 .pl <| .s 3 .pl <| .s 4 .pl <| .s 5 .pl <| .s 6 .pl <| .s 7 .pl <| .s 8 .pl <| .s 9 .pl <| .s 10 .pl <| .s 11 .pl <| .s 12 .pl <| .s 13 .pl <| .s 14 .pl <| .s 15 .pl <| .s 16 .pl <| .n) (by kernel_rfl) (by kernel_rfl) ?_))
  simp -implicitDefEqProofs [go_sem, show ¬ (b.n : Int) < 0 by omega, show ¬ (4096 : Int) < b.n by omega]
  refine CC.mono (words_cc _ _ b.n b1 b2) ?_
  rintro _ _ _ ⟨rfl, rfl, rfl⟩
  simp -implicitDefEqProofs [go_sem]
  refine Wp.s ?_
  simp -implicitDefEqProofs [go_sem]
  have t1 : ((b.n : Int)).tmod 64 = b.n := by rw [Int.tmod_eq_emod_of_nonneg (by omega)]; omega
  have s1 : shr .u64 (b.w : Int) (b.n : Int) = 0 := by rw [shr64 _ _ (by omega), Nat.shiftRight_eq_zero _ _ hb.lt]; rfl
  have w0 : IntKind.i64.wrap (0 : Int) = 0 := rfl
  refine SWp.seq (Wp.s ?_)
  simp -implicitDefEqProofs [go_sem, t1, show (0 : Int) < (b.n : Int) by omega, show 0 < b.n by omega, wv_eq, s1, w0]
  refine Wp.s ?_
  simp -implicitDefEqProofs [go_sem]
  exact Fin.er rfl hokH (by simp) (by simp)
theorem bmFits_cc (H : Hp) (V : List Nat) (s c n : Nat) (h : s + c ≤ n) (hn : n ≤ 63) : CC Tryz.prog 140 [.agg [ci s, ci c], ci n] H V (Pu (cb true) H V) := by
  refine CC.of_swp Tryz.func140 rfl (by kernel_rfl) (by rw [Tryz.ntmps140]; exact len_le _ _ rfl) fun hok hokH => ?_
  clear hok
  refine SWp.seq (Wp.s ?_)
  simp -implicitDefEqProofs [go_sem, args0]
  have w1 : IntKind.i64.wrap ((n : Int) - s) = (n : Int) - s := IntWalk.i64_in _ ⟨by omega, by omega⟩
  refine SWp.seq (Wp.s ?_)
  simp -implicitDefEqProofs [go_sem, show (0 : Int) ≤ s by omega, show (0 : Int) ≤ c by omega, show (s : Int) ≤ n by omega, show s ≤ n by omega, w1, show (c : Int) ≤ (n : Int) - s by omega]
  refine Wp.s ?_
  simp -implicitDefEqProofs [go_sem]
  exact Fin.bool rfl hokH (by simp) (by simp)
theorem mask_cc (H : Hp) (V : List Nat) (f t : Nat) (hf : f ≤ 64) (ht : t ≤ 64) : CC Tryz.prog 141 [ci 0, ci f, ci t] H V (Pu (wv (maskN f t)) H V) := by
  refine CC.of_swp Tryz.func141 rfl (by kernel_rfl) (by rw [Tryz.ntmps141]; exact len_le _ _ rfl) fun hok hokH => ?_
  clear hok
  have w1 : IntKind.i64.wrap (0 : Int) = 0 := rfl
  have w2 : IntKind.i64.wrap ((f : Int)) = f := IntWalk.i64_in _ ⟨by omega, by omega⟩
  have w3 : IntKind.i64.wrap ((t : Int)) = t := IntWalk.i64_in _ ⟨by omega, by omega⟩
  have m1 : max (f : Int) 0 = f := by omega
  have m2 : min (t : Int) 64 = t := by omega
  refine SWp.seq (Wp.s ?_)
  simp -implicitDefEqProofs [go_sem, args0]
  refine SWp.seq (Wp.s ?_)
  simp -implicitDefEqProofs [go_sem, w1, w2, w3, m1, m2]
  refine SWp.seq (SWp.seq (Wp.s ?_))
  by_cases h : t ≤ f
  · simp -implicitDefEqProofs [go_sem, show (t : Int) ≤ f by omega]
    refine Wp.s ?_
    simp -implicitDefEqProofs [go_sem, h]
    exact Fin.int (by rw [maskN, show t - f = 0 by omega]; simp) hokH (by simp) (by simp)
  · have h' : ¬ (t : Int) ≤ f := by omega
    have w4 : IntKind.i64.wrap ((t : Int) - f) = ((t - f : Nat) : Int) := by rw [IntWalk.i64_in _ ⟨by omega, by omega⟩]; omega
    have w5 : IntKind.i64.wrap (64 - ((t - f : Nat) : Int)) = ((64 - (t - f) : Nat) : Int) := by rw [IntWalk.i64_in _ ⟨by omega, by omega⟩]; omega
    have s1 : shr .u64 18446744073709551615 ((64 - (t - f) : Nat) : Int) = ((2 ^ (t - f) - 1 : Nat) : Int) := by
      have := shr64 18446744073709551615 (64 - (t - f)) (by omega)
      rw [shrAll (by omega)] at this
      exact this
    have s2 : shl .u64 ((2 ^ (t - f) - 1 : Nat) : Int) (f : Int) = ((maskN f t : Nat) : Int) := by
      have := maskN_lt f t
      rw [shl64 _ _ (by omega) (pow_lt64 (k := max f t) (maskN_lt f t) (by omega))]
      rfl
    simp -implicitDefEqProofs [go_sem, h, h']
    refine Wp.s ?_
    simp -implicitDefEqProofs [go_sem]
    refine SWp.seq (Wp.s ?_)
    simp -implicitDefEqProofs [go_sem, w4, w5, s1, s2]
    refine Wp.s ?_
    simp -implicitDefEqProofs [go_sem]
    exact Fin.int rfl hokH (by simp) (by simp)
theorem tz_cc (H : Hp) (V : List Nat) (k m : Nat) (h : (2 * m + 1) * 2 ^ k < 18446744073709551616) : CC Tryz.prog 144 [wv ((2 * m + 1) * 2 ^ k)] H V (Pu (ci k) H V) := by
  refine CC.of_swp Tryz.func144 rfl (by kernel_rfl) (by rw [Tryz.ntmps144]; exact len_le _ _ rfl) fun hok hokH => ?_
  clear hok
  have hk : k < 64 := low_lt (n := 64) h
  have hp : 0 < (2 * m + 1) * 2 ^ k := Nat.mul_pos (by omega) (Nat.two_pow_pos _)
  have hn := low_neg h
  have hbr := bruijn k hk
  generalize (2 * m + 1) * 2 ^ k = x at h hp hn ⊢
  generalize 2 ^ k = q at hbr hn
  refine SWp.seq (Wp.s ?_)
  simp -implicitDefEqProofs [go_sem, args0]
  refine SWp.seq (SWp.seq (Wp.s ?_))
  simp -implicitDefEqProofs [go_sem, wv_eq, show ¬ (x : Int) = 0 by omega, show ¬ x = 0 by omega]
  refine Wp.s ?_
  simp -implicitDefEqProofs [go_sem]
  have w1 : IntKind.u64.wrap (-(x : Int)) = ((18446744073709551616 - x : Nat) : Int) := by rw [IntKind.wrap_u64]; omega
  have w2 : bitop .and .u64 (x : Int) ((18446744073709551616 - x : Nat) : Int) = (q : Int) := by rw [and64 h (by omega), hn]
  have w3 : IntKind.u64.wrap ((q : Int) * 285870213051353865) = (((q * 285870213051353865) % 18446744073709551616 : Nat) : Int) := by rw [IntKind.wrap_u64]; omega
  generalize q * 285870213051353865 % 18446744073709551616 = y at hbr w3
  have s1 : shr .u64 (y : Int) 58 = ((y / 288230376151711744 : Nat) : Int) := by rw [show (58 : Int) = ((58 : Nat) : Int) from rfl, shr64 _ _ (by omega), Nat.shiftRight_eq_div_pow]
  obtain ⟨hlt, hge⟩ := List.getElem?_eq_some_iff.1 hbr
  generalize y / 288230376151711744 = z at hlt hge s1
  clear hbr
  have w4 : IntKind.i64.wrap ((k : Int)) = k := IntWalk.i64_in _ ⟨by omega, by omega⟩
  have hlt' : z < 64 := hlt
  refine SWp.seq (Wp.s ?_)
  simp -implicitDefEqProofs [go_sem, w1, w2, w3, s1, hge, w4]
  refine ⟨by omega, hlt, ?_⟩
  refine Wp.s ?_
  simp -implicitDefEqProofs [go_sem]
  exact Fin.int rfl hokH (by simp) (by simp)
theorem orF_cc (H : Hp) (V : List Nat) (a b : Nat) (ha : a < 18446744073709551616) (hb : b < 18446744073709551616) : CC Tryz.prog 90 [wv a, wv b] H V (Pu (wv (a ||| b)) H V) := by
  refine CC.of_swp Tryz.func90 rfl (by kernel_rfl) (by rw [Tryz.ntmps90]; exact len_le _ _ rfl) fun hok hokH => ?_
  clear hok
  refine SWp.seq (Wp.s ?_)
  simp -implicitDefEqProofs [go_sem, args0]
  refine SWp.seq (Wp.s ?_)
  simp -implicitDefEqProofs [go_sem, wv_eq, or64 ha hb]
  refine Wp.s ?_
  simp -implicitDefEqProofs [go_sem]
  exact Fin.int rfl hokH (by simp) (by simp)
theorem setF_cc (H : Hp) (V : List Nat) (a b : Nat) (ha : a < 18446744073709551616) (hb : b < 18446744073709551616) : CC Tryz.prog 126 [wv a, wv b] H V (Pu (wv (a ||| b)) H V) := by
  refine CC.of_swp Tryz.func126 rfl (by kernel_rfl) (by rw [Tryz.ntmps126]; exact len_le _ _ rfl) fun hok hokH => ?_
  clear hok
  refine SWp.seq (Wp.s ?_)
  simp -implicitDefEqProofs [go_sem, args0]
  refine SWp.seq (Wp.s ?_)
  simp -implicitDefEqProofs [go_sem, wv_eq, or64 ha hb]
  refine Wp.s ?_
  simp -implicitDefEqProofs [go_sem]
  exact Fin.int rfl hokH (by simp) (by simp)
theorem cloneW_cc (H : Hp) (V : List Nat) (x : Nat) : CC Tryz.prog 48 [.sl .sh 1 [[wv x]]] H V (fun r H' V' => r = .bsl H.length 0 1 1 ∧ H' = H ++ [some [wv x]] ∧ V = V') := by
  refine CC.of_swp Tryz.func48 rfl (by kernel_rfl) (by rw [Tryz.ntmps48]; exact len_le _ _ rfl) fun hok hokH => ?_
  clear hok
  refine SWp.seq (Wp.s ?_)
  simp -implicitDefEqProofs [go_sem, args0]
  refine SWp.seq (SWp.seq (Wp.s ?_))
  simp -implicitDefEqProofs [go_sem]
  refine Wp.s ?_
  simp -implicitDefEqProofs [go_sem]
  refine SWp.seq (SWp.opx (pre := [_, _]) (post := [_]) rfl (by intro c e; cases e) ?_)
  simp -implicitDefEqProofs [go_sem]
  refine ⟨_, _, _, appbox (sz := 1) (tk := .sh) (ys := [[wv x]]) slTy108 slTy108 rfl rfl (by simp) (by simp), ?_⟩
  simp -implicitDefEqProofs [go_sem]
  refine Wp.s ?_
  simp -implicitDefEqProofs [go_sem]
  refine Fin.cut (H.length + 1) V.length ⟨rfl, rfl, rfl⟩ (Nat.le_succ _) (Nat.le_refl _) (List.take_of_length_le (by simp)) (List.take_of_length_le (Nat.le_refl _)) (.bsa _ _ _) (by simp [go_sem]) ?_
  intro b cs hb
  rw [List.getElem?_append] at hb
  split at hb
  · exact okL_mono (Nat.le_succ _) (Nat.le_refl _) (hokH b cs hb)
  · exact okH_get (i := H.length + 1) (j := V.length) (L := [some [wv x]]) (by simp [go_sem, wv]) _ _ hb
def setB (b : Bm) (s c : Nat) : Bm := ⟨b.n, b.w ||| maskN s (s + c)⟩
theorem setB_ok {b : Bm} {s c : Nat} (hb : BmOk b) (h : s + c ≤ b.n) : BmOk (setB b s c) :=
  ⟨hb.lo, hb.hi, Nat.or_lt_two_pow hb.lt (Nat.lt_of_lt_of_le (maskN_lt s (s + c)) (Nat.pow_le_pow_right (by decide) (Nat.max_le.2 ⟨Nat.le_trans (Nat.le_add_right s c) h, h⟩)))⟩
theorem bmApply_cc (H : Hp) (V : List Nat) (b : Bm) (s c : Nat) (hb : BmOk b) (h : s + c ≤ b.n) : CC Tryz.prog 127 [.agg [.fn 126 []], .agg (bmC b), .agg [ci s, ci c]] H V (Pu (.tup [.agg (bmC (setB b s c)), er 0]) H V) := by
  refine CC.of_swp Tryz.func127 rfl (by kernel_rfl) (by rw [Tryz.ntmps127]; exact len_le _ _ rfl) fun hok hokH => ?_
  clear hok
  have b1 := hb.lo
  have b2 := hb.hi
  refine SWp.seq (Wp.s ?_)
  simp -implicitDefEqProofs [go_sem, args0]
  refine SWp.seq (Wp.s ?_)
  simp -implicitDefEqProofs [go_sem]
  refine CC.mono (bmCheck_cc _ _ b hb) ?_
  rintro _ _ _ ⟨rfl, rfl, rfl⟩
  simp -implicitDefEqProofs [go_sem]
  refine SWp.seq (SWp.seq (Wp.s ?_))
  simp -implicitDefEqProofs [go_sem]
  refine CC.mono (bmFits_cc _ _ s c b.n h b2) ?_
  rintro _ _ _ ⟨rfl, rfl, rfl⟩
  simp -implicitDefEqProofs [go_sem]
  refine Wp.s ?_
  simp -implicitDefEqProofs [go_sem]
  refine SWp.seq (Wp.s ?_)
  simp -implicitDefEqProofs [go_sem]
  refine CC.mono (cloneW_cc _ _ b.w) ?_
  rintro _ _ _ ⟨rfl, rfl, rfl⟩
  simp -implicitDefEqProofs [go_sem]
  have hm := maskN_lt s (s + c)
  have hm' : maskN s (s + c) < 18446744073709551616 := pow_lt64 hm (by omega)
  refine SWp.join (α := Unit) (fun _ => ([(4, .ptr (H.length + 1) 0), (6, .ptr (H.length + 3) 0), (9, .bsl (H.length + 4) 0 1 1)], H ++ [some [.fn 126 []], some (bmC b), some [ci s, ci c], some [ci 0, .v (.slice none 0 0)], some [wv (b.w ||| maskN s (s + c))]], V)) (fun _ => True) ?_ ?_
  · refine SWp.seq (Wp.s ?_)
    simp -implicitDefEqProofs [go_sem]
    refine SWp.block ?_
    refine SWp.loop (α := Nat) (fun i => ([(3, .ptr H.length 0), (4, .ptr (H.length + 1) 0), (5, .ptr (H.length + 2) 0), (6, .ptr (H.length + 3) 0), (9, .bsl (H.length + 4) 0 1 1), (27, ci 1), (28, ci i)], H ++ [some [.fn 126 []], some (bmC b), some [ci s, ci c], some [ci 0, .v (.slice none 0 0)], some [wv (if i = 0 then b.w else b.w ||| maskN s (s + c))]], V)) (fun i => i ≤ 1) (fun i => 1 - i) 0 (Nat.zero_le _) (Sh.forget (by simp [go_sem]) rfl rfl) ?_
    intro i hi
    dsimp only
    rcases (show i = 1 ∨ i = 0 by omega) with rfl | rfl
    · refine SWp.seq (Wp.s ?_)
      simp -implicitDefEqProofs [go_sem]
      refine SWp.seq (Wp.s ?_)
      simp -implicitDefEqProofs [go_sem]
      exact Sh.forget (by simp [go_sem]) rfl rfl
    · refine SWp.seq (Wp.s ?_)
      simp -implicitDefEqProofs [go_sem]
      refine SWp.seq (Wp.s ?_)
      simp -implicitDefEqProofs [go_sem]
      refine SWp.seq (SWp.block (SWp.seq (Wp.s ?_)))
      simp -implicitDefEqProofs [go_sem]
      have w1 : IntKind.i64.wrap ((s : Int) + c) = ((s + c : Nat) : Int) := by rw [IntWalk.i64_in _ ⟨by omega, by omega⟩]; omega
      refine (SWp.drawnT [] [19] (.s 0 .pl <| .s 1 .pl <| .s 2 .pl <| .s 3 .pl <| .s 4 .pl <| .s 5 .pl <| .s 6 .pl <| .s 7 .pl <| .s 8 .pl <| .s 9 .pl <| .s 10 .pl <| .s 11 .pl <| .s 12 .pl <| .s 13 .pl <| .s 14 .pl <| .s 15 .pl <| .s 16 .pl <| .s 17 .pl <| .s 18 .pl <| .s 19 .st <| .n) (by kernel_rfl) (by kernel_rfl) ?_)
      simp -implicitDefEqProofs [go_sem, w1]
      refine CC.mono (mask_cc _ _ s (s + c) (by omega) (by omega)) ?_
      rintro _ _ _ ⟨rfl, rfl, rfl⟩
      simp -implicitDefEqProofs [go_sem]
      refine CC.mono (setF_cc _ _ b.w (maskN s (s + c)) hb.lt64 hm') ?_
      rintro _ _ _ ⟨rfl, rfl, rfl⟩
      simp -implicitDefEqProofs [go_sem]
      refine Wp.s ?_
      simp -implicitDefEqProofs [go_sem]
      refine ⟨1, by omega, by omega, Sh.forget ?_ rfl rfl⟩
      simp [go_sem]
      rw [show IntKind.i64.wrap (1 : Int) = 1 from rfl]
      exact .refl _
  · rintro _ -
    dsimp only
    refine SWp.seq (Wp.s ?_)
    simp -implicitDefEqProofs [go_sem]
    refine Wp.s ?_
    simp -implicitDefEqProofs [go_sem]
    refine Fin.frozY (b := H.length + 4) (cs := [wv (b.w ||| maskN s (s + c))]) (r1 := .tup [.agg [ci b.n, .bsl (H.length + 4) 0 1 1], er 0]) (r2 := .tup [.agg (bmC (setB b s c)), er 0]) ⟨rfl, rfl, rfl⟩ (.refl _) (hget _ _ 4) (.tup (.cons (.agg (.cons (.refl _) (.cons (.bsl 0 1 1 (by simp)) .nil))) (.cons (.refl _) .nil))) (by omega) (by simp [go_sem]) hokH (by simp) (by simp)
theorem bmSet_cc (H : Hp) (V : List Nat) (b : Bm) (s c : Nat) (hb : BmOk b) (h : s + c ≤ b.n) : CC Tryz.prog 88 [.agg (bmC b), .agg [ci s, ci c]] H V (Pu (.tup [.agg (bmC (setB b s c)), er 0]) H V) := by
  refine CC.of_swp Tryz.func88 rfl (by kernel_rfl) (by rw [Tryz.ntmps88]; exact len_le _ _ rfl) fun hok hokH => ?_
  clear hok
  refine SWp.seq (Wp.s ?_)
  simp -implicitDefEqProofs [go_sem, args0]
  refine SWp.seq (Wp.s ?_)
  simp -implicitDefEqProofs [go_sem]
  refine CC.mono (bmApply_cc _ _ b s c hb h) ?_
  rintro _ _ _ ⟨rfl, rfl, rfl⟩
  simp -implicitDefEqProofs [go_sem]
  refine Wp.s ?_
  simp -implicitDefEqProofs [go_sem]
  exact Fin.pu (.refl _) (by simp [go_sem]) hokH (by simp) (by simp)
def orB (a b : Bm) : Bm := ⟨a.n, a.w ||| b.w⟩
theorem orB_ok {a b : Bm} (ha : BmOk a) (hb : BmOk b) (h : a.n = b.n) : BmOk (orB a b) := ⟨ha.lo, ha.hi, Nat.or_lt_two_pow ha.lt (by show b.w < 2 ^ a.n; rw [h]; exact hb.lt)⟩
theorem bmBoth_cc (H : Hp) (V : List Nat) (a b : Bm) (ha : BmOk a) (hb : BmOk b) (h : a.n = b.n) : CC Tryz.prog 89 [.agg (bmC a), .agg (bmC b), .fn 90 []] H V (Pu (.tup [.agg (bmC (orB a b)), er 0]) H V) := by
  refine CC.of_swp Tryz.func89 rfl (by kernel_rfl) (by rw [Tryz.ntmps89]; exact len_le _ _ rfl) fun hok hokH => ?_
  clear hok
  refine SWp.seq (Wp.s ?_)
  simp -implicitDefEqProofs [go_sem, args0]
  refine SWp.seq (Wp.s ?_)
  simp -implicitDefEqProofs [go_sem]
  refine CC.mono (bmCheck_cc _ _ a ha) ?_
  rintro _ _ _ ⟨rfl, rfl, rfl⟩
  simp -implicitDefEqProofs [go_sem]
  refine SWp.seq (SWp.seq (Wp.s ?_))
  simp -implicitDefEqProofs [go_sem]
  refine CC.mono (bmCheck_cc _ _ b hb) ?_
  rintro _ _ _ ⟨rfl, rfl, rfl⟩
  simp -implicitDefEqProofs [go_sem]
  refine SWp.seq (Wp.s ?_)
  simp -implicitDefEqProofs [go_sem]
  refine Wp.s ?_
  simp -implicitDefEqProofs [go_sem]
  refine SWp.seq (SWp.seq (Wp.s ?_))
  simp -implicitDefEqProofs [go_sem, show (a.n : Int) = b.n by omega, h]
  refine Wp.s ?_
  simp -implicitDefEqProofs [go_sem]
  refine SWp.seq (Wp.s ?_)
  simp -implicitDefEqProofs [go_sem]
  refine SWp.join (α := Unit) (fun _ => ([(3, .ptr H.length 0), (6, .ptr (H.length + 2) 0), (10, .bsl (H.length + 3) 0 1 1)], H ++ [some (bmC a), some (bmC b), some [ci 0, .v (.slice none 0 0)], some [wv (a.w ||| b.w)]], V)) (fun _ => True) ?_ ?_
  · refine SWp.seq (Wp.s ?_)
    simp -implicitDefEqProofs [go_sem]
    refine SWp.block ?_
    refine SWp.loop (α := Nat) (fun i => ([(2, .fn 90 []), (3, .ptr H.length 0), (4, .ptr (H.length + 1) 0), (6, .ptr (H.length + 2) 0), (10, .bsl (H.length + 3) 0 1 1), (35, ci 1), (36, ci i)], H ++ [some (bmC a), some (bmC b), some [ci 0, .v (.slice none 0 0)], some [wv (if i = 0 then 0 else a.w ||| b.w)]], V)) (fun i => i ≤ 1) (fun i => 1 - i) 0 (Nat.zero_le _) (Sh.forget (by simp [go_sem]) (by simp [wv]) rfl) ?_
    intro i hi
    dsimp only
    rcases (show i = 1 ∨ i = 0 by omega) with rfl | rfl
    · refine SWp.seq (Wp.s ?_)
      simp -implicitDefEqProofs [go_sem]
      refine SWp.seq (Wp.s ?_)
      simp -implicitDefEqProofs [go_sem]
      exact Sh.forget (by simp [go_sem]) rfl rfl
    · refine SWp.seq (Wp.s ?_)
      simp -implicitDefEqProofs [go_sem]
      refine SWp.seq (Wp.s ?_)
      simp -implicitDefEqProofs [go_sem]
      refine SWp.seq (SWp.block (SWp.seq (Wp.s ?_)))
      simp -implicitDefEqProofs [go_sem]
      refine (SWp.drawnT [] [15] (.s 0 .pl <| .s 1 .pl <| .s 2 .pl <| .s 3 .pl <| .s 4 .pl <| .s 5 .pl <| .s 6 .pl <| .s 7 .pl <| .s 8 .pl <| .s 9 .pl <| .s 10 .pl <| .s 11 .pl <| .s 12 .pl <| .s 13 .pl <| .s 14 .pl <| .s 15 .st <| .n) (by kernel_rfl) (by kernel_rfl) ?_)
      simp -implicitDefEqProofs [go_sem]
      refine CC.mono (orF_cc _ _ a.w b.w ha.lt64 hb.lt64) ?_
      rintro _ _ _ ⟨rfl, rfl, rfl⟩
      simp -implicitDefEqProofs [go_sem]
      refine Wp.s ?_
      simp -implicitDefEqProofs [go_sem]
      refine ⟨1, by omega, by omega, Sh.forget ?_ rfl rfl⟩
      simp [go_sem]
      rw [show IntKind.i64.wrap (1 : Int) = 1 from rfl]
      exact .refl _
  · rintro _ -
    dsimp only
    refine SWp.seq (Wp.s ?_)
    simp -implicitDefEqProofs [go_sem]
    refine Wp.s ?_
    simp -implicitDefEqProofs [go_sem]
    refine Fin.frozY (b := H.length + 3) (cs := [wv (a.w ||| b.w)]) (r1 := .tup [.agg [ci a.n, .bsl (H.length + 3) 0 1 1], er 0]) (r2 := .tup [.agg (bmC (orB a b)), er 0]) ⟨rfl, rfl, rfl⟩ (.refl _) (hget _ _ 3) (.tup (.cons (.agg (.cons (.refl _) (.cons (.bsl 0 1 1 (by simp)) .nil))) (.cons (.refl _) .nil))) (by omega) (by simp [go_sem]) hokH (by simp) (by simp)
theorem bmOr_cc (H : Hp) (V : List Nat) (a b : Bm) (ha : BmOk a) (hb : BmOk b) (h : a.n = b.n) : CC Tryz.prog 45 [.agg (bmC a), .agg (bmC b)] H V (Pu (.tup [.agg (bmC (orB a b)), er 0]) H V) := by
  refine CC.of_swp Tryz.func45 rfl (by kernel_rfl) (by rw [Tryz.ntmps45]; exact len_le _ _ rfl) fun hok hokH => ?_
  clear hok
  refine SWp.seq (Wp.s ?_)
  simp -implicitDefEqProofs [go_sem, args0]
  refine SWp.seq (Wp.s ?_)
  simp -implicitDefEqProofs [go_sem]
  refine CC.mono (bmBoth_cc _ _ a b ha hb h) ?_
  rintro _ _ _ ⟨rfl, rfl, rfl⟩
  simp -implicitDefEqProofs [go_sem]
  refine Wp.s ?_
  simp -implicitDefEqProofs [go_sem]
  exact Fin.pu (.refl _) (by simp [go_sem]) hokH (by simp) (by simp)
theorem get_bit (w i : Nat) : decide (((w >>> i &&& 1 : Nat) : Int) = 1) = w.testBit i := by
  rw [Nat.testBit, Nat.and_comm 1, Nat.and_one_is_mod]
  rcases Nat.mod_two_eq_zero_or_one (w >>> i) with h | h <;> rw [h] <;> rfl
end Go.Proofs.YtpedbpbmnchllaaGreatDoor
namespace Go.Proofs.YtpedbpbmnchllaaGreatDoor
open Go.Proofs
end Go.Proofs.YtpedbpbmnchllaaGreatDoor
namespace Go.Proofs.YtpedbpbmnchllaaGreatDoor
open Go.Proofs
end Go.Proofs.YtpedbpbmnchllaaGreatDoor
namespace Go.Proofs.YtpedbpbmnchllaaGreatDoor
open Go.Proofs
end Go.Proofs.YtpedbpbmnchllaaGreatDoor
namespace Go.Proofs.YtpedbpbmnchllaaGreatDoor
open Go.Proofs
end Go.Proofs.YtpedbpbmnchllaaGreatDoor
namespace Go.Proofs.YtpedbpbmnchllaaGreatDoor
open Go.Proofs
end Go.Proofs.YtpedbpbmnchllaaGreatDoor
namespace Go.Proofs.YtpedbpbmnchllaaGreatDoor
open Go.Proofs
end Go.Proofs.YtpedbpbmnchllaaGreatDoor
namespace Go.Proofs.YtpedbpbmnchllaaGreatDoor
open Go.Proofs
end Go.Proofs.YtpedbpbmnchllaaGreatDoor
namespace Go.Proofs.YtpedbpbmnchllaaGreatDoor
open Go.Proofs
end Go.Proofs.YtpedbpbmnchllaaGreatDoor
namespace Go.Proofs.YtpedbpbmnchllaaGreatDoor
open Go.Proofs
def mx (a b : List UInt8) (k : Nat) : List UInt8 := a.take k ++ List.replicate (4 - k) 0 ++ (b.take k ++ List.replicate (4 - k) 0)
def dst (p : List UInt8) (k : Nat) : List UInt8 := UInt8.ofNat p.length :: (p.take k ++ List.replicate (31 - k) 0)
end Go.Proofs.YtpedbpbmnchllaaGreatDoor
namespace Go.Proofs.YtpedbpbmnchllaaGreatDoor
open Go.Proofs
def zs (l : List UInt8) : Bool := l.all (· == 0)
end Go.Proofs.YtpedbpbmnchllaaGreatDoor
namespace Go.Proofs.YtpedbpbmnchllaaGreatDoor
open Go.Proofs
theorem SWp.scope {P : Program} {n nb nv : Nat} {c : Code} {Q : Exit → Tm → Hp → List Nat → Prop} {T : Tm} {H : Hp} {V : List Nat} (h : SWp P n nb nv c (scp Q) T H V) : SWp P n nb nv (.scope c) Q T H V := by
  intro ro D m w a m0 w0 V0 h1 h2 h3 hx hs
  refine wpIn_scope_straight (wpIn_mono (h ro D m w a m0 w0 V0 h1 h2 h3 hx hs) fun e a' w' ⟨T', H', V', m', k1, k2⟩ => ?_)
  cases e with
  | goto l => exact k1.elim
  | _ => exact ⟨T', H', V', m', k1, k2⟩
end Go.Proofs.YtpedbpbmnchllaaGreatDoor
namespace Go.Proofs.YtpedbpbmnchllaaGreatDoor
open Go.Proofs
end Go.Proofs.YtpedbpbmnchllaaGreatDoor
namespace Go.Proofs.YtpedbpbmnchllaaGreatDoor
open Go.Proofs
theorem okL_app {i j : Nat} : ∀ {a b : List CV}, okL i j a → okL i j b → okL i j (a ++ b)
  | [], b, _, h => h
  | x :: a, b, h, g => by rw [okL] at h; rw [List.cons_append, okL]; exact ⟨h.1, okL_app h.2 g⟩
end Go.Proofs.YtpedbpbmnchllaaGreatDoor
namespace Go.Proofs.YtpedbpbmnchllaaGreatDoor
open Go.Proofs
end Go.Proofs.YtpedbpbmnchllaaGreatDoor
namespace Go.Proofs.YtpedbpbmnchllaaGreatDoor
open Go.Proofs
end Go.Proofs.YtpedbpbmnchllaaGreatDoor
namespace Go.Proofs.YtpedbpbmnchllaaGreatDoor
open Go.Proofs
section
variable {n nb nv : Nat} {T T' : Tm} {H : Hp} {V : List Nat}
end
end Go.Proofs.YtpedbpbmnchllaaGreatDoor
namespace Go.Proofs.YtpedbpbmnchllaaGreatDoor
open Go.Proofs
end Go.Proofs.YtpedbpbmnchllaaGreatDoor
namespace Go.Proofs.YtpedbpbmnchllaaGreatDoor
open Go.Proofs
@[go_sem] theorem azTy3 : azTy Tryz.prog 3 = true := by kernel_rfl
end Go.Proofs.YtpedbpbmnchllaaGreatDoor
namespace Go.Proofs.YtpedbpbmnchllaaGreatDoor
open Go.Proofs
def uns (s l : List Nat) : Nat := (l.filter fun x => !s.contains x).length
theorem uns_le (s : List Nat) (i : Nat) : ∀ l : List Nat, uns (s ++ [i]) l ≤ uns s l
  | [] => Nat.le_refl _
  | x :: l => by
    have ih := uns_le s i l
    unfold uns at *
    rw [List.filter_cons, List.filter_cons]
    by_cases h : x ∈ s
    · have h1 : (!(s ++ [i]).contains x) = false := by simp [h]
      have h2 : (!s.contains x) = false := by simp [h]
      rw [h1, h2]; exact ih
    · have h2 : (!s.contains x) = true := by simp [h]
      rw [h2]
      split
      · rw [if_pos rfl, List.length_cons, List.length_cons]; omega
      · rw [if_pos rfl, List.length_cons]; omega
theorem uns_lt (s : List Nat) (i : Nat) (hs : i ∉ s) : ∀ l : List Nat, i ∈ l → uns (s ++ [i]) l < uns s l
  | x :: l, hi => by
    by_cases hx : x = i
    · subst hx
      have := uns_le s x l
      unfold uns at *
      rw [List.filter_cons, List.filter_cons]
      have h1 : (!(s ++ [x]).contains x) = false := by simp
      have h2 : (!s.contains x) = true := by simp [hs]
      rw [h1, h2, if_neg (by decide), if_pos rfl, List.length_cons]; omega
    · have ih := uns_lt s i hs l (by rcases List.mem_cons.1 hi with h | h; exact absurd h.symm hx; exact h)
      unfold uns at *
      rw [List.filter_cons, List.filter_cons]
      by_cases h : x ∈ s
      · have h1 : (!(s ++ [i]).contains x) = false := by simp [h]
        have h2 : (!s.contains x) = false := by simp [h]
        rw [h1, h2]; exact ih
      · have h1 : (!(s ++ [i]).contains x) = true := by simp [h, hx]
        have h2 : (!s.contains x) = true := by simp [h]
        rw [h1, h2, if_pos rfl, if_pos rfl, List.length_cons, List.length_cons]; omega
theorem set_W3 (H W : Hp) (a0 a1 a2 : Option (List CV)) (j : Nat) (y : Option (List CV)) : (H ++ (a0 :: a1 :: a2 :: W)).set (H.length + (j + 3)) y = H ++ (a0 :: a1 :: a2 :: W.set j y) := by
  rw [List.set_append_right _ _ (by omega), Nat.add_sub_cancel_left]; rfl
end Go.Proofs.YtpedbpbmnchllaaGreatDoor
namespace Go.Proofs.YtpedbpbmnchllaaGreatDoor
open Go.Proofs
theorem elements_cc (H : Hp) (V : List Nat) (b : Bm) (f : Nat) : CC Tryz.prog 129 [.agg (bmC b), ci f] H V (fun r H' V' => r = .fn 143 [.ptr H.length 0, .ptr (H.length + 1) 0] ∧ H' = H ++ [some (bmC b), some [ci f]] ∧ V = V') := by
  refine CC.of_swp Tryz.func129 rfl (by kernel_rfl) (by rw [Tryz.ntmps129]; exact len_le _ _ rfl) fun hok hokH => ?_
  refine SWp.seq (Wp.s ?_)
  simp -implicitDefEqProofs [go_sem, args0]
  refine Wp.s ?_
  simp -implicitDefEqProofs [go_sem]
  refine Fin.cut (H.length + 2) V.length ⟨rfl, rfl, rfl⟩ (by omega) (Nat.le_refl _) (List.take_of_length_le (by simp)) (List.take_of_length_le (Nat.le_refl _)) (.refl _) (by simp [go_sem]) ?_
  intro b' cs hb
  rw [List.getElem?_append] at hb
  split at hb
  · exact okL_mono (by omega) (Nat.le_refl _) (hokH b' cs hb)
  · exact okH_get (i := H.length + 2) (j := V.length) (L := [some (bmC b), some [ci f]]) (by simp [go_sem]) _ _ hb
theorem and_mask {n w : Nat} (h : w < 2 ^ n) : w &&& maskN 0 n = w := by
  rw [maskN, Nat.sub_zero, Nat.pow_zero, Nat.mul_one, Nat.and_two_pow_sub_one_eq_mod, Nat.mod_eq_of_lt h]
theorem elsN_drop {k : Nat} {r : List Nat} (i : Nat) (l : List Nat) (h : k :: r = l.drop i) : ∃ hi : i < l.length, l[i] = k ∧ r = l.drop (i + 1) := by
  have hi : i < l.length := by
    rcases Nat.lt_or_ge i l.length with h1 | h1
    · exact h1
    · rw [List.drop_eq_nil_of_le h1] at h; cases h
  rw [List.drop_eq_getElem_cons hi, List.cons.injEq] at h
  exact ⟨hi, h.1.symm, h.2⟩
theorem elsN_mem {n w i : Nat} : i ∈ elsN n w ↔ i < n ∧ w.testBit i = true := by
  rw [elsN, List.mem_filter, List.mem_range]
theorem elsN_len (n w : Nat) : (elsN n w).length ≤ n := by
  have := List.length_filter_le (fun i => w.testBit i) (List.range n)
  rwa [List.length_range] at this
theorem elements1_cc (H : Hp) (V : List Nat) (L b1 b2 : Nat) (b : Bm) (hb : BmOk b) (I : Nat → Hp → List Nat → Prop) (h0 : I 0 H V)
    (hI : ∀ i H V, I i H V → H[b1]? = some (some (bmC b)) ∧ H[b2]? = some (some [ci 0]))
    (hy : ∀ i (hi : i < (elsN b.n b.w).length), ∀ H V, I i H V → YC Tryz.prog L [ci ((elsN b.n b.w)[i] : Nat)] H V (fun r H' V' => r = .v (.bool true) ∧ I (i + 1) H' V')) :
    CC Tryz.prog 143 [.yl L, .ptr b1 0, .ptr b2 0] H V (fun _ H' V' => I (elsN b.n b.w).length H' V') := by
  have b2' := hb.hi
  refine CC.of_swp Tryz.func143 rfl (by kernel_rfl) (by rw [Tryz.ntmps143]; exact len_le _ _ rfl) fun hok hokH => ?_
  clear hok
  obtain ⟨g1, g2⟩ := hI _ _ _ h0
  refine SWp.seq (SWp.seq (Wp.s ?_))
  simp -implicitDefEqProofs [go_sem, args0, hbx_of g1]
  refine CC.mono (bmCheck_cc _ _ b hb) ?_
  rintro _ _ _ ⟨rfl, rfl, rfl⟩
  simp -implicitDefEqProofs [go_sem]
  refine Wp.s ?_
  simp -implicitDefEqProofs [go_sem]
  refine SWp.seq (Wp.s ?_)
  simp -implicitDefEqProofs [go_sem, hbx_of g1]
  refine SWp.block ?_
  refine SWp.loop (α := Nat × Hp × List Nat) (fun x => ([(0, .yl L), (1, .ptr b1 0), (2, .ptr b2 0), (10, .sl .sh 1 [[wv b.w]]), (11, ci 1), (12, ci x.1)], x.2.1, x.2.2)) (fun x => x.1 ≤ 1 ∧ I (if x.1 = 0 then 0 else (elsN b.n b.w).length) x.2.1 x.2.2) (fun x => 1 - x.1) (0, H, V) ⟨by omega, h0⟩ (Sh.forget (by simp [go_sem]) rfl rfl) ?_
  rintro ⟨i, H1, V1⟩ ⟨hi, hi1⟩
  dsimp only at hi hi1 ⊢
  rcases (show i = 1 ∨ i = 0 by omega) with rfl | rfl
  · refine SWp.seq (Wp.s ?_)
    simp -implicitDefEqProofs [go_sem]
    refine SWp.seq (Wp.s ?_)
    simp -implicitDefEqProofs [go_sem]
    exact Fin.self hi1
  · rw [if_pos rfl] at hi1
    obtain ⟨g1, g2⟩ := hI _ _ _ hi1
    refine SWp.seq (Wp.s ?_)
    simp -implicitDefEqProofs [go_sem]
    refine SWp.seq (Wp.s ?_)
    simp -implicitDefEqProofs [go_sem]
    refine SWp.seq (SWp.block (SWp.seq (Wp.s ?_)))
    simp -implicitDefEqProofs [go_sem]
    refine SWp.seq (Wp.s ?_)
    simp -implicitDefEqProofs [go_sem, hbx_of g1, hbx_of g2]
    refine CC.mono (mask_cc _ _ 0 b.n (by omega) (by omega)) ?_
    rintro _ _ _ ⟨rfl, rfl, rfl⟩
    have a1 := and64 hb.lt64 (pow_lt64 (k := b.n) (by have := maskN_lt 0 b.n; rwa [Nat.max_eq_right (by omega)] at this) (by omega))
    rw [and_mask hb.lt] at a1
    simp -implicitDefEqProofs [go_sem, a1, wv_eq]
    refine SWp.block ?_
    refine SWp.loop (α := Nat × Nat × Hp × List Nat) (fun x => ([(0, .yl L), (1, .ptr b1 0), (2, .ptr b2 0), (4, ci 0), (5, wv x.2.1), (10, .sl .sh 1 [[wv b.w]]), (11, ci 1), (12, ci 0)], x.2.2.1, x.2.2.2)) (fun x => x.1 ≤ (elsN b.n b.w).length ∧ x.2.1 < 2 ^ b.n ∧ elsN b.n x.2.1 = (elsN b.n b.w).drop x.1 ∧ I x.1 x.2.2.1 x.2.2.2) (fun x => (elsN b.n b.w).length - x.1) (0, b.w, H1, V1) ⟨Nat.zero_le _, hb.lt, rfl, hi1⟩ (Sh.forget (by simp [go_sem, wv]) rfl rfl) ?_
    rintro ⟨j, u, H2, V2⟩ ⟨hj, hu, he, hi2⟩
    dsimp only at hj hu he hi2 ⊢
    rcases Nat.eq_zero_or_pos u with rfl | hup
    · rw [elsN_zero] at he
      have hjl : j = (elsN b.n b.w).length := by
        rcases Nat.lt_or_ge j (elsN b.n b.w).length with h1 | h1
        · rw [List.drop_eq_getElem_cons h1] at he; cases he
        · omega
      subst hjl
      refine SWp.seq (SWp.seq (Wp.s ?_))
      simp -implicitDefEqProofs [go_sem, wv_eq]
      refine Wp.s ?_
      simp -implicitDefEqProofs [go_sem]
      refine Wp.s ?_
      simp -implicitDefEqProofs [go_sem]
      refine ⟨1, H2, V2, ⟨by omega, hi2⟩, by omega, Sh.forget ?_ rfl rfl⟩
      simp [go_sem]
      rw [show IntKind.i64.wrap (1 : Int) = 1 from rfl]
      exact .refl _
    · obtain ⟨k, m, rfl⟩ := low_form u hup
      have hk : k < b.n := low_lt hu
      rw [elsN_low hk] at he
      obtain ⟨hjl, hg, hd⟩ := elsN_drop j _ he
      have hu64 := pow_lt64 (k := b.n) hu (by omega)
      have hclr : (2 * m) * 2 ^ k < 2 ^ b.n := Nat.lt_trans (clr_le k m) hu
      have hu0 : (0 : Int) < (((2 * m + 1) * 2 ^ k : Nat) : Int) := by omega
      have a2 : bitop .and .u64 (((2 * m + 1) * 2 ^ k : Nat) : Int) (((2 * m + 1) * 2 ^ k - 1 : Nat) : Int) = ((2 * m * 2 ^ k : Nat) : Int) := by rw [and64 hu64 (by omega), low_clr]
      have w2 : IntKind.u64.wrap ((((2 * m + 1) * 2 ^ k : Nat) : Int) - 1) = (((2 * m + 1) * 2 ^ k - 1 : Nat) : Int) := by rw [IntKind.wrap_u64]; omega
      have htz := tz_cc H2 V2 k m hu64
      generalize (2 * m + 1) * 2 ^ k = y at hu hup hu64 hu0 a2 w2 htz ⊢
      generalize 2 * m * 2 ^ k = z at hd hclr a2
      have y0 : ¬ (y : Int) = 0 := by omega
      have y0' : ¬ y = 0 := by omega
      refine SWp.seq (SWp.seq (Wp.s ?_))
      simp -implicitDefEqProofs [go_sem, wv_eq, y0, y0']
      refine Wp.s ?_
      simp -implicitDefEqProofs [go_sem]
      refine SWp.block (SWp.seq (SWp.seq (Wp.s ?_)))
      simp -implicitDefEqProofs [go_sem]
      refine CC.mono htz ?_
      rintro _ _ _ ⟨rfl, rfl, rfl⟩
      have w0 : IntKind.i64.wrap (0 : Int) = 0 := rfl
      have w3 : IntKind.i64.wrap ((k : Int)) = k := IntWalk.i64_in _ ⟨by omega, by omega⟩
      simp -implicitDefEqProofs [go_sem, w0, w3]
      have hy1 := hy j hjl H2 V2 hi2
      rw [hg] at hy1
      refine YC.mono hy1 ?_
      rintro _ H3 V3 ⟨rfl, hi3⟩
      simp -implicitDefEqProofs [go_sem]
      refine Wp.s ?_
      simp -implicitDefEqProofs [go_sem]
      refine Wp.s ?_
      simp -implicitDefEqProofs [go_sem, w2, a2]
      refine ⟨j + 1, z, H3, V3, ⟨hjl, hclr, hd, hi3⟩, by omega, Sh.forget ?_ rfl rfl⟩
      simp [go_sem]
theorem snoc_ind {α : Type} {P : List α → Prop} (h0 : P []) (h1 : ∀ l a, P l → P (l ++ [a])) (l : List α) : P l := by
  have : ∀ m : List α, P m.reverse := by
    intro m
    induction m with
    | nil => exact h0
    | cons a m ih => rw [List.reverse_cons]; exact h1 _ _ ih
  have := this l.reverse
  rwa [List.reverse_reverse] at this
def exC (e : Nat × Nat) : List CV := [ci e.1, ci e.2]
def exF (l : List (Nat × Nat)) : List CV := l.flatMap exC
@[go_sem, simp] theorem exC_len (e : Nat × Nat) : (exC e).length = 2 := rfl
@[go_sem, simp] theorem exC_all (e : Nat × Nat) : allOne (exC e) = true := rfl
theorem exF_snoc (l : List (Nat × Nat)) (e : Nat × Nat) : exF (l ++ [e]) = exF l ++ exC e := by simp [exF]
@[go_sem, simp] theorem exF_len : ∀ (l : List (Nat × Nat)), (exF l).length = l.length * 2
  | [] => rfl
  | e :: l => by rw [exF, List.flatMap_cons, List.length_append, ← exF, exF_len l, exC_len, List.length_cons]; omega
theorem chunks_exF : ∀ (l : List (Nat × Nat)), chunks 2 l.length (exF l) = l.map exC
  | [] => rfl
  | e :: l => by
    rw [exF, List.flatMap_cons, ← exF, List.length_cons, chunks, List.map_cons]
    rw [show (exC e ++ exF l).take 2 = exC e from rfl, show (exC e ++ exF l).drop 2 = exF l from rfl, chunks_exF l]
def exStep (l : List (Nat × Nat)) (x : Nat) : List (Nat × Nat) :=
  match l.getLast? with
  | some e => if e.1 + e.2 = x then l.dropLast ++ [(e.1, e.2 + 1)] else l ++ [(x, 1)]
  | none => [(x, 1)]
theorem exStep_nil (x : Nat) : exStep [] x = [(x, 1)] := rfl
theorem exStep_snoc (l : List (Nat × Nat)) (e : Nat × Nat) (x : Nat) : exStep (l ++ [e]) x = if e.1 + e.2 = x then l ++ [(e.1, e.2 + 1)] else l ++ [e] ++ [(x, 1)] := by
  simp [exStep]
def runsN (xs : List Nat) : List (Nat × Nat) := xs.foldl exStep []
theorem runsN_snoc (xs : List Nat) (x : Nat) : runsN (xs ++ [x]) = exStep (runsN xs) x := by simp [runsN]
theorem exStep_len (l : List (Nat × Nat)) (x : Nat) : (exStep l x).length ≤ l.length + 1 := by
  rcases List.eq_nil_or_concat l with rfl | ⟨l0, e, rfl⟩
  · simp [exStep_nil]
  · rw [List.concat_eq_append, exStep_snoc]
    split <;> simp
theorem runsN_len (xs : List Nat) : (runsN xs).length ≤ xs.length := by
  induction xs using snoc_ind with
  | h0 => simp [runsN]
  | h1 xs x ih => rw [runsN_snoc, List.length_append]; have := exStep_len (runsN xs) x; simp; omega
theorem exStep_bd {l : List (Nat × Nat)} {x n : Nat} (h : ∀ e ∈ l, e.1 + e.2 ≤ n) (hx : x < n) : ∀ e ∈ exStep l x, e.1 + e.2 ≤ n := by
  intro e he
  rcases List.eq_nil_or_concat l with rfl | ⟨l0, d, rfl⟩
  · rw [exStep_nil] at he; simp at he; subst he; show x + 1 ≤ n; omega
  · rw [List.concat_eq_append] at h he
    rw [exStep_snoc] at he
    split at he
    · rename_i hq
      rcases List.mem_append.1 he with he | he
      · exact h e (by simp [he])
      · simp at he; subst he; show d.1 + (d.2 + 1) ≤ n; omega
    · rcases List.mem_append.1 he with he | he
      · exact h e he
      · simp at he; subst he; show x + 1 ≤ n; omega
theorem runsN_bd {xs : List Nat} {n : Nat} (h : ∀ x ∈ xs, x < n) : ∀ e ∈ runsN xs, e.1 + e.2 ≤ n := by
  induction xs using snoc_ind with
  | h0 => intro e he; simp [runsN] at he
  | h1 xs x ih =>
    rw [runsN_snoc]
    exact exStep_bd (ih fun y hy => h y (by simp [hy])) (h x (by simp))
def ExA (h : Nat) (l : List (Nat × Nat)) (cv : CV) (W : Hp) : Prop :=
  (cv = .v (.slice none 0 0) ∧ l = []) ∨ ∃ j l0 e, l = l0 ++ [e] ∧ cv = .bsa (h + (j + 5)) l.length 2 ∧ W[j]? = some (some (exF l))
theorem get_W5 (H W : Hp) (a0 a1 a2 a3 a4 : Option (List CV)) (j : Nat) : (H ++ (a0 :: a1 :: a2 :: a3 :: a4 :: W))[H.length + (j + 5)]? = W[j]? := Go.Proofs.YtpedbpbmnchllaaGreatDoor.hget _ _ (j + 5)
theorem okE_exs (jb jv : Nat) : ∀ (l : List (Nat × Nat)), okE jb jv (l.map exC)
  | [] => trivial
  | e :: l => by rw [List.map_cons, okE]; exact ⟨by simp [exC, okL, okV], okE_exs jb jv l⟩
theorem exF_take (l0 : List (Nat × Nat)) (e : Nat × Nat) : (exF (l0 ++ [e])).take (l0.length * 2 + 1) = exF l0 ++ [ci e.1] := by
  rw [exF_snoc, ← exF_len, List.take_append, List.take_of_length_le (by omega)]
  congr 1
  rw [Nat.add_sub_cancel_left]; rfl
theorem exF_drop (l0 : List (Nat × Nat)) (e : Nat × Nat) : (exF (l0 ++ [e])).drop (l0.length * 2 + 2) = [] := by
  rw [List.drop_eq_nil_of_le]; simp; omega
theorem exF_at0 (l0 : List (Nat × Nat)) (e : Nat × Nat) (h : l0.length * 2 < (exF (l0 ++ [e])).length) : (exF (l0 ++ [e]))[l0.length * 2] = ci e.1 := by
  have : (exF (l0 ++ [e]))[l0.length * 2]? = some (ci e.1) := by
    rw [exF_snoc, ← exF_len, List.getElem?_append_right (Nat.le_refl _), Nat.sub_self]; rfl
  rw [List.getElem?_eq_getElem h] at this
  exact Option.some.inj this
theorem exF_at1 (l0 : List (Nat × Nat)) (e : Nat × Nat) (h : l0.length * 2 + 1 < (exF (l0 ++ [e])).length) : (exF (l0 ++ [e]))[l0.length * 2 + 1] = ci e.2 := by
  have : (exF (l0 ++ [e]))[l0.length * 2 + 1]? = some (ci e.2) := by
    rw [exF_snoc, ← exF_len, List.getElem?_append_right (by omega), Nat.add_sub_cancel_left]; rfl
  rw [List.getElem?_eq_getElem h] at this
  exact Option.some.inj this
theorem extents_cc (H : Hp) (V : List Nat) (b : Bm) (hb : BmOk b) : CC Tryz.prog 94 [.agg (bmC b)] H V (Pu (.sl .sh 2 ((runsN (elsN b.n b.w)).map exC)) H V) := by
  refine CC.of_swp0 Tryz.func94 rfl (by kernel_rfl) (by rw [Tryz.ntmps94]; exact len_le _ _ rfl) fun hok hokH => ?_
  have hn := hb.hi
  have hlen := elsN_len b.n b.w
  have hrl := runsN_len (elsN b.n b.w)
  refine SWp0.seq (SWp.s0 (Wp.s ?_))
  simp -implicitDefEqProofs [go_sem, args0]
  refine SWp0.seq (SWp.s0 (Wp.s ?_))
  simp -implicitDefEqProofs [go_sem]
  refine SWp0.join (α := CV × List (Nat × Nat) × Hp) (fun x => ([(3, .ptr (H.length + 1) 0)], H ++ (some (bmC b) :: some [x.1] :: some (bmC b) :: some [ci 0] :: none :: x.2.2), V)) (fun x => x.2.1 = runsN (elsN b.n b.w) ∧ ExA H.length x.2.1 x.1 x.2.2) ?_ ?_
  · refine SWp0.seq (SWp.s0 (Wp.s ?_))
    simp -implicitDefEqProofs [go_sem]
    refine CC.mono (elements_cc _ _ b 0) ?_
    rintro _ _ _ ⟨rfl, rfl, rfl⟩
    simp -implicitDefEqProofs [go_sem]
    refine SWp0.block (SWp0.range [(3, .ptr (H.length + 1) 0)] rfl (by simp -implicitDefEqProofs [go_sem]) ?_)
    simp -implicitDefEqProofs [go_sem]
    generalize hbd : Code.block 1 _ = bd
    generalize has : Code.region 3 _ _ = asg
    refine CC.mono (elements1_cc _ V _ (H.length + 2) (H.length + 2 + 1) b hb (fun i G W => W = V ∧ ∃ cv Wg, G = H ++ (some (bmC b) :: some [cv] :: some (bmC b) :: some [ci 0] :: some [lpc 45 #[8] asg bd [(3, .ptr (H.length + 1) 0)] .ready none] :: Wg) ∧ ExA H.length (runsN ((elsN b.n b.w).take i)) cv Wg) ?_ ?_ ?_) ?_
    · exact ⟨rfl, _, [], rfl, .inl ⟨rfl, rfl⟩⟩
    · rintro i _ _ ⟨rfl, cv, Wg, rfl, hc⟩
      exact ⟨Go.Proofs.YtpedbpbmnchllaaGreatDoor.hget _ _ 2, Go.Proofs.YtpedbpbmnchllaaGreatDoor.hget _ _ 3⟩
    · rintro i hi _ V1 ⟨rfl, cv, Wg, rfl, hc⟩
      have hx : (elsN b.n b.w)[i] < b.n := (elsN_mem.1 (List.getElem_mem hi)).1
      have htk : (elsN b.n b.w).take (i + 1) = (elsN b.n b.w).take i ++ [(elsN b.n b.w)[i]] := List.take_succ_eq_append_getElem hi
      have hbd0 : ∀ e ∈ runsN ((elsN b.n b.w).take i), e.1 + e.2 ≤ b.n := runsN_bd fun x hx => (elsN_mem.1 (List.mem_of_mem_take hx)).1
      have hll : (runsN ((elsN b.n b.w).take i)).length ≤ 63 := by
        have := runsN_len ((elsN b.n b.w).take i)
        rw [List.length_take] at this; omega
      rw [htk, runsN_snoc]
      generalize (elsN b.n b.w)[i] = x at hx ⊢
      generalize runsN ((elsN b.n b.w).take i) = l at hc hbd0 hll ⊢
      refine YC.of_round (n := 45) (ps := #[8]) (bd := bd) (T := [(3, .ptr (H.length + 1) 0)]) (Go.Proofs.YtpedbpbmnchllaaGreatDoor.hget _ _ 4) rfl (by decide) ?_
      subst hbd has
      refine Wp.s ?_
      simp -implicitDefEqProofs [go_sem, tps]
      generalize hlp : lpc 45 #[8] _ _ _ LoopState.busy none = lp
      generalize hqq : RQ 45 #[8] _ _ _ _ _ = QQ
      rcases hc with ⟨rfl, rfl⟩ | ⟨j, l0, e, rfl, rfl, hj⟩
      · refine SWp.block (SWp.seq (SWp.seq (Wp.s ?_)))
        simp -implicitDefEqProofs [go_sem]
        refine SWp.seq (SWp.drawnT [] [] (.s 0 .pl <| .s 1 .pl <| .s 2 .pl <| .s 3 .pl <| .s 4 .pl <| .s 5 .pl <| .s 6 .pl <| .s 7 .pl <| .s 8 .pl <| .s 9 .pl <| .s 10 .pl <| .s 11 .pl <| .s 12 .pl <| .s 13 .pl <| .s 14 .pl <| .s 15 .pl <| .s 16 .pl <| .s 17 .pl <| .s 18 .pl <| .n) (by kernel_rfl) (by kernel_rfl) ?_)
        simp -implicitDefEqProofs [go_sem]
        refine Wp.s ?_
        simp -implicitDefEqProofs [go_sem]
        refine SWp.opx (pre := [_, _, _, _]) (post := [_]) rfl (by intro c e; cases e) ?_
        simp -implicitDefEqProofs [go_sem]
        refine ⟨_, _, _, appboxN (sz := 2) (tk := .ti) (ys := [[ci x, ci 1]]) slTy94 slTy94 (by decide) rfl rfl (by simp) (by simp), ?_⟩
        simp -implicitDefEqProofs [go_sem]
        rw [← hqq, ← hlp]
        refine ⟨Go.Proofs.YtpedbpbmnchllaaGreatDoor.hget _ _ 4, rfl, rfl, .bsa (H.length + (Wg.length + 5)) 1 2, Wg ++ [some (exF [(x, 1)])], ?_, .inr ⟨Wg.length, [], (x, 1), rfl, rfl, by simp [exStep_nil]⟩⟩
        rw [List.set_append_right _ _ (by omega), Nat.add_sub_cancel_left]
        simp [exF, exC]
      · refine SWp.block (SWp.seq (SWp.seq (Wp.s ?_)))
        simp -implicitDefEqProofs [go_sem, hbx_of hj]
        refine SWp.seq (SWp.drawnT [] [] (.s 0 .pl <| .s 1 .pl <| .s 2 .pl <| .s 3 .pl <| .s 4 .pl <| .s 5 .pl <| .s 6 .pl <| .s 7 .pl <| .s 8 .pl <| .s 9 .pl <| .s 10 .pl <| .s 11 .pl <| .s 12 .pl <| .s 13 .pl <| .s 14 .pl <| .s 15 .pl <| .s 16 .pl <| .s 17 .pl <| .s 18 .pl <| .n) (by kernel_rfl) (by kernel_rfl) ?_)
        have b1 := hbd0 e (by simp)
        rw [List.length_append, List.length_singleton] at hll
        have w1 : IntKind.i64.wrap (l0.length : Int) = l0.length := IntWalk.i64_in _ ⟨by omega, by omega⟩
        have w2 : IntKind.i64.wrap ((e.1 : Int) + e.2) = (e.1 : Int) + e.2 := IntWalk.i64_in _ ⟨by omega, by omega⟩
        have w3 : IntKind.i64.wrap ((e.2 : Int) + 1) = ((e.2 + 1 : Nat) : Int) := by rw [IntWalk.i64_in _ ⟨by omega, by omega⟩]; omega
        have x0 : l0.length < l0.length + 1 := by omega
        by_cases hq : e.1 + e.2 = x
        · have hq' : (e.1 : Int) + e.2 = x := by omega
          have w4 : IntKind.i64.wrap (x : Int) = x := IntWalk.i64_in _ ⟨by omega, by omega⟩
          simp -implicitDefEqProofs [go_sem, w1, w2, w3, hbx_of hj, exF_at0, exF_at1, hq, hq', w4]
          refine ⟨by omega, by omega, ?_⟩
          refine Wp.s ?_
          simp -implicitDefEqProofs [go_sem, w1, w3, hbx_of hj, exF_at1]
          refine ⟨by omega, by omega, by omega, ?_⟩
          rw [← hqq, ← hlp]
          have hst : exStep (l0 ++ [e]) x = l0 ++ [(e.1, e.2 + 1)] := by rw [exStep_snoc, if_pos hq]
          have hjl := (List.getElem?_eq_some_iff.1 hj).1
          rw [hst]
          refine ⟨Go.Proofs.YtpedbpbmnchllaaGreatDoor.hget _ _ 4, rfl, rfl, .bsa (H.length + (j + 5)) (l0.length + 1) 2, Wg.set j (some (exF (l0 ++ [(e.1, e.2 + 1)]))), ?_, .inr ⟨j, l0, (e.1, e.2 + 1), rfl, by simp, by rw [List.getElem?_set_self hjl]⟩⟩
          rw [List.set_append_right _ _ (by omega), Nat.add_sub_cancel_left, exF_take, exF_drop, exF_snoc]
          simp [exC]
        · have hq' : ¬ (e.1 : Int) + e.2 = x := by omega
          simp -implicitDefEqProofs [go_sem, w1, w2, w3, hbx_of hj, exF_at0, exF_at1, hq, hq']
          refine ⟨by omega, by omega, ?_⟩
          refine Wp.s ?_
          simp -implicitDefEqProofs [go_sem]
          refine Wp.s ?_
          simp -implicitDefEqProofs [go_sem, hbx_of hj]
          refine ⟨by omega, ?_⟩
          rw [← hqq, ← hlp]
          have hst : exStep (l0 ++ [e]) x = l0 ++ [e] ++ [(x, 1)] := by rw [exStep_snoc, if_neg hq]
          rw [hst]
          refine ⟨Go.Proofs.YtpedbpbmnchllaaGreatDoor.hget _ _ 4, rfl, rfl, .bsa (H.length + (Wg.length + 5)) (l0.length + 2) 2, Wg.set j none ++ [some (exF (l0 ++ [e] ++ [(x, 1)]))], ?_, .inr ⟨Wg.length, l0 ++ [e], (x, 1), rfl, by simp, by simp⟩⟩
          rw [List.set_append_right _ _ (by omega), Nat.add_sub_cancel_left, exF_snoc (l0 ++ [e])]
          simp [exC]
    · rintro _ _ _ ⟨rfl, cv, Wg, rfl, hc⟩
      refine .inl ⟨Go.Proofs.YtpedbpbmnchllaaGreatDoor.hget _ _ 4, ?_⟩
      rw [List.take_of_length_le (Nat.le_refl _)] at hc
      refine ⟨cv, _, Wg, ⟨rfl, hc⟩, Sh.forget (by simp -implicitDefEqProofs [go_sem]) ?_ rfl⟩
      rw [List.set_append_right _ _ (by omega), Nat.add_sub_cancel_left]; rfl
  · rintro ⟨cv, l, W⟩ ⟨rfl, hc⟩
    dsimp only at hc ⊢
    refine SWp0.seq (SWp.s0 (Wp.s ?_))
    simp -implicitDefEqProofs [go_sem]
    refine SWp.s0 (Wp.s ?_)
    simp -implicitDefEqProofs [go_sem]
    rcases hc with ⟨rfl, hl⟩ | ⟨j, l0, e, hl, rfl, hj⟩
    · rw [hl]
      exact Fin.pu (.nil 2 (by decide)) (by simp [go_sem]) hokH (by simp) (by simp)
    · refine Fin.froz (b := H.length + (j + 5)) (cs := exF (runsN (elsN b.n b.w))) (o := 0) (n := (runsN (elsN b.n b.w)).length) (sz := 2) (xs := (runsN (elsN b.n b.w)).map exC) ⟨rfl, rfl, rfl⟩ (.bsa _ _ _) ?_ (by rw [List.drop_zero, chunks_exF]) (by simp) (by omega) ?_ hokH (by simp) (by simp)
      · rw [get_W5]; exact hj
      · exact okE_exs _ _ _
end Go.Proofs.YtpedbpbmnchllaaGreatDoor
namespace Go.Proofs.YtpedbpbmnchllaaGreatDoor
open Go.Proofs
theorem fitsI_of {sizes : List Int} (h : sizesE sizes = 0) (w : Wr) : fitsI (imOf sizes) w = fitsS sizes w := by
  rw [fitsI, imgSz_of h, if_neg (by simp [h])]
theorem fitsS_0 {sizes : List Int} {w : Wr} (h : sizesE sizes = 0) (hf : fitsS sizes w = 0) : 0 ≤ w.volume ∧ w.volume < sizes.length ∧ 0 < w.data.length ∧ 0 ≤ w.start ∧ w.start + w.data.length ≤ 4096 := by
  unfold fitsS at hf
  split at hf
  · cases hf
  · split at hf
    · cases hf
    · split at hf
      · cases hf
      · rename_i a b c
        have hv : w.volume.toNat < sizes.length := by omega
        have hm := (sizesE_0 h).2.2 _ (List.getElem_mem hv)
        rw [List.getD_eq_getElem?_getD, List.getElem?_eq_getElem hv, Option.getD_some] at c
        omega
theorem Check1_cc (H : Hp) (V : List Nat) (w : Wr) (b : Nat) (sizes : List Int) (hb : H[b]? = some (some [imV (imOf sizes)])) (he : sizesE sizes = 0) (hw : w.data.length ≤ 1000000) : CC Tryz.prog 122 [.agg (wrC w), .ptr b 0] H V (Pu (er (fitsS sizes w)) H V) := by
  refine CC.of_swp Tryz.func122 rfl (by kernel_rfl) (by rw [Tryz.ntmps122]; exact len_le _ _ rfl) fun hok hokH => ?_
  clear hok
  have hlen : (imOf sizes).length ≤ 1000000000 := by rw [imOf_len]; have := (sizesE_0 he).2.1; omega
  have hs : ∀ v ∈ imOf sizes, v.length ≤ 1000000000 := fun v hv => by
    obtain ⟨n, hn, rfl⟩ := List.mem_map.1 hv
    have := (sizesE_0 he).2.2 n hn
    rw [zer_len]; omega
  refine SWp.seq (Wp.s ?_)
  simp -implicitDefEqProofs [go_sem, args0]
  refine Wp.s ?_
  simp -implicitDefEqProofs [go_sem, hbx_of (at_old _ [some (wrC w)] hb)]
  refine CC.mono (Fits_cc _ _ .sh (imOf sizes) w hlen hs (by omega)) ?_
  rintro _ _ _ ⟨rfl, rfl, rfl⟩
  simp -implicitDefEqProofs [go_sem]
  exact Fin.er (fitsI_of he w).symm hokH (by simp) (by simp)
theorem wsCheck_cc (H : Hp) (V : List Nat) (tk t2 : Tk) (l : List Wr) (sizes : List Int) (hl : l.length ≤ 1000000000) (hw : WrS l) (h2 : sizes.length ≤ 9223372036854775807) : CC Tryz.prog 83 [.sl tk 3 (l.map wrC), .sl t2 1 (sizes.map ic)] H V (Pu (er (wsE sizes l)) H V) := by
  refine CC.of_swp Tryz.func83 rfl (by kernel_rfl) (by rw [Tryz.ntmps83]; exact len_le _ _ rfl) fun hok hokH => ?_
  clear hok
  refine SWp.seq (Wp.s ?_)
  simp -implicitDefEqProofs [go_sem, args0]
  refine SWp.seq (Wp.s ?_)
  simp -implicitDefEqProofs [go_sem]
  refine CC.mono (New_cc _ _ _ sizes h2) ?_
  rintro _ _ _ ⟨rfl, rfl, rfl⟩
  by_cases he : sizesE sizes = 0
  · simp -implicitDefEqProofs [go_sem, he]
    refine SWp.seq (Wp.s ?_)
    simp -implicitDefEqProofs [go_sem]
    refine Wp.s ?_
    simp -implicitDefEqProofs [go_sem]
    refine CC.mono (check_cc _ _ _ l _ [.ptr H.length 0] (fitsS sizes) (.inr ⟨_, rfl, by simp⟩) hl hw (fun H' V' w hm hb => Check1_cc H' V' w H.length sizes (hb _ _ (by simp)) he (hw w hm)) (fun w hm hf => by have := fitsS_0 he hf; omega)) ?_
    rintro _ _ _ ⟨rfl, rfl, rfl⟩
    simp -implicitDefEqProofs [go_sem]
    exact Fin.er (by rw [wsE, if_neg (by simp [he])]) hokH (by simp) (by simp)
  · simp -implicitDefEqProofs [go_sem, he]
    refine SWp.seq (Wp.s ?_)
    simp -implicitDefEqProofs [go_sem, he]
    exact Fin.er (by rw [wsE, if_pos he]) hokH (by simp) (by simp)
theorem cCheck_cc (H : Hp) (V : List Nat) (t2 : Tk) (c : Cyc) (sizes : List Int) (hl : c.wrs.length ≤ 1000000000) (hw : WrS c.wrs) (h2 : sizes.length ≤ 9223372036854775807) (h3 : c.poss.length ≤ 9223372036854775807) : CC Tryz.prog 40 [.agg (cycC c), .sl t2 1 (sizes.map ic)] H V (Pu (er (chkC c sizes)) H V) := by
  refine CC.of_swp Tryz.func40 rfl (by kernel_rfl) (by rw [Tryz.ntmps40]; exact len_le _ _ rfl) fun hok hokH => ?_
  clear hok
  refine SWp.seq (Wp.s ?_)
  simp -implicitDefEqProofs [go_sem, args0]
  refine SWp.seq (Wp.s ?_)
  simp -implicitDefEqProofs [go_sem]
  refine CC.mono (New_cc _ _ _ sizes h2) ?_
  rintro _ _ _ ⟨rfl, rfl, rfl⟩
  by_cases he : sizesE sizes = 0
  case neg =>
    simp -implicitDefEqProofs [go_sem, he]
    exact Fin.er (by rw [chkC, if_pos he]) hokH (by simp) (by simp)
  have e0 : chkC c sizes = if c.base < 0 ∨ c.number ≤ c.base ∨ 1073741824 < c.number then 2 else if inB c.time 0 1073741824 = false then 24 else if posE c.poss 0 ≠ 0 then posE c.poss 0 else wsE sizes c.wrs := by
    rw [chkC, if_neg (by simp [he])]
  simp -implicitDefEqProofs [go_sem, he]
  refine SWp.join (α := Unit) (fun _ => ([(1, .sl t2 1 (sizes.map ic)), (2, .ptr H.length 0)], H ++ [some (cycC c)], V)) (fun _ => ¬ (c.base < 0 ∨ c.number ≤ c.base ∨ 1073741824 < c.number) ∧ inB c.time 0 1073741824 = true) ?_ ?_
  · refine SWp.block (SWp.seq (Wp.s ?_))
    by_cases b1 : c.base < 0
    · simp -implicitDefEqProofs [go_sem, b1]
      refine Wp.s ?_
      simp -implicitDefEqProofs [go_sem]
      exact Fin.er (by rw [e0, if_pos (.inl b1)]) hokH (by simp) (by simp)
    by_cases b2 : c.number ≤ c.base
    · simp -implicitDefEqProofs [go_sem, b1, b2]
      refine Wp.s ?_
      simp -implicitDefEqProofs [go_sem]
      exact Fin.er (by rw [e0, if_pos (.inr (.inl b2))]) hokH (by simp) (by simp)
    by_cases b3 : 1073741824 < c.number
    · simp -implicitDefEqProofs [go_sem, b1, b2, b3]
      refine Wp.s ?_
      simp -implicitDefEqProofs [go_sem]
      exact Fin.er (by rw [e0, if_pos (.inr (.inr b3))]) hokH (by simp) (by simp)
    simp -implicitDefEqProofs [go_sem, b1, b2, b3]
    refine Wp.s ?_
    simp -implicitDefEqProofs [go_sem]
    refine CC.mono (in_cc _ _ c.time 0 1073741824) ?_
    rintro _ _ _ ⟨rfl, rfl, rfl⟩
    rcases ht : inB c.time 0 1073741824 with - | -
    · simp -implicitDefEqProofs [go_sem]
      exact Fin.er (by rw [e0, if_neg (by omega), if_pos ht]) hokH (by simp) (by simp)
    · simp -implicitDefEqProofs [go_sem, b1, b2, b3]
      exact Sh.forget (by simp [go_sem]) rfl rfl
  · rintro _ ⟨n1, n2⟩
    dsimp only
    rw [if_neg n1, if_neg (by simp [n2])] at e0
    refine SWp.seq (SWp.seq (Wp.s ?_))
    simp -implicitDefEqProofs [go_sem]
    refine CC.mono (positions_cc _ _ _ c.poss 0 h3) ?_
    rintro _ _ _ ⟨rfl, rfl, rfl⟩
    by_cases hp : posE c.poss 0 = 0
    · simp -implicitDefEqProofs [go_sem, hp]
      refine Wp.s ?_
      simp -implicitDefEqProofs [go_sem, hp]
      refine Wp.s ?_
      simp -implicitDefEqProofs [go_sem]
      refine CC.mono (wsCheck_cc _ _ _ _ c.wrs sizes hl hw h2) ?_
      rintro _ _ _ ⟨rfl, rfl, rfl⟩
      simp -implicitDefEqProofs [go_sem]
      exact Fin.er (by rw [e0, if_neg (by simp [hp])]) hokH (by simp) (by simp)
    · simp -implicitDefEqProofs [go_sem, hp]
      refine Wp.s ?_
      simp -implicitDefEqProofs [go_sem, hp]
      exact Fin.er (by rw [e0, if_pos hp]) hokH (by simp) (by simp)
end Go.Proofs.YtpedbpbmnchllaaGreatDoor
namespace Go.Proofs.YtpedbpbmnchllaaGreatDoor
open Go.Proofs
def apC (l : Img) (c : Cyc) : Img × Nat :=
  if sizesE (imgSz l) ≠ 0 then ([], sizesE (imgSz l)) else if chkC c (imgSz l) ≠ 0 then ([], chkC c (imgSz l)) else ((apR l c.wrs).1, (apR l c.wrs).2.2)
def apcV (x : Img × Nat) : CV := .tup [imV x.1, er x.2]
theorem okV_apcV (i j : Nat) (x : Img × Nat) : okV i j (apcV x) := by
  rw [apcV, okV, okL, okL, okL]
  simp [go_sem, okL, okV]
set_option maxRecDepth 8000 in
theorem cyApply_cc (H : Hp) (V : List Nat) (l : Img) (c : Cyc) (hl : l.length ≤ 1000000000) (hw : c.wrs.length ≤ 1000000000) (hws : WrS c.wrs) (hp : c.poss.length ≤ 1000000000) : CC Tryz.prog 12 [.sl .sh 1 (l.map imE), .agg (cycC c)] H V (Pu (apcV (apC l c)) H V) := by
  refine CC.of_swp Tryz.func12 rfl (by kernel_rfl) (by rw [Tryz.ntmps12]; exact len_le _ _ rfl) fun hok hokH => ?_
  clear hok
  have bad : ∀ (e : Nat) (H' : Hp) (V' : List Nat), apC l c = ([], e) → H'.take H.length = H → V'.take V.length = V → Fin H.length V.length (Pu (apcV (apC l c)) H V) (.tup [.v (.slice none 0 0), er e]) H' V' := fun e H' V' h1 h2 h3 => by
    rw [h1]
    exact Fin.pu (.tup (.cons (.nil 1 (by decide)) (.cons (.refl _) .nil))) (okV_apcV _ _ _) hokH h2 h3
  refine SWp.seq (Wp.s ?_)
  simp -implicitDefEqProofs [go_sem, args0]
  refine SWp.seq (SWp.seq (Wp.s ?_))
  simp -implicitDefEqProofs [go_sem]
  refine CC.mono (iCheck_cc _ _ .sh l hl) ?_
  rintro _ _ _ ⟨rfl, rfl, rfl⟩
  simp -implicitDefEqProofs [go_sem]
  refine SWp.seq (Wp.s ?_)
  by_cases h0 : sizesE (imgSz l) = 0
  case neg =>
    simp -implicitDefEqProofs [go_sem, h0]
    refine Wp.s ?_
    simp -implicitDefEqProofs [go_sem]
    exact bad _ _ _ (by rw [apC, if_pos h0]) (by simp) (by simp)
  simp -implicitDefEqProofs [go_sem, h0]
  refine Wp.s ?_
  simp -implicitDefEqProofs [go_sem]
  obtain ⟨hl8, hvs⟩ := sizes_pos h0
  refine SWp.seq (Wp.s ?_)
  simp -implicitDefEqProofs [go_sem]
  refine SWp.join (α := Unit) (fun _ => ([(0, .sl .sh 1 (l.map imE)), (3, .ptr H.length 0), (7, .sl (.own V.length l.length) 1 ((imgSz l).map ic))], H ++ [some (cycC c)], V ++ [l.length])) (fun _ => True) ?_ ?_
  · refine SWp.seq (Wp.s ?_)
    simp -implicitDefEqProofs [go_sem]
    refine SWp.block ?_
    refine SWp.loop (α := Nat) (fun i => ([(0, .sl .sh 1 (l.map imE)), (3, .ptr H.length 0), (7, .sl (.own V.length i) 1 ((imgSz (l.take i)).map ic)), (19, .sl .sh 1 (l.map imE)), (20, ci l.length), (21, ci i)], H ++ [some (cycC c)], V ++ [i])) (fun i => i ≤ l.length) (fun i => l.length - i) 0 (Nat.zero_le _) (Sh.tokT (by simp [go_sem, imgSz]) rfl rfl) ?_
    intro i hi
    dsimp only
    refine SWp.seq (Wp.s ?_)
    simp -implicitDefEqProofs [go_sem]
    refine SWp.seq (Wp.s ?_)
    simp -implicitDefEqProofs [go_sem]
    refine ⟨fun h => ?_, fun h => ?_⟩
    case refine_2 =>
      obtain rfl : i = l.length := by omega
      rw [List.take_length]
      exact Sh.forget (by simp [go_sem]) rfl rfl
    refine SWp.seq (SWp.block (SWp.seq (Wp.s ?_)))
    simp -implicitDefEqProofs [go_sem, h]
    refine Wp.s ?_
    simp -implicitDefEqProofs [go_sem]
    refine ⟨by omega, Wp.s ?_⟩
    simp -implicitDefEqProofs [go_sem, wrap_succ (show i ≤ 1000000000 by omega)]
    refine ⟨i + 1, by omega, by omega, ?_⟩
    have : (imgSz (l.take (i + 1))).map ic = (imgSz (l.take i)).map ic ++ [ic (l[i].length : Int)] := by
      rw [List.take_succ_eq_append_getElem h, imgSz, List.map_append, List.map_append]; rfl
    rw [this]
    exact Sh.forget (by simp [go_sem, ic]) rfl (by simp)
  rintro _ -
  dsimp only
  refine SWp.seq (SWp.seq (Wp.s ?_))
  simp -implicitDefEqProofs [go_sem]
  refine CC.mono (cCheck_cc _ _ _ c (imgSz l) hw hws (by rw [imgSz, List.length_map]; omega) (by omega)) ?_
  rintro _ _ _ ⟨rfl, rfl, rfl⟩
  simp -implicitDefEqProofs [go_sem]
  refine SWp.seq (Wp.s ?_)
  by_cases h1 : chkC c (imgSz l) = 0
  case neg =>
    simp -implicitDefEqProofs [go_sem, h1]
    refine Wp.s ?_
    simp -implicitDefEqProofs [go_sem]
    exact bad _ _ _ (by rw [apC, if_neg (by simp [h0]), if_pos h1]) (by simp) (by simp)
  simp -implicitDefEqProofs [go_sem, h1]
  refine Wp.s ?_
  simp -implicitDefEqProofs [go_sem]
  refine SWp.seq (Wp.s ?_)
  simp -implicitDefEqProofs [go_sem, cycC]
  refine CC.mono (imApply_cc _ _ .sh l c.wrs hl hw (fun w h => by have := hws w h; omega)) ?_
  rintro _ _ _ ⟨rfl, rfl, rfl⟩
  simp -implicitDefEqProofs [go_sem, apV]
  refine Wp.s ?_
  simp -implicitDefEqProofs [go_sem]
  refine Fin.pu ?_ (okV_apcV _ _ _) hokH (by simp) (by simp)
  rw [apC, if_neg (by simp [h0]), if_neg (by simp [h1])]
  exact .refl _
end Go.Proofs.YtpedbpbmnchllaaGreatDoor
namespace Go.Proofs.YtpedbpbmnchllaaGreatDoor
open Go.Proofs
end Go.Proofs.YtpedbpbmnchllaaGreatDoor
namespace Go.Proofs.YtpedbpbmnchllaaGreatDoor
open Go.Proofs
end Go.Proofs.YtpedbpbmnchllaaGreatDoor
namespace Go.Proofs.YtpedbpbmnchllaaGreatDoor
open Go.Proofs
end Go.Proofs.YtpedbpbmnchllaaGreatDoor
namespace Go.Proofs.YtpedbpbmnchllaaGreatDoor
open Go.Proofs
section
variable {P : Program} {H : Hp} {V : List Nat}
end
end Go.Proofs.YtpedbpbmnchllaaGreatDoor
namespace Go.Proofs.YtpedbpbmnchllaaGreatDoor
open Go.Proofs
def numG : Nat → Nat → Nat → List UInt8 → Except Nat (Nat × List UInt8)
  | 0, _, _, _ => .error 3
  | _ + 1, _, _, [] => .error 10
  | f + 1, i, n, b :: r =>
    if b.toNat < 128 then
      if (b.toNat = 0 ∧ 0 < i) ∨ 9007199254740991 < n + b.toNat * 128 ^ i then .error 3 else .ok (n + b.toNat * 128 ^ i, r)
    else numG f (i + 1) (n + b.toNat % 128 * 128 ^ i) r
def number (src : List UInt8) : Except Nat (Nat × List UInt8) := numG 8 0 0 src

section
variable {H : Hp} {V : List Nat} {b : Nat} {tk : Tk} {src : List UInt8}
end
end Go.Proofs.YtpedbpbmnchllaaGreatDoor
namespace Go.Proofs.YtpedbpbmnchllaaGreatDoor
open Go.Proofs
end Go.Proofs.YtpedbpbmnchllaaGreatDoor
namespace Go.Proofs.YtpedbpbmnchllaaGreatDoor
def ahead {α : Type} (xs : List α) : Except Nat (List α × List UInt8) → Except Nat (List α × List UInt8)
  | .error e => .error e
  | .ok (l, r) => .ok (xs ++ l, r)
end Go.Proofs.YtpedbpbmnchllaaGreatDoor
namespace Go.Proofs.YtpedbpbmnchllaaGreatDoor
open Go.Proofs
section
variable {H : Hp} {V : List Nat} {b : Nat} {tk : Tk} {α : Type} {val : α → CV} {Z : CV → Prop}
end
section
variable {H L : Hp} {b k : Nat} {c d : Option (List CV)} {cs : List CV} {K : List CV → Prop}
@[go_sem] theorem hbx_at (h : k = H.length) : hbx (H ++ some cs :: L) k K = K cs := by subst h; exact hbx_new H cs L K
theorem take_set : (H.set b d).take H.length = H.set b d := List.take_of_length_le (by simp)
end
theorem lt_of_box {H : Hp} {b : Nat} {x : Option (List CV)} (h : H[b]? = some x) : b < H.length := (List.getElem?_eq_some_iff.1 h).1
end Go.Proofs.YtpedbpbmnchllaaGreatDoor
namespace Go.Proofs.YtpedbpbmnchllaaGreatDoor
open Go.Proofs
end Go.Proofs.YtpedbpbmnchllaaGreatDoor
namespace Go.Proofs.YtpedbpbmnchllaaGreatDoor
open Go.Proofs
end Go.Proofs.YtpedbpbmnchllaaGreatDoor
namespace Go.Proofs.YtpedbpbmnchllaaGreatDoor
open Go.Proofs
section
variable {H H' : Hp} {V V' : List Nat} {src : List UInt8} {x : Except Nat (Nat × List UInt8)}
end
end Go.Proofs.YtpedbpbmnchllaaGreatDoor
namespace Go.Proofs.YtpedbpbmnchllaaGreatDoor
open Go.Proofs
end Go.Proofs.YtpedbpbmnchllaaGreatDoor
namespace Go.Proofs.YtpedbpbmnchllaaGreatDoor
open Go.Proofs
end Go.Proofs.YtpedbpbmnchllaaGreatDoor
namespace Go.Proofs.YtpedbpbmnchllaaGreatDoor
open Go.Proofs
end Go.Proofs.YtpedbpbmnchllaaGreatDoor
namespace Go.Proofs.YtpedbpbmnchllaaGreatDoor
open Go.Proofs
end Go.Proofs.YtpedbpbmnchllaaGreatDoor
namespace Go.Proofs.YtpedbpbmnchllaaGreatDoor
open Go.Proofs
def lenR (s : Sec) : Nat := (s.val.getD 5 0).toNat + 256 * (s.val.getD 6 0).toNat
end Go.Proofs.YtpedbpbmnchllaaGreatDoor
namespace Go.Proofs.YtpedbpbmnchllaaGreatDoor
section
variable {P : Program}
end
end Go.Proofs.YtpedbpbmnchllaaGreatDoor
namespace Go.Proofs.YtpedbpbmnchllaaGreatDoor
open Go.Proofs
end Go.Proofs.YtpedbpbmnchllaaGreatDoor
namespace Go.Proofs.YtpedbpbmnchllaaGreatDoor
open Go.Proofs
end Go.Proofs.YtpedbpbmnchllaaGreatDoor
namespace Go.Proofs.YtpedbpbmnchllaaGreatDoor
open Go.Proofs
end Go.Proofs.YtpedbpbmnchllaaGreatDoor
namespace Go.Proofs.YtpedbpbmnchllaaGreatDoor
open Go.Proofs
end Go.Proofs.YtpedbpbmnchllaaGreatDoor
namespace Go.Proofs.YtpedbpbmnchllaaGreatDoor
open Go.Proofs
@[go_sem] theorem inA_v (S : List Nat) (u : Value) : inA S (.v u) = True := rfl
end Go.Proofs.YtpedbpbmnchllaaGreatDoor
namespace Go.Proofs.YtpedbpbmnchllaaGreatDoor
open Go.Proofs
end Go.Proofs.YtpedbpbmnchllaaGreatDoor
namespace Go.Proofs.YtpedbpbmnchllaaGreatDoor
open Go.Proofs
end Go.Proofs.YtpedbpbmnchllaaGreatDoor
namespace Go.Proofs.YtpedbpbmnchllaaGreatDoor
open Go.Proofs
end Go.Proofs.YtpedbpbmnchllaaGreatDoor
namespace Go.Proofs.YtpedbpbmnchllaaGreatDoor
open Go.Proofs
end Go.Proofs.YtpedbpbmnchllaaGreatDoor
namespace Go.Proofs.YtpedbpbmnchllaaGreatDoor
open Go.Proofs
end Go.Proofs.YtpedbpbmnchllaaGreatDoor
namespace Go.Proofs.YtpedbpbmnchllaaGreatDoor
open Go.Proofs
end Go.Proofs.YtpedbpbmnchllaaGreatDoor
namespace Go.Proofs.YtpedbpbmnchllaaGreatDoor
open Go.Proofs
end Go.Proofs.YtpedbpbmnchllaaGreatDoor
namespace Go.Proofs.YtpedbpbmnchllaaGreatDoor
open Go.Proofs
end Go.Proofs.YtpedbpbmnchllaaGreatDoor
namespace Go.Proofs.YtpedbpbmnchllaaGreatDoor
open Go.Proofs
end Go.Proofs.YtpedbpbmnchllaaGreatDoor
namespace Go.Proofs.YtpedbpbmnchllaaGreatDoor
open Go.Proofs
end Go.Proofs.YtpedbpbmnchllaaGreatDoor
namespace Go.Proofs.YtpedbpbmnchllaaGreatDoor
open Go.Proofs
end Go.Proofs.YtpedbpbmnchllaaGreatDoor
namespace Go.Proofs.YtpedbpbmnchllaaGreatDoor
open Go.Proofs
def szN (s : Sec) : Nat := (lenR s + 10) / 4
end Go.Proofs.YtpedbpbmnchllaaGreatDoor
namespace Go.Proofs.YtpedbpbmnchllaaGreatDoor
open Go.Proofs
end Go.Proofs.YtpedbpbmnchllaaGreatDoor
namespace Go.Proofs.YtpedbpbmnchllaaGreatDoor
open Go.Proofs
end Go.Proofs.YtpedbpbmnchllaaGreatDoor
namespace Go.Proofs.YtpedbpbmnchllaaGreatDoor
open Go.Proofs
theorem Sh.trim0 {n : Nat} {T T' : Tm} {H0 H : Hp} {V0 V V' : List Nat} (h : TLe T T') (hT : TOk H0.length V'.length T') (hokH : ∀ (b : Nat) cs, H0[b]? = some (some cs) → okL H0.length V0.length cs) (hV0 : V0.length ≤ V'.length) (eH : H.take H0.length = H0) (eV : V.take V'.length = V') : Sh n H0.length V0.length T H V (T', H0, V') := by
  have := Sh.trim (n := n) (T := T) (H := H) (L := []) h (by simpa using hT) hokH trivial hV0 (by simpa using eH) eV
  simpa using this
end Go.Proofs.YtpedbpbmnchllaaGreatDoor
namespace Go.Proofs.YtpedbpbmnchllaaGreatDoor
open Go.Proofs
end Go.Proofs.YtpedbpbmnchllaaGreatDoor
namespace Go.Proofs.YtpedbpbmnchllaaGreatDoor
open Go.Proofs
end Go.Proofs.YtpedbpbmnchllaaGreatDoor
namespace Go.Proofs.YtpedbpbmnchllaaGreatDoor
open Go.Proofs
end Go.Proofs.YtpedbpbmnchllaaGreatDoor
namespace Go.Proofs.YtpedbpbmnchllaaGreatDoor
open Go.Proofs
end Go.Proofs.YtpedbpbmnchllaaGreatDoor
namespace Go.Proofs.YtpedbpbmnchllaaGreatDoor
open Go.Proofs
end Go.Proofs.YtpedbpbmnchllaaGreatDoor
namespace Go.Proofs.YtpedbpbmnchllaaGreatDoor
open Go.Proofs
end Go.Proofs.YtpedbpbmnchllaaGreatDoor
namespace Go.Proofs.YtpedbpbmnchllaaGreatDoor
open Go.Proofs
end Go.Proofs.YtpedbpbmnchllaaGreatDoor
namespace Go.Proofs.YtpedbpbmnchllaaGreatDoor
open Go.Proofs
end Go.Proofs.YtpedbpbmnchllaaGreatDoor
