/-
  The facts on this translation's types.
-/
import Derived.Test.YtffjhibomipemaaL13
import Derived.Test.YtffjhibomipemaaProg
namespace Go.Proofs.Ytffjhibomipemaa
open Go.Proofs
@[go_sem] theorem slTy24 : slTy Try.prog 24 = some (5, 1) := by kernel_rfl
@[go_sem] theorem slTy29 : slTy Try.prog 29 = some (3, 1) := by kernel_rfl
@[go_sem] theorem slTy33 : slTy Try.prog 33 = some (72, 8) := by kernel_rfl
@[go_sem] theorem slTy34 : slTy Try.prog 34 = some (77, 2) := by kernel_rfl
@[go_sem] theorem slTy35 : slTy Try.prog 35 = some (86, 3) := by kernel_rfl
@[go_sem] theorem arTy72 : arTy Try.prog 72 = some (8, false, 1) := by kernel_rfl
@[go_sem] theorem ldTy3 : ldTy Try.prog 3 = some (false, 1) := by kernel_rfl
@[go_sem] theorem ldTy5 : ldTy Try.prog 5 = some (false, 1) := by kernel_rfl
@[go_sem] theorem ldTy24 : ldTy Try.prog 24 = some (false, 1) := by kernel_rfl
@[go_sem] theorem ldTy29 : ldTy Try.prog 29 = some (false, 1) := by kernel_rfl
@[go_sem] theorem ldTy33 : ldTy Try.prog 33 = some (false, 1) := by kernel_rfl
@[go_sem] theorem ldTy34 : ldTy Try.prog 34 = some (false, 1) := by kernel_rfl
@[go_sem] theorem ldTy35 : ldTy Try.prog 35 = some (false, 1) := by kernel_rfl
@[go_sem] theorem ldTy37 : ldTy Try.prog 37 = some (true, 4) := by kernel_rfl
@[go_sem] theorem ldTy72 : ldTy Try.prog 72 = some (true, 8) := by kernel_rfl
@[go_sem] theorem ldTy77 : ldTy Try.prog 77 = some (true, 2) := by kernel_rfl
@[go_sem] theorem ldTy86 : ldTy Try.prog 86 = some (true, 3) := by kernel_rfl
@[go_sem] theorem fdTy37_0 : fdTy Try.prog 37 0 = some (0, false, 1) := by kernel_rfl
@[go_sem] theorem fdTy37_1 : fdTy Try.prog 37 1 = some (1, false, 1) := by kernel_rfl
@[go_sem] theorem fdTy37_2 : fdTy Try.prog 37 2 = some (2, false, 1) := by kernel_rfl
@[go_sem] theorem fdTy37_3 : fdTy Try.prog 37 3 = some (3, false, 1) := by kernel_rfl
@[go_sem] theorem fdTy77_0 : fdTy Try.prog 77 0 = some (0, false, 1) := by kernel_rfl
@[go_sem] theorem fdTy77_1 : fdTy Try.prog 77 1 = some (1, false, 1) := by kernel_rfl
@[go_sem] theorem fdTy86_0 : fdTy Try.prog 86 0 = some (0, false, 1) := by kernel_rfl
@[go_sem] theorem fdTy86_1 : fdTy Try.prog 86 1 = some (1, false, 1) := by kernel_rfl
@[go_sem] theorem fdTy86_2 : fdTy Try.prog 86 2 = some (2, false, 1) := by kernel_rfl
@[go_sem] theorem fdTy128_0 : fdTy Try.prog 128 0 = some (0, false, 1) := by kernel_rfl
@[go_sem] theorem zcTy72 : zcTy Try.prog 72 = some [.int .u8 0, .int .u8 0, .int .u8 0, .int .u8 0, .int .u8 0, .int .u8 0, .int .u8 0, .int .u8 0] := by kernel_rfl
@[go_sem] theorem zcTy77 : zcTy Try.prog 77 = some [.int .i64 0, .int .i64 0] := by kernel_rfl
@[go_sem] theorem zcTy86 : zcTy Try.prog 86 = some [.int .i64 0, .int .i64 0, .slice none 0 0] := by kernel_rfl
@[go_sem] theorem bdTy72 : bdTy Try.prog 72 = some ([(0, 1), (1, 1), (2, 1), (3, 1), (4, 1), (5, 1), (6, 1), (7, 1)], [.int .u8 0, .int .u8 0, .int .u8 0, .int .u8 0, .int .u8 0, .int .u8 0, .int .u8 0, .int .u8 0]) := by kernel_rfl
@[go_sem] theorem bdTy77 : bdTy Try.prog 77 = some ([(0, 1), (1, 1)], [.int .i64 0, .int .i64 0]) := by kernel_rfl
@[go_sem] theorem bdTy86 : bdTy Try.prog 86 = some ([(0, 1), (1, 1), (2, 1)], [.int .i64 0, .int .i64 0, .slice none 0 0]) := by kernel_rfl
@[go_sem] theorem bdTy128 : bdTy Try.prog 128 = some ([(0, 1)], [.slice none 0 0]) := by kernel_rfl
@[go_sem] theorem cvTy3_5 : cvTy Try.prog 3 5 = some (some .u8) := by kernel_rfl
@[go_sem] theorem cvTy5_3 : cvTy Try.prog 5 3 = some (some .i64) := by kernel_rfl
@[go_sem] theorem cvTy24_9 : cvTy Try.prog 24 9 = some none := by kernel_rfl
@[go_sem] theorem cvTy44_3 : cvTy Try.prog 44 3 = some (some .i64) := by kernel_rfl
@[go_sem] theorem boolTy4 : Try.prog.underlying 4 = some .bool := by kernel_rfl
end Go.Proofs.Ytffjhibomipemaa
