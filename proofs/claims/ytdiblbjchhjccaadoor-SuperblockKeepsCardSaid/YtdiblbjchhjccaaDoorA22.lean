import Derived.Test.YtdiblbjchhjccaaDoorA15
import Derived.Test.YtdiblbjchhjccaaDoorA16
set_option linter.unusedSimpArgs false
set_option linter.unusedVariables false
set_option linter.unusedSectionVars false
namespace Go.Proofs.YtdiblbjchhjccaaDoor
open Go.Proofs
theorem opens_il : Opens Tryd.prog 52 fun cs => ∃ l : List Int, cs = [.sl .sh 1 (l.map ic)] ∧ l.length ≤ maxLen := opens_sl Tryd.underlying52 (by kernel_rfl) (by decide) opens_int
theorem opens_stp : Opens Tryd.prog 54 fun cs => ∃ x, cs = stpC x :=
  (Opens.struct Tryd.underlying54 (N := 3) (by kernel_rfl) (.cons rfl (n := 1) (by kernel_rfl) opens_bytes (.cons rfl (n := 1) (by kernel_rfl) opens_u8 (.cons rfl (n := 1) (by kernel_rfl) opens_il .nil)))).mono fun cs h => by
    obtain ⟨_, _, rfl, ⟨a, rfl, _⟩, _, _, rfl, ⟨b, rfl⟩, _, _, rfl, ⟨c, rfl, _⟩, rfl⟩ := h
    exact ⟨⟨a, b, c⟩, rfl⟩
theorem opens_stps : Opens Tryd.prog 46 fun cs => ∃ l : List Stp, cs = [.sl .sh 3 (l.map stpC)] ∧ l.length ≤ maxLen := opens_sl Tryd.underlying46 (by kernel_rfl) (by decide) opens_stp
end Go.Proofs.YtdiblbjchhjccaaDoor
