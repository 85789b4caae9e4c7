import Derived.Test.YtffjhibomipemaaW1
namespace Go.Proofs.Ytffjhibomipemaa
open Go.Proofs
/-- Can a number be encoded? -/
def inR (n : Int) : Bool := decide (0 ≤ n) && decide (n ≤ 9007199254740991)
theorem inRange_cc (H : Hp) (V : List Nat) (n : Int) : CC Try.prog 11 [ci n] H V (Pu (cb (inR n)) H V) := by
  refine CC.of_swp Try.func11 rfl (by kernel_rfl) (by rw [Try.ntmps11]; exact len_le _ _ rfl) fun hok hokH => Wp.s ?_
  simp [go_sem, args0]
  exact ⟨fun h => Fin.bool (by simp [inR, h]; omega) hokH (by simp) (by simp), fun h => Fin.bool (by simp [inR]; omega) hokH (by simp) (by simp)⟩
def same (a b : List UInt8) : Bool := decide (a = b)
theorem Equal_cc (H : Hp) (V : List Nat) (t1 t2 : Tk) (a b : List UInt8) : CC Try.prog 12 [.sl t1 1 (bs a), .sl t2 1 (bs b)] H V (Pu (cb (same a b)) H V) := by
  refine CC.of_swp Try.func12 rfl (by kernel_rfl) (by rw [Try.ntmps12]; exact len_le _ _ rfl) fun hok hokH => Wp.s ?_
  simp [go_sem, args0]
  exact Fin.bool (by simp only [same]; by_cases h : a = b <;> simp [h]) hokH (by simp) (by simp)
end Go.Proofs.Ytffjhibomipemaa
