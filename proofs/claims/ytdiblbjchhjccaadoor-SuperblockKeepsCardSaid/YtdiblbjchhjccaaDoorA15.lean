import Derived.Test.YtdiblbjchhjccaaDoorA6
import Derived.Test.YtdiblbjchhjccaaDoorA7
import Derived.Test.YtdiblbjchhjccaaDoorProg
set_option linter.unusedSimpArgs false
set_option linter.unusedVariables false
set_option linter.unusedSectionVars false
namespace Go.Proofs.YtdiblbjchhjccaaDoor
open Go.Proofs
theorem exMap {α : Type} {f : α → List CV} : ∀ {xs : List (List CV)}, (∀ x ∈ xs, ∃ a, x = f a) → ∃ ys : List α, xs = ys.map f
  | [], _ => ⟨[], rfl⟩
  | x :: xs, h => by
    obtain ⟨a, rfl⟩ := h x (by simp)
    obtain ⟨ys, rfl⟩ := exMap fun y hy => h y (List.mem_cons_of_mem _ hy)
    exact ⟨a :: ys, rfl⟩
theorem opens_int : Opens Tryd.prog 3 fun cs => ∃ n, cs = ic n :=
  (Opens.int Tryd.underlying3).mono fun _ ⟨n, h, _⟩ => ⟨n, h⟩
theorem opens_u8 : Opens Tryd.prog 5 fun cs => ∃ b, cs = u8 b :=
  (Opens.int Tryd.underlying5).mono fun _ ⟨n, h, hw⟩ => ⟨byt n, by
    simp only [Lit.wf, Bool.and_eq_true, decide_eq_true_eq] at hw
    have h1 : 0 ≤ n := hw.1
    have h2 : n ≤ 255 := hw.2
    rw [h, u8, byt_toNat, Int.emod_eq_of_lt h1 (by omega)]⟩
theorem opens_sl {t e sz : Nat} {α : Type} {f : α → List CV} (ht : Tryd.prog.underlying t = some (.slice e)) (hs : Tryd.prog.cellsOf e = sz) (h0 : 0 < sz) (he : Opens Tryd.prog e fun cs => ∃ a, cs = f a) :
    Opens Tryd.prog t fun cs => ∃ l : List α, cs = [.sl .sh sz (l.map f)] ∧ l.length ≤ maxLen :=
  (Opens.slice ht hs h0 he).mono fun _ ⟨xs, h, hl, hx⟩ => by
    obtain ⟨ys, rfl⟩ := exMap hx
    exact ⟨ys, h, by simpa using hl⟩
theorem opens_bytes : Opens Tryd.prog 22 fun cs => ∃ l : List UInt8, cs = [.sl .sh 1 (bs l)] ∧ l.length ≤ maxLen := opens_sl Tryd.underlying22 (by kernel_rfl) (by decide) opens_u8
theorem flat_u8 : ∀ l : List UInt8, (l.map u8).flatten = l.map fun b => CV.v (.int .u8 (b.toNat : Int))
  | [] => rfl
  | b :: l => by rw [List.map_cons, List.flatten_cons]; exact congrArg (_ :: ·) (flat_u8 l)
theorem opens_sec : Opens Tryd.prog 57 fun cs => ∃ s : Sec, cs = secC s :=
  (Opens.array (sz := 1) Tryd.underlying57 (by kernel_rfl) (by kernel_rfl) opens_u8).mono fun cs ⟨xs, h, hl, hx⟩ => by
    obtain ⟨l, rfl⟩ := exMap hx
    refine ⟨⟨l, by simpa using hl⟩, ?_⟩
    rw [h]; exact flat_u8 l
theorem opens_secs : Opens Tryd.prog 32 fun cs => ∃ l : List Sec, cs = [.sl .sh 8 (l.map secC)] ∧ l.length ≤ maxLen := opens_sl Tryd.underlying32 (by kernel_rfl) (by decide) opens_sec
theorem opens_cach : Opens Tryd.prog 109 fun cs => ∃ x, cs = cachC x :=
  (Opens.struct Tryd.underlying109 (N := 9) (by kernel_rfl) (.cons rfl (n := 1) (by kernel_rfl) opens_int (.cons rfl (n := 8) (by kernel_rfl) opens_sec .nil))).mono fun cs h => by
    obtain ⟨_, _, rfl, ⟨a, rfl⟩, _, _, rfl, ⟨b, rfl⟩, rfl⟩ := h
    exact ⟨⟨a, b⟩, by rw [List.append_nil]; rfl⟩
theorem opens_cachs : Opens Tryd.prog 33 fun cs => ∃ l : List Cach, cs = [.sl .sh 9 (l.map cachC)] ∧ l.length ≤ maxLen := opens_sl Tryd.underlying33 (by kernel_rfl) (by decide) opens_cach
theorem opens_dk : Opens Tryd.prog 35 fun cs => ∃ d, cs = dkC d :=
  (Opens.struct Tryd.underlying35 (N := 2) (by kernel_rfl) (.cons rfl (n := 1) (by kernel_rfl) opens_secs (.cons rfl (n := 1) (by kernel_rfl) opens_cachs .nil))).mono fun cs h => by
    obtain ⟨_, _, rfl, ⟨a, rfl, _⟩, _, _, rfl, ⟨b, rfl, _⟩, rfl⟩ := h
    exact ⟨⟨a, b⟩, rfl⟩
end Go.Proofs.YtdiblbjchhjccaaDoor
