import Derived.Test.YtffjhibomipemaaG1
import Derived.Test.YtffjhibomipemaaW9
namespace Go.Proofs.Ytffjhibomipemaa
open Go.Proofs
theorem exMap {α : Type} {f : α → List CV} : ∀ {xs : List (List CV)}, (∀ x ∈ xs, ∃ a, x = f a) → ∃ ys : List α, xs = ys.map f
  | [], _ => ⟨[], rfl⟩
  | x :: xs, h => by
    obtain ⟨a, rfl⟩ := h x (by simp)
    obtain ⟨ys, rfl⟩ := exMap fun y hy => h y (List.mem_cons_of_mem _ hy)
    exact ⟨a :: ys, rfl⟩
theorem opens_int : Opens Try.prog 3 fun cs => ∃ n, cs = ic n :=
  (Opens.int Try.underlying3).mono fun _ ⟨n, h, _⟩ => ⟨n, h⟩
theorem opens_u8 : Opens Try.prog 5 fun cs => ∃ b, cs = u8 b :=
  (Opens.int Try.underlying5).mono fun _ ⟨n, h, hw⟩ => ⟨byt n, by
    simp only [Lit.wf, Bool.and_eq_true, decide_eq_true_eq] at hw
    have h1 : 0 ≤ n := hw.1
    have h2 : n ≤ 255 := hw.2
    rw [h, u8, byt_toNat, Int.emod_eq_of_lt h1 (by omega)]⟩
theorem opens_sl {t e sz : Nat} {α : Type} {f : α → List CV} (ht : Try.prog.underlying t = some (.slice e)) (hs : Try.prog.cellsOf e = sz) (h0 : 0 < sz) (he : Opens Try.prog e fun cs => ∃ a, cs = f a) :
    Opens Try.prog t fun cs => ∃ l : List α, cs = [.sl .sh sz (l.map f)] ∧ l.length ≤ maxLen :=
  (Opens.slice ht hs h0 he).mono fun _ ⟨xs, h, hl, hx⟩ => by
    obtain ⟨ys, rfl⟩ := exMap hx
    exact ⟨ys, h, by simpa using hl⟩
theorem opens_bytes : Opens Try.prog 24 fun cs => ∃ l : List UInt8, cs = [.sl .sh 1 (bs l)] ∧ l.length ≤ maxLen := opens_sl Try.underlying24 (by kernel_rfl) (by decide) opens_u8
theorem opens_ints : Opens Try.prog 29 fun cs => ∃ l : List Int, cs = [.sl .sh 1 (l.map ic)] ∧ l.length ≤ maxLen := opens_sl Try.underlying29 (by kernel_rfl) (by decide) opens_int
theorem flat_u8 : ∀ l : List UInt8, (l.map u8).flatten = l.map fun b => CV.v (.int .u8 (b.toNat : Int))
  | [] => rfl
  | b :: l => by rw [List.map_cons, List.flatten_cons, flat_u8 l]; rfl
theorem opens_sec : Opens Try.prog 72 fun cs => ∃ s, cs = secC s :=
  (Opens.array (sz := 1) Try.underlying72 (by kernel_rfl) (by kernel_rfl) opens_u8).mono fun cs ⟨xs, h, hl, hx⟩ => by
    obtain ⟨l, rfl⟩ := exMap hx
    exact ⟨⟨l, by simpa using hl⟩, by rw [h, flat_u8]; rfl⟩
theorem opens_secs : Opens Try.prog 33 fun cs => ∃ l : List Sec, cs = [.sl .sh 8 (l.map secC)] ∧ l.length ≤ maxLen := opens_sl Try.underlying33 (by kernel_rfl) (by decide) opens_sec
theorem opens_ext : Opens Try.prog 77 fun cs => ∃ x, cs = extC x :=
  (Opens.struct Try.underlying77 (N := 2) (by kernel_rfl) (.cons rfl (n := 1) (by kernel_rfl) opens_int (.cons rfl (n := 1) (by kernel_rfl) opens_int .nil))).mono fun cs h => by
    obtain ⟨_, _, rfl, ⟨a, rfl⟩, _, _, rfl, ⟨b, rfl⟩, rfl⟩ := h
    exact ⟨⟨a, b⟩, rfl⟩
theorem opens_exts : Opens Try.prog 34 fun cs => ∃ l : List Ext2, cs = [.sl .sh 2 (l.map extC)] ∧ l.length ≤ maxLen := opens_sl Try.underlying34 (by kernel_rfl) (by decide) opens_ext
theorem opens_wr : Opens Try.prog 86 fun cs => ∃ x, cs = wrC x :=
  (Opens.struct Try.underlying86 (N := 3) (by kernel_rfl) (.cons rfl (n := 1) (by kernel_rfl) opens_int (.cons rfl (n := 1) (by kernel_rfl) opens_int (.cons rfl (n := 1) (by kernel_rfl) opens_secs .nil)))).mono fun cs h => by
    obtain ⟨_, _, rfl, ⟨a, rfl⟩, _, _, rfl, ⟨b, rfl⟩, _, _, rfl, ⟨c, rfl, _⟩, rfl⟩ := h
    exact ⟨⟨a, b, c⟩, rfl⟩
theorem opens_wrs : Opens Try.prog 35 fun cs => ∃ l : List Wr, cs = [.sl .sh 3 (l.map wrC)] ∧ l.length ≤ maxLen := opens_sl Try.underlying35 (by kernel_rfl) (by decide) opens_wr
theorem opens_vals : Opens Try.prog 37 fun cs => ∃ x, cs = valC x ∧ x.ints.length ≤ maxLen ∧ x.secs.length ≤ maxLen ∧ x.exts.length ≤ maxLen ∧ x.wrs.length ≤ maxLen :=
  (Opens.struct Try.underlying37 (N := 4) (by kernel_rfl) (.cons rfl (n := 1) (by kernel_rfl) opens_ints (.cons rfl (n := 1) (by kernel_rfl) opens_secs (.cons rfl (n := 1) (by kernel_rfl) opens_exts (.cons rfl (n := 1) (by kernel_rfl) opens_wrs .nil))))).mono fun cs h => by
    obtain ⟨_, _, rfl, ⟨a, rfl, ha⟩, _, _, rfl, ⟨b, rfl, hb⟩, _, _, rfl, ⟨c, rfl, hc⟩, _, _, rfl, ⟨d, rfl, hd⟩, rfl⟩ := h
    exact ⟨⟨a, b, c, d⟩, rfl, ha, hb, hc, hd⟩
end Go.Proofs.Ytffjhibomipemaa
