import Derived.Test.YtffjhibomipemaaW6
namespace Go.Proofs.Ytffjhibomipemaa
open Go.Proofs
/-- What a reader returns. -/
def rdv {α : Type} (val : α → CV) (zero : CV) : Except Nat (α × List UInt8) → CV
  | .ok (a, s) => .tup [val a, .sl .sh 1 (bs s), er 0]
  | .error e => .tup [zero, .v (.slice none 0 0), er e]
theorem number_len : ∀ (f i n : Nat) (src : List UInt8) {m : Nat} {r : List UInt8}, numG f i n src = .ok (m, r) → r.length ≤ src.length
  | 0, _, _, _, _, _, h => by rw [numG] at h; cases h
  | f + 1, _, _, [], _, _, h => by rw [numG] at h; cases h
  | f + 1, i, n, b :: s, m, r, h => by
    rw [numG] at h
    split at h
    · split at h
      · cases h
      · cases h; simp
    · have := number_len f _ _ s h
      rw [List.length_cons]; omega
theorem number_err : ∀ (f i n : Nat) (src : List UInt8) {e : Nat}, numG f i n src = .error e → e = 3 ∨ e = 10
  | 0, _, _, _, _, h => by rw [numG] at h; cases h; simp
  | f + 1, _, _, [], _, h => by rw [numG] at h; cases h; simp
  | f + 1, i, n, b :: s, e, h => by
    rw [numG] at h
    split at h
    · split at h
      · cases h; simp
      · cases h
    · exact number_err f _ _ s h

theorem readInt_cc (H : Hp) (V : List Nat) (tk : Tk) (src : List UInt8) (hl : src.length ≤ 1000000000) :
    CC Try.prog 60 [.sl tk 1 (bs src), .fn 61 []] H V (Pu (rdv (fun n : Nat => ci n) (ci 0) (number src)) H V) := by
  refine CC.of_swp Try.func60 rfl (by kernel_rfl) (by rw [Try.ntmps60]; exact len_le _ _ rfl) fun hok hokH => Wp.s ?_
  simp [go_sem, args0]
  refine CC.mono (number_cc _ _ _ _ _ (at_len _ _)) ?_
  intro r H' V' h
  unfold Cur at h
  rcases hn : number src with e | ⟨n, s⟩
  · rw [hn] at h
    obtain ⟨rfl, rfl, rfl⟩ := h
    have he : ¬ e = 0 := by rcases number_err _ _ _ _ hn with rfl | rfl <;> decide
    simp [go_sem, he]
    exact Fin.pu (.refl _) (by simp [go_sem, rdv]) hokH (by simp) (by simp)
  · rw [hn] at h
    obtain ⟨rfl, rfl, rfl⟩ := h
    simp [go_sem]
    refine CC.mono (clone_cc _ _ _ _ (by have := number_len _ _ _ _ hn; simp only [bs_len]; omega)) ?_
    rintro _ _ _ ⟨v', rfl, rfl, rfl⟩
    try simp [go_sem]
    exact Fin.pu (.tup (.cons (.refl _) (.cons (.sh ..) (.cons (.refl _) .nil)))) (by simp [go_sem, rdv]) hokH (by simp) (by simp)
theorem Int_cc (H : Hp) (V : List Nat) (tk : Tk) (src : List UInt8) (hl : src.length ≤ 1000000000) :
    CC Try.prog 28 [.sl tk 1 (bs src)] H V (Pu (rdv (fun n : Nat => ci n) (ci 0) (number src)) H V) := by
  refine CC.of_swp Try.func28 rfl (by kernel_rfl) (by rw [Try.ntmps28]; exact len_le _ _ rfl) fun hok hokH => Wp.s ?_
  simp [go_sem, args0]
  refine CC.mono (readInt_cc _ _ _ _ hl) ?_
  rintro _ _ _ ⟨rfl, rfl, rfl⟩
  rcases hn : number src with e | ⟨n, s⟩
  · simp [go_sem, rdv]
    exact Fin.pu (.refl _) (by simp [go_sem]) hokH (by simp) (by simp)
  · simp [go_sem, rdv]
    exact Fin.pu (.refl _) (by simp [go_sem]) hokH (by simp) (by simp)
end Go.Proofs.Ytffjhibomipemaa
