import Derived.Test.YtffjhibomipemaaR3
set_option linter.unusedSimpArgs false
namespace Go.Proofs.Ytffjhibomipemaa
open Go.Proofs
abbrev nilC : CV := .v (.slice none 0 0)
theorem readBytes_cc (H : Hp) (V : List Nat) (tk : Tk) (src : List UInt8) (hl : src.length ≤ 1000000000) : CC Try.prog 71 [.sl tk 1 (bs src), .fn 72 []] H V (Pu (rdv (fun l : List UInt8 => .sl .sh 1 (bs l)) nilC (textP src)) H V) := by
  refine CC.of_swp Try.func71 rfl (by kernel_rfl) (by rw [Try.ntmps71]; exact len_le _ _ rfl) fun hok hokH => Wp.s ?_
  simp -implicitDefEqProofs [go_sem, args0]
  refine CC.mono (text_rd _ _ _ _ _ hl (at_len _ _)) ?_
  intro r H' V' h
  unfold Rd at h
  rcases hn : textP src with e | ⟨l, s⟩ <;> rw [hn] at h
  · have he := ne0_text _ _ hn
    obtain ⟨_, s, -, rfl, rfl, rfl⟩ := h
    simp -implicitDefEqProofs [go_sem, he]
    exact Fin.pu (.refl _) (by simp [go_sem, rdv]) hokH (by simp) (by simp)
  · have hs := shr_text _ _ _ hn
    obtain ⟨rfl, rfl, rfl⟩ := h
    simp -implicitDefEqProofs [go_sem]
    refine CC.mono (clone_cc _ _ _ _ (by simp only [bs_len]; omega)) ?_
    rintro _ _ _ ⟨v', rfl, rfl, rfl⟩
    simp -implicitDefEqProofs [go_sem]
    exact Fin.pu (.tup (.cons (.refl _) (.cons (.sh ..) (.cons (.refl _) .nil)))) (by simp [go_sem, rdv]) hokH (by simp) (by simp)
theorem Bytes_cc (H : Hp) (V : List Nat) (tk : Tk) (src : List UInt8) (hl : src.length ≤ 1000000000) : CC Try.prog 33 [.sl tk 1 (bs src)] H V (Pu (rdv (fun l : List UInt8 => .sl .sh 1 (bs l)) nilC (textP src)) H V) := by
  refine CC.of_swp Try.func33 rfl (by kernel_rfl) (by rw [Try.ntmps33]; exact len_le _ _ rfl) fun hok hokH => Wp.s ?_
  simp -implicitDefEqProofs [go_sem, args0]
  refine CC.mono (readBytes_cc _ _ _ _ hl) ?_
  rintro _ _ _ ⟨rfl, rfl, rfl⟩
  rcases hn : textP src with e | ⟨l, s⟩
  · simp -implicitDefEqProofs [go_sem, rdv]
    exact Fin.pu (.refl _) (by simp [go_sem]) hokH (by simp) (by simp)
  · simp -implicitDefEqProofs [go_sem, rdv]
    exact Fin.pu (.refl _) (by simp [go_sem]) hokH (by simp) (by simp)
theorem readInts_cc (H : Hp) (V : List Nat) (tk : Tk) (src : List UInt8) (hl : src.length ≤ 1000000000) : CC Try.prog 68 [.sl tk 1 (bs src), .fn 69 []] H V (Pu (rdv (fun l : List Int => .sl .sh 1 (l.map ic)) nilC (listP intP src)) H V) := by
  refine CC.of_swp Try.func68 rfl (by kernel_rfl) (by rw [Try.ntmps68]; exact len_le _ _ rfl) fun hok hokH => Wp.s ?_
  simp -implicitDefEqProofs [go_sem, args0]
  refine CC.mono (ints_rd _ _ _ _ _ hl (at_len _ _)) ?_
  intro r H' V' h
  unfold Rd at h
  rcases hn : listP intP src with e | ⟨l, s⟩ <;> rw [hn] at h
  · have he := (ne0_list ne0_int) _ _ hn
    obtain ⟨_, s, rfl, rfl, rfl, rfl⟩ := h
    simp -implicitDefEqProofs [go_sem, he]
    exact Fin.pu (.refl _) (by simp [go_sem, rdv]) hokH (by simp) (by simp)
  · have hs := (shr_list shr_int) _ _ _ hn
    obtain ⟨rfl, rfl, rfl⟩ := h
    simp -implicitDefEqProofs [go_sem]
    refine CC.mono (clone_cc _ _ _ _ (by simp only [bs_len]; omega)) ?_
    rintro _ _ _ ⟨v', rfl, rfl, rfl⟩
    simp -implicitDefEqProofs [go_sem]
    exact Fin.pu (.tup (.cons (.refl _) (.cons (.sh ..) (.cons (.refl _) .nil)))) (by simp [go_sem, rdv]) hokH (by simp) (by simp)
theorem Ints_cc (H : Hp) (V : List Nat) (tk : Tk) (src : List UInt8) (hl : src.length ≤ 1000000000) : CC Try.prog 31 [.sl tk 1 (bs src)] H V (Pu (rdv (fun l : List Int => .sl .sh 1 (l.map ic)) nilC (listP intP src)) H V) := by
  refine CC.of_swp Try.func31 rfl (by kernel_rfl) (by rw [Try.ntmps31]; exact len_le _ _ rfl) fun hok hokH => Wp.s ?_
  simp -implicitDefEqProofs [go_sem, args0]
  refine CC.mono (readInts_cc _ _ _ _ hl) ?_
  rintro _ _ _ ⟨rfl, rfl, rfl⟩
  rcases hn : listP intP src with e | ⟨l, s⟩
  · simp -implicitDefEqProofs [go_sem, rdv]
    exact Fin.pu (.refl _) (by simp [go_sem]) hokH (by simp) (by simp)
  · simp -implicitDefEqProofs [go_sem, rdv]
    exact Fin.pu (.refl _) (by simp [go_sem]) hokH (by simp) (by simp)
theorem readSectors_cc (H : Hp) (V : List Nat) (tk : Tk) (src : List UInt8) (hl : src.length ≤ 1000000000) : CC Try.prog 66 [.sl tk 1 (bs src), .fn 67 []] H V (Pu (rdv (fun l : List Sec => .sl .sh 8 (l.map secC)) nilC (listP secP src)) H V) := by
  refine CC.of_swp Try.func66 rfl (by kernel_rfl) (by rw [Try.ntmps66]; exact len_le _ _ rfl) fun hok hokH => Wp.s ?_
  simp -implicitDefEqProofs [go_sem, args0]
  refine CC.mono (sectors_rd _ _ _ _ _ hl (at_len _ _)) ?_
  intro r H' V' h
  unfold Rd at h
  rcases hn : listP secP src with e | ⟨l, s⟩ <;> rw [hn] at h
  · have he := (ne0_list ne0_sec) _ _ hn
    obtain ⟨_, s, rfl, rfl, rfl, rfl⟩ := h
    simp -implicitDefEqProofs [go_sem, he]
    exact Fin.pu (.refl _) (by simp [go_sem, rdv]) hokH (by simp) (by simp)
  · have hs := (shr_list shr_sec) _ _ _ hn
    obtain ⟨rfl, rfl, rfl⟩ := h
    simp -implicitDefEqProofs [go_sem]
    refine CC.mono (clone_cc _ _ _ _ (by simp only [bs_len]; omega)) ?_
    rintro _ _ _ ⟨v', rfl, rfl, rfl⟩
    simp -implicitDefEqProofs [go_sem]
    exact Fin.pu (.tup (.cons (.refl _) (.cons (.sh ..) (.cons (.refl _) .nil)))) (by simp [go_sem, rdv]) hokH (by simp) (by simp)
theorem Sectors_cc (H : Hp) (V : List Nat) (tk : Tk) (src : List UInt8) (hl : src.length ≤ 1000000000) : CC Try.prog 30 [.sl tk 1 (bs src)] H V (Pu (rdv (fun l : List Sec => .sl .sh 8 (l.map secC)) nilC (listP secP src)) H V) := by
  refine CC.of_swp Try.func30 rfl (by kernel_rfl) (by rw [Try.ntmps30]; exact len_le _ _ rfl) fun hok hokH => Wp.s ?_
  simp -implicitDefEqProofs [go_sem, args0]
  refine CC.mono (readSectors_cc _ _ _ _ hl) ?_
  rintro _ _ _ ⟨rfl, rfl, rfl⟩
  rcases hn : listP secP src with e | ⟨l, s⟩
  · simp -implicitDefEqProofs [go_sem, rdv]
    exact Fin.pu (.refl _) (by simp [go_sem]) hokH (by simp) (by simp)
  · simp -implicitDefEqProofs [go_sem, rdv]
    exact Fin.pu (.refl _) (by simp [go_sem]) hokH (by simp) (by simp)
theorem readExtents_cc (H : Hp) (V : List Nat) (tk : Tk) (src : List UInt8) (hl : src.length ≤ 1000000000) : CC Try.prog 73 [.sl tk 1 (bs src), .fn 74 []] H V (Pu (rdv (fun l : List Ext2 => .sl .sh 2 (l.map extC)) nilC (listP extP src)) H V) := by
  refine CC.of_swp Try.func73 rfl (by kernel_rfl) (by rw [Try.ntmps73]; exact len_le _ _ rfl) fun hok hokH => Wp.s ?_
  simp -implicitDefEqProofs [go_sem, args0]
  refine CC.mono (extents_rd _ _ _ _ _ hl (at_len _ _)) ?_
  intro r H' V' h
  unfold Rd at h
  rcases hn : listP extP src with e | ⟨l, s⟩ <;> rw [hn] at h
  · have he := (ne0_list ne0_ext) _ _ hn
    obtain ⟨_, s, rfl, rfl, rfl, rfl⟩ := h
    simp -implicitDefEqProofs [go_sem, he]
    exact Fin.pu (.refl _) (by simp [go_sem, rdv]) hokH (by simp) (by simp)
  · have hs := (shr_list shr_ext) _ _ _ hn
    obtain ⟨rfl, rfl, rfl⟩ := h
    simp -implicitDefEqProofs [go_sem]
    refine CC.mono (clone_cc _ _ _ _ (by simp only [bs_len]; omega)) ?_
    rintro _ _ _ ⟨v', rfl, rfl, rfl⟩
    simp -implicitDefEqProofs [go_sem]
    exact Fin.pu (.tup (.cons (.refl _) (.cons (.sh ..) (.cons (.refl _) .nil)))) (by simp [go_sem, rdv]) hokH (by simp) (by simp)
theorem Extents_cc (H : Hp) (V : List Nat) (tk : Tk) (src : List UInt8) (hl : src.length ≤ 1000000000) : CC Try.prog 34 [.sl tk 1 (bs src)] H V (Pu (rdv (fun l : List Ext2 => .sl .sh 2 (l.map extC)) nilC (listP extP src)) H V) := by
  refine CC.of_swp Try.func34 rfl (by kernel_rfl) (by rw [Try.ntmps34]; exact len_le _ _ rfl) fun hok hokH => Wp.s ?_
  simp -implicitDefEqProofs [go_sem, args0]
  refine CC.mono (readExtents_cc _ _ _ _ hl) ?_
  rintro _ _ _ ⟨rfl, rfl, rfl⟩
  rcases hn : listP extP src with e | ⟨l, s⟩
  · simp -implicitDefEqProofs [go_sem, rdv]
    exact Fin.pu (.refl _) (by simp [go_sem]) hokH (by simp) (by simp)
  · simp -implicitDefEqProofs [go_sem, rdv]
    exact Fin.pu (.refl _) (by simp [go_sem]) hokH (by simp) (by simp)
theorem readWrites_cc (H : Hp) (V : List Nat) (tk : Tk) (src : List UInt8) (hl : src.length ≤ 1000000000) : CC Try.prog 62 [.sl tk 1 (bs src), .fn 63 []] H V (Pu (rdv (fun l : List Wr => .sl .sh 3 (l.map wrC)) nilC (listP wrP src)) H V) := by
  refine CC.of_swp Try.func62 rfl (by kernel_rfl) (by rw [Try.ntmps62]; exact len_le _ _ rfl) fun hok hokH => Wp.s ?_
  simp -implicitDefEqProofs [go_sem, args0]
  refine CC.mono (writes_rd _ _ _ _ _ hl (at_len _ _)) ?_
  intro r H' V' h
  unfold Rd at h
  rcases hn : listP wrP src with e | ⟨l, s⟩ <;> rw [hn] at h
  · have he := (ne0_list ne0_wr) _ _ hn
    obtain ⟨_, s, rfl, rfl, rfl, rfl⟩ := h
    simp -implicitDefEqProofs [go_sem, he]
    exact Fin.pu (.refl _) (by simp [go_sem, rdv]) hokH (by simp) (by simp)
  · have hs := (shr_list shr_wr) _ _ _ hn
    obtain ⟨rfl, rfl, rfl⟩ := h
    simp -implicitDefEqProofs [go_sem]
    refine CC.mono (clone_cc _ _ _ _ (by simp only [bs_len]; omega)) ?_
    rintro _ _ _ ⟨v', rfl, rfl, rfl⟩
    simp -implicitDefEqProofs [go_sem]
    exact Fin.pu (.tup (.cons (.refl _) (.cons (.sh ..) (.cons (.refl _) .nil)))) (by simp [go_sem, rdv]) hokH (by simp) (by simp)
theorem Writes_cc (H : Hp) (V : List Nat) (tk : Tk) (src : List UInt8) (hl : src.length ≤ 1000000000) : CC Try.prog 29 [.sl tk 1 (bs src)] H V (Pu (rdv (fun l : List Wr => .sl .sh 3 (l.map wrC)) nilC (listP wrP src)) H V) := by
  refine CC.of_swp Try.func29 rfl (by kernel_rfl) (by rw [Try.ntmps29]; exact len_le _ _ rfl) fun hok hokH => Wp.s ?_
  simp -implicitDefEqProofs [go_sem, args0]
  refine CC.mono (readWrites_cc _ _ _ _ hl) ?_
  rintro _ _ _ ⟨rfl, rfl, rfl⟩
  rcases hn : listP wrP src with e | ⟨l, s⟩
  · simp -implicitDefEqProofs [go_sem, rdv]
    exact Fin.pu (.refl _) (by simp [go_sem]) hokH (by simp) (by simp)
  · simp -implicitDefEqProofs [go_sem, rdv]
    exact Fin.pu (.refl _) (by simp [go_sem]) hokH (by simp) (by simp)
end Go.Proofs.Ytffjhibomipemaa
