import Derived.Test.YtffjhibomipemaaW7
namespace Go.Proofs.Ytffjhibomipemaa
open Go.Proofs
def zeroSec : Sec := ⟨[0, 0, 0, 0, 0, 0, 0, 0], rfl⟩
def exWr : Wr := ⟨1, 2, [zeroSec]⟩
def exExts : List Ext2 := [⟨0, 4⟩, ⟨200, 1⟩]
theorem enc_lt {n : Int} (h : 0 ≤ n) (h2 : n < 128) : enc n = [UInt8.ofNat n.toNat] := by
  rw [enc, norm, if_neg (by omega), encN_lt (by omega)]
theorem enc_200 : enc 200 = [200, 1] := by
  rw [enc, show norm 200 = 200 from rfl, encN_ge (by decide), encN_lt (by decide)]; rfl
theorem exWr_enc : encWrs [exWr] = [1, 1, 2, 1, 0, 0, 0, 0, 0, 0, 0, 0] := by
  simp only [encWrs, encWr, encSecs, exWr, List.flatMap_cons, List.flatMap_nil, List.length_cons, List.length_nil]
  rw [enc_lt (n := 1) (by decide) (by decide), enc_lt (n := 2) (by decide) (by decide), enc_lt (n := ((0 + 1 : Nat) : Int)) (by decide) (by decide)]
  rfl
theorem exExts_enc : encExts exExts = [2, 0, 4, 200, 1, 1] := by
  simp only [encExts, encExt, exExts, List.flatMap_cons, List.flatMap_nil, List.length_cons, List.length_nil]
  rw [enc_200, enc_lt (n := 0) (by decide) (by decide), enc_lt (n := 4) (by decide) (by decide), enc_lt (n := 1) (by decide) (by decide), enc_lt (n := ((0 + 1 + 1 : Nat) : Int)) (by decide) (by decide)]
  rfl
theorem awake_cc (H : Hp) (V : List Nat) : CC Try.prog 14 [] H V (Pu (cb true) H V) := by
  refine CC.of_swp Try.func14 rfl (by kernel_rfl) (by rw [Try.ntmps14]; exact len_le _ _ rfl) fun hok hokH => ?_
  refine SWp.seq (Wp.s ?_)
  simp -implicitDefEqProofs [go_sem, args0]
  refine SWp.seq (Wp.s ?_)
  simp -implicitDefEqProofs [go_sem]
  refine CC.mono (Int_cc _ _ .ti [172, 2, 9] (by decide)) ?_
  rintro _ _ _ ⟨rfl, rfl, rfl⟩
  rw [show number [172, 2, 9] = .ok (300, [9]) from rfl, rdv]
  simp -implicitDefEqProofs [go_sem]
  refine SWp.seq (Wp.s ?_)
  simp -implicitDefEqProofs [go_sem]
  refine CC.mono (Int_cc _ _ .ti [128, 0] (by decide)) ?_
  rintro _ _ _ ⟨rfl, rfl, rfl⟩
  rw [show number [128, 0] = .error 3 from rfl, rdv]
  simp -implicitDefEqProofs [go_sem]
  refine SWp.seq (Wp.s ?_)
  simp -implicitDefEqProofs [go_sem]
  refine CC.mono (Int_cc _ _ .ti [128] (by decide)) ?_
  rintro _ _ _ ⟨rfl, rfl, rfl⟩
  rw [show number [128] = .error 10 from rfl, rdv]
  simp -implicitDefEqProofs [go_sem]
  refine SWp.seq (Wp.s ?_)
  simp -implicitDefEqProofs [go_sem]
  refine CC.mono (Int_cc _ _ .ti [255, 255, 255, 255, 255, 255, 255, 16] (by decide)) ?_
  rintro _ _ _ ⟨rfl, rfl, rfl⟩
  rw [show number [255, 255, 255, 255, 255, 255, 255, 16] = .error 3 from rfl, rdv]
  simp -implicitDefEqProofs [go_sem]
  refine SWp.seq (Wp.s ?_)
  simp -implicitDefEqProofs [go_sem]
  refine CC.let_go [.v (.slice none 0 0), .sl .sh 3 ([exWr].map wrC)] H.length (secC zeroSec) (at_len _ _) (.cons (.refl _) (.cons (.sl .ti 3 (.cons (.cons (.refl _) (.cons (.refl _) (.cons (.bsl 0 1 8 (by decide)) .nil))) .nil)) .nil)) ?_
  refine CC.mono (CC.nil0 (by decide) (PutWrites_cc _ _ .sh .sh [] [exWr] (by decide) (by rw [exWr_enc]; decide))) ?_
  rintro _ _ _ ⟨v1, rfl, rfl, rfl⟩
  rw [List.nil_append, exWr_enc]
  simp -implicitDefEqProofs [go_sem]
  refine SWp.seq (Wp.s ?_)
  simp -implicitDefEqProofs [go_sem]
  refine CC.mono (CC.nil0 (by decide) (PutExtents_cc _ _ .sh .ti [] exExts (by decide) (by rw [exExts_enc]; decide))) ?_
  rintro _ _ _ ⟨v2, rfl, rfl, rfl⟩
  rw [List.nil_append, exExts_enc]
  simp -implicitDefEqProofs [go_sem]
  refine SWp.seq (Wp.s ?_)
  simp -implicitDefEqProofs [go_sem]
  refine CC.mono (Equal_cc _ _ .sh .ti [9] [9]) ?_
  rintro _ _ _ ⟨rfl, rfl, rfl⟩
  simp -implicitDefEqProofs [go_sem, same]
  refine CC.mono (Equal_cc _ _ _ .ti _ [1, 1, 2, 1, 0, 0, 0, 0, 0, 0, 0, 0]) ?_
  rintro _ _ _ ⟨rfl, rfl, rfl⟩
  simp -implicitDefEqProofs [go_sem, same]
  refine CC.mono (Equal_cc _ _ _ .ti _ [2, 0, 4, 200, 1, 1]) ?_
  rintro _ _ _ ⟨rfl, rfl, rfl⟩
  simp -implicitDefEqProofs [go_sem, same]
  refine Wp.s ?_
  simp -implicitDefEqProofs [go_sem]
  exact Fin.bool rfl hokH (by simp) (by simp)
end Go.Proofs.Ytffjhibomipemaa
