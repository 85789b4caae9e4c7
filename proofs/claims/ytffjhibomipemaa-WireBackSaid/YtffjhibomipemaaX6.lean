import Derived.Test.YtffjhibomipemaaR4
import Derived.Test.YtffjhibomipemaaR5
set_option linter.unusedSimpArgs false
namespace Go.Proofs.Ytffjhibomipemaa
open Go.Proofs
theorem list_n {α : Type} {p : Pr α} {e : α → List UInt8} {s r : List UInt8} {l : List α} (hp : ON p e) (h : listP p s = .ok (l, r)) : l.length ≤ 65536 := by
  unfold listP at h
  split at h
  · cases h
  · rename_i h1
    obtain ⟨_, h3⟩ := rep_on hp _ _ _ _ h
    rw [h3]; exact length_le h1
theorem again_cc (H : Hp) (V : List Nat) (t1 t2 t3 : Tk) (src e r : List UInt8) (hl : e.length + r.length ≤ 900000000) : CC Try.prog 32 [.sl t1 1 (bs src), .sl t2 1 (bs e), .sl t3 1 (bs r)] H V (Pu (cb (same src (e ++ r))) H V) := by
  refine CC.of_swp Try.func32 rfl (by kernel_rfl) (by rw [Try.ntmps32]; exact len_le _ _ rfl) fun hok hokH => Wp.s ?_
  simp -implicitDefEqProofs [go_sem, args0]
  refine CC.mono (clone_cc _ _ _ _ (by simp only [bs_len]; omega)) ?_
  rintro _ _ _ ⟨v, rfl, rfl, rfl⟩
  simp -implicitDefEqProofs [go_sem]
  refine ⟨by omega, ?_⟩
  refine CC.mono (Equal_cc _ _ _ _ _ _) ?_
  rintro _ _ _ ⟨rfl, rfl, rfl⟩
  simp -implicitDefEqProofs [go_sem]
  exact Fin.bool rfl hokH (by simp) (by simp)
theorem WireOnce_cc (s : List UInt8) : CC Try.prog 8 [.sl .sh 1 (bs s)] [] [] (Pu (cb true) [] []) := by
  refine CC.of_swp Try.func8 rfl (by kernel_rfl) (by rw [Try.ntmps8]; exact len_le _ _ rfl) fun hok hokH => ?_
  clear hok
  refine SWp.seq (Wp.s ?_)
  simp -implicitDefEqProofs [go_sem, args0]
  refine SWp.join (α := Unit) (fun _ => ([(2, cb false), (0, .sl .sh 1 (bs s))], [], [])) (fun _ => s.length ≤ 1000) ?_ ?_
  · refine Wp.s ?_
    by_cases h1 : s.length ≤ 1000
    · simp -implicitDefEqProofs [go_sem, show ¬ (1000 : Int) < s.length by omega]
      exact ⟨h1, Sh.forget (by simp [go_sem]) rfl rfl⟩
    · simp -implicitDefEqProofs [go_sem, show (1000 : Int) < s.length by omega]
      exact CC.mono (awake_cc _ _) fun _ _ _ ⟨e1, e2, e3⟩ => by
        subst e1 e2 e3
        simp -implicitDefEqProofs [go_sem]
        exact Fin.bool (H := []) (V := []) rfl (by simp) rfl rfl
  rintro _ h1
  dsimp only
  refine SWp.join (α := Unit) (fun _ => ([(2, cb false), (0, .sl .sh 1 (bs s))], [], [])) (fun _ => True) ?_ ?_
  · refine SWp.seq (Wp.s ?_)
    simp -implicitDefEqProofs [go_sem]
    refine CC.mono (Int_cc _ _ _ _ (by omega)) ?_
    rintro _ _ _ ⟨rfl, rfl, rfl⟩
    rcases hn : number s with e | ⟨n, r⟩
    · have he := ne0_number _ _ hn
      simp -implicitDefEqProofs [go_sem, rdv]
      refine Wp.s ?_
      simp -implicitDefEqProofs [go_sem, he]
      exact Sh.forget (by simp [go_sem]) rfl rfl
    · have hs := (number_once hn).1
      have hr := shr_number _ _ _ hn
      have hlen := congrArg List.length hs
      rw [List.length_append] at hlen
      simp -implicitDefEqProofs [go_sem, rdv]
      refine Wp.s ?_
      simp -implicitDefEqProofs [go_sem]
      refine CC.mono (CC.nil0 (by decide) (PutInt_cc _ _ .sh [] _ (by decide))) ?_
      rintro _ _ _ ⟨v1, rfl, rfl, rfl⟩
      simp -implicitDefEqProofs [go_sem]
      refine CC.mono (again_cc _ _ _ _ _ _ _ _ (by omega)) ?_
      rintro _ _ _ ⟨rfl, rfl, rfl⟩
      rw [← hs]
      simp -implicitDefEqProofs [go_sem, same_self]
      exact Sh.back (by simp [go_sem]) rfl rfl (by simp [go_sem, okV_slt]) hokH (by simp) (by simp)
  rintro _ -
  dsimp only
  refine SWp.join (α := Unit) (fun _ => ([(2, cb false), (0, .sl .sh 1 (bs s))], [], [])) (fun _ => True) ?_ ?_
  · refine SWp.seq (Wp.s ?_)
    simp -implicitDefEqProofs [go_sem]
    refine CC.mono (Bytes_cc _ _ _ _ (by omega)) ?_
    rintro _ _ _ ⟨rfl, rfl, rfl⟩
    rcases hn : textP s with e | ⟨n, r⟩
    · have he := ne0_text _ _ hn
      simp -implicitDefEqProofs [go_sem, rdv]
      refine Wp.s ?_
      simp -implicitDefEqProofs [go_sem, he]
      exact Sh.forget (by simp [go_sem]) rfl rfl
    · have hs := text_on _ _ _ hn
      have hr := shr_text _ _ _ hn
      have hlen := congrArg List.length hs
      rw [List.length_append] at hlen
      simp -implicitDefEqProofs [go_sem, rdv]
      refine Wp.s ?_
      simp -implicitDefEqProofs [go_sem]
      refine CC.mono (CC.nil0 (by decide) (PutBytes_cc _ _ .sh .sh [] n (by simp only [List.length_nil]; have : (encBytes n).length = (enc n.length).length + n.length := List.length_append; omega))) ?_
      rintro _ _ _ ⟨v1, rfl, rfl, rfl⟩
      simp -implicitDefEqProofs [go_sem]
      refine CC.mono (again_cc _ _ _ _ _ _ _ _ (by omega)) ?_
      rintro _ _ _ ⟨rfl, rfl, rfl⟩
      rw [← hs]
      simp -implicitDefEqProofs [go_sem, same_self]
      exact Sh.back (by simp [go_sem]) rfl rfl (by simp [go_sem, okV_slt]) hokH (by simp) (by simp)
  rintro _ -
  dsimp only
  refine SWp.join (α := Unit) (fun _ => ([(2, cb false), (0, .sl .sh 1 (bs s))], [], [])) (fun _ => True) ?_ ?_
  · refine SWp.seq (Wp.s ?_)
    simp -implicitDefEqProofs [go_sem]
    refine CC.mono (Ints_cc _ _ _ _ (by omega)) ?_
    rintro _ _ _ ⟨rfl, rfl, rfl⟩
    rcases hn : listP intP s with e | ⟨n, r⟩
    · have he := (ne0_list ne0_int) _ _ hn
      simp -implicitDefEqProofs [go_sem, rdv]
      refine Wp.s ?_
      simp -implicitDefEqProofs [go_sem, he]
      exact Sh.forget (by simp [go_sem]) rfl rfl
    · have hs : s = encInts n ++ r := (show s = encInts n ++ r from list_on int_on _ _ _ hn)
      have hr := (shr_list shr_int) _ _ _ hn
      have hlen := congrArg List.length hs
      rw [List.length_append] at hlen
      have hnn := list_n int_on hn
      simp -implicitDefEqProofs [go_sem, rdv]
      refine Wp.s ?_
      simp -implicitDefEqProofs [go_sem]
      refine CC.mono (CC.nil0 (by decide) (PutInts_cc _ _ .sh .sh [] n (by simp only [List.length_nil]; omega))) ?_
      rintro _ _ _ ⟨v1, rfl, rfl, rfl⟩
      simp -implicitDefEqProofs [go_sem]
      refine CC.mono (again_cc _ _ _ _ _ _ _ _ (by omega)) ?_
      rintro _ _ _ ⟨rfl, rfl, rfl⟩
      rw [← hs]
      simp -implicitDefEqProofs [go_sem, same_self]
      exact Sh.back (by simp [go_sem]) rfl rfl (by simp [go_sem, okV_slt]) hokH (by simp) (by simp)
  rintro _ -
  dsimp only
  refine SWp.join (α := Unit) (fun _ => ([(2, cb false), (0, .sl .sh 1 (bs s))], [], [])) (fun _ => True) ?_ ?_
  · refine SWp.seq (Wp.s ?_)
    simp -implicitDefEqProofs [go_sem]
    refine CC.mono (Sectors_cc _ _ _ _ (by omega)) ?_
    rintro _ _ _ ⟨rfl, rfl, rfl⟩
    rcases hn : listP secP s with e | ⟨n, r⟩
    · have he := (ne0_list ne0_sec) _ _ hn
      simp -implicitDefEqProofs [go_sem, rdv]
      refine Wp.s ?_
      simp -implicitDefEqProofs [go_sem, he]
      exact Sh.forget (by simp [go_sem]) rfl rfl
    · have hs : s = encSecs n ++ r := (show s = encSecs n ++ r from list_on sec_on _ _ _ hn)
      have hr := (shr_list shr_sec) _ _ _ hn
      have hlen := congrArg List.length hs
      rw [List.length_append] at hlen
      have hnn := list_n sec_on hn
      simp -implicitDefEqProofs [go_sem, rdv]
      refine Wp.s ?_
      simp -implicitDefEqProofs [go_sem]
      refine CC.mono (CC.nil0 (by decide) (PutSectors_cc _ _ .sh .sh [] n (by simp only [List.length_nil]; omega))) ?_
      rintro _ _ _ ⟨v1, rfl, rfl, rfl⟩
      simp -implicitDefEqProofs [go_sem]
      refine CC.mono (again_cc _ _ _ _ _ _ _ _ (by omega)) ?_
      rintro _ _ _ ⟨rfl, rfl, rfl⟩
      rw [← hs]
      simp -implicitDefEqProofs [go_sem, same_self]
      exact Sh.back (by simp [go_sem]) rfl rfl (by simp [go_sem, okV_slt]) hokH (by simp) (by simp)
  rintro _ -
  dsimp only
  refine SWp.join (α := Unit) (fun _ => ([(2, cb false), (0, .sl .sh 1 (bs s))], [], [])) (fun _ => True) ?_ ?_
  · refine SWp.seq (Wp.s ?_)
    simp -implicitDefEqProofs [go_sem]
    refine CC.mono (Extents_cc _ _ _ _ (by omega)) ?_
    rintro _ _ _ ⟨rfl, rfl, rfl⟩
    rcases hn : listP extP s with e | ⟨n, r⟩
    · have he := (ne0_list ne0_ext) _ _ hn
      simp -implicitDefEqProofs [go_sem, rdv]
      refine Wp.s ?_
      simp -implicitDefEqProofs [go_sem, he]
      exact Sh.forget (by simp [go_sem]) rfl rfl
    · have hs : s = encExts n ++ r := (show s = encExts n ++ r from list_on ext_on _ _ _ hn)
      have hr := (shr_list shr_ext) _ _ _ hn
      have hlen := congrArg List.length hs
      rw [List.length_append] at hlen
      have hnn := list_n ext_on hn
      simp -implicitDefEqProofs [go_sem, rdv]
      refine Wp.s ?_
      simp -implicitDefEqProofs [go_sem]
      refine CC.mono (CC.nil0 (by decide) (PutExtents_cc _ _ .sh .sh [] n (by omega) (by simp only [List.length_nil]; omega))) ?_
      rintro _ _ _ ⟨v1, rfl, rfl, rfl⟩
      simp -implicitDefEqProofs [go_sem]
      refine CC.mono (again_cc _ _ _ _ _ _ _ _ (by omega)) ?_
      rintro _ _ _ ⟨rfl, rfl, rfl⟩
      rw [← hs]
      simp -implicitDefEqProofs [go_sem, same_self]
      exact Sh.back (by simp [go_sem]) rfl rfl (by simp [go_sem, okV_slt]) hokH (by simp) (by simp)
  rintro _ -
  dsimp only
  refine SWp.join (α := Unit) (fun _ => ([(2, cb false), (0, .sl .sh 1 (bs s))], [], [])) (fun _ => True) ?_ ?_
  · refine SWp.seq (Wp.s ?_)
    simp -implicitDefEqProofs [go_sem]
    refine CC.mono (Writes_cc _ _ _ _ (by omega)) ?_
    rintro _ _ _ ⟨rfl, rfl, rfl⟩
    rcases hn : listP wrP s with e | ⟨n, r⟩
    · have he := (ne0_list ne0_wr) _ _ hn
      simp -implicitDefEqProofs [go_sem, rdv]
      refine Wp.s ?_
      simp -implicitDefEqProofs [go_sem, he]
      exact Sh.forget (by simp [go_sem]) rfl rfl
    · have hs : s = encWrs n ++ r := (show s = encWrs n ++ r from list_on wr_on _ _ _ hn)
      have hr := (shr_list shr_wr) _ _ _ hn
      have hlen := congrArg List.length hs
      rw [List.length_append] at hlen
      have hnn := list_n wr_on hn
      simp -implicitDefEqProofs [go_sem, rdv]
      refine Wp.s ?_
      simp -implicitDefEqProofs [go_sem]
      refine CC.mono (CC.nil0 (by decide) (PutWrites_cc _ _ .sh .sh [] n (by omega) (by simp only [List.length_nil]; omega))) ?_
      rintro _ _ _ ⟨v1, rfl, rfl, rfl⟩
      simp -implicitDefEqProofs [go_sem]
      refine CC.mono (again_cc _ _ _ _ _ _ _ _ (by omega)) ?_
      rintro _ _ _ ⟨rfl, rfl, rfl⟩
      rw [← hs]
      simp -implicitDefEqProofs [go_sem, same_self]
      exact Sh.back (by simp [go_sem]) rfl rfl (by simp [go_sem, okV_slt]) hokH (by simp) (by simp)
  rintro _ -
  dsimp only
  refine SWp.seq (Wp.s ?_)
  simp -implicitDefEqProofs [go_sem]
  refine CC.mono (awake_cc _ _) ?_
  rintro _ _ _ ⟨rfl, rfl, rfl⟩
  simp -implicitDefEqProofs [go_sem]
  refine Wp.s ?_
  simp -implicitDefEqProofs [go_sem]
  exact Fin.bool (H := []) (V := []) rfl (by simp) rfl rfl
end Go.Proofs.Ytffjhibomipemaa
