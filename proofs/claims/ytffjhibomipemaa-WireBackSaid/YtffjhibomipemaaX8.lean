import Derived.Test.YtffjhibomipemaaX6
import Derived.Test.YtffjhibomipemaaR9
set_option linter.unusedSimpArgs false
namespace Go.Proofs.Ytffjhibomipemaa
open Go.Proofs
theorem ok_one {i j : Nat} {c : List CV} (hc : okL i j c) (b : Nat) (cs : List CV) (h : ([some c] : Hp)[b]? = some (some cs)) : okL i j cs := by
  cases b with
  | zero => simp at h; subst h; exact hc
  | succ b => simp at h
theorem back1_cc (H : Hp) (V : List Nat) (n : Int) : CC Try.prog 46 [ci n] H V (Pu (cb (!inR n)) H V) := by
  refine CC.of_swp Try.func46 rfl (by kernel_rfl) (by rw [Try.ntmps46]; exact len_le _ _ rfl) fun hok hokH => Wp.s ?_
  simp -implicitDefEqProofs [go_sem, args0]
  refine CC.mono (inRange_cc _ _ _) ?_
  rintro _ _ _ ⟨rfl, rfl, rfl⟩
  simp -implicitDefEqProofs [go_sem]
  exact Fin.bool rfl hokH (by simp) (by simp)
theorem back2_cc (H : Hp) (V : List Nat) (x : Ext2) : CC Try.prog 48 [.agg (extC x)] H V (Pu (cb (!inR x.start || !inR x.count)) H V) := by
  refine CC.of_swp Try.func48 rfl (by kernel_rfl) (by rw [Try.ntmps48]; exact len_le _ _ rfl) fun hok hokH => Wp.s ?_
  simp -implicitDefEqProofs [go_sem, args0]
  refine CC.mono (inRange_cc _ _ _) ?_
  rintro _ _ _ ⟨rfl, rfl, rfl⟩
  rcases h1 : inR x.start with - | -
  · simp -implicitDefEqProofs [go_sem]
    exact Fin.bool rfl hokH (by simp) (by simp)
  · simp -implicitDefEqProofs [go_sem]
    refine CC.mono (inRange_cc _ _ _) ?_
    rintro _ _ _ ⟨rfl, rfl, rfl⟩
    simp -implicitDefEqProofs [go_sem]
    exact Fin.bool (by simp) hokH (by simp) (by simp)
theorem back3_cc (H : Hp) (V : List Nat) (x : Wr) : CC Try.prog 50 [.agg (wrC x)] H V (Pu (cb (!inR x.volume || !inR x.start)) H V) := by
  refine CC.of_swp Try.func50 rfl (by kernel_rfl) (by rw [Try.ntmps50]; exact len_le _ _ rfl) fun hok hokH => Wp.s ?_
  simp -implicitDefEqProofs [go_sem, args0]
  refine CC.mono (inRange_cc _ _ _) ?_
  rintro _ _ _ ⟨rfl, rfl, rfl⟩
  rcases h1 : inR x.volume with - | -
  · simp -implicitDefEqProofs [go_sem]
    exact Fin.bool rfl hokH (by simp) (by simp)
  · simp -implicitDefEqProofs [go_sem]
    refine CC.mono (inRange_cc _ _ _) ?_
    rintro _ _ _ ⟨rfl, rfl, rfl⟩
    simp -implicitDefEqProofs [go_sem]
    exact Fin.bool (by simp) hokH (by simp) (by simp)
theorem map_same {α : Type} {f : α → α} {l : List α} (h : ∀ a ∈ l, f a = a) : l.map f = l := by
  rw [List.map_congr_left h, List.map_id']
theorem ints_back {l : List Int} (r : List UInt8) (hl : l.length ≤ 65536) (h : (l.any fun n => !inR n) = false) : listP intP (encInts l ++ r) = .ok (l, r) := by
  have := list_rt int_rt l r ⟨hl, fun _ _ => trivial⟩
  rw [map_same fun n hn => norm_in (by have := List.any_eq_false.1 h n hn; simpa using this)] at this
  exact this
theorem secs_back {l : List Sec} (r : List UInt8) (hl : l.length ≤ 65536) : listP secP (encSecs l ++ r) = .ok (l, r) := by
  have := list_rt sec_rt l r ⟨hl, fun _ _ => trivial⟩
  rw [List.map_id] at this
  exact this
theorem exts_back {l : List Ext2} (r : List UInt8) (hl : l.length ≤ 65536) (h : (l.any fun x => !inR x.start || !inR x.count) = false) : listP extP (encExts l ++ r) = .ok (l, r) := by
  have := list_rt ext_rt l r ⟨hl, fun _ _ => trivial⟩
  rw [map_same fun x hx => by
    have := List.any_eq_false.1 h x hx
    simp at this
    rw [norm_in this.1, norm_in this.2]] at this
  exact this
theorem wrs_back {l : List Wr} (r : List UInt8) (hl : l.length ≤ 65536) (hd : ∀ w ∈ l, w.data.length ≤ 65536) (h : (l.any fun x => !inR x.volume || !inR x.start) = false) : listP wrP (encWrs l ++ r) = .ok (l, r) := by
  have := list_rt wr_rt l r ⟨hl, hd⟩
  rw [map_same fun x hx => by
    have := List.any_eq_false.1 h x hx
    simp at this
    rw [norm_in this.1, norm_in this.2]] at this
  exact this
theorem encInts_m (l : List Int) : (encInts l).length ≤ 8 + 8 * l.length := by
  rw [encInts, List.length_append]
  have := enc_len l.length
  have := flat_len (f := enc) enc_len l
  omega
theorem encSecs_m (l : List Sec) : (encSecs l).length ≤ 8 + 8 * l.length := by
  rw [encSecs_len]
  have := enc_len l.length
  omega
theorem encBytes_m (b : List UInt8) : (encBytes b).length ≤ 8 + b.length := by
  rw [encBytes, List.length_append]
  have := enc_len b.length
  omega
theorem WireBack_cc (x : Vals) (r : List UInt8) : CC Try.prog 10 [.agg (valC x), .sl .sh 1 (bs r)] [] [] (Pu (cb true) [] []) := by
  refine CC.of_swp Try.func10 rfl (by kernel_rfl) (by rw [Try.ntmps10]; exact len_le _ _ rfl) fun hok hokH => ?_
  clear hok
  refine SWp.seq (Wp.s ?_)
  simp -implicitDefEqProofs [go_sem, args0]
  refine SWp.join (α := Unit) (fun _ => ([(4, cb false), (2, .ptr 0 0), (1, .sl .sh 1 (bs r))], [some (valC x)], [])) (fun _ => few x = true ∧ r.length ≤ 200) ?_ ?_
  · refine Wp.s ?_
    simp -implicitDefEqProofs [go_sem]
    refine CC.mono (few_cc _ _ _) ?_
    rintro _ _ _ ⟨rfl, rfl, rfl⟩
    rcases hf : few x with - | -
    · simp -implicitDefEqProofs [go_sem]
      exact CC.mono (awake_cc _ _) fun _ _ _ ⟨e1, e2, e3⟩ => by
        subst e1 e2 e3
        simp -implicitDefEqProofs [go_sem]
        exact Fin.bool (H := []) (V := []) rfl (by simp) rfl rfl
    · by_cases h1 : r.length ≤ 200
      · simp -implicitDefEqProofs [go_sem, show ¬ (200 : Int) < r.length by omega]
        exact ⟨h1, Sh.forget (by simp [go_sem]) rfl rfl⟩
      · simp -implicitDefEqProofs [go_sem, show (200 : Int) < r.length by omega]
        exact CC.mono (awake_cc _ _) fun _ _ _ ⟨e1, e2, e3⟩ => by
          subst e1 e2 e3
          simp -implicitDefEqProofs [go_sem]
          exact Fin.bool (H := []) (V := []) rfl (by simp) rfl rfl
  rintro _ ⟨hf, h1⟩
  obtain ⟨hi, hs, he, hw, hw2⟩ := few_true hf
  have hlb := encWrs_len hw2
  have hle := encExts_len x.exts
  have hld := encInts_m x.ints
  have hls := encSecs_m x.secs
  have hlr := encBytes_m r
  dsimp only
  refine SWp.seq (Wp.s ?_)
  simp -implicitDefEqProofs [go_sem]
  refine CC.mono (CC.nil0 (by decide) (PutBytes_cc _ _ .sh .sh [] r (by simp only [List.length_nil]; omega))) ?_
  rintro _ _ _ ⟨v1, rfl, rfl, rfl⟩
  simp -implicitDefEqProofs [go_sem]
  refine ⟨by omega, ?_⟩
  refine CC.mono (Bytes_cc _ _ _ (encBytes r ++ r) (by rw [List.length_append]; omega)) ?_
  rintro _ _ _ ⟨rfl, rfl, rfl⟩
  rw [text_rt _ _ (by omega)]
  simp -implicitDefEqProofs [go_sem, rdv]
  refine SWp.seq (Wp.s ?_)
  simp -implicitDefEqProofs [go_sem]
  refine CC.mono (CC.nil0 (by decide) (PutSectors_cc _ _ .sh .sh [] x.secs (by simp only [List.length_nil]; omega))) ?_
  rintro _ _ _ ⟨v2, rfl, rfl, rfl⟩
  simp -implicitDefEqProofs [go_sem]
  refine ⟨by omega, ?_⟩
  refine CC.mono (Sectors_cc _ _ _ (encSecs x.secs ++ r) (by rw [List.length_append]; omega)) ?_
  rintro _ _ _ ⟨rfl, rfl, rfl⟩
  rw [secs_back _ (by omega)]
  simp -implicitDefEqProofs [go_sem, rdv]
  refine SWp.join (α := Unit) (fun _ => ([(4, cb false), (2, .ptr 0 0), (1, .sl .sh 1 (bs r))], [some (valC x)], [])) (fun _ => True) ?_ ?_
  · refine Wp.s ?_
    simp -implicitDefEqProofs [go_sem]
    refine CC.mono (Equal_cc _ _ _ _ _ _) ?_
    rintro _ _ _ ⟨rfl, rfl, rfl⟩
    simp -implicitDefEqProofs [go_sem, same_self]
    refine CC.mono (Equal_cc _ _ _ _ _ _) ?_
    rintro _ _ _ ⟨rfl, rfl, rfl⟩
    simp -implicitDefEqProofs [go_sem, same_self]
    refine CC.mono (eqSecs_cc _ _ _ _ x.secs (by omega)) ?_
    rintro _ _ _ ⟨rfl, rfl, rfl⟩
    simp -implicitDefEqProofs [go_sem]
    refine CC.mono (Equal_cc _ _ _ _ _ _) ?_
    rintro _ _ _ ⟨rfl, rfl, rfl⟩
    simp -implicitDefEqProofs [go_sem, same_self]
    exact Sh.cut 1 0 (by simp [go_sem]) (Nat.zero_le _) (Nat.le_refl _) (by simp [go_sem, okV_slt]) (ok_one (by simp [go_sem])) rfl rfl
  rintro _ -
  dsimp only
  refine SWp.join (α := Unit) (fun _ => ([(4, cb false), (2, .ptr 0 0), (1, .sl .sh 1 (bs r))], [some (valC x)], [])) (fun _ => True) ?_ ?_
  · refine Wp.s ?_
    simp -implicitDefEqProofs [go_sem]
    refine CC.mono (containsInt_cc _ _ _ x.ints 46 (fun n => !inR n) back1_cc (by omega)) ?_
    rintro _ _ _ ⟨rfl, rfl, rfl⟩
    rcases hq : x.ints.any (fun n => !inR n) with - | -
    · simp -implicitDefEqProofs [go_sem]
      refine CC.mono (CC.nil0 (by decide) (PutInts_cc _ _ .sh .sh [] x.ints (by simp only [List.length_nil]; omega))) ?_
      rintro _ _ _ ⟨v1, rfl, rfl, rfl⟩
      simp -implicitDefEqProofs [go_sem]
      refine ⟨by omega, ?_⟩
      refine CC.mono (Ints_cc _ _ _ (encInts x.ints ++ r) (by rw [List.length_append]; omega)) ?_
      rintro _ _ _ ⟨rfl, rfl, rfl⟩
      rw [ints_back _ (by omega) hq]
      simp -implicitDefEqProofs [go_sem, rdv]
      refine CC.mono (eqInts_cc _ _ _ _ x.ints (by omega)) ?_
      rintro _ _ _ ⟨rfl, rfl, rfl⟩
      simp -implicitDefEqProofs [go_sem]
      refine CC.mono (Equal_cc _ _ _ _ _ _) ?_
      rintro _ _ _ ⟨rfl, rfl, rfl⟩
      simp -implicitDefEqProofs [go_sem, same_self]
      exact Sh.cut 1 0 (by simp [go_sem]) (Nat.zero_le _) (Nat.le_refl _) (by simp [go_sem, okV_slt]) (ok_one (by simp [go_sem])) rfl rfl
    · simp -implicitDefEqProofs [go_sem]
      exact Sh.forget (by simp [go_sem]) rfl rfl
  rintro _ -
  dsimp only
  refine SWp.join (α := Unit) (fun _ => ([(4, cb false), (2, .ptr 0 0), (1, .sl .sh 1 (bs r))], [some (valC x)], [])) (fun _ => True) ?_ ?_
  · refine Wp.s ?_
    simp -implicitDefEqProofs [go_sem]
    refine CC.mono (containsExt_cc _ _ _ x.exts 48 (fun y => !inR y.start || !inR y.count) back2_cc (by omega)) ?_
    rintro _ _ _ ⟨rfl, rfl, rfl⟩
    rcases hq : x.exts.any (fun y => !inR y.start || !inR y.count) with - | -
    · simp -implicitDefEqProofs [go_sem]
      refine CC.mono (CC.nil0 (by decide) (PutExtents_cc _ _ .sh .sh [] x.exts (by omega) (by simp only [List.length_nil]; omega))) ?_
      rintro _ _ _ ⟨v1, rfl, rfl, rfl⟩
      simp -implicitDefEqProofs [go_sem]
      refine ⟨by omega, ?_⟩
      refine CC.mono (Extents_cc _ _ _ (encExts x.exts ++ r) (by rw [List.length_append]; omega)) ?_
      rintro _ _ _ ⟨rfl, rfl, rfl⟩
      rw [exts_back _ (by omega) hq]
      simp -implicitDefEqProofs [go_sem, rdv]
      refine CC.mono (eqExts_cc _ _ _ _ x.exts (by omega)) ?_
      rintro _ _ _ ⟨rfl, rfl, rfl⟩
      simp -implicitDefEqProofs [go_sem]
      refine CC.mono (Equal_cc _ _ _ _ _ _) ?_
      rintro _ _ _ ⟨rfl, rfl, rfl⟩
      simp -implicitDefEqProofs [go_sem, same_self]
      exact Sh.cut 1 0 (by simp [go_sem]) (Nat.zero_le _) (Nat.le_refl _) (by simp [go_sem, okV_slt]) (ok_one (by simp [go_sem])) rfl rfl
    · simp -implicitDefEqProofs [go_sem]
      exact Sh.forget (by simp [go_sem]) rfl rfl
  rintro _ -
  dsimp only
  refine SWp.join (α := Unit) (fun _ => ([(4, cb false), (2, .ptr 0 0), (1, .sl .sh 1 (bs r))], [some (valC x)], [])) (fun _ => True) ?_ ?_
  · refine Wp.s ?_
    simp -implicitDefEqProofs [go_sem]
    refine CC.mono (containsWr_cc _ _ _ x.wrs 50 (fun y => !inR y.volume || !inR y.start) back3_cc (by omega)) ?_
    rintro _ _ _ ⟨rfl, rfl, rfl⟩
    rcases hq : x.wrs.any (fun y => !inR y.volume || !inR y.start) with - | -
    · simp -implicitDefEqProofs [go_sem]
      refine CC.mono (CC.nil0 (by decide) (PutWrites_cc _ _ .sh .sh [] x.wrs (by omega) (by simp only [List.length_nil]; omega))) ?_
      rintro _ _ _ ⟨v1, rfl, rfl, rfl⟩
      simp -implicitDefEqProofs [go_sem]
      refine ⟨by omega, ?_⟩
      refine CC.mono (Writes_cc _ _ _ (encWrs x.wrs ++ r) (by rw [List.length_append]; omega)) ?_
      rintro _ _ _ ⟨rfl, rfl, rfl⟩
      rw [wrs_back _ (by omega) (fun w hw => by have := hw2 w hw; omega) hq]
      simp -implicitDefEqProofs [go_sem, rdv]
      refine CC.mono (sameWrs_cc _ _ _ _ x.wrs (by omega) (fun w hw => by have := hw2 w hw; omega)) ?_
      rintro _ _ _ ⟨rfl, rfl, rfl⟩
      simp -implicitDefEqProofs [go_sem]
      refine CC.mono (Equal_cc _ _ _ _ _ _) ?_
      rintro _ _ _ ⟨rfl, rfl, rfl⟩
      simp -implicitDefEqProofs [go_sem, same_self]
      exact Sh.cut 1 0 (by simp [go_sem]) (Nat.zero_le _) (Nat.le_refl _) (by simp [go_sem, okV_slt]) (ok_one (by simp [go_sem])) rfl rfl
    · simp -implicitDefEqProofs [go_sem]
      exact Sh.forget (by simp [go_sem]) rfl rfl
  rintro _ -
  dsimp only
  refine SWp.seq (Wp.s ?_)
  simp -implicitDefEqProofs [go_sem]
  refine CC.mono (awake_cc _ _) ?_
  rintro _ _ _ ⟨rfl, rfl, rfl⟩
  simp -implicitDefEqProofs [go_sem]
  refine Wp.s ?_
  simp -implicitDefEqProofs [go_sem]
  exact Fin.bool (H := []) (V := []) rfl (by simp) rfl rfl
end Go.Proofs.Ytffjhibomipemaa
