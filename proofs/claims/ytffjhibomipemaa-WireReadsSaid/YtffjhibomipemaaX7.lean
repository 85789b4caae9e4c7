import Derived.Test.YtffjhibomipemaaX6
import Derived.Test.YtffjhibomipemaaR9
set_option linter.unusedSimpArgs false
namespace Go.Proofs.Ytffjhibomipemaa
open Go.Proofs
def rdA {α : Type} (val : α → CV) (zero : CV) : Except Nat (α × List UInt8) → CV
  | .ok (a, _) => val a
  | .error _ => zero
def rdB {α : Type} : Except Nat (α × List UInt8) → CV
  | .ok (_, s) => .sl .sh 1 (bs s)
  | .error _ => .v (.slice none 0 0)
def rdC {α : Type} : Except Nat (α × List UInt8) → CV
  | .ok _ => er 0
  | .error e => er e
theorem rdv_eq {α : Type} (val : α → CV) (zero : CV) (x : Except Nat (α × List UInt8)) : rdv val zero x = .tup [rdA val zero x, rdB x, rdC x] := by
  rcases x with e | ⟨a, s⟩ <;> rfl
section
variable {P : Program} {H : Hp} {V : List Nat} {f : FuncId} {R : CV → Hp → List Nat → Prop}
theorem CC.nil2 {sz : Nat} (hsz : 0 < sz) (hc : CC P f [.sl .sh sz [], .sl .sh sz []] H V R) : CC P f [.v (.slice none 0 0), .v (.slice none 0 0)] H V R :=
  CC.args (.cons (.nil sz hsz) (.cons (.nil sz hsz) .nil)) hc
end
theorem rep_all {α : Type} {p : Pr α} {A : α → Prop} (hp : ∀ s a r, p s = .ok (a, r) → A a) : ∀ (n : Nat) (s : List UInt8) (l : List α) (r : List UInt8), repP p n s = .ok (l, r) → ∀ a ∈ l, A a
  | 0, s, l, r, h => by rw [repP] at h; cases h; simp
  | n + 1, s, l, r, h => by
    rw [repP] at h
    split at h
    · cases h
    · rename_i h1
      split at h
      · cases h
      · rename_i h2; cases h
        intro a ha
        rcases List.mem_cons.1 ha with rfl | ha
        · exact hp _ _ _ h1
        · exact rep_all hp n _ _ _ h2 a ha
theorem wr_data (s : List UInt8) (x : Wr) (r : List UInt8) (h : wrP s = .ok (x, r)) : x.data.length ≤ 65536 := by
  unfold wrP at h
  split at h
  · cases h
  · split at h
    · cases h
    · rename_i h2; cases h; exact list_n sec_on h2
theorem wrs_data {s r : List UInt8} {l : List Wr} (h : listP wrP s = .ok (l, r)) : ∀ w ∈ l, w.data.length ≤ 65536 := by
  unfold listP at h
  split at h
  · cases h
  · exact rep_all wr_data _ _ _ _ h
theorem WireReads_cc (s : List UInt8) : CC Try.prog 9 [.sl .sh 1 (bs s)] [] [] (Pu (cb true) [] []) := by
  refine CC.of_swp Try.func9 rfl (by kernel_rfl) (by rw [Try.ntmps9]; exact len_le _ _ rfl) fun hok hokH => ?_
  clear hok
  refine SWp.seq (Wp.s ?_)
  simp -implicitDefEqProofs [go_sem, args0]
  refine SWp.join (α := Unit) (fun _ => ([(2, cb false), (0, .sl .sh 1 (bs s))], [], [])) (fun _ => s.length ≤ 1000) ?_ ?_
  · refine Wp.s ?_
    by_cases h1 : s.length ≤ 1000
    · simp -implicitDefEqProofs [go_sem, show ¬ (1000 : Int) < s.length by omega]
      exact ⟨h1, Sh.forget (by simp [go_sem]) rfl rfl⟩
    · simp -implicitDefEqProofs [go_sem, show (1000 : Int) < s.length by omega]
      exact CC.mono (awake_cc _ _) fun _ _ _ ⟨e1, e2, e3⟩ => by
        subst e1 e2 e3
        simp -implicitDefEqProofs [go_sem]
        exact Fin.bool (H := []) (V := []) rfl (by simp) rfl rfl
  rintro _ h1
  dsimp only
  refine SWp.seq (Wp.s ?_)
  simp -implicitDefEqProofs [go_sem]
  refine CC.mono (Int_cc _ _ _ _ (by omega)) ?_
  rintro _ _ _ ⟨rfl, rfl, rfl⟩
  simp -implicitDefEqProofs [go_sem, rdv_eq]
  refine SWp.seq (Wp.s ?_)
  simp -implicitDefEqProofs [go_sem]
  refine CC.mono (refInt_cc _ _ _ _ (by omega)) ?_
  rintro _ _ _ ⟨rfl, rfl, rfl⟩
  simp -implicitDefEqProofs [go_sem, rdv_eq]
  generalize hx : number s = x
  refine SWp.join (α := Unit) (fun _ => ([(2, cb false), (0, .sl .sh 1 (bs s))], [], [])) (fun _ => True) ?_ ?_
  · refine Wp.s ?_
    rcases x with e | ⟨l, r⟩
    · simp -implicitDefEqProofs [go_sem, rdA, rdB, rdC]
      refine CC.mono (CC.nil2 (by decide) (Equal_cc _ _ .sh .sh [] [])) ?_
      rintro _ _ _ ⟨rfl, rfl, rfl⟩
      simp -implicitDefEqProofs [go_sem, rdA, rdB, rdC, same_self]
      exact Sh.forget (by simp [go_sem]) rfl rfl
    · simp -implicitDefEqProofs [go_sem, rdA, rdB, rdC]
      refine CC.mono (Equal_cc _ _ _ _ _ _) ?_
      rintro _ _ _ ⟨rfl, rfl, rfl⟩
      simp -implicitDefEqProofs [go_sem, rdA, rdB, rdC, same_self]
      exact Sh.forget (by simp [go_sem]) rfl rfl
  rintro _ -
  dsimp only
  refine SWp.seq (Wp.s ?_)
  simp -implicitDefEqProofs [go_sem]
  refine CC.mono (Bytes_cc _ _ _ _ (by omega)) ?_
  rintro _ _ _ ⟨rfl, rfl, rfl⟩
  simp -implicitDefEqProofs [go_sem, rdv_eq]
  refine SWp.seq (Wp.s ?_)
  simp -implicitDefEqProofs [go_sem]
  refine CC.mono (refBytes_cc _ _ _ _ (by omega)) ?_
  rintro _ _ _ ⟨rfl, rfl, rfl⟩
  simp -implicitDefEqProofs [go_sem, rdv_eq]
  generalize hx : textP s = x
  refine SWp.join (α := Unit) (fun _ => ([(2, cb false), (0, .sl .sh 1 (bs s))], [], [])) (fun _ => True) ?_ ?_
  · refine Wp.s ?_
    rcases x with e | ⟨l, r⟩
    · simp -implicitDefEqProofs [go_sem, rdA, rdB, rdC]
      refine CC.mono (CC.nil2 (by decide) (Equal_cc _ _ .sh .sh [] [])) ?_
      rintro _ _ _ ⟨rfl, rfl, rfl⟩
      simp -implicitDefEqProofs [go_sem, rdA, rdB, rdC, same_self]
      refine CC.mono (CC.nil2 (by decide) (Equal_cc _ _ .sh .sh [] [])) ?_
      rintro _ _ _ ⟨rfl, rfl, rfl⟩
      simp -implicitDefEqProofs [go_sem, rdA, rdB, rdC, same_self]
      exact Sh.forget (by simp [go_sem]) rfl rfl
    · simp -implicitDefEqProofs [go_sem, rdA, rdB, rdC]
      refine CC.mono (Equal_cc _ _ _ _ _ _) ?_
      rintro _ _ _ ⟨rfl, rfl, rfl⟩
      simp -implicitDefEqProofs [go_sem, rdA, rdB, rdC, same_self]
      refine CC.mono (Equal_cc _ _ _ _ _ _) ?_
      rintro _ _ _ ⟨rfl, rfl, rfl⟩
      simp -implicitDefEqProofs [go_sem, rdA, rdB, rdC, same_self]
      exact Sh.forget (by simp [go_sem]) rfl rfl
  rintro _ -
  dsimp only
  refine SWp.seq (Wp.s ?_)
  simp -implicitDefEqProofs [go_sem]
  refine CC.mono (Ints_cc _ _ _ _ (by omega)) ?_
  rintro _ _ _ ⟨rfl, rfl, rfl⟩
  simp -implicitDefEqProofs [go_sem, rdv_eq]
  refine SWp.seq (Wp.s ?_)
  simp -implicitDefEqProofs [go_sem]
  refine CC.mono (refInts_cc _ _ _ _ (by omega)) ?_
  rintro _ _ _ ⟨rfl, rfl, rfl⟩
  simp -implicitDefEqProofs [go_sem, rdv_eq]
  generalize hx : listP intP s = x
  refine SWp.join (α := Unit) (fun _ => ([(2, cb false), (0, .sl .sh 1 (bs s))], [], [])) (fun _ => True) ?_ ?_
  · refine Wp.s ?_
    rcases x with e | ⟨l, r⟩
    · simp -implicitDefEqProofs [go_sem, rdA, rdB, rdC]
      refine CC.mono (CC.nil2 (by decide) (eqInts_cc _ _ .sh .sh [] (by decide))) ?_
      rintro _ _ _ ⟨rfl, rfl, rfl⟩
      simp -implicitDefEqProofs [go_sem, rdA, rdB, rdC, same_self]
      refine CC.mono (CC.nil2 (by decide) (Equal_cc _ _ .sh .sh [] [])) ?_
      rintro _ _ _ ⟨rfl, rfl, rfl⟩
      simp -implicitDefEqProofs [go_sem, rdA, rdB, rdC, same_self]
      exact Sh.forget (by simp [go_sem]) rfl rfl
    · have hl := list_n int_on hx
      simp -implicitDefEqProofs [go_sem, rdA, rdB, rdC]
      refine CC.mono (eqInts_cc _ _ _ _ l (by omega)) ?_
      rintro _ _ _ ⟨rfl, rfl, rfl⟩
      simp -implicitDefEqProofs [go_sem, rdA, rdB, rdC, same_self]
      refine CC.mono (Equal_cc _ _ _ _ _ _) ?_
      rintro _ _ _ ⟨rfl, rfl, rfl⟩
      simp -implicitDefEqProofs [go_sem, rdA, rdB, rdC, same_self]
      exact Sh.forget (by simp [go_sem]) rfl rfl
  rintro _ -
  dsimp only
  refine SWp.seq (Wp.s ?_)
  simp -implicitDefEqProofs [go_sem]
  refine CC.mono (Sectors_cc _ _ _ _ (by omega)) ?_
  rintro _ _ _ ⟨rfl, rfl, rfl⟩
  simp -implicitDefEqProofs [go_sem, rdv_eq]
  refine SWp.seq (Wp.s ?_)
  simp -implicitDefEqProofs [go_sem]
  refine CC.mono (refSectors_cc _ _ _ _ (by omega)) ?_
  rintro _ _ _ ⟨rfl, rfl, rfl⟩
  simp -implicitDefEqProofs [go_sem, rdv_eq]
  generalize hx : listP secP s = x
  refine SWp.join (α := Unit) (fun _ => ([(2, cb false), (0, .sl .sh 1 (bs s))], [], [])) (fun _ => True) ?_ ?_
  · refine Wp.s ?_
    rcases x with e | ⟨l, r⟩
    · simp -implicitDefEqProofs [go_sem, rdA, rdB, rdC]
      refine CC.mono (CC.nil2 (by decide) (eqSecs_cc _ _ .sh .sh [] (by decide))) ?_
      rintro _ _ _ ⟨rfl, rfl, rfl⟩
      simp -implicitDefEqProofs [go_sem, rdA, rdB, rdC, same_self]
      refine CC.mono (CC.nil2 (by decide) (Equal_cc _ _ .sh .sh [] [])) ?_
      rintro _ _ _ ⟨rfl, rfl, rfl⟩
      simp -implicitDefEqProofs [go_sem, rdA, rdB, rdC, same_self]
      exact Sh.forget (by simp [go_sem]) rfl rfl
    · have hl := list_n sec_on hx
      simp -implicitDefEqProofs [go_sem, rdA, rdB, rdC]
      refine CC.mono (eqSecs_cc _ _ _ _ l (by omega)) ?_
      rintro _ _ _ ⟨rfl, rfl, rfl⟩
      simp -implicitDefEqProofs [go_sem, rdA, rdB, rdC, same_self]
      refine CC.mono (Equal_cc _ _ _ _ _ _) ?_
      rintro _ _ _ ⟨rfl, rfl, rfl⟩
      simp -implicitDefEqProofs [go_sem, rdA, rdB, rdC, same_self]
      exact Sh.forget (by simp [go_sem]) rfl rfl
  rintro _ -
  dsimp only
  refine SWp.seq (Wp.s ?_)
  simp -implicitDefEqProofs [go_sem]
  refine CC.mono (Extents_cc _ _ _ _ (by omega)) ?_
  rintro _ _ _ ⟨rfl, rfl, rfl⟩
  simp -implicitDefEqProofs [go_sem, rdv_eq]
  refine SWp.seq (Wp.s ?_)
  simp -implicitDefEqProofs [go_sem]
  refine CC.mono (refExtents_cc _ _ _ _ (by omega)) ?_
  rintro _ _ _ ⟨rfl, rfl, rfl⟩
  simp -implicitDefEqProofs [go_sem, rdv_eq]
  generalize hx : listP extP s = x
  refine SWp.join (α := Unit) (fun _ => ([(2, cb false), (0, .sl .sh 1 (bs s))], [], [])) (fun _ => True) ?_ ?_
  · refine Wp.s ?_
    rcases x with e | ⟨l, r⟩
    · simp -implicitDefEqProofs [go_sem, rdA, rdB, rdC]
      refine CC.mono (CC.nil2 (by decide) (eqExts_cc _ _ .sh .sh [] (by decide))) ?_
      rintro _ _ _ ⟨rfl, rfl, rfl⟩
      simp -implicitDefEqProofs [go_sem, rdA, rdB, rdC, same_self]
      refine CC.mono (CC.nil2 (by decide) (Equal_cc _ _ .sh .sh [] [])) ?_
      rintro _ _ _ ⟨rfl, rfl, rfl⟩
      simp -implicitDefEqProofs [go_sem, rdA, rdB, rdC, same_self]
      exact Sh.forget (by simp [go_sem]) rfl rfl
    · have hl := list_n ext_on hx
      simp -implicitDefEqProofs [go_sem, rdA, rdB, rdC]
      refine CC.mono (eqExts_cc _ _ _ _ l (by omega)) ?_
      rintro _ _ _ ⟨rfl, rfl, rfl⟩
      simp -implicitDefEqProofs [go_sem, rdA, rdB, rdC, same_self]
      refine CC.mono (Equal_cc _ _ _ _ _ _) ?_
      rintro _ _ _ ⟨rfl, rfl, rfl⟩
      simp -implicitDefEqProofs [go_sem, rdA, rdB, rdC, same_self]
      exact Sh.forget (by simp [go_sem]) rfl rfl
  rintro _ -
  dsimp only
  refine SWp.seq (Wp.s ?_)
  simp -implicitDefEqProofs [go_sem]
  refine CC.mono (Writes_cc _ _ _ _ (by omega)) ?_
  rintro _ _ _ ⟨rfl, rfl, rfl⟩
  simp -implicitDefEqProofs [go_sem, rdv_eq]
  refine SWp.seq (Wp.s ?_)
  simp -implicitDefEqProofs [go_sem]
  refine CC.mono (refWrites_cc _ _ _ _ (by omega)) ?_
  rintro _ _ _ ⟨rfl, rfl, rfl⟩
  simp -implicitDefEqProofs [go_sem, rdv_eq]
  generalize hx : listP wrP s = x
  refine SWp.join (α := Unit) (fun _ => ([(2, cb true)], [], [])) (fun _ => True) ?_ ?_
  · refine Wp.s ?_
    rcases x with e | ⟨l, r⟩
    · simp -implicitDefEqProofs [go_sem, rdA, rdB, rdC]
      refine CC.mono (CC.nil2 (by decide) (sameWrs_cc _ _ .sh .sh [] (by decide) (by simp))) ?_
      rintro _ _ _ ⟨rfl, rfl, rfl⟩
      simp -implicitDefEqProofs [go_sem, rdA, rdB, rdC, same_self]
      refine CC.mono (CC.nil2 (by decide) (Equal_cc _ _ .sh .sh [] [])) ?_
      rintro _ _ _ ⟨rfl, rfl, rfl⟩
      simp -implicitDefEqProofs [go_sem, rdA, rdB, rdC, same_self]
      refine CC.mono (awake_cc _ _) ?_
      rintro _ _ _ ⟨rfl, rfl, rfl⟩
      simp -implicitDefEqProofs [go_sem, rdA, rdB, rdC, same_self]
      exact Sh.forget (by simp [go_sem]) rfl rfl
    · have hl := list_n wr_on hx
      have hd := wrs_data hx
      simp -implicitDefEqProofs [go_sem, rdA, rdB, rdC]
      refine CC.mono (sameWrs_cc _ _ _ _ l (by omega) (fun w hw => by have := hd w hw; omega)) ?_
      rintro _ _ _ ⟨rfl, rfl, rfl⟩
      simp -implicitDefEqProofs [go_sem, rdA, rdB, rdC, same_self]
      refine CC.mono (Equal_cc _ _ _ _ _ _) ?_
      rintro _ _ _ ⟨rfl, rfl, rfl⟩
      simp -implicitDefEqProofs [go_sem, rdA, rdB, rdC, same_self]
      refine CC.mono (awake_cc _ _) ?_
      rintro _ _ _ ⟨rfl, rfl, rfl⟩
      simp -implicitDefEqProofs [go_sem, rdA, rdB, rdC, same_self]
      exact Sh.forget (by simp [go_sem]) rfl rfl
  rintro _ -
  dsimp only
  refine Wp.s ?_
  simp -implicitDefEqProofs [go_sem]
  exact Fin.bool (H := []) (V := []) rfl (by simp) rfl rfl
end Go.Proofs.Ytffjhibomipemaa
