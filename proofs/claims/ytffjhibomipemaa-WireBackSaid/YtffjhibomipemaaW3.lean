import Derived.Test.YtffjhibomipemaaW2
namespace Go.Proofs.Ytffjhibomipemaa
open Go.Proofs
theorem flat_len {α : Type} {f : α → List UInt8} {c : Nat} (h : ∀ x, (f x).length ≤ c) : ∀ xs : List α, (xs.flatMap f).length ≤ c * xs.length
  | [] => by simp
  | x :: xs => by
    rw [List.flatMap_cons, List.length_append, List.length_cons, Nat.mul_succ]
    have := flat_len h xs
    have := h x
    omega
theorem flat_take {α : Type} {f : α → List UInt8} {xs : List α} {i : Nat} (h : i < xs.length) : (xs.take (i + 1)).flatMap f = (xs.take i).flatMap f ++ f xs[i] := by
  rw [List.take_succ_eq_append_getElem h, List.flatMap_append]; simp
theorem flat_all {α : Type} {f : α → List UInt8} {xs : List α} {i : Nat} (h : ¬ i < xs.length) : (xs.take i).flatMap f = xs.flatMap f := by
  rw [List.take_of_length_le (by omega)]

theorem putInts_cc (H : Hp) (V : List Nat) (k v : Nat) (tk : Tk) (l : List UInt8) (xs : List Int) (hv : V[k]? = some v) (hl : l.length + 8 * xs.length ≤ 900000000) :
    CC Try.prog 52 [.sl (.own k v) 1 (bs l), .sl tk 1 (xs.map ic), .fn 51 []] H V (Ow k 1 (bs (l ++ encInts xs)) H V) := by
  have hk : k < V.length := (List.getElem?_eq_some_iff.1 hv).1
  have hel := enc_len xs.length
  refine CC.of_swp Try.func52 rfl (by kernel_rfl) (by rw [Try.ntmps52]; exact len_le _ _ rfl) fun hok hokH => ?_
  clear hok
  refine SWp.seq (Wp.s ?_)
  simp [go_sem, args0]
  refine SWp.seq (Wp.s ?_)
  simp [go_sem]
  refine CC.mono (putInt_cc _ _ _ _ _ _ hv (by omega)) ?_
  rintro _ _ _ ⟨v', rfl, rfl, rfl⟩
  try simp [go_sem]
  refine SWp.join (α := Nat) (fun v => ([(0, .sl (.own k v) 1 (bs (l ++ encInts xs)))], H, V.set k v)) (fun _ => True) ?_ ?_
  · refine SWp.seq (Wp.s ?_)
    simp [go_sem]
    refine SWp.block ?_
    refine SWp.loop (α := Nat × Nat) (fun x => ([(0, .sl (.own k x.1) 1 (bs (l ++ enc xs.length ++ (xs.take x.2).flatMap enc))), (2, .fn 51 []), (13, .sl tk 1 (xs.map ic)), (14, ci xs.length), (15, ci x.2)], H, V.set k x.1)) (fun x => x.2 ≤ xs.length) (fun x => xs.length - x.2) (v', 0) (Nat.zero_le _) (Sh.forget (by simp [go_sem]) rfl rfl) ?_
    rintro ⟨v1, i⟩ hi
    dsimp only at hi ⊢
    have hlen := flat_len (f := enc) enc_len (xs.take i)
    rw [List.length_take] at hlen
    refine Wp.s ?_
    simp [go_sem]
    refine ⟨fun h => ⟨h, ?_⟩, fun h => ⟨v1, Sh.forget ?_ rfl rfl⟩⟩
    · refine CC.mono (putInt_cc _ _ _ _ _ _ (by simp [hk]) (by simp only [List.length_append]; omega)) ?_
      rintro _ _ _ ⟨v2, rfl, rfl, rfl⟩
      simp [go_sem]
      refine ⟨v2, i + 1, by omega, by omega, Sh.forget ?_ rfl (by simp)⟩
      simp [go_sem, wrap_succ (show i ≤ 1000000000 by omega), flat_take h]
    · simp [go_sem, encInts]
      rw [List.take_of_length_le h]; exact .refl _
  · rintro v1 -
    refine Wp.s ?_
    simp [go_sem]
    exact Fin.ownB hk rfl hokH (by simp)
end Go.Proofs.Ytffjhibomipemaa
