import Derived.Test.YtffjhibomipemaaW3
namespace Go.Proofs.Ytffjhibomipemaa
open Go.Proofs
theorem putSector_cc (H : Hp) (V : List Nat) (k v : Nat) (l : List UInt8) (s : Sec) (hv : V[k]? = some v) (hl : l.length ≤ 1000000000) :
    CC Try.prog 55 [.sl (.own k v) 1 (bs l), .agg (secC s)] H V (Ow k 1 (bs (l ++ s.val)) H V) := by
  have hk : k < V.length := (List.getElem?_eq_some_iff.1 hv).1
  refine CC.of_swp Try.func55 rfl (by kernel_rfl) (by rw [Try.ntmps55]; exact len_le _ _ rfl) fun hok hokH => Wp.s ?_
  clear hok
  simp [go_sem, args0, hv]
  have := s.len
  exact ⟨by omega, Fin.ownB hk rfl hokH (by simp)⟩
theorem flat_le {α : Type} {f : α → List UInt8} {xs : List α} {i : Nat} (h : i < xs.length) : ((xs.take i).flatMap f).length + (f xs[i]).length ≤ (xs.flatMap f).length := by
  have h1 := flat_take (f := f) h
  have h2 : xs.flatMap f = (xs.take (i + 1)).flatMap f ++ (xs.drop (i + 1)).flatMap f := by rw [← List.flatMap_append, List.take_append_drop]
  rw [h2, h1]
  simp only [List.length_append]; omega
theorem secs_len : ∀ l : List Sec, (l.flatMap Sec.val).length = 8 * l.length
  | [] => rfl
  | s :: l => by rw [List.flatMap_cons, List.length_append, secs_len l, s.len, List.length_cons]; omega
theorem encSecs_len (l : List Sec) : (encSecs l).length = (enc l.length).length + 8 * l.length := by rw [encSecs, List.length_append, secs_len]
theorem putSecs_cc (H : Hp) (V : List Nat) (k v : Nat) (tk : Tk) (l : List UInt8) (xs : List Sec) (hv : V[k]? = some v) (hl : l.length + 8 * xs.length ≤ 900000000) :
    CC Try.prog 54 [.sl (.own k v) 1 (bs l), .sl tk 8 (xs.map secC), .fn 55 []] H V (Ow k 1 (bs (l ++ encSecs xs)) H V) := by
  have hk : k < V.length := (List.getElem?_eq_some_iff.1 hv).1
  have hel := enc_len xs.length
  refine CC.of_swp Try.func54 rfl (by kernel_rfl) (by rw [Try.ntmps54]; exact len_le _ _ rfl) fun hok hokH => ?_
  simp [go_sem, okV_slt] at hok
  refine SWp.seq (Wp.s ?_)
  simp [go_sem, args0]
  refine SWp.seq (Wp.s ?_)
  simp [go_sem]
  refine CC.mono (putInt_cc _ _ _ _ _ _ hv (by omega)) ?_
  rintro _ _ _ ⟨v', rfl, rfl, rfl⟩
  try simp [go_sem]
  refine SWp.join (α := Nat) (fun v => ([(0, .sl (.own k v) 1 (bs (l ++ encSecs xs)))], H, V.set k v)) (fun _ => True) ?_ ?_
  · refine SWp.seq (Wp.s ?_)
    simp [go_sem]
    refine SWp.block ?_
    refine SWp.loop (α := Nat × Nat) (fun x => ([(0, .sl (.own k x.1) 1 (bs (l ++ enc xs.length ++ (xs.take x.2).flatMap Sec.val))), (2, .fn 55 []), (13, .sl tk 8 (xs.map secC)), (14, ci xs.length), (15, ci x.2)], H, V.set k x.1)) (fun x => x.2 ≤ xs.length) (fun x => xs.length - x.2) (v', 0) (Nat.zero_le _) (Sh.forget (by simp [go_sem]) rfl rfl) ?_
    rintro ⟨v1, i⟩ hi
    dsimp only at hi ⊢
    have hlen := flat_len (f := Sec.val) (fun x => Nat.le_of_eq x.len) (xs.take i)
    rw [List.length_take] at hlen
    refine Wp.s ?_
    simp [go_sem]
    refine ⟨fun h => ⟨h, ?_⟩, fun h => ⟨v1, Sh.forget ?_ rfl rfl⟩⟩
    · refine CC.mono (putSector_cc _ _ _ _ _ _ (by simp [hk]) (by simp only [List.length_append]; omega)) ?_
      rintro _ _ _ ⟨v2, rfl, rfl, rfl⟩
      simp [go_sem]
      refine ⟨v2, i + 1, by omega, by omega, Sh.back ?_ rfl (by simp) (by simp [go_sem, okV_slt, hok]) (by simpa using hokH) (by simp) (by simp)⟩
      simp [go_sem, wrap_succ (show i ≤ 1000000000 by omega), flat_take h]
    · simp [go_sem, encSecs]
      rw [List.take_of_length_le h]; exact .refl _
  · rintro v1 -
    refine Wp.s ?_
    simp [go_sem]
    exact Fin.ownB hk rfl hokH (by simp)


theorem putExtent_cc (H : Hp) (V : List Nat) (k v : Nat) (l : List UInt8) (e : Ext2) (hv : V[k]? = some v) (hl : l.length ≤ 900000000) :
    CC Try.prog 57 [.sl (.own k v) 1 (bs l), .agg (extC e)] H V (Ow k 1 (bs (l ++ encExt e)) H V) := by
  have hk : k < V.length := (List.getElem?_eq_some_iff.1 hv).1
  have hel := enc_len e.start
  refine CC.of_swp Try.func57 rfl (by kernel_rfl) (by rw [Try.ntmps57]; exact len_le _ _ rfl) fun hok hokH => ?_
  clear hok
  refine SWp.seq (Wp.s ?_)
  simp [go_sem, args0]
  refine SWp.seq (SWp.drawnL [0, 1, 2, 4, 5, 3, 6, 7] (by kernel_rfl) (by kernel_rfl) rfl ?_)
  simp [go_sem]
  refine CC.mono (putInt_cc _ _ _ _ _ _ hv (by omega)) ?_
  rintro _ _ _ ⟨v', rfl, rfl, rfl⟩
  try simp [go_sem]
  refine CC.mono (putInt_cc _ _ _ _ _ _ (by simp [hk]) (by simp only [List.length_append]; omega)) ?_
  rintro _ _ _ ⟨v', rfl, rfl, rfl⟩
  simp [go_sem]
  refine Wp.s ?_
  simp [go_sem]
  exact Fin.ownB hk (by simp [encExt]) hokH (by simp)

theorem putWrite_cc (H : Hp) (V : List Nat) (k v : Nat) (l : List UInt8) (x : Wr) (hv : V[k]? = some v) (hl : l.length + (encWr x).length ≤ 900000000) :
    CC Try.prog 59 [.sl (.own k v) 1 (bs l), .agg (wrC x)] H V (Ow k 1 (bs (l ++ encWr x)) H V) := by
  have hk : k < V.length := (List.getElem?_eq_some_iff.1 hv).1
  simp only [encWr, List.length_append, encSecs_len] at hl
  refine CC.of_swp Try.func59 rfl (by kernel_rfl) (by rw [Try.ntmps59]; exact len_le _ _ rfl) fun hok hokH => ?_
  clear hok
  refine SWp.seq (Wp.s ?_)
  simp [go_sem, args0]
  refine SWp.seq (SWp.drawnL [0, 1, 2, 4, 5, 7, 8, 3, 6, 9, 10] (by kernel_rfl) (by kernel_rfl) rfl ?_)
  simp [go_sem]
  refine CC.mono (putInt_cc _ _ _ _ _ _ hv (by omega)) ?_
  rintro _ _ _ ⟨v', rfl, rfl, rfl⟩
  try simp [go_sem]
  refine CC.mono (putInt_cc _ _ _ _ _ _ (by simp [hk]) (by simp only [List.length_append]; omega)) ?_
  rintro _ _ _ ⟨v', rfl, rfl, rfl⟩
  try simp [go_sem]
  refine CC.mono (putSecs_cc _ _ _ _ _ _ _ (by simp [hk]) (by simp only [List.length_append]; omega)) ?_
  rintro _ _ _ ⟨v', rfl, rfl, rfl⟩
  simp [go_sem]
  refine Wp.s ?_
  simp [go_sem]
  exact Fin.ownB hk (by simp [encWr]) hokH (by simp)

theorem putExtents_cc (H : Hp) (V : List Nat) (k v : Nat) (tk : Tk) (l : List UInt8) (xs : List Ext2) (hv : V[k]? = some v) (hx : xs.length ≤ 900000000) (hl : l.length + (encExts xs).length ≤ 900000000) :
    CC Try.prog 56 [.sl (.own k v) 1 (bs l), .sl tk 2 (xs.map extC), .fn 57 []] H V (Ow k 1 (bs (l ++ encExts xs)) H V) := by
  have hk : k < V.length := (List.getElem?_eq_some_iff.1 hv).1
  have hel := enc_len xs.length
  simp only [encExts, List.length_append] at hl
  refine CC.of_swp Try.func56 rfl (by kernel_rfl) (by rw [Try.ntmps56]; exact len_le _ _ rfl) fun hok hokH => ?_
  simp [go_sem, okV_slt] at hok
  refine SWp.seq (Wp.s ?_)
  simp [go_sem, args0]
  refine SWp.seq (Wp.s ?_)
  simp [go_sem]
  refine CC.mono (putInt_cc _ _ _ _ _ _ hv (by omega)) ?_
  rintro _ _ _ ⟨v', rfl, rfl, rfl⟩
  try simp [go_sem]
  refine SWp.join (α := Nat) (fun v => ([(0, .sl (.own k v) 1 (bs (l ++ encExts xs)))], H, V.set k v)) (fun _ => True) ?_ ?_
  · refine SWp.seq (Wp.s ?_)
    simp [go_sem]
    refine SWp.block ?_
    refine SWp.loop (α := Nat × Nat) (fun x => ([(0, .sl (.own k x.1) 1 (bs (l ++ enc xs.length ++ (xs.take x.2).flatMap encExt))), (2, .fn 57 []), (13, .sl tk 2 (xs.map extC)), (14, ci xs.length), (15, ci x.2)], H, V.set k x.1)) (fun x => x.2 ≤ xs.length) (fun x => xs.length - x.2) (v', 0) (Nat.zero_le _) (Sh.forget (by simp [go_sem]) rfl rfl) ?_
    rintro ⟨v1, i⟩ hi
    dsimp only at hi ⊢
    refine Wp.s ?_
    simp [go_sem]
    refine ⟨fun h => ⟨h, ?_⟩, fun h => ⟨v1, Sh.forget ?_ rfl rfl⟩⟩
    · have hone := flat_le (f := encExt) h
      refine CC.mono (putExtent_cc _ _ _ _ _ _ (by simp [hk]) (by simp only [List.length_append]; omega)) ?_
      rintro _ _ _ ⟨v2, rfl, rfl, rfl⟩
      simp [go_sem]
      refine ⟨v2, i + 1, by omega, by omega, Sh.back ?_ rfl (by simp) (by simp [go_sem, okV_slt, hok]) (by simpa using hokH) (by simp) (by simp)⟩
      simp [go_sem, wrap_succ (show i ≤ 1000000000 by omega), flat_take h]
    · simp [go_sem, encExts]
      rw [List.take_of_length_le h]; exact .refl _
  · rintro v1 -
    refine Wp.s ?_
    simp [go_sem]
    exact Fin.ownB hk rfl hokH (by simp)

theorem putWrites_cc (H : Hp) (V : List Nat) (k v : Nat) (tk : Tk) (l : List UInt8) (xs : List Wr) (hv : V[k]? = some v) (hx : xs.length ≤ 900000000) (hl : l.length + (encWrs xs).length ≤ 900000000) :
    CC Try.prog 58 [.sl (.own k v) 1 (bs l), .sl tk 3 (xs.map wrC), .fn 59 []] H V (Ow k 1 (bs (l ++ encWrs xs)) H V) := by
  have hk : k < V.length := (List.getElem?_eq_some_iff.1 hv).1
  have hel := enc_len xs.length
  simp only [encWrs, List.length_append] at hl
  refine CC.of_swp Try.func58 rfl (by kernel_rfl) (by rw [Try.ntmps58]; exact len_le _ _ rfl) fun hok hokH => ?_
  simp [go_sem, okV_slt] at hok
  refine SWp.seq (Wp.s ?_)
  simp [go_sem, args0]
  refine SWp.seq (Wp.s ?_)
  simp [go_sem]
  refine CC.mono (putInt_cc _ _ _ _ _ _ hv (by omega)) ?_
  rintro _ _ _ ⟨v', rfl, rfl, rfl⟩
  try simp [go_sem]
  refine SWp.join (α := Nat) (fun v => ([(0, .sl (.own k v) 1 (bs (l ++ encWrs xs)))], H, V.set k v)) (fun _ => True) ?_ ?_
  · refine SWp.seq (Wp.s ?_)
    simp [go_sem]
    refine SWp.block ?_
    refine SWp.loop (α := Nat × Nat) (fun x => ([(0, .sl (.own k x.1) 1 (bs (l ++ enc xs.length ++ (xs.take x.2).flatMap encWr))), (2, .fn 59 []), (13, .sl tk 3 (xs.map wrC)), (14, ci xs.length), (15, ci x.2)], H, V.set k x.1)) (fun x => x.2 ≤ xs.length) (fun x => xs.length - x.2) (v', 0) (Nat.zero_le _) (Sh.forget (by simp [go_sem]) rfl rfl) ?_
    rintro ⟨v1, i⟩ hi
    dsimp only at hi ⊢
    refine Wp.s ?_
    simp [go_sem]
    refine ⟨fun h => ⟨h, ?_⟩, fun h => ⟨v1, Sh.forget ?_ rfl rfl⟩⟩
    · have hone := flat_le (f := encWr) h
      refine CC.mono (putWrite_cc _ _ _ _ _ _ (by simp [hk]) (by simp only [List.length_append]; omega)) ?_
      rintro _ _ _ ⟨v2, rfl, rfl, rfl⟩
      simp [go_sem]
      refine ⟨v2, i + 1, by omega, by omega, Sh.back ?_ rfl (by simp) (by simp [go_sem, okV_slt, hok]) (by simpa using hokH) (by simp) (by simp)⟩
      simp [go_sem, wrap_succ (show i ≤ 1000000000 by omega), flat_take h]
    · simp [go_sem, encWrs]
      rw [List.take_of_length_le h]; exact .refl _
  · rintro v1 -
    refine Wp.s ?_
    simp [go_sem]
    exact Fin.ownB hk rfl hokH (by simp)

end Go.Proofs.Ytffjhibomipemaa
