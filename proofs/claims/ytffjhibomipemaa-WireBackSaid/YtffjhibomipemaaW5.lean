import Derived.Test.YtffjhibomipemaaW4
namespace Go.Proofs.Ytffjhibomipemaa
open Go.Proofs
section
variable {P : Program} {H : Hp} {V : List Nat}
theorem CC.args {f : FuncId} {xs ys : List CV} {R : CV → Hp → List Nat → Prop} (h : LeL xs ys) (hc : CC P f ys H V R) : CC P f xs H V R :=
  ⟨hc.1, fun m w us hi hu => hc.2 m w us hi (LeL.rel h hu)⟩
end
theorem LeL.self : ∀ l : List CV, LeL l l
  | [] => .nil
  | c :: l => .cons (.refl c) (LeL.self l)
theorem CC.nil0 {P : Program} {H : Hp} {V : List Nat} {f : FuncId} {sz : Nat} {xs : List CV} {R : CV → Hp → List Nat → Prop} (hsz : 0 < sz) (hc : CC P f (.sl .sh sz [] :: xs) H V R) : CC P f (.v (.slice none 0 0) :: xs) H V R :=
  CC.args (.cons (.nil sz hsz) (LeL.self xs)) hc

theorem PutInts_cc (H : Hp) (V : List Nat) (tk tk' : Tk) (l : List UInt8) (xs : List Int) (hl : l.length + 8 * xs.length ≤ 900000000) :
    CC Try.prog 18 [.sl tk 1 (bs l), .sl tk' 1 (xs.map ic)] H V (Fr 1 (bs (l ++ encInts xs)) H V) := by
  refine CC.of_swp Try.func18 rfl (by kernel_rfl) (by rw [Try.ntmps18]; exact len_le _ _ rfl) fun hok hokH => Wp.s ?_
  simp [go_sem, args0]
  refine CC.mono (clone_cc _ _ _ _ (by simp only [bs_len]; omega)) ?_
  rintro _ _ _ ⟨v, rfl, rfl, rfl⟩
  try simp [go_sem]
  refine CC.mono (putInts_cc _ _ _ _ _ _ _ (by simp) hl) ?_
  rintro _ _ _ ⟨v', rfl, rfl, rfl⟩
  simp [go_sem]
  exact Fin.freshB rfl hokH (by simp)

theorem PutSectors_cc (H : Hp) (V : List Nat) (tk tk' : Tk) (l : List UInt8) (xs : List Sec) (hl : l.length + 8 * xs.length ≤ 900000000) :
    CC Try.prog 21 [.sl tk 1 (bs l), .sl tk' 8 (xs.map secC)] H V (Fr 1 (bs (l ++ encSecs xs)) H V) := by
  refine CC.of_swp Try.func21 rfl (by kernel_rfl) (by rw [Try.ntmps21]; exact len_le _ _ rfl) fun hok hokH => Wp.s ?_
  simp [go_sem, args0]
  refine CC.mono (clone_cc _ _ _ _ (by simp only [bs_len]; omega)) ?_
  rintro _ _ _ ⟨v, rfl, rfl, rfl⟩
  try simp [go_sem]
  refine CC.mono (putSecs_cc _ _ _ _ _ _ _ (by simp) hl) ?_
  rintro _ _ _ ⟨v', rfl, rfl, rfl⟩
  simp [go_sem]
  exact Fin.freshB rfl hokH (by simp)

theorem PutExtents_cc (H : Hp) (V : List Nat) (tk tk' : Tk) (l : List UInt8) (xs : List Ext2) (hx : xs.length ≤ 900000000) (hl : l.length + (encExts xs).length ≤ 900000000) :
    CC Try.prog 23 [.sl tk 1 (bs l), .sl tk' 2 (xs.map extC)] H V (Fr 1 (bs (l ++ encExts xs)) H V) := by
  refine CC.of_swp Try.func23 rfl (by kernel_rfl) (by rw [Try.ntmps23]; exact len_le _ _ rfl) fun hok hokH => Wp.s ?_
  simp [go_sem, args0]
  refine CC.mono (clone_cc _ _ _ _ (by simp only [bs_len]; omega)) ?_
  rintro _ _ _ ⟨v, rfl, rfl, rfl⟩
  try simp [go_sem]
  refine CC.mono (putExtents_cc _ _ _ _ _ _ _ (by simp) hx hl) ?_
  rintro _ _ _ ⟨v', rfl, rfl, rfl⟩
  simp [go_sem]
  exact Fin.freshB rfl hokH (by simp)

theorem PutWrites_cc (H : Hp) (V : List Nat) (tk tk' : Tk) (l : List UInt8) (xs : List Wr) (hx : xs.length ≤ 900000000) (hl : l.length + (encWrs xs).length ≤ 900000000) :
    CC Try.prog 25 [.sl tk 1 (bs l), .sl tk' 3 (xs.map wrC)] H V (Fr 1 (bs (l ++ encWrs xs)) H V) := by
  refine CC.of_swp Try.func25 rfl (by kernel_rfl) (by rw [Try.ntmps25]; exact len_le _ _ rfl) fun hok hokH => Wp.s ?_
  simp [go_sem, args0]
  refine CC.mono (clone_cc _ _ _ _ (by simp only [bs_len]; omega)) ?_
  rintro _ _ _ ⟨v, rfl, rfl, rfl⟩
  try simp [go_sem]
  refine CC.mono (putWrites_cc _ _ _ _ _ _ _ (by simp) hx hl) ?_
  rintro _ _ _ ⟨v', rfl, rfl, rfl⟩
  simp [go_sem]
  exact Fin.freshB rfl hokH (by simp)

theorem PutBytes_cc (H : Hp) (V : List Nat) (tk tk' : Tk) (l b : List UInt8) (hl : l.length + b.length ≤ 900000000) :
    CC Try.prog 16 [.sl tk 1 (bs l), .sl tk' 1 (bs b)] H V (Fr 1 (bs (l ++ encBytes b)) H V) := by
  have hel := enc_len b.length
  refine CC.of_swp Try.func16 rfl (by kernel_rfl) (by rw [Try.ntmps16]; exact len_le _ _ rfl) fun hok hokH => Wp.s ?_
  simp [go_sem, args0]
  refine CC.mono (PutInt_cc _ _ _ _ _ (by omega)) ?_
  rintro _ _ _ ⟨v, rfl, rfl, rfl⟩
  simp [go_sem]
  exact ⟨by omega, Fin.freshB (by simp [encBytes]) hokH (by simp)⟩

theorem refPutBytes_cc (H : Hp) (V : List Nat) (tk tk' : Tk) (l b : List UInt8) (hl : l.length + b.length ≤ 900000000) :
    CC Try.prog 17 [.sl tk 1 (bs l), .sl tk' 1 (bs b)] H V (Fr 1 (bs (l ++ encBytes b)) H V) := by
  have hel := enc_len b.length
  refine CC.of_swp Try.func17 rfl (by kernel_rfl) (by rw [Try.ntmps17]; exact len_le _ _ rfl) fun hok hokH => Wp.s ?_
  simp [go_sem, args0]
  refine CC.mono (refPutInt_cc _ _ _ _ _ (by omega)) ?_
  rintro _ _ _ ⟨v, rfl, rfl, rfl⟩
  simp [go_sem]
  exact ⟨by omega, Fin.freshB (by simp [encBytes]) hokH (by simp)⟩

theorem refPutInts_cc (H : Hp) (V : List Nat) (tk tk' : Tk) (l : List UInt8) (xs : List Int) (hl : l.length + 8 * xs.length ≤ 900000000) :
    CC Try.prog 19 [.sl tk 1 (bs l), .sl tk' 1 (xs.map ic)] H V (Pu (.sl .sh 1 (bs (l ++ encInts xs))) H V) := by
  have hel := enc_len xs.length
  refine CC.of_swp Try.func19 rfl (by kernel_rfl) (by rw [Try.ntmps19]; exact len_le _ _ rfl) fun hok hokH => ?_
  simp [go_sem, okV_slt] at hok
  refine SWp.seq (Wp.s ?_)
  simp [go_sem, args0]
  refine SWp.seq (Wp.s ?_)
  simp [go_sem]
  refine CC.mono (refPutInt_cc _ _ _ _ _ (by omega)) ?_
  rintro _ _ _ ⟨v', rfl, rfl, rfl⟩
  try simp [go_sem]
  refine SWp.join (α := Unit) (fun _ => ([(5, .sl .sh 1 (bs (l ++ encInts xs)))], H, V)) (fun _ => True) ?_ ?_
  · refine SWp.seq (Wp.s ?_)
    simp [go_sem]
    refine SWp.block ?_
    refine SWp.loop (α := Nat) (fun x => ([(5, .sl .sh 1 (bs (l ++ enc xs.length ++ (xs.take x).flatMap enc))), (1, .sl tk' 1 (xs.map ic)), (6, ci x)], H, V)) (fun x => x ≤ xs.length) (fun x => xs.length - x) 0 (Nat.zero_le _) (Sh.back (by simp [go_sem]) rfl rfl (by simp [go_sem, okV_slt, hok]) hokH (by simp) (by simp)) ?_
    intro i hi
    have hlen := flat_len (f := enc) enc_len (xs.take i)
    rw [List.length_take] at hlen
    refine Wp.s ?_
    simp [go_sem]
    refine ⟨fun h => ⟨h, ?_⟩, fun h => Sh.forget ?_ rfl rfl⟩
    · refine CC.mono (refPutInt_cc _ _ _ _ _ (by simp only [List.length_append]; omega)) ?_
      rintro _ _ _ ⟨v2, rfl, rfl, rfl⟩
      simp [go_sem]
      refine ⟨i + 1, by omega, by omega, Sh.back ?_ rfl rfl (by simp [go_sem, okV_slt, hok]) hokH (by simp) (by simp)⟩
      simp [go_sem, wrap_succ (show i ≤ 1000000000 by omega), flat_take h]
    · simp [go_sem, encInts]
      rw [List.take_of_length_le h]; exact .refl _
  · rintro _ -
    refine Wp.s ?_
    simp [go_sem]
    exact Fin.pu (.refl _) (by simp [go_sem]) hokH (by simp) (by simp)

@[go_sem] theorem sec_snoc (l : List UInt8) (s : Sec) (j : Nat) (h : j < (secC s).length) : bs l ++ [(secC s)[j].cells] = bs (l ++ [s.val[j]'(by simpa [s.len] using h)]) := by
  simp only [bs, secC, List.getElem_map, List.map_append]; rfl
@[go_sem] theorem sec_cells (s : Sec) (j : Nat) (h : j < (secC s).length) : (secC s)[j].cells.length = 1 ∧ allOne (secC s)[j].cells = true := by
  simp only [secC, List.getElem_map]; exact ⟨rfl, rfl⟩
theorem refPutSectors_cc (H : Hp) (V : List Nat) (tk tk' : Tk) (l : List UInt8) (xs : List Sec) (hl : l.length + 8 * xs.length ≤ 900000000) :
    CC Try.prog 22 [.sl tk 1 (bs l), .sl tk' 8 (xs.map secC)] H V (Fr 1 (bs (l ++ encSecs xs)) H V) := by
  have hel := enc_len xs.length
  refine CC.of_swp Try.func22 rfl (by kernel_rfl) (by rw [Try.ntmps22]; exact len_le _ _ rfl) fun hok hokH => ?_
  simp [go_sem, okV_slt] at hok
  refine SWp.seq (Wp.s ?_)
  simp [go_sem, args0]
  refine SWp.seq (Wp.s ?_)
  simp [go_sem]
  refine CC.mono (refPutInt_cc _ _ _ _ _ (by omega)) ?_
  rintro _ _ _ ⟨v', rfl, rfl, rfl⟩
  try simp [go_sem]
  refine SWp.join (α := Nat) (fun v => ([(5, .sl (.own V.length v) 1 (bs (l ++ encSecs xs)))], H, V ++ [v])) (fun _ => True) ?_ ?_
  · refine SWp.seq (Wp.s ?_)
    simp [go_sem]
    refine SWp.block ?_
    refine SWp.loop (α := Nat × Nat) (fun x => ([(5, .sl (.own V.length x.1) 1 (bs (l ++ enc xs.length ++ (xs.take x.2).flatMap Sec.val))), (1, .sl tk' 8 (xs.map secC)), (6, ci x.2)], H, V ++ [x.1])) (fun x => x.2 ≤ xs.length) (fun x => xs.length - x.2) (v', 0) (Nat.zero_le _) (Sh.forget (by simp [go_sem]) rfl rfl) ?_
    rintro ⟨v1, i⟩ hi
    dsimp only at hi ⊢
    have hlen := flat_len (f := Sec.val) (fun x => Nat.le_of_eq x.len) (xs.take i)
    rw [List.length_take] at hlen
    refine SWp.seq (Wp.s ?_)
    simp [go_sem]
    refine ⟨fun h => ?_, fun h => ⟨v1, Sh.forget ?_ rfl rfl⟩⟩
    · refine SWp.seq (SWp.block ?_)
      refine SWp.seq (Wp.s ?_)
      simp [go_sem]
      refine SWp.block ?_
      refine SWp.loop (α := Nat × Nat) (fun x => ([(5, .sl (.own V.length x.1) 1 (bs (l ++ enc xs.length ++ (xs.take i).flatMap Sec.val ++ xs[i].val.take x.2))), (1, .sl tk' 8 (xs.map secC)), (6, ci i), (7, ci x.2)], H, V ++ [x.1])) (fun x => x.2 ≤ 8) (fun x => 8 - x.2) (v1, 0) (Nat.zero_le _) (Sh.forget (by simp [go_sem]) rfl rfl) ?_
      rintro ⟨v2, j⟩ hj
      dsimp only at hj ⊢
      have h8 := (xs[i]).len
      refine Wp.s ?_
      simp [go_sem, -List.length_flatMap]
      refine ⟨fun h2 => ⟨by omega, by omega, h, by omega, v2 + 1, j + 1, by omega, by omega, Sh.forget ?_ rfl rfl⟩, fun h2 => ?_⟩
      · simp [go_sem, wrap_succ (show j ≤ 1000000000 by omega)]
      · refine Wp.s ?_
        simp [go_sem]
        refine ⟨_, i + 1, by omega, by omega, Sh.forget ?_ rfl rfl⟩
        have h9 : xs[i].val.take j = xs[i].val := List.take_of_length_le (by omega)
        simp [go_sem, wrap_succ (show i ≤ 1000000000 by omega), flat_take h, h9]
    · simp [go_sem, encSecs]
      rw [List.take_of_length_le h]; exact .refl _
  · rintro v1 -
    refine Wp.s ?_
    simp [go_sem]
    exact Fin.freshB rfl hokH (by simp)

theorem refPutExtents_cc (H : Hp) (V : List Nat) (tk tk' : Tk) (l : List UInt8) (xs : List Ext2) (hx : xs.length ≤ 900000000) (hl : l.length + (encExts xs).length ≤ 900000000) :
    CC Try.prog 24 [.sl tk 1 (bs l), .sl tk' 2 (xs.map extC)] H V (Pu (.sl .sh 1 (bs (l ++ encExts xs))) H V) := by
  have hel := enc_len xs.length
  simp only [encExts, List.length_append] at hl
  refine CC.of_swp Try.func24 rfl (by kernel_rfl) (by rw [Try.ntmps24]; exact len_le _ _ rfl) fun hok hokH => ?_
  simp [go_sem, okV_slt] at hok
  refine SWp.seq (Wp.s ?_)
  simp [go_sem, args0]
  refine SWp.seq (Wp.s ?_)
  simp [go_sem]
  refine CC.mono (refPutInt_cc _ _ _ _ _ (by omega)) ?_
  rintro _ _ _ ⟨v', rfl, rfl, rfl⟩
  try simp [go_sem]
  refine SWp.join (α := Unit) (fun _ => ([(5, .sl .sh 1 (bs (l ++ encExts xs)))], H, V)) (fun _ => True) ?_ ?_
  · refine SWp.seq (Wp.s ?_)
    simp [go_sem]
    refine SWp.block ?_
    refine SWp.loop (α := Nat) (fun x => ([(5, .sl .sh 1 (bs (l ++ enc xs.length ++ (xs.take x).flatMap encExt))), (1, .sl tk' 2 (xs.map extC)), (6, ci x)], H, V)) (fun x => x ≤ xs.length) (fun x => xs.length - x) 0 (Nat.zero_le _) (Sh.back (by simp [go_sem]) rfl rfl (by simp [go_sem, okV_slt, hok]) hokH (by simp) (by simp)) ?_
    intro i hi
    refine SWp.seq (Wp.s ?_)
    simp [go_sem]
    refine ⟨fun h => ?_, fun h => Sh.forget ?_ rfl rfl⟩
    · have hone := flat_le (f := encExt) h
      simp only [encExt, List.length_append] at hone
      refine SWp.seq (SWp.block (SWp.drawnL [0, 1, 2, 3, 4, 5, 7, 8, 9, 10, 11, 6, 12, 13] (by kernel_rfl) (by kernel_rfl) rfl ?_))
      simp [go_sem]
      refine ⟨h, ?_⟩
      refine CC.mono (refPutInt_cc _ _ _ _ _ (by simp only [List.length_append]; omega)) ?_
      rintro _ _ _ ⟨v2, rfl, rfl, rfl⟩
      simp [go_sem, h]
      refine CC.mono (refPutInt_cc _ _ _ _ _ (by simp only [List.length_append]; omega)) ?_
      rintro _ _ _ ⟨v2, rfl, rfl, rfl⟩
      simp [go_sem]
      refine Wp.s ?_
      simp [go_sem]
      refine ⟨i + 1, by omega, by omega, Sh.back ?_ rfl rfl (by simp [go_sem, okV_slt, hok]) hokH (by simp) (by simp)⟩
      simp [go_sem, wrap_succ (show i ≤ 1000000000 by omega), flat_take h, encExt]
    · simp [go_sem, encExts]
      rw [List.take_of_length_le h]; exact .refl _
  · rintro _ -
    refine Wp.s ?_
    simp [go_sem]
    exact Fin.pu (.refl _) (by simp [go_sem]) hokH (by simp) (by simp)

theorem refPutWrites_cc (H : Hp) (V : List Nat) (tk tk' : Tk) (l : List UInt8) (xs : List Wr) (hx : xs.length ≤ 900000000) (hl : l.length + (encWrs xs).length ≤ 900000000) :
    CC Try.prog 26 [.sl tk 1 (bs l), .sl tk' 3 (xs.map wrC)] H V (Pu (.sl .sh 1 (bs (l ++ encWrs xs))) H V) := by
  have hel := enc_len xs.length
  simp only [encWrs, List.length_append] at hl
  refine CC.of_swp Try.func26 rfl (by kernel_rfl) (by rw [Try.ntmps26]; exact len_le _ _ rfl) fun hok hokH => ?_
  simp [go_sem, okV_slt] at hok
  refine SWp.seq (Wp.s ?_)
  simp [go_sem, args0]
  refine SWp.seq (Wp.s ?_)
  simp [go_sem]
  refine CC.mono (refPutInt_cc _ _ _ _ _ (by omega)) ?_
  rintro _ _ _ ⟨v', rfl, rfl, rfl⟩
  try simp [go_sem]
  refine SWp.join (α := Unit) (fun _ => ([(5, .sl .sh 1 (bs (l ++ encWrs xs)))], H, V)) (fun _ => True) ?_ ?_
  · refine SWp.seq (Wp.s ?_)
    simp [go_sem]
    refine SWp.block ?_
    refine SWp.loop (α := Nat) (fun x => ([(5, .sl .sh 1 (bs (l ++ enc xs.length ++ (xs.take x).flatMap encWr))), (1, .sl tk' 3 (xs.map wrC)), (6, ci x)], H, V)) (fun x => x ≤ xs.length) (fun x => xs.length - x) 0 (Nat.zero_le _) (Sh.back (by simp [go_sem]) rfl rfl (by simp [go_sem, okV_slt, hok]) hokH (by simp) (by simp)) ?_
    intro i hi
    refine SWp.seq (Wp.s ?_)
    simp [go_sem]
    refine ⟨fun h => ?_, fun h => Sh.forget ?_ rfl rfl⟩
    · have hone := flat_le (f := encWr) h
      simp only [encWr, List.length_append, encSecs_len] at hone
      refine SWp.seq (SWp.block (SWp.drawnL [0, 1, 2, 3, 4, 5, 7, 8, 9, 10, 11, 13, 14, 15, 16, 17, 6, 12, 18, 19] (by kernel_rfl) (by kernel_rfl) rfl ?_))
      simp [go_sem]
      refine ⟨h, ?_⟩
      refine CC.mono (refPutInt_cc _ _ _ _ _ (by simp only [List.length_append]; omega)) ?_
      rintro _ _ _ ⟨v2, rfl, rfl, rfl⟩
      simp [go_sem, h]
      refine CC.mono (refPutInt_cc _ _ _ _ _ (by simp only [List.length_append]; omega)) ?_
      rintro _ _ _ ⟨v2, rfl, rfl, rfl⟩
      try simp [go_sem]
      refine CC.mono (refPutSectors_cc _ _ _ _ _ _ (by simp only [List.length_append]; omega)) ?_
      rintro _ _ _ ⟨v2, rfl, rfl, rfl⟩
      simp [go_sem]
      refine Wp.s ?_
      simp [go_sem]
      refine ⟨i + 1, by omega, by omega, Sh.back ?_ rfl rfl (by simp [go_sem, okV_slt, hok]) hokH (by simp) (by simp)⟩
      simp [go_sem, wrap_succ (show i ≤ 1000000000 by omega), flat_take h, encWr]
    · simp [go_sem, encWrs]
      rw [List.take_of_length_le h]; exact .refl _
  · rintro _ -
    refine Wp.s ?_
    simp [go_sem]
    exact Fin.pu (.refl _) (by simp [go_sem]) hokH (by simp) (by simp)
end Go.Proofs.Ytffjhibomipemaa
