import Derived.Test.YtffjhibomipemaaR2
set_option linter.unusedSimpArgs false
set_option linter.unusedVariables false
namespace Go.Proofs.Ytffjhibomipemaa
open Go.Proofs
/-- A list that is built: nil, or the slice of a token. -/
def outC (o : Option Nat) (k sz : Nat) (xs : List (List CV)) : CV :=
  match o with
  | none => .v (.slice none 0 0)
  | some v => .sl (.own k v) sz xs
def outV (V : List Nat) : Option Nat → List Nat
  | none => V
  | some v => V ++ [v]
@[go_sem] theorem outC_none (k sz : Nat) (xs : List (List CV)) : outC none k sz xs = .v (.slice none 0 0) := rfl
@[go_sem] theorem outC_some (v k sz : Nat) (xs : List (List CV)) : outC (some v) k sz xs = .sl (.own k v) sz xs := rfl
@[go_sem] theorem outV_none (V : List Nat) : outV V none = V := rfl
@[go_sem] theorem outV_some (V : List Nat) (v : Nat) : outV V (some v) = V ++ [v] := rfl
theorem outV_take (V : List Nat) (o : Option Nat) : (outV V o).take V.length = V := by cases o <;> simp [outV]
theorem outC_le {α : Type} {f : α → List CV} (o : Option Nat) (k sz : Nat) (xs : List α) (h0 : 0 < sz) (h : o = none → xs = []) : Le (outC o k sz (xs.map f)) (.sl .sh sz (xs.map f)) := by
  cases o with
  | none => rw [h rfl]; exact .nil sz h0
  | some v => exact .sh ..
theorem okE_app {i j : Nat} (xs ys : List (List CV)) : okE i j (xs ++ ys) = (okE i j xs ∧ okE i j ys) := by
  simp only [okE_iff, List.mem_append]
  exact propext ⟨fun h => ⟨fun e he => h e (.inl he), fun e he => h e (.inr he)⟩, fun ⟨h1, h2⟩ e he => he.elim (h1 e) (h2 e)⟩
theorem snocMap {α : Type} (f : α → List CV) (xs : List α) (a : α) : xs.map f ++ [f a] = (xs ++ [a]).map f := by simp
theorem okH_set {H : Hp} {V : List Nat} {b j : Nat} {tk : Tk} {s : List UInt8} (ht : okTk V.length tk) (hj : V.length ≤ j) (hokH : ∀ (b : Nat) cs, H[b]? = some (some cs) → okL H.length V.length cs) (b' : Nat) (cs : List CV) (h : (H.set b (some [.sl tk 1 (bs s)]))[b']? = some (some cs)) : okL H.length j cs :=
  okL_mono (Nat.le_refl _) hj (ok_set (by simp [go_sem, okV_slt, ht]) hokH b' cs h)
theorem listInt_rd (H : Hp) (V : List Nat) (b : Nat) (tk : Tk) (src : List UInt8) (g : Nat) (p : Pr Int) (hp : Ne0 p) (hs : Shr p)
    (hg : ∀ (H : Hp) (V : List Nat) (b : Nat) (tk : Tk) (src : List UInt8), src.length ≤ 1000000000 → H[b]? = some (some [.sl tk 1 (bs src)]) → CC Try.prog g [.ptr b 0] H V (Rd b tk (fun a => ci a) (· = ci 0) (p src) H V))
    (hl : src.length ≤ 1000000000) (hb : H[b]? = some (some [.sl tk 1 (bs src)])) : CC Try.prog 70 [.ptr b 0, .fn g []] H V (Rd b tk (fun l : List Int => .sl .sh 1 (l.map ic)) (· = .v (.slice none 0 0)) (listP p src) H V) := by
  have hbl := lt_of_box hb
  refine CC.of_swp Try.func70 rfl (by kernel_rfl) (by rw [Try.ntmps70]; exact len_le _ _ rfl) fun hok hokH => ?_
  have ht := tk_of_box hb hokH
  clear hok
  refine SWp.seq (Wp.s ?_)
  simp -implicitDefEqProofs [go_sem, args0]
  refine SWp.seq (Wp.s ?_)
  simp -implicitDefEqProofs [go_sem]
  refine CC.mono (length_rd _ _ _ _ _ hb) ?_
  intro r H' V' h
  unfold Rd at h
  rcases hn : lengthP src with e | ⟨n, s⟩ <;> rw [hn] at h
  · obtain ⟨_, s, ⟨n, rfl⟩, rfl, rfl, rfl⟩ := h
    have he := ne0_length _ _ hn
    simp -implicitDefEqProofs [go_sem]
    refine Wp.s ?_
    simp -implicitDefEqProofs [go_sem, he]
    exact Fin.rdErr (by unfold listP; rw [hn]) (by exact rfl) (by simp [go_sem]) (.refl _) rfl ht hokH take_set (by simp)
  · obtain ⟨rfl, rfl, rfl⟩ := h
    have hn5 := length_le hn
    have hls := shr_length _ _ _ hn
    simp -implicitDefEqProofs [go_sem]
    refine SWp.seq (Wp.s ?_)
    simp -implicitDefEqProofs [go_sem]
    refine SWp.seq (Wp.s ?_)
    simp -implicitDefEqProofs [go_sem]
    refine SWp.join (α := Option Nat × List Int × List UInt8) (fun x => ([(8, outC x.1 V.length 1 (x.2.1.map ic))], H.set b (some [.sl tk 1 (bs x.2.2)]), outV V x.1)) (fun x => (x.1 = none → x.2.1 = []) ∧ listP p src = .ok (x.2.1, x.2.2)) ?_ ?_
    · refine SWp.seq (Wp.s ?_)
      simp -implicitDefEqProofs [go_sem]
      refine SWp.block ?_
      refine SWp.loop (α := Nat × Option Nat × List Int × List UInt8) (fun x => ([(0, .ptr b 0), (1, .fn g []), (19, ci n), (20, ci x.1), (8, outC x.2.1 V.length 1 (x.2.2.1.map ic))], H.set b (some [.sl tk 1 (bs x.2.2.2)]), outV V x.2.1))
        (fun x => x.1 ≤ n ∧ x.2.2.1.length = x.1 ∧ (x.2.1 = none → x.2.2.1 = []) ∧ listP p src = ahead x.2.2.1 (repP p (n - x.1) x.2.2.2) ∧ x.2.2.2.length ≤ 1000000000) (fun x => n - x.1) (0, none, [], s) ⟨Nat.zero_le _, rfl, fun _ => rfl, by unfold listP; rw [hn]; exact (ahead_nil _).symm, by dsimp only; omega⟩
        (Sh.forget (by simp [go_sem]) rfl rfl) ?_
      rintro ⟨i, o, xs, s⟩ ⟨hi, hx, ho, hL, hsl⟩
      dsimp only at hi hx ho hL hsl ⊢
      refine Wp.s ?_
      simp -implicitDefEqProofs [go_sem]
      refine ⟨fun h => ?_, fun h => ?_⟩
      · refine CC.mono (hg _ _ _ _ s hsl (List.getElem?_set_self hbl)) ?_
        intro r H' V' hr
        unfold Rd at hr
        have hnn : n - i = (n - (i + 1)) + 1 := by omega
        rcases hq : p s with e | ⟨a, s'⟩ <;> rw [hq] at hr
        · have he := hp _ _ hq
          obtain ⟨_, s', rfl, rfl, rfl, rfl⟩ := hr
          simp -implicitDefEqProofs [go_sem, he]
          exact Fin.rdErr (by rw [hL, hnn, rep_err hq]) (by exact rfl) (by simp [go_sem]) (.refl _) rfl ht hokH take_set (outV_take _ _)
        · obtain ⟨rfl, rfl, rfl⟩ := hr
          have hs' := hs _ _ _ hq
          have hL' := hL
          rw [hnn, rep_ok hq] at hL'
          have hw := wrap_succ (show i ≤ 1000000000 by omega)
          cases o with
          | none =>
            obtain rfl := ho rfl
            simp -implicitDefEqProofs [go_sem]
            refine ⟨i + 1, some 0, [] ++ [a], s', ⟨by omega, by rw [List.length_append, hx]; rfl, by simp, hL', by omega⟩, by omega, Sh.forget (by simp [go_sem, hw]; exact .refl _) rfl rfl⟩
          | some v =>
            simp -implicitDefEqProofs [go_sem]
            refine ⟨by omega, i + 1, some (v + 1), xs ++ [a], s', ⟨by omega, by rw [List.length_append, hx]; rfl, by simp, hL', by omega⟩, by omega, Sh.forget (by simp [go_sem, hw]; exact .refl _) rfl rfl⟩
      · exact ⟨o, xs, s, ⟨ho, by rw [hL, show n - i = 0 by omega, repP]; simp [ahead]⟩, Sh.forget (by simp [go_sem]) rfl rfl⟩
    · rintro ⟨o, xs, s⟩ ⟨ho, hL⟩
      dsimp only at ho hL ⊢
      refine Wp.s ?_
      simp -implicitDefEqProofs [go_sem]
      exact Fin.rdOk hL (by simp [go_sem]) (by exact outC_le _ _ _ _ (by decide) ho) rfl ht hokH take_set (outV_take _ _)
theorem listSec_rd (H : Hp) (V : List Nat) (b : Nat) (tk : Tk) (src : List UInt8) (g : Nat) (p : Pr Sec) (hp : Ne0 p) (hs : Shr p)
    (hg : ∀ (H : Hp) (V : List Nat) (b : Nat) (tk : Tk) (src : List UInt8), src.length ≤ 1000000000 → H[b]? = some (some [.sl tk 1 (bs src)]) → CC Try.prog g [.ptr b 0] H V (Rd b tk (fun a => .agg (secC a)) (Ag 8) (p src) H V))
    (hl : src.length ≤ 1000000000) (hb : H[b]? = some (some [.sl tk 1 (bs src)])) : CC Try.prog 86 [.ptr b 0, .fn g []] H V (Rd b tk (fun l : List Sec => .sl .sh 8 (l.map secC)) (· = .v (.slice none 0 0)) (listP p src) H V) := by
  have hbl := lt_of_box hb
  refine CC.of_swp Try.func86 rfl (by kernel_rfl) (by rw [Try.ntmps86]; exact len_le _ _ rfl) fun hok hokH => ?_
  have ht := tk_of_box hb hokH
  clear hok
  refine SWp.seq (Wp.s ?_)
  simp -implicitDefEqProofs [go_sem, args0]
  refine SWp.seq (Wp.s ?_)
  simp -implicitDefEqProofs [go_sem]
  refine CC.mono (length_rd _ _ _ _ _ hb) ?_
  intro r H' V' h
  unfold Rd at h
  rcases hn : lengthP src with e | ⟨n, s⟩ <;> rw [hn] at h
  · obtain ⟨_, s, ⟨n, rfl⟩, rfl, rfl, rfl⟩ := h
    have he := ne0_length _ _ hn
    simp -implicitDefEqProofs [go_sem]
    refine Wp.s ?_
    simp -implicitDefEqProofs [go_sem, he]
    exact Fin.rdErr (by unfold listP; rw [hn]) (by exact rfl) (by simp [go_sem]) (.refl _) rfl ht hokH take_set (by simp)
  · obtain ⟨rfl, rfl, rfl⟩ := h
    have hn5 := length_le hn
    have hls := shr_length _ _ _ hn
    simp -implicitDefEqProofs [go_sem]
    refine SWp.seq (Wp.s ?_)
    simp -implicitDefEqProofs [go_sem]
    refine SWp.seq (Wp.s ?_)
    simp -implicitDefEqProofs [go_sem]
    refine SWp.join (α := Option Nat × List Sec × List UInt8) (fun x => ([(8, outC x.1 V.length 8 (x.2.1.map secC))], H.set b (some [.sl tk 1 (bs x.2.2)]), outV V x.1)) (fun x => (x.1 = none → x.2.1 = []) ∧ listP p src = .ok (x.2.1, x.2.2)) ?_ ?_
    · refine SWp.seq (Wp.s ?_)
      simp -implicitDefEqProofs [go_sem]
      refine SWp.block ?_
      refine SWp.loop (α := Nat × Option Nat × List Sec × List UInt8) (fun x => ([(0, .ptr b 0), (1, .fn g []), (19, ci n), (20, ci x.1), (8, outC x.2.1 V.length 8 (x.2.2.1.map secC))], H.set b (some [.sl tk 1 (bs x.2.2.2)]), outV V x.2.1))
        (fun x => x.1 ≤ n ∧ x.2.2.1.length = x.1 ∧ (x.2.1 = none → x.2.2.1 = []) ∧ listP p src = ahead x.2.2.1 (repP p (n - x.1) x.2.2.2) ∧ x.2.2.2.length ≤ 1000000000) (fun x => n - x.1) (0, none, [], s) ⟨Nat.zero_le _, rfl, fun _ => rfl, by unfold listP; rw [hn]; exact (ahead_nil _).symm, by dsimp only; omega⟩
        (Sh.forget (by simp [go_sem]) rfl rfl) ?_
      rintro ⟨i, o, xs, s⟩ ⟨hi, hx, ho, hL, hsl⟩
      dsimp only at hi hx ho hL hsl ⊢
      refine Wp.s ?_
      simp -implicitDefEqProofs [go_sem]
      refine ⟨fun h => ?_, fun h => ?_⟩
      · refine CC.mono (hg _ _ _ _ s hsl (List.getElem?_set_self hbl)) ?_
        intro r H' V' hr
        unfold Rd at hr
        have hnn : n - i = (n - (i + 1)) + 1 := by omega
        rcases hq : p s with e | ⟨a, s'⟩ <;> rw [hq] at hr
        · have he := hp _ _ hq
          obtain ⟨_, s', ⟨cs, rfl, hcs, hall, hokc⟩, rfl, rfl, rfl⟩ := hr
          simp -implicitDefEqProofs [go_sem, hcs, hall, he]
          exact Fin.rdErr (by rw [hL, hnn, rep_err hq]) (by exact rfl) (by simp [go_sem]) (.refl _) rfl ht hokH take_set2 (outV_take _ _)
        · obtain ⟨rfl, rfl, rfl⟩ := hr
          have hs' := hs _ _ _ hq
          have hL' := hL
          rw [hnn, rep_ok hq] at hL'
          have hw := wrap_succ (show i ≤ 1000000000 by omega)
          cases o with
          | none =>
            obtain rfl := ho rfl
            simp -implicitDefEqProofs [go_sem]
            refine ⟨i + 1, some 0, [] ++ [a], s', ⟨by omega, by rw [List.length_append, hx]; rfl, by simp, hL', by omega⟩, by omega, Sh.cut H.length (V.length + 1) (by simp [go_sem, hw]) (Nat.le_refl _) (Nat.le_succ _) (by simp [go_sem, hbl, okE_app]) (okH_set ht (Nat.le_succ _) hokH) take_set2 (List.take_of_length_le (by simp [go_sem]))⟩
          | some v =>
            simp -implicitDefEqProofs [go_sem]
            refine ⟨by omega, i + 1, some (v + 1), xs ++ [a], s', ⟨by omega, by rw [List.length_append, hx]; rfl, by simp, hL', by omega⟩, by omega, Sh.cut H.length (V.length + 1) (by simp [go_sem, hw]) (Nat.le_refl _) (Nat.le_succ _) (by simp [go_sem, hbl, okE_app]) (okH_set ht (Nat.le_succ _) hokH) take_set2 (List.take_of_length_le (by simp [go_sem]))⟩
      · exact ⟨o, xs, s, ⟨ho, by rw [hL, show n - i = 0 by omega, repP]; simp [ahead]⟩, Sh.forget (by simp [go_sem]) rfl rfl⟩
    · rintro ⟨o, xs, s⟩ ⟨ho, hL⟩
      dsimp only at ho hL ⊢
      refine Wp.s ?_
      simp -implicitDefEqProofs [go_sem]
      exact Fin.rdOk hL (by simp [go_sem]) (by exact outC_le _ _ _ _ (by decide) ho) rfl ht hokH take_set (outV_take _ _)
theorem int_rd (H : Hp) (V : List Nat) (b : Nat) (tk : Tk) (src : List UInt8) (hb : H[b]? = some (some [.sl tk 1 (bs src)])) :
    CC Try.prog 61 [.ptr b 0] H V (Rd b tk (fun n : Int => ci n) (· = ci 0) (intP src) H V) := by
  refine CC.mono (number_rd _ _ _ _ _ hb) fun r H' V' h => ?_
  unfold Rd at h ⊢
  unfold intP
  rcases hq : number src with e | ⟨n, s⟩ <;> rw [hq] at h <;> exact h
theorem ints_rd (H : Hp) (V : List Nat) (b : Nat) (tk : Tk) (src : List UInt8) (hl : src.length ≤ 1000000000) (hb : H[b]? = some (some [.sl tk 1 (bs src)])) :
    CC Try.prog 69 [.ptr b 0] H V (Rd b tk (fun l : List Int => .sl .sh 1 (l.map ic)) (· = .v (.slice none 0 0)) (listP intP src) H V) := by
  have hbl := lt_of_box hb
  refine CC.of_swp Try.func69 rfl (by kernel_rfl) (by rw [Try.ntmps69]; exact len_le _ _ rfl) fun hok hokH => ?_
  have ht := tk_of_box hb hokH
  refine SWp.seq (Wp.s ?_)
  simp -implicitDefEqProofs [go_sem, args0]
  refine Wp.s ?_
  simp -implicitDefEqProofs [go_sem]
  refine CC.mono (listInt_rd _ _ _ _ _ _ _ ne0_int shr_int (fun H V b tk src _ hb => int_rd H V b tk src hb) hl hb) ?_
  intro r H' V' h
  unfold Rd at h
  rcases hn : listP intP src with e | ⟨l, s⟩ <;> rw [hn] at h
  · obtain ⟨_, s, rfl, rfl, rfl, rfl⟩ := h
    simp -implicitDefEqProofs [go_sem]
    exact Fin.rdErr rfl (by exact rfl) (by simp [go_sem]) (.refl _) rfl ht hokH take_set (by simp)
  · obtain ⟨rfl, rfl, rfl⟩ := h
    simp -implicitDefEqProofs [go_sem]
    exact Fin.rdOk rfl (by simp [go_sem]) (.refl _) rfl ht hokH take_set (by simp)
theorem sectors_rd (H : Hp) (V : List Nat) (b : Nat) (tk : Tk) (src : List UInt8) (hl : src.length ≤ 1000000000) (hb : H[b]? = some (some [.sl tk 1 (bs src)])) :
    CC Try.prog 67 [.ptr b 0] H V (Rd b tk (fun l : List Sec => .sl .sh 8 (l.map secC)) (· = .v (.slice none 0 0)) (listP secP src) H V) := by
  have hbl := lt_of_box hb
  refine CC.of_swp Try.func67 rfl (by kernel_rfl) (by rw [Try.ntmps67]; exact len_le _ _ rfl) fun hok hokH => ?_
  have ht := tk_of_box hb hokH
  refine SWp.seq (Wp.s ?_)
  simp -implicitDefEqProofs [go_sem, args0]
  refine Wp.s ?_
  simp -implicitDefEqProofs [go_sem]
  refine CC.mono (listSec_rd _ _ _ _ _ _ _ ne0_sec shr_sec (fun H V b tk src _ hb => sector_rd H V b tk src hb) hl hb) ?_
  intro r H' V' h
  unfold Rd at h
  rcases hn : listP secP src with e | ⟨l, s⟩ <;> rw [hn] at h
  · obtain ⟨_, s, rfl, rfl, rfl, rfl⟩ := h
    simp -implicitDefEqProofs [go_sem]
    exact Fin.rdErr rfl (by exact rfl) (by simp [go_sem]) (.refl _) rfl ht hokH take_set (by simp)
  · obtain ⟨rfl, rfl, rfl⟩ := h
    simp -implicitDefEqProofs [go_sem]
    exact Fin.rdOk rfl (by simp [go_sem]) (.refl _) rfl ht hokH take_set (by simp)
theorem extent_rd (H : Hp) (V : List Nat) (b : Nat) (tk : Tk) (src : List UInt8) (hl : src.length ≤ 1000000000) (hb : H[b]? = some (some [.sl tk 1 (bs src)])) :
    CC Try.prog 76 [.ptr b 0] H V (Rd b tk (fun x : Ext2 => .agg (extC x)) (Ag 2) (extP src) H V) := by
  have hbl := lt_of_box hb
  refine CC.of_swp Try.func76 rfl (by kernel_rfl) (by rw [Try.ntmps76]; exact len_le _ _ rfl) fun hok hokH => ?_
  have ht := tk_of_box hb hokH
  refine SWp.seq (Wp.s ?_)
  simp -implicitDefEqProofs [go_sem, args0]
  refine SWp.seq (Wp.s ?_)
  simp -implicitDefEqProofs [go_sem]
  refine CC.mono (pair_rd _ _ _ _ _ (by rw [List.getElem?_append_left hbl]; exact hb)) ?_
  intro r H' V' h
  unfold Rd3 at h
  rcases hn : pairP src with e | ⟨⟨m, n⟩, s⟩ <;> rw [hn] at h
  · obtain ⟨m, n, s, rfl, rfl, rfl⟩ := h
    simp -implicitDefEqProofs [go_sem, set_left hbl]
    refine Wp.s ?_
    simp -implicitDefEqProofs [go_sem]
    exact Fin.rdErr (by unfold extP; rw [hn]) (by exact ⟨_, rfl, rfl, rfl, fun i j => by simp [go_sem]⟩) (by simp [go_sem]) (.refl _) rfl ht hokH take_set2 (by simp)
  · obtain ⟨rfl, rfl, rfl⟩ := h
    simp -implicitDefEqProofs [go_sem, set_left hbl]
    refine Wp.s ?_
    simp -implicitDefEqProofs [go_sem]
    exact Fin.rdOk (val := fun x : Ext2 => .agg (extC x)) (a := ⟨m, n⟩) (by unfold extP; rw [hn]) (by simp [go_sem]) (.refl _) rfl ht hokH take_set2 (by simp)
theorem listExt_rd (H : Hp) (V : List Nat) (b : Nat) (tk : Tk) (src : List UInt8) (g : Nat) (p : Pr Ext2) (hp : Ne0 p) (hs : Shr p)
    (hg : ∀ (H : Hp) (V : List Nat) (b : Nat) (tk : Tk) (src : List UInt8), src.length ≤ 1000000000 → H[b]? = some (some [.sl tk 1 (bs src)]) → CC Try.prog g [.ptr b 0] H V (Rd b tk (fun a => .agg (extC a)) (Ag 2) (p src) H V))
    (hl : src.length ≤ 1000000000) (hb : H[b]? = some (some [.sl tk 1 (bs src)])) : CC Try.prog 75 [.ptr b 0, .fn g []] H V (Rd b tk (fun l : List Ext2 => .sl .sh 2 (l.map extC)) (· = .v (.slice none 0 0)) (listP p src) H V) := by
  have hbl := lt_of_box hb
  refine CC.of_swp Try.func75 rfl (by kernel_rfl) (by rw [Try.ntmps75]; exact len_le _ _ rfl) fun hok hokH => ?_
  have ht := tk_of_box hb hokH
  clear hok
  refine SWp.seq (Wp.s ?_)
  simp -implicitDefEqProofs [go_sem, args0]
  refine SWp.seq (Wp.s ?_)
  simp -implicitDefEqProofs [go_sem]
  refine CC.mono (length_rd _ _ _ _ _ hb) ?_
  intro r H' V' h
  unfold Rd at h
  rcases hn : lengthP src with e | ⟨n, s⟩ <;> rw [hn] at h
  · obtain ⟨_, s, ⟨n, rfl⟩, rfl, rfl, rfl⟩ := h
    have he := ne0_length _ _ hn
    simp -implicitDefEqProofs [go_sem]
    refine Wp.s ?_
    simp -implicitDefEqProofs [go_sem, he]
    exact Fin.rdErr (by unfold listP; rw [hn]) (by exact rfl) (by simp [go_sem]) (.refl _) rfl ht hokH take_set (by simp)
  · obtain ⟨rfl, rfl, rfl⟩ := h
    have hn5 := length_le hn
    have hls := shr_length _ _ _ hn
    simp -implicitDefEqProofs [go_sem]
    refine SWp.seq (Wp.s ?_)
    simp -implicitDefEqProofs [go_sem]
    refine SWp.seq (Wp.s ?_)
    simp -implicitDefEqProofs [go_sem]
    refine SWp.join (α := Option Nat × List Ext2 × List UInt8) (fun x => ([(8, outC x.1 V.length 2 (x.2.1.map extC))], H.set b (some [.sl tk 1 (bs x.2.2)]), outV V x.1)) (fun x => (x.1 = none → x.2.1 = []) ∧ listP p src = .ok (x.2.1, x.2.2)) ?_ ?_
    · refine SWp.seq (Wp.s ?_)
      simp -implicitDefEqProofs [go_sem]
      refine SWp.block ?_
      refine SWp.loop (α := Nat × Option Nat × List Ext2 × List UInt8) (fun x => ([(0, .ptr b 0), (1, .fn g []), (19, ci n), (20, ci x.1), (8, outC x.2.1 V.length 2 (x.2.2.1.map extC))], H.set b (some [.sl tk 1 (bs x.2.2.2)]), outV V x.2.1))
        (fun x => x.1 ≤ n ∧ x.2.2.1.length = x.1 ∧ (x.2.1 = none → x.2.2.1 = []) ∧ listP p src = ahead x.2.2.1 (repP p (n - x.1) x.2.2.2) ∧ x.2.2.2.length ≤ 1000000000) (fun x => n - x.1) (0, none, [], s) ⟨Nat.zero_le _, rfl, fun _ => rfl, by unfold listP; rw [hn]; exact (ahead_nil _).symm, by dsimp only; omega⟩
        (Sh.forget (by simp [go_sem]) rfl rfl) ?_
      rintro ⟨i, o, xs, s⟩ ⟨hi, hx, ho, hL, hsl⟩
      dsimp only at hi hx ho hL hsl ⊢
      refine Wp.s ?_
      simp -implicitDefEqProofs [go_sem]
      refine ⟨fun h => ?_, fun h => ?_⟩
      · refine CC.mono (hg _ _ _ _ s hsl (List.getElem?_set_self hbl)) ?_
        intro r H' V' hr
        unfold Rd at hr
        have hnn : n - i = (n - (i + 1)) + 1 := by omega
        rcases hq : p s with e | ⟨a, s'⟩ <;> rw [hq] at hr
        · have he := hp _ _ hq
          obtain ⟨_, s', ⟨cs, rfl, hcs, hall, hokc⟩, rfl, rfl, rfl⟩ := hr
          simp -implicitDefEqProofs [go_sem, hcs, hall, he]
          exact Fin.rdErr (by rw [hL, hnn, rep_err hq]) (by exact rfl) (by simp [go_sem]) (.refl _) rfl ht hokH take_set2 (outV_take _ _)
        · obtain ⟨rfl, rfl, rfl⟩ := hr
          have hs' := hs _ _ _ hq
          have hL' := hL
          rw [hnn, rep_ok hq] at hL'
          have hw := wrap_succ (show i ≤ 1000000000 by omega)
          cases o with
          | none =>
            obtain rfl := ho rfl
            simp -implicitDefEqProofs [go_sem]
            refine ⟨i + 1, some 0, [] ++ [a], s', ⟨by omega, by rw [List.length_append, hx]; rfl, by simp, hL', by omega⟩, by omega, Sh.cut H.length (V.length + 1) (by simp [go_sem, hw]) (Nat.le_refl _) (Nat.le_succ _) (by simp [go_sem, hbl, okE_app]) (okH_set ht (Nat.le_succ _) hokH) take_set2 (List.take_of_length_le (by simp [go_sem]))⟩
          | some v =>
            simp -implicitDefEqProofs [go_sem]
            refine ⟨by omega, i + 1, some (v + 1), xs ++ [a], s', ⟨by omega, by rw [List.length_append, hx]; rfl, by simp, hL', by omega⟩, by omega, Sh.cut H.length (V.length + 1) (by simp [go_sem, hw]) (Nat.le_refl _) (Nat.le_succ _) (by simp [go_sem, hbl, okE_app]) (okH_set ht (Nat.le_succ _) hokH) take_set2 (List.take_of_length_le (by simp [go_sem]))⟩
      · exact ⟨o, xs, s, ⟨ho, by rw [hL, show n - i = 0 by omega, repP]; simp [ahead]⟩, Sh.forget (by simp [go_sem]) rfl rfl⟩
    · rintro ⟨o, xs, s⟩ ⟨ho, hL⟩
      dsimp only at ho hL ⊢
      refine Wp.s ?_
      simp -implicitDefEqProofs [go_sem]
      exact Fin.rdOk hL (by simp [go_sem]) (by exact outC_le _ _ _ _ (by decide) ho) rfl ht hokH take_set (outV_take _ _)
theorem extents_rd (H : Hp) (V : List Nat) (b : Nat) (tk : Tk) (src : List UInt8) (hl : src.length ≤ 1000000000) (hb : H[b]? = some (some [.sl tk 1 (bs src)])) :
    CC Try.prog 74 [.ptr b 0] H V (Rd b tk (fun l : List Ext2 => .sl .sh 2 (l.map extC)) (· = .v (.slice none 0 0)) (listP extP src) H V) := by
  have hbl := lt_of_box hb
  refine CC.of_swp Try.func74 rfl (by kernel_rfl) (by rw [Try.ntmps74]; exact len_le _ _ rfl) fun hok hokH => ?_
  have ht := tk_of_box hb hokH
  refine SWp.seq (Wp.s ?_)
  simp -implicitDefEqProofs [go_sem, args0]
  refine Wp.s ?_
  simp -implicitDefEqProofs [go_sem]
  refine CC.mono (listExt_rd _ _ _ _ _ _ _ ne0_ext shr_ext (fun H V b tk src hl hb => extent_rd H V b tk src hl hb) hl hb) ?_
  intro r H' V' h
  unfold Rd at h
  rcases hn : listP extP src with e | ⟨l, s⟩ <;> rw [hn] at h
  · obtain ⟨_, s, rfl, rfl, rfl, rfl⟩ := h
    simp -implicitDefEqProofs [go_sem]
    exact Fin.rdErr rfl (by exact rfl) (by simp [go_sem]) (.refl _) rfl ht hokH take_set (by simp)
  · obtain ⟨rfl, rfl, rfl⟩ := h
    simp -implicitDefEqProofs [go_sem]
    exact Fin.rdOk rfl (by simp [go_sem]) (.refl _) rfl ht hokH take_set (by simp)
theorem write_rd (H : Hp) (V : List Nat) (b : Nat) (tk : Tk) (src : List UInt8) (hl : src.length ≤ 1000000000) (hb : H[b]? = some (some [.sl tk 1 (bs src)])) :
    CC Try.prog 65 [.ptr b 0] H V (Rd b tk (fun x : Wr => .agg (wrC x)) (Ag 3) (wrP src) H V) := by
  have hbl := lt_of_box hb
  refine CC.of_swp Try.func65 rfl (by kernel_rfl) (by rw [Try.ntmps65]; exact len_le _ _ rfl) fun hok hokH => ?_
  have ht := tk_of_box hb hokH
  refine SWp.seq (Wp.s ?_)
  simp -implicitDefEqProofs [go_sem, args0]
  refine SWp.seq (Wp.s ?_)
  simp -implicitDefEqProofs [go_sem]
  refine CC.mono (pair_rd _ _ _ _ _ (by rw [List.getElem?_append_left hbl]; exact hb)) ?_
  intro r H' V' h
  unfold Rd3 at h
  rcases hn : pairP src with e | ⟨⟨m, n⟩, s⟩ <;> rw [hn] at h
  · have he := ne0_pair _ _ hn
    obtain ⟨m, n, s, rfl, rfl, rfl⟩ := h
    simp -implicitDefEqProofs [go_sem, set_left hbl]
    refine Wp.s ?_
    simp -implicitDefEqProofs [go_sem, he]
    exact Fin.rdErr (by unfold wrP; rw [hn]) (by exact ⟨_, rfl, rfl, rfl, fun i j => by simp [go_sem]⟩) (by simp [go_sem]) (.refl _) rfl ht hokH take_set2 (by simp)
  · obtain ⟨rfl, rfl, rfl⟩ := h
    have hls := shr_pair _ _ _ hn
    simp -implicitDefEqProofs [go_sem, set_left hbl]
    refine Wp.s ?_
    simp -implicitDefEqProofs [go_sem]
    refine CC.mono (sectors_rd _ _ _ _ s (by omega) (by rw [List.getElem?_append_left (by simpa using hbl)]; exact List.getElem?_set_self hbl)) ?_
    intro r H' V' h
    unfold Rd at h
    rcases hm : listP secP s with e | ⟨l, s'⟩ <;> rw [hm] at h
    · obtain ⟨_, s', rfl, rfl, rfl, rfl⟩ := h
      simp -implicitDefEqProofs [go_sem, set_left hbl, set_left (H := H.set b _) (by simpa using hbl : b < (H.set b _).length)]
      exact Fin.rdErr (by unfold wrP; rw [hn]; dsimp only; rw [hm]) (by exact ⟨_, rfl, rfl, rfl, fun i j => by simp [go_sem]⟩) (by simp [go_sem]) (.refl _) rfl ht hokH take_set2 (by simp)
    · obtain ⟨rfl, rfl, rfl⟩ := h
      simp -implicitDefEqProofs [go_sem, set_left hbl, set_left (H := H.set b _) (by simpa using hbl : b < (H.set b _).length)]
      exact Fin.rdOk (val := fun x : Wr => .agg (wrC x)) (a := ⟨m, n, l⟩) (by unfold wrP; rw [hn]; dsimp only; rw [hm]) (by simp [go_sem]) (.refl _) rfl ht hokH take_set2 (by simp)
theorem listWr_rd (H : Hp) (V : List Nat) (b : Nat) (tk : Tk) (src : List UInt8) (g : Nat) (p : Pr Wr) (hp : Ne0 p) (hs : Shr p)
    (hg : ∀ (H : Hp) (V : List Nat) (b : Nat) (tk : Tk) (src : List UInt8), src.length ≤ 1000000000 → H[b]? = some (some [.sl tk 1 (bs src)]) → CC Try.prog g [.ptr b 0] H V (Rd b tk (fun a => .agg (wrC a)) (Ag 3) (p src) H V))
    (hl : src.length ≤ 1000000000) (hb : H[b]? = some (some [.sl tk 1 (bs src)])) : CC Try.prog 64 [.ptr b 0, .fn g []] H V (Rd b tk (fun l : List Wr => .sl .sh 3 (l.map wrC)) (· = .v (.slice none 0 0)) (listP p src) H V) := by
  have hbl := lt_of_box hb
  refine CC.of_swp Try.func64 rfl (by kernel_rfl) (by rw [Try.ntmps64]; exact len_le _ _ rfl) fun hok hokH => ?_
  have ht := tk_of_box hb hokH
  clear hok
  refine SWp.seq (Wp.s ?_)
  simp -implicitDefEqProofs [go_sem, args0]
  refine SWp.seq (Wp.s ?_)
  simp -implicitDefEqProofs [go_sem]
  refine CC.mono (length_rd _ _ _ _ _ hb) ?_
  intro r H' V' h
  unfold Rd at h
  rcases hn : lengthP src with e | ⟨n, s⟩ <;> rw [hn] at h
  · obtain ⟨_, s, ⟨n, rfl⟩, rfl, rfl, rfl⟩ := h
    have he := ne0_length _ _ hn
    simp -implicitDefEqProofs [go_sem]
    refine Wp.s ?_
    simp -implicitDefEqProofs [go_sem, he]
    exact Fin.rdErr (by unfold listP; rw [hn]) (by exact rfl) (by simp [go_sem]) (.refl _) rfl ht hokH take_set (by simp)
  · obtain ⟨rfl, rfl, rfl⟩ := h
    have hn5 := length_le hn
    have hls := shr_length _ _ _ hn
    simp -implicitDefEqProofs [go_sem]
    refine SWp.seq (Wp.s ?_)
    simp -implicitDefEqProofs [go_sem]
    refine SWp.seq (Wp.s ?_)
    simp -implicitDefEqProofs [go_sem]
    refine SWp.join (α := Option Nat × List Wr × List UInt8) (fun x => ([(8, outC x.1 V.length 3 (x.2.1.map wrC))], H.set b (some [.sl tk 1 (bs x.2.2)]), outV V x.1)) (fun x => (x.1 = none → x.2.1 = []) ∧ listP p src = .ok (x.2.1, x.2.2)) ?_ ?_
    · refine SWp.seq (Wp.s ?_)
      simp -implicitDefEqProofs [go_sem]
      refine SWp.block ?_
      refine SWp.loop (α := Nat × Option Nat × List Wr × List UInt8) (fun x => ([(0, .ptr b 0), (1, .fn g []), (19, ci n), (20, ci x.1), (8, outC x.2.1 V.length 3 (x.2.2.1.map wrC))], H.set b (some [.sl tk 1 (bs x.2.2.2)]), outV V x.2.1))
        (fun x => x.1 ≤ n ∧ x.2.2.1.length = x.1 ∧ (x.2.1 = none → x.2.2.1 = []) ∧ listP p src = ahead x.2.2.1 (repP p (n - x.1) x.2.2.2) ∧ x.2.2.2.length ≤ 1000000000) (fun x => n - x.1) (0, none, [], s) ⟨Nat.zero_le _, rfl, fun _ => rfl, by unfold listP; rw [hn]; exact (ahead_nil _).symm, by dsimp only; omega⟩
        (Sh.forget (by simp [go_sem]) rfl rfl) ?_
      rintro ⟨i, o, xs, s⟩ ⟨hi, hx, ho, hL, hsl⟩
      dsimp only at hi hx ho hL hsl ⊢
      refine Wp.s ?_
      simp -implicitDefEqProofs [go_sem]
      refine ⟨fun h => ?_, fun h => ?_⟩
      · refine CC.mono (hg _ _ _ _ s hsl (List.getElem?_set_self hbl)) ?_
        intro r H' V' hr
        unfold Rd at hr
        have hnn : n - i = (n - (i + 1)) + 1 := by omega
        rcases hq : p s with e | ⟨a, s'⟩ <;> rw [hq] at hr
        · have he := hp _ _ hq
          obtain ⟨_, s', ⟨cs, rfl, hcs, hall, hokc⟩, rfl, rfl, rfl⟩ := hr
          simp -implicitDefEqProofs [go_sem, hcs, hall, he]
          exact Fin.rdErr (by rw [hL, hnn, rep_err hq]) (by exact rfl) (by simp [go_sem]) (.refl _) rfl ht hokH take_set2 (outV_take _ _)
        · obtain ⟨rfl, rfl, rfl⟩ := hr
          have hs' := hs _ _ _ hq
          have hL' := hL
          rw [hnn, rep_ok hq] at hL'
          have hw := wrap_succ (show i ≤ 1000000000 by omega)
          cases o with
          | none =>
            obtain rfl := ho rfl
            simp -implicitDefEqProofs [go_sem]
            refine ⟨i + 1, some 0, [] ++ [a], s', ⟨by omega, by rw [List.length_append, hx]; rfl, by simp, hL', by omega⟩, by omega, Sh.cut H.length (V.length + 1) (by simp [go_sem, hw]) (Nat.le_refl _) (Nat.le_succ _) (by simp [go_sem, hbl, okE_app]) (okH_set ht (Nat.le_succ _) hokH) take_set2 (List.take_of_length_le (by simp [go_sem]))⟩
          | some v =>
            simp -implicitDefEqProofs [go_sem]
            refine ⟨by omega, i + 1, some (v + 1), xs ++ [a], s', ⟨by omega, by rw [List.length_append, hx]; rfl, by simp, hL', by omega⟩, by omega, Sh.cut H.length (V.length + 1) (by simp [go_sem, hw]) (Nat.le_refl _) (Nat.le_succ _) (by simp [go_sem, hbl, okE_app]) (okH_set ht (Nat.le_succ _) hokH) take_set2 (List.take_of_length_le (by simp [go_sem]))⟩
      · exact ⟨o, xs, s, ⟨ho, by rw [hL, show n - i = 0 by omega, repP]; simp [ahead]⟩, Sh.forget (by simp [go_sem]) rfl rfl⟩
    · rintro ⟨o, xs, s⟩ ⟨ho, hL⟩
      dsimp only at ho hL ⊢
      refine Wp.s ?_
      simp -implicitDefEqProofs [go_sem]
      exact Fin.rdOk hL (by simp [go_sem]) (by exact outC_le _ _ _ _ (by decide) ho) rfl ht hokH take_set (outV_take _ _)
theorem writes_rd (H : Hp) (V : List Nat) (b : Nat) (tk : Tk) (src : List UInt8) (hl : src.length ≤ 1000000000) (hb : H[b]? = some (some [.sl tk 1 (bs src)])) :
    CC Try.prog 63 [.ptr b 0] H V (Rd b tk (fun l : List Wr => .sl .sh 3 (l.map wrC)) (· = .v (.slice none 0 0)) (listP wrP src) H V) := by
  have hbl := lt_of_box hb
  refine CC.of_swp Try.func63 rfl (by kernel_rfl) (by rw [Try.ntmps63]; exact len_le _ _ rfl) fun hok hokH => ?_
  have ht := tk_of_box hb hokH
  refine SWp.seq (Wp.s ?_)
  simp -implicitDefEqProofs [go_sem, args0]
  refine Wp.s ?_
  simp -implicitDefEqProofs [go_sem]
  refine CC.mono (listWr_rd _ _ _ _ _ _ _ ne0_wr shr_wr (fun H V b tk src hl hb => write_rd H V b tk src hl hb) hl hb) ?_
  intro r H' V' h
  unfold Rd at h
  rcases hn : listP wrP src with e | ⟨l, s⟩ <;> rw [hn] at h
  · obtain ⟨_, s, rfl, rfl, rfl, rfl⟩ := h
    simp -implicitDefEqProofs [go_sem]
    exact Fin.rdErr rfl (by exact rfl) (by simp [go_sem]) (.refl _) rfl ht hokH take_set (by simp)
  · obtain ⟨rfl, rfl, rfl⟩ := h
    simp -implicitDefEqProofs [go_sem]
    exact Fin.rdOk rfl (by simp [go_sem]) (.refl _) rfl ht hokH take_set (by simp)
end Go.Proofs.Ytffjhibomipemaa
