import Derived.Test.YtfbjhkpdlihgeaaGreatA4
import Derived.WalkSmall
set_option linter.unusedSimpArgs false
set_option linter.unusedVariables false
set_option linter.unusedSectionVars false
namespace Go.Proofs.YtfbjhkpdlihgeaaGreat
open Go.Proofs
/-- A list that is built: nil, or the slice of a token. -/
def outC (o : Option Nat) (k sz : Nat) (xs : List (List CV)) : CV :=
  match o with
  | none => .v (.slice none 0 0)
  | some v => .sl (.own k v) sz xs
def outV (V : List Nat) : Option Nat → List Nat
  | none => V
  | some v => V ++ [v]
@[go_sem] theorem outC_none (k sz : Nat) (xs : List (List CV)) : outC none k sz xs = .v (.slice none 0 0) := rfl
@[go_sem] theorem outC_some (v k sz : Nat) (xs : List (List CV)) : outC (some v) k sz xs = .sl (.own k v) sz xs := rfl
@[go_sem] theorem outV_none (V : List Nat) : outV V none = V := rfl
@[go_sem] theorem outV_some (V : List Nat) (v : Nat) : outV V (some v) = V ++ [v] := rfl
theorem outV_take (V : List Nat) (o : Option Nat) : (outV V o).take V.length = V := by cases o <;> simp [outV]
theorem outC_le {α : Type} {f : α → List CV} (o : Option Nat) (k sz : Nat) (xs : List α) (h0 : 0 < sz) (h : o = none → xs = []) : Le (outC o k sz (xs.map f)) (.sl .sh sz (xs.map f)) := by
  cases o with
  | none => rw [h rfl]; exact .nil sz h0
  | some v => exact .sh ..
theorem okE_app {i j : Nat} (xs ys : List (List CV)) : okE i j (xs ++ ys) = (okE i j xs ∧ okE i j ys) := by
  simp only [okE_iff, List.mem_append]
  exact propext ⟨fun h => ⟨fun e he => h e (.inl he), fun e he => h e (.inr he)⟩, fun ⟨h1, h2⟩ e he => he.elim (h1 e) (h2 e)⟩
theorem snocMap {α : Type} (f : α → List CV) (xs : List α) (a : α) : xs.map f ++ [f a] = (xs ++ [a]).map f := by simp
theorem okH_set {H : Hp} {V : List Nat} {b j : Nat} {tk : Tk} {s : List UInt8} (ht : okTk V.length tk) (hj : V.length ≤ j) (hokH : ∀ (b : Nat) cs, H[b]? = some (some cs) → okL H.length V.length cs) (b' : Nat) (cs : List CV) (h : (H.set b (some [.sl tk 1 (bs s)]))[b']? = some (some cs)) : okL H.length j cs :=
  okL_mono (Nat.le_refl _) hj (ok_set (by simp -implicitDefEqProofs [go_sem, okV_slt, ht]) hokH b' cs h)
theorem listInt_rd (H : Hp) (V : List Nat) (b : Nat) (tk : Tk) (src : List UInt8) (g : Nat) (p : Pr Int) (hp : Ne0 p) (hs : Shr p)
    (hg : ∀ (H : Hp) (V : List Nat) (b : Nat) (tk : Tk) (src : List UInt8), src.length ≤ 1000000000 → H[b]? = some (some [.sl tk 1 (bs src)]) → CC Tryz.prog g [.ptr b 0] H V (Rd b tk (fun a => ci a) (· = ci 0) (p src) H V))
    (hl : src.length ≤ 1000000000) (hb : H[b]? = some (some [.sl tk 1 (bs src)])) : CC Tryz.prog 86 [.ptr b 0, .fn g []] H V (Rd b tk (fun l : List Int => .sl .sh 1 (l.map ic)) (· = .v (.slice none 0 0)) (listP p src) H V) := by
  have hbl := lt_of_box hb
  refine CC.of_swp Tryz.func86 rfl (by kernel_rfl) (by rw [Tryz.ntmps86]; exact len_le _ _ rfl) fun hok hokH => ?_
  have ht := tk_of_box hb hokH
  clear hok
  refine SWp.seq (Wp.s ?_)
  simp -implicitDefEqProofs [go_sem, args0]
  refine SWp.seq (Wp.s ?_)
  simp -implicitDefEqProofs [go_sem]
  refine CC.mono (length_rd _ _ _ _ _ hb) ?_
  intro r H' V' h
  unfold Rd at h
  rcases hn : lengthP src with e | ⟨n, s⟩ <;> rw [hn] at h
  · obtain ⟨_, s, ⟨n, rfl⟩, rfl, rfl, rfl⟩ := h
    have he := ne0_length _ _ hn
    simp -implicitDefEqProofs [go_sem]
    refine Wp.s ?_
    simp -implicitDefEqProofs [go_sem, he]
    exact Fin.rdErr (by unfold listP; rw [hn]) (by exact rfl) (by simp -implicitDefEqProofs [go_sem]) (.refl _) rfl ht hokH take_set (by simp)
  · obtain ⟨rfl, rfl, rfl⟩ := h
    have hn5 := length_le hn
    have hls := shr_length _ _ _ hn
    simp -implicitDefEqProofs [go_sem]
    refine SWp.seq (Wp.s ?_)
    simp -implicitDefEqProofs [go_sem]
    refine SWp.seq (Wp.s ?_)
    simp -implicitDefEqProofs [go_sem]
    refine SWp.join (α := Option Nat × List Int × List UInt8) (fun x => ([(8, outC x.1 V.length 1 (x.2.1.map ic))], H.set b (some [.sl tk 1 (bs x.2.2)]), outV V x.1)) (fun x => (x.1 = none → x.2.1 = []) ∧ listP p src = .ok (x.2.1, x.2.2)) ?_ ?_
    · refine SWp.seq (Wp.s ?_)
      simp -implicitDefEqProofs [go_sem]
      refine SWp.block ?_
      refine SWp.loop (α := Nat × Option Nat × List Int × List UInt8) (fun x => ([(0, .ptr b 0), (1, .fn g []), (19, ci n), (20, ci x.1), (8, outC x.2.1 V.length 1 (x.2.2.1.map ic))], H.set b (some [.sl tk 1 (bs x.2.2.2)]), outV V x.2.1))
        (fun x => x.1 ≤ n ∧ x.2.2.1.length = x.1 ∧ (x.2.1 = none → x.2.2.1 = []) ∧ listP p src = ahead x.2.2.1 (repP p (n - x.1) x.2.2.2) ∧ x.2.2.2.length ≤ 1000000000) (fun x => n - x.1) (0, none, [], s) ⟨Nat.zero_le _, rfl, fun _ => rfl, by unfold listP; rw [hn]; exact (ahead_nil _).symm, by dsimp only; omega⟩
        (Sh.forget (by simp -implicitDefEqProofs [go_sem]) rfl rfl) ?_
      rintro ⟨i, o, xs, s⟩ ⟨hi, hx, ho, hL, hsl⟩
      dsimp only at hi hx ho hL hsl ⊢
      refine Wp.s ?_
      simp -implicitDefEqProofs [go_sem]
      refine ⟨fun h => ?_, fun h => ?_⟩
      · refine CC.mono (hg _ _ _ _ s hsl (List.getElem?_set_self hbl)) ?_
        intro r H' V' hr
        unfold Rd at hr
        have hnn : n - i = (n - (i + 1)) + 1 := by omega
        rcases hq : p s with e | ⟨a, s'⟩ <;> rw [hq] at hr
        · have he := hp _ _ hq
          obtain ⟨_, s', rfl, rfl, rfl, rfl⟩ := hr
          simp -implicitDefEqProofs [go_sem, he]
          exact Fin.rdErr (by rw [hL, hnn, rep_err hq]) (by exact rfl) (by simp -implicitDefEqProofs [go_sem]) (.refl _) rfl ht hokH take_set (outV_take _ _)
        · obtain ⟨rfl, rfl, rfl⟩ := hr
          have hs' := hs _ _ _ hq
          have hL' := hL
          rw [hnn, rep_ok hq] at hL'
          have hw := wrap_succ (show i ≤ 1000000000 by omega)
          cases o with
          | none =>
            obtain rfl := ho rfl
            simp -implicitDefEqProofs [go_sem]
            refine ⟨i + 1, some 0, [] ++ [a], s', ⟨by omega, by rw [List.length_append, hx]; rfl, by simp, hL', by omega⟩, by omega, Sh.forget (by simp -implicitDefEqProofs [go_sem, hw]; exact .refl _) rfl rfl⟩
          | some v =>
            simp -implicitDefEqProofs [go_sem]
            refine ⟨by omega, i + 1, some (v + 1), xs ++ [a], s', ⟨by omega, by rw [List.length_append, hx]; rfl, by simp, hL', by omega⟩, by omega, Sh.forget (by simp -implicitDefEqProofs [go_sem, hw]; exact .refl _) rfl rfl⟩
      · exact ⟨o, xs, s, ⟨ho, by rw [hL, show n - i = 0 by omega, repP]; simp [ahead]⟩, Sh.forget (by simp -implicitDefEqProofs [go_sem]) rfl rfl⟩
    · rintro ⟨o, xs, s⟩ ⟨ho, hL⟩
      dsimp only at ho hL ⊢
      refine Wp.s ?_
      simp -implicitDefEqProofs [go_sem]
      exact Fin.rdOk hL (by simp -implicitDefEqProofs [go_sem]) (by exact outC_le _ _ _ _ (by decide) ho) rfl ht hokH take_set (outV_take _ _)
theorem listSec_rd (H : Hp) (V : List Nat) (b : Nat) (tk : Tk) (src : List UInt8) (g : Nat) (p : Pr Sec) (hp : Ne0 p) (hs : Shr p)
    (hg : ∀ (H : Hp) (V : List Nat) (b : Nat) (tk : Tk) (src : List UInt8), src.length ≤ 1000000000 → H[b]? = some (some [.sl tk 1 (bs src)]) → CC Tryz.prog g [.ptr b 0] H V (Rd b tk (fun a => .agg (secC a)) (Ag 8) (p src) H V))
    (hl : src.length ≤ 1000000000) (hb : H[b]? = some (some [.sl tk 1 (bs src)])) : CC Tryz.prog 116 [.ptr b 0, .fn g []] H V (Rd b tk (fun l : List Sec => .sl .sh 8 (l.map secC)) (· = .v (.slice none 0 0)) (listP p src) H V) := by
  have hbl := lt_of_box hb
  refine CC.of_swp Tryz.func116 rfl (by kernel_rfl) (by rw [Tryz.ntmps116]; exact len_le _ _ rfl) fun hok hokH => ?_
  have ht := tk_of_box hb hokH
  clear hok
  refine SWp.seq (Wp.s ?_)
  simp -implicitDefEqProofs [go_sem, args0]
  refine SWp.seq (Wp.s ?_)
  simp -implicitDefEqProofs [go_sem]
  refine CC.mono (length_rd _ _ _ _ _ hb) ?_
  intro r H' V' h
  unfold Rd at h
  rcases hn : lengthP src with e | ⟨n, s⟩ <;> rw [hn] at h
  · obtain ⟨_, s, ⟨n, rfl⟩, rfl, rfl, rfl⟩ := h
    have he := ne0_length _ _ hn
    simp -implicitDefEqProofs [go_sem]
    refine Wp.s ?_
    simp -implicitDefEqProofs [go_sem, he]
    exact Fin.rdErr (by unfold listP; rw [hn]) (by exact rfl) (by simp -implicitDefEqProofs [go_sem]) (.refl _) rfl ht hokH take_set (by simp)
  · obtain ⟨rfl, rfl, rfl⟩ := h
    have hn5 := length_le hn
    have hls := shr_length _ _ _ hn
    simp -implicitDefEqProofs [go_sem]
    refine SWp.seq (Wp.s ?_)
    simp -implicitDefEqProofs [go_sem]
    refine SWp.seq (Wp.s ?_)
    simp -implicitDefEqProofs [go_sem]
    refine SWp.join (α := Option Nat × List Sec × List UInt8) (fun x => ([(8, outC x.1 V.length 8 (x.2.1.map secC))], H.set b (some [.sl tk 1 (bs x.2.2)]), outV V x.1)) (fun x => (x.1 = none → x.2.1 = []) ∧ listP p src = .ok (x.2.1, x.2.2)) ?_ ?_
    · refine SWp.seq (Wp.s ?_)
      simp -implicitDefEqProofs [go_sem]
      refine SWp.block ?_
      refine SWp.loop (α := Nat × Option Nat × List Sec × List UInt8) (fun x => ([(0, .ptr b 0), (1, .fn g []), (19, ci n), (20, ci x.1), (8, outC x.2.1 V.length 8 (x.2.2.1.map secC))], H.set b (some [.sl tk 1 (bs x.2.2.2)]), outV V x.2.1))
        (fun x => x.1 ≤ n ∧ x.2.2.1.length = x.1 ∧ (x.2.1 = none → x.2.2.1 = []) ∧ listP p src = ahead x.2.2.1 (repP p (n - x.1) x.2.2.2) ∧ x.2.2.2.length ≤ 1000000000) (fun x => n - x.1) (0, none, [], s) ⟨Nat.zero_le _, rfl, fun _ => rfl, by unfold listP; rw [hn]; exact (ahead_nil _).symm, by dsimp only; omega⟩
        (Sh.forget (by simp -implicitDefEqProofs [go_sem]) rfl rfl) ?_
      rintro ⟨i, o, xs, s⟩ ⟨hi, hx, ho, hL, hsl⟩
      dsimp only at hi hx ho hL hsl ⊢
      refine Wp.s ?_
      simp -implicitDefEqProofs [go_sem]
      refine ⟨fun h => ?_, fun h => ?_⟩
      · refine CC.mono (hg _ _ _ _ s hsl (List.getElem?_set_self hbl)) ?_
        intro r H' V' hr
        unfold Rd at hr
        have hnn : n - i = (n - (i + 1)) + 1 := by omega
        rcases hq : p s with e | ⟨a, s'⟩ <;> rw [hq] at hr
        · have he := hp _ _ hq
          obtain ⟨_, s', ⟨cs, rfl, hcs, hall, hokc⟩, rfl, rfl, rfl⟩ := hr
          simp -implicitDefEqProofs [go_sem, hcs, hall, he]
          exact Fin.rdErr (by rw [hL, hnn, rep_err hq]) (by exact rfl) (by simp -implicitDefEqProofs [go_sem]) (.refl _) rfl ht hokH take_set2 (outV_take _ _)
        · obtain ⟨rfl, rfl, rfl⟩ := hr
          have hs' := hs _ _ _ hq
          have hL' := hL
          rw [hnn, rep_ok hq] at hL'
          have hw := wrap_succ (show i ≤ 1000000000 by omega)
          cases o with
          | none =>
            obtain rfl := ho rfl
            simp -implicitDefEqProofs [go_sem]
            refine ⟨i + 1, some 0, [] ++ [a], s', ⟨by omega, by rw [List.length_append, hx]; rfl, by simp, hL', by omega⟩, by omega, Sh.cut H.length (V.length + 1) (by simp -implicitDefEqProofs [go_sem, hw]) (Nat.le_refl _) (Nat.le_succ _) (by simp -implicitDefEqProofs [go_sem, hbl, okE_app]) (okH_set ht (Nat.le_succ _) hokH) take_set2 (List.take_of_length_le (by simp -implicitDefEqProofs [go_sem]))⟩
          | some v =>
            simp -implicitDefEqProofs [go_sem]
            refine ⟨by omega, i + 1, some (v + 1), xs ++ [a], s', ⟨by omega, by rw [List.length_append, hx]; rfl, by simp, hL', by omega⟩, by omega, Sh.cut H.length (V.length + 1) (by simp -implicitDefEqProofs [go_sem, hw]) (Nat.le_refl _) (Nat.le_succ _) (by simp -implicitDefEqProofs [go_sem, hbl, okE_app]) (okH_set ht (Nat.le_succ _) hokH) take_set2 (List.take_of_length_le (by simp -implicitDefEqProofs [go_sem]))⟩
      · exact ⟨o, xs, s, ⟨ho, by rw [hL, show n - i = 0 by omega, repP]; simp [ahead]⟩, Sh.forget (by simp -implicitDefEqProofs [go_sem]) rfl rfl⟩
    · rintro ⟨o, xs, s⟩ ⟨ho, hL⟩
      dsimp only at ho hL ⊢
      refine Wp.s ?_
      simp -implicitDefEqProofs [go_sem]
      exact Fin.rdOk hL (by simp -implicitDefEqProofs [go_sem]) (by exact outC_le _ _ _ _ (by decide) ho) rfl ht hokH take_set (outV_take _ _)
theorem int_rd (H : Hp) (V : List Nat) (b : Nat) (tk : Tk) (src : List UInt8) (hb : H[b]? = some (some [.sl tk 1 (bs src)])) :
    CC Tryz.prog 83 [.ptr b 0] H V (Rd b tk (fun n : Int => ci n) (· = ci 0) (intP src) H V) := by
  refine CC.mono (number_rd _ _ _ _ _ hb) fun r H' V' h => ?_
  unfold Rd at h ⊢
  unfold intP
  rcases hq : number src with e | ⟨n, s⟩ <;> rw [hq] at h <;> exact h
theorem ints_rd (H : Hp) (V : List Nat) (b : Nat) (tk : Tk) (src : List UInt8) (hl : src.length ≤ 1000000000) (hb : H[b]? = some (some [.sl tk 1 (bs src)])) :
    CC Tryz.prog 85 [.ptr b 0] H V (Rd b tk (fun l : List Int => .sl .sh 1 (l.map ic)) (· = .v (.slice none 0 0)) (listP intP src) H V) := by
  have hbl := lt_of_box hb
  refine CC.of_swp Tryz.func85 rfl (by kernel_rfl) (by rw [Tryz.ntmps85]; exact len_le _ _ rfl) fun hok hokH => ?_
  have ht := tk_of_box hb hokH
  refine SWp.seq (Wp.s ?_)
  simp -implicitDefEqProofs [go_sem, args0]
  refine Wp.s ?_
  simp -implicitDefEqProofs [go_sem]
  refine CC.mono (listInt_rd _ _ _ _ _ _ _ ne0_int shr_int (fun H V b tk src _ hb => int_rd H V b tk src hb) hl hb) ?_
  intro r H' V' h
  unfold Rd at h
  rcases hn : listP intP src with e | ⟨l, s⟩ <;> rw [hn] at h
  · obtain ⟨_, s, rfl, rfl, rfl, rfl⟩ := h
    simp -implicitDefEqProofs [go_sem]
    exact Fin.rdErr rfl (by exact rfl) (by simp -implicitDefEqProofs [go_sem]) (.refl _) rfl ht hokH take_set (by simp)
  · obtain ⟨rfl, rfl, rfl⟩ := h
    simp -implicitDefEqProofs [go_sem]
    exact Fin.rdOk rfl (by simp -implicitDefEqProofs [go_sem]) (.refl _) rfl ht hokH take_set (by simp)
theorem sectors_rd (H : Hp) (V : List Nat) (b : Nat) (tk : Tk) (src : List UInt8) (hl : src.length ≤ 1000000000) (hb : H[b]? = some (some [.sl tk 1 (bs src)])) :
    CC Tryz.prog 109 [.ptr b 0] H V (Rd b tk (fun l : List Sec => .sl .sh 8 (l.map secC)) (· = .v (.slice none 0 0)) (listP secP src) H V) := by
  have hbl := lt_of_box hb
  refine CC.of_swp Tryz.func109 rfl (by kernel_rfl) (by rw [Tryz.ntmps109]; exact len_le _ _ rfl) fun hok hokH => ?_
  have ht := tk_of_box hb hokH
  refine SWp.seq (Wp.s ?_)
  simp -implicitDefEqProofs [go_sem, args0]
  refine Wp.s ?_
  simp -implicitDefEqProofs [go_sem]
  refine CC.mono (listSec_rd _ _ _ _ _ _ _ ne0_sec shr_sec (fun H V b tk src _ hb => sector_rd H V b tk src hb) hl hb) ?_
  intro r H' V' h
  unfold Rd at h
  rcases hn : listP secP src with e | ⟨l, s⟩ <;> rw [hn] at h
  · obtain ⟨_, s, rfl, rfl, rfl, rfl⟩ := h
    simp -implicitDefEqProofs [go_sem]
    exact Fin.rdErr rfl (by exact rfl) (by simp -implicitDefEqProofs [go_sem]) (.refl _) rfl ht hokH take_set (by simp)
  · obtain ⟨rfl, rfl, rfl⟩ := h
    simp -implicitDefEqProofs [go_sem]
    exact Fin.rdOk rfl (by simp -implicitDefEqProofs [go_sem]) (.refl _) rfl ht hokH take_set (by simp)
theorem write_rd (H : Hp) (V : List Nat) (b : Nat) (tk : Tk) (src : List UInt8) (hl : src.length ≤ 1000000000) (hb : H[b]? = some (some [.sl tk 1 (bs src)])) :
    CC Tryz.prog 90 [.ptr b 0] H V (Rd b tk (fun x : Wr => .agg (wrC x)) (Ag 3) (wrP src) H V) := by
  have hbl := lt_of_box hb
  refine CC.of_swp Tryz.func90 rfl (by kernel_rfl) (by rw [Tryz.ntmps90]; exact len_le _ _ rfl) fun hok hokH => ?_
  have ht := tk_of_box hb hokH
  refine SWp.seq (Wp.s ?_)
  simp -implicitDefEqProofs [go_sem, args0]
  refine SWp.seq (Wp.s ?_)
  simp -implicitDefEqProofs [go_sem]
  refine CC.mono (pair_rd _ _ _ _ _ (by rw [List.getElem?_append_left hbl]; exact hb)) ?_
  intro r H' V' h
  unfold Rd3 at h
  rcases hn : pairP src with e | ⟨⟨m, n⟩, s⟩ <;> rw [hn] at h
  · have he := ne0_pair _ _ hn
    obtain ⟨m, n, s, rfl, rfl, rfl⟩ := h
    simp -implicitDefEqProofs [go_sem, set_left hbl]
    refine Wp.s ?_
    simp -implicitDefEqProofs [go_sem, he]
    exact Fin.rdErr (by unfold wrP; rw [hn]) (by exact ⟨_, rfl, rfl, rfl, fun i j => by simp -implicitDefEqProofs [go_sem]⟩) (by simp -implicitDefEqProofs [go_sem]) (.refl _) rfl ht hokH take_set2 (by simp)
  · obtain ⟨rfl, rfl, rfl⟩ := h
    have hls := shr_pair _ _ _ hn
    simp -implicitDefEqProofs [go_sem, set_left hbl]
    refine Wp.s ?_
    simp -implicitDefEqProofs [go_sem]
    refine CC.mono (sectors_rd _ _ _ _ s (by omega) (by rw [List.getElem?_append_left (by simpa using hbl)]; exact List.getElem?_set_self hbl)) ?_
    intro r H' V' h
    unfold Rd at h
    rcases hm : listP secP s with e | ⟨l, s'⟩ <;> rw [hm] at h
    · obtain ⟨_, s', rfl, rfl, rfl, rfl⟩ := h
      simp -implicitDefEqProofs [go_sem, set_left hbl, set_left (H := H.set b _) (by simpa using hbl : b < (H.set b _).length)]
      exact Fin.rdErr (by unfold wrP; rw [hn]; dsimp only; rw [hm]) (by exact ⟨_, rfl, rfl, rfl, fun i j => by simp -implicitDefEqProofs [go_sem]⟩) (by simp -implicitDefEqProofs [go_sem]) (.refl _) rfl ht hokH take_set2 (by simp)
    · obtain ⟨rfl, rfl, rfl⟩ := h
      simp -implicitDefEqProofs [go_sem, set_left hbl, set_left (H := H.set b _) (by simpa using hbl : b < (H.set b _).length)]
      exact Fin.rdOk (val := fun x : Wr => .agg (wrC x)) (a := ⟨m, n, l⟩) (by unfold wrP; rw [hn]; dsimp only; rw [hm]) (by simp -implicitDefEqProofs [go_sem]) (.refl _) rfl ht hokH take_set2 (by simp)
theorem listWr_rd (H : Hp) (V : List Nat) (b : Nat) (tk : Tk) (src : List UInt8) (g : Nat) (p : Pr Wr) (hp : Ne0 p) (hs : Shr p)
    (hg : ∀ (H : Hp) (V : List Nat) (b : Nat) (tk : Tk) (src : List UInt8), src.length ≤ 1000000000 → H[b]? = some (some [.sl tk 1 (bs src)]) → CC Tryz.prog g [.ptr b 0] H V (Rd b tk (fun a => .agg (wrC a)) (Ag 3) (p src) H V))
    (hl : src.length ≤ 1000000000) (hb : H[b]? = some (some [.sl tk 1 (bs src)])) : CC Tryz.prog 89 [.ptr b 0, .fn g []] H V (Rd b tk (fun l : List Wr => .sl .sh 3 (l.map wrC)) (· = .v (.slice none 0 0)) (listP p src) H V) := by
  have hbl := lt_of_box hb
  refine CC.of_swp Tryz.func89 rfl (by kernel_rfl) (by rw [Tryz.ntmps89]; exact len_le _ _ rfl) fun hok hokH => ?_
  have ht := tk_of_box hb hokH
  clear hok
  refine SWp.seq (Wp.s ?_)
  simp -implicitDefEqProofs [go_sem, args0]
  refine SWp.seq (Wp.s ?_)
  simp -implicitDefEqProofs [go_sem]
  refine CC.mono (length_rd _ _ _ _ _ hb) ?_
  intro r H' V' h
  unfold Rd at h
  rcases hn : lengthP src with e | ⟨n, s⟩ <;> rw [hn] at h
  · obtain ⟨_, s, ⟨n, rfl⟩, rfl, rfl, rfl⟩ := h
    have he := ne0_length _ _ hn
    simp -implicitDefEqProofs [go_sem]
    refine Wp.s ?_
    simp -implicitDefEqProofs [go_sem, he]
    exact Fin.rdErr (by unfold listP; rw [hn]) (by exact rfl) (by simp -implicitDefEqProofs [go_sem]) (.refl _) rfl ht hokH take_set (by simp)
  · obtain ⟨rfl, rfl, rfl⟩ := h
    have hn5 := length_le hn
    have hls := shr_length _ _ _ hn
    simp -implicitDefEqProofs [go_sem]
    refine SWp.seq (Wp.s ?_)
    simp -implicitDefEqProofs [go_sem]
    refine SWp.seq (Wp.s ?_)
    simp -implicitDefEqProofs [go_sem]
    refine SWp.join (α := Option Nat × List Wr × List UInt8) (fun x => ([(8, outC x.1 V.length 3 (x.2.1.map wrC))], H.set b (some [.sl tk 1 (bs x.2.2)]), outV V x.1)) (fun x => (x.1 = none → x.2.1 = []) ∧ listP p src = .ok (x.2.1, x.2.2)) ?_ ?_
    · refine SWp.seq (Wp.s ?_)
      simp -implicitDefEqProofs [go_sem]
      refine SWp.block ?_
      refine SWp.loop (α := Nat × Option Nat × List Wr × List UInt8) (fun x => ([(0, .ptr b 0), (1, .fn g []), (19, ci n), (20, ci x.1), (8, outC x.2.1 V.length 3 (x.2.2.1.map wrC))], H.set b (some [.sl tk 1 (bs x.2.2.2)]), outV V x.2.1))
        (fun x => x.1 ≤ n ∧ x.2.2.1.length = x.1 ∧ (x.2.1 = none → x.2.2.1 = []) ∧ listP p src = ahead x.2.2.1 (repP p (n - x.1) x.2.2.2) ∧ x.2.2.2.length ≤ 1000000000) (fun x => n - x.1) (0, none, [], s) ⟨Nat.zero_le _, rfl, fun _ => rfl, by unfold listP; rw [hn]; exact (ahead_nil _).symm, by dsimp only; omega⟩
        (Sh.forget (by simp -implicitDefEqProofs [go_sem]) rfl rfl) ?_
      rintro ⟨i, o, xs, s⟩ ⟨hi, hx, ho, hL, hsl⟩
      dsimp only at hi hx ho hL hsl ⊢
      refine Wp.s ?_
      simp -implicitDefEqProofs [go_sem]
      refine ⟨fun h => ?_, fun h => ?_⟩
      · refine CC.mono (hg _ _ _ _ s hsl (List.getElem?_set_self hbl)) ?_
        intro r H' V' hr
        unfold Rd at hr
        have hnn : n - i = (n - (i + 1)) + 1 := by omega
        rcases hq : p s with e | ⟨a, s'⟩ <;> rw [hq] at hr
        · have he := hp _ _ hq
          obtain ⟨_, s', ⟨cs, rfl, hcs, hall, hokc⟩, rfl, rfl, rfl⟩ := hr
          simp -implicitDefEqProofs [go_sem, hcs, hall, he]
          exact Fin.rdErr (by rw [hL, hnn, rep_err hq]) (by exact rfl) (by simp -implicitDefEqProofs [go_sem]) (.refl _) rfl ht hokH take_set2 (outV_take _ _)
        · obtain ⟨rfl, rfl, rfl⟩ := hr
          have hs' := hs _ _ _ hq
          have hL' := hL
          rw [hnn, rep_ok hq] at hL'
          have hw := wrap_succ (show i ≤ 1000000000 by omega)
          cases o with
          | none =>
            obtain rfl := ho rfl
            simp -implicitDefEqProofs [go_sem]
            refine ⟨i + 1, some 0, [] ++ [a], s', ⟨by omega, by rw [List.length_append, hx]; rfl, by simp, hL', by omega⟩, by omega, Sh.cut H.length (V.length + 1) (by simp -implicitDefEqProofs [go_sem, hw]) (Nat.le_refl _) (Nat.le_succ _) (by simp -implicitDefEqProofs [go_sem, hbl, okE_app]) (okH_set ht (Nat.le_succ _) hokH) take_set2 (List.take_of_length_le (by simp -implicitDefEqProofs [go_sem]))⟩
          | some v =>
            simp -implicitDefEqProofs [go_sem]
            refine ⟨by omega, i + 1, some (v + 1), xs ++ [a], s', ⟨by omega, by rw [List.length_append, hx]; rfl, by simp, hL', by omega⟩, by omega, Sh.cut H.length (V.length + 1) (by simp -implicitDefEqProofs [go_sem, hw]) (Nat.le_refl _) (Nat.le_succ _) (by simp -implicitDefEqProofs [go_sem, hbl, okE_app]) (okH_set ht (Nat.le_succ _) hokH) take_set2 (List.take_of_length_le (by simp -implicitDefEqProofs [go_sem]))⟩
      · exact ⟨o, xs, s, ⟨ho, by rw [hL, show n - i = 0 by omega, repP]; simp [ahead]⟩, Sh.forget (by simp -implicitDefEqProofs [go_sem]) rfl rfl⟩
    · rintro ⟨o, xs, s⟩ ⟨ho, hL⟩
      dsimp only at ho hL ⊢
      refine Wp.s ?_
      simp -implicitDefEqProofs [go_sem]
      exact Fin.rdOk hL (by simp -implicitDefEqProofs [go_sem]) (by exact outC_le _ _ _ _ (by decide) ho) rfl ht hokH take_set (outV_take _ _)
theorem writes_rd (H : Hp) (V : List Nat) (b : Nat) (tk : Tk) (src : List UInt8) (hl : src.length ≤ 1000000000) (hb : H[b]? = some (some [.sl tk 1 (bs src)])) :
    CC Tryz.prog 88 [.ptr b 0] H V (Rd b tk (fun l : List Wr => .sl .sh 3 (l.map wrC)) (· = .v (.slice none 0 0)) (listP wrP src) H V) := by
  have hbl := lt_of_box hb
  refine CC.of_swp Tryz.func88 rfl (by kernel_rfl) (by rw [Tryz.ntmps88]; exact len_le _ _ rfl) fun hok hokH => ?_
  have ht := tk_of_box hb hokH
  refine SWp.seq (Wp.s ?_)
  simp -implicitDefEqProofs [go_sem, args0]
  refine Wp.s ?_
  simp -implicitDefEqProofs [go_sem]
  refine CC.mono (listWr_rd _ _ _ _ _ _ _ ne0_wr shr_wr (fun H V b tk src hl hb => write_rd H V b tk src hl hb) hl hb) ?_
  intro r H' V' h
  unfold Rd at h
  rcases hn : listP wrP src with e | ⟨l, s⟩ <;> rw [hn] at h
  · obtain ⟨_, s, rfl, rfl, rfl, rfl⟩ := h
    simp -implicitDefEqProofs [go_sem]
    exact Fin.rdErr rfl (by exact rfl) (by simp -implicitDefEqProofs [go_sem]) (.refl _) rfl ht hokH take_set (by simp)
  · obtain ⟨rfl, rfl, rfl⟩ := h
    simp -implicitDefEqProofs [go_sem]
    exact Fin.rdOk rfl (by simp -implicitDefEqProofs [go_sem]) (.refl _) rfl ht hokH take_set (by simp)
end Go.Proofs.YtfbjhkpdlihgeaaGreat
namespace Go.Proofs.YtfbjhkpdlihgeaaGreat
open Go.Proofs
abbrev nilC : CV := .v (.slice none 0 0)
theorem readInts_cc (H : Hp) (V : List Nat) (tk : Tk) (src : List UInt8) (hl : src.length ≤ 1000000000) : CC Tryz.prog 84 [.sl tk 1 (bs src), .fn 85 []] H V (Pu (rdv (fun l : List Int => .sl .sh 1 (l.map ic)) nilC (listP intP src)) H V) := by
  refine CC.of_swp Tryz.func84 rfl (by kernel_rfl) (by rw [Tryz.ntmps84]; exact len_le _ _ rfl) fun hok hokH => Wp.s ?_
  simp -implicitDefEqProofs [go_sem, args0]
  refine CC.mono (ints_rd _ _ _ _ _ hl (at_len _ _)) ?_
  intro r H' V' h
  unfold Rd at h
  rcases hn : listP intP src with e | ⟨l, s⟩ <;> rw [hn] at h
  · have he := (ne0_list ne0_int) _ _ hn
    obtain ⟨_, s, rfl, rfl, rfl, rfl⟩ := h
    simp -implicitDefEqProofs [go_sem, he]
    exact Fin.pu (.refl _) (by simp -implicitDefEqProofs [go_sem, rdv]) hokH (by simp) (by simp)
  · have hs := (shr_list shr_int) _ _ _ hn
    obtain ⟨rfl, rfl, rfl⟩ := h
    simp -implicitDefEqProofs [go_sem]
    refine CC.mono (clone_cc _ _ _ _ (by simp only [bs_len]; omega)) ?_
    rintro _ _ _ ⟨v', rfl, rfl, rfl⟩
    simp -implicitDefEqProofs [go_sem]
    exact Fin.pu (.tup (.cons (.refl _) (.cons (.sh ..) (.cons (.refl _) .nil)))) (by simp -implicitDefEqProofs [go_sem, rdv]) hokH (by simp) (by simp)
theorem Ints_cc (H : Hp) (V : List Nat) (tk : Tk) (src : List UInt8) (hl : src.length ≤ 1000000000) : CC Tryz.prog 59 [.sl tk 1 (bs src)] H V (Pu (rdv (fun l : List Int => .sl .sh 1 (l.map ic)) nilC (listP intP src)) H V) := by
  refine CC.of_swp Tryz.func59 rfl (by kernel_rfl) (by rw [Tryz.ntmps59]; exact len_le _ _ rfl) fun hok hokH => Wp.s ?_
  simp -implicitDefEqProofs [go_sem, args0]
  refine CC.mono (readInts_cc _ _ _ _ hl) ?_
  rintro _ _ _ ⟨rfl, rfl, rfl⟩
  rcases hn : listP intP src with e | ⟨l, s⟩
  · simp -implicitDefEqProofs [go_sem, rdv]
    exact Fin.pu (.refl _) (by simp -implicitDefEqProofs [go_sem]) hokH (by simp) (by simp)
  · simp -implicitDefEqProofs [go_sem, rdv]
    exact Fin.pu (.refl _) (by simp -implicitDefEqProofs [go_sem]) hokH (by simp) (by simp)
theorem readWrites_cc (H : Hp) (V : List Nat) (tk : Tk) (src : List UInt8) (hl : src.length ≤ 1000000000) : CC Tryz.prog 87 [.sl tk 1 (bs src), .fn 88 []] H V (Pu (rdv (fun l : List Wr => .sl .sh 3 (l.map wrC)) nilC (listP wrP src)) H V) := by
  refine CC.of_swp Tryz.func87 rfl (by kernel_rfl) (by rw [Tryz.ntmps87]; exact len_le _ _ rfl) fun hok hokH => Wp.s ?_
  simp -implicitDefEqProofs [go_sem, args0]
  refine CC.mono (writes_rd _ _ _ _ _ hl (at_len _ _)) ?_
  intro r H' V' h
  unfold Rd at h
  rcases hn : listP wrP src with e | ⟨l, s⟩ <;> rw [hn] at h
  · have he := (ne0_list ne0_wr) _ _ hn
    obtain ⟨_, s, rfl, rfl, rfl, rfl⟩ := h
    simp -implicitDefEqProofs [go_sem, he]
    exact Fin.pu (.refl _) (by simp -implicitDefEqProofs [go_sem, rdv]) hokH (by simp) (by simp)
  · have hs := (shr_list shr_wr) _ _ _ hn
    obtain ⟨rfl, rfl, rfl⟩ := h
    simp -implicitDefEqProofs [go_sem]
    refine CC.mono (clone_cc _ _ _ _ (by simp only [bs_len]; omega)) ?_
    rintro _ _ _ ⟨v', rfl, rfl, rfl⟩
    simp -implicitDefEqProofs [go_sem]
    exact Fin.pu (.tup (.cons (.refl _) (.cons (.sh ..) (.cons (.refl _) .nil)))) (by simp -implicitDefEqProofs [go_sem, rdv]) hokH (by simp) (by simp)
theorem Writes_cc (H : Hp) (V : List Nat) (tk : Tk) (src : List UInt8) (hl : src.length ≤ 1000000000) : CC Tryz.prog 60 [.sl tk 1 (bs src)] H V (Pu (rdv (fun l : List Wr => .sl .sh 3 (l.map wrC)) nilC (listP wrP src)) H V) := by
  refine CC.of_swp Tryz.func60 rfl (by kernel_rfl) (by rw [Tryz.ntmps60]; exact len_le _ _ rfl) fun hok hokH => Wp.s ?_
  simp -implicitDefEqProofs [go_sem, args0]
  refine CC.mono (readWrites_cc _ _ _ _ hl) ?_
  rintro _ _ _ ⟨rfl, rfl, rfl⟩
  rcases hn : listP wrP src with e | ⟨l, s⟩
  · simp -implicitDefEqProofs [go_sem, rdv]
    exact Fin.pu (.refl _) (by simp -implicitDefEqProofs [go_sem]) hokH (by simp) (by simp)
  · simp -implicitDefEqProofs [go_sem, rdv]
    exact Fin.pu (.refl _) (by simp -implicitDefEqProofs [go_sem]) hokH (by simp) (by simp)
end Go.Proofs.YtfbjhkpdlihgeaaGreat
namespace Go.Proofs.YtfbjhkpdlihgeaaGreat
open Go.Proofs
/-- What the reference's number returns. -/
def Nm (src : List UInt8) (x : Except Nat (Nat × List UInt8)) (H : Hp) (V : List Nat) : CV → Hp → List Nat → Prop := fun r H' V' =>
  (match x with
  | .ok (m, s) => ∃ k : Nat, r = .tup [ci m, ci k, Go.Proofs.YtfbjhkpdlihgeaaGreat.er 0] ∧ k ≤ src.length ∧ s = src.drop k
  | .error e => r = .tup [ci 0, ci 0, Go.Proofs.YtfbjhkpdlihgeaaGreat.er e]) ∧ H = H' ∧ V = V'
section
variable {H H' : Hp} {V V' : List Nat} {src : List UInt8} {x : Except Nat (Nat × List UInt8)}
theorem Fin.nmOk {m k : Nat} {s : List UInt8} {a b c : CV} (hx : x = .ok (m, s)) (ha : a = ci m) (hb : b = ci k) (hc : c = Go.Proofs.YtfbjhkpdlihgeaaGreat.er 0) (hk : k ≤ src.length) (hs : s = src.drop k) (hokH : ∀ (b : Nat) cs, H[b]? = some (some cs) → okL H.length V.length cs) (hH : H'.take H.length = H) (hV : V'.take V.length = V) :
    Fin H.length V.length (Nm src x H V) (.tup [a, b, c]) H' V' := by
  subst hx ha hb hc
  exact Fin.pure ⟨⟨k, rfl, hk, hs⟩, rfl, rfl⟩ hH hV (.refl _) (by simp -implicitDefEqProofs [go_sem]) hokH
theorem Fin.nmErr {e : Nat} {c : CV} (hx : x = .error e) (hc : c = Go.Proofs.YtfbjhkpdlihgeaaGreat.er e) (hokH : ∀ (b : Nat) cs, H[b]? = some (some cs) → okL H.length V.length cs) (hH : H'.take H.length = H) (hV : V'.take V.length = V) :
    Fin H.length V.length (Nm src x H V) (.tup [ci 0, ci 0, c]) H' V' := by
  subst hx hc
  exact Fin.pure ⟨rfl, rfl, rfl⟩ hH hV (.refl _) (by simp -implicitDefEqProofs [go_sem]) hokH
end
theorem tmod128 (b : UInt8) : ((b.toNat : Int)).tmod 128 = ((b.toNat % 128 : Nat) : Int) := by
  rw [Int.tmod_eq_emod_of_nonneg (by omega)]; omega
theorem byte_wrap (b : UInt8) : IntKind.i64.wrap (b.toNat : Int) = (b.toNat : Int) := wrap_nat (by have := b.toNat_lt; omega)
theorem refNumber_cc (H : Hp) (V : List Nat) (tk : Tk) (src : List UInt8) : CC Tryz.prog 91 [.sl tk 1 (bs src)] H V (Nm src (number src) H V) := by
  refine CC.of_swp Tryz.func91 rfl (by kernel_rfl) (by rw [Tryz.ntmps91]; exact len_le _ _ rfl) fun hok hokH => ?_
  clear hok
  refine SWp.seq (Wp.s ?_)
  simp -implicitDefEqProofs [go_sem, args0]
  refine SWp.seq (Wp.s ?_)
  simp -implicitDefEqProofs [go_sem]
  refine SWp.join (α := Unit) (fun _ => ([], H, V)) (fun _ => number src = .error 3) ?_ ?_
  · refine SWp.seq (Wp.s ?_)
    simp -implicitDefEqProofs [go_sem]
    refine SWp.block ?_
    refine SWp.loop (α := Nat × Nat × Nat) (fun x => ([(0, .sl tk 1 (bs src)), (5, ci x.1), (6, ci x.2.2), (7, ci x.2.1)], H, V)) (fun x => x.2.1 ≤ 8 ∧ x.2.2 = 128 ^ x.2.1 ∧ x.1 < 128 ^ x.2.1 ∧ numG (8 - x.2.1) x.2.1 x.1 (src.drop x.2.1) = number src) (fun x => 8 - x.2.1) (0, 0, 1) ⟨by decide, rfl, by simp, rfl⟩ (Sh.forget (by simp -implicitDefEqProofs [go_sem]) rfl rfl) ?_
    rintro ⟨n, i, w⟩ ⟨hi, hw, hn, h⟩
    dsimp only at hi hw hn h ⊢
    by_cases h8 : i < 8
    · by_cases hs : i < src.length
      · rw [show 8 - i = (7 - i) + 1 by omega, List.drop_eq_getElem_cons hs, numG] at h
        have hpl := part_lt h8 (show src[i].toNat % 128 < 128 by omega)
        have h2 : 128 ^ i ≤ 128 ^ 7 := Nat.pow_le_pow_right (by omega) (by omega)
        have h3 : (128 : Nat) ^ 7 = 562949953421312 := by decide
        have hlt : n + src[i].toNat % 128 * 128 ^ i < 128 ^ (i + 1) := by
          have h1 : src[i].toNat % 128 * 128 ^ i ≤ 127 * 128 ^ i := Nat.mul_le_mul_right _ (by omega)
          rw [Nat.pow_succ]; omega
        have e1 : ((src[i].toNat % 128 : Nat) : Int) * ((w : Nat) : Int) = ((src[i].toNat % 128 * 128 ^ i : Nat) : Int) := by rw [hw]; simp
        have e2 : (n : Int) + ((src[i].toNat % 128 * 128 ^ i : Nat) : Int) = ((n + src[i].toNat % 128 * 128 ^ i : Nat) : Int) := by omega
        have e3 : (w : Int) * 128 = ((w * 128 : Nat) : Int) := by omega
        have hw8 : w * 128 = 128 ^ (i + 1) := by rw [hw, Nat.pow_succ]
        have hmod : src[i].toNat < 128 → src[i].toNat % 128 = src[i].toNat := fun h => Nat.mod_eq_of_lt h
        obtain ⟨B, hB⟩ : ∃ B, src[i].toNat % 128 = B := ⟨_, rfl⟩
        obtain ⟨P, hP⟩ : ∃ P, B * 128 ^ i = P := ⟨_, rfl⟩
        obtain ⟨N, hN⟩ : ∃ N, n + P = N := ⟨_, rfl⟩
        obtain ⟨w', hw'⟩ : ∃ w', w * 128 = w' := ⟨_, rfl⟩
        have hNb : N ≤ 72057594037927936 + 562949953421312 := by rw [← hN, ← hP, ← hB]; omega
        have hwb : w' < 9223372036854775808 := by
          have : w ≤ 562949953421312 := by rw [hw, ← h3]; exact h2
          omega
        rw [hB, hP] at e1 e2
        rw [hN] at e2
        rw [hw'] at e3
        have f1 : ((src[i].toNat : Int)).tmod 128 = (B : Int) := by rw [tmod128, hB]
        have f2 : IntKind.i64.wrap (P : Int) = (P : Int) := wrap_nat (by rw [← hP, ← hB]; omega)
        have f3 : IntKind.i64.wrap (N : Int) = (N : Int) := wrap_nat (by omega)
        have f4 : IntKind.i64.wrap (w' : Int) = (w' : Int) := wrap_nat hwb
        refine Wp.s ?_
        by_cases hb : src[i].toNat < 128
        · rw [if_pos hb] at h
          have hBb : src[i].toNat * 128 ^ i = P := by rw [← hP, ← hB, hmod hb]
          rw [hBb, hN] at h
          by_cases hz : (src[i].toNat = 0 ∧ 0 < i) ∨ 9007199254740991 < N
          · rw [if_pos hz] at h
            simp -implicitDefEqProofs [go_sem, byte_wrap, f1, e1, f2, e2, f3, e3, f4, hs, show (i : Int) < 8 by omega, show (src[i].toNat : Int) < 128 by omega, show ¬ src.length ≤ i by omega]
            exact ⟨fun h1 => ⟨fun h2 => ⟨fun _ => Fin.nmErr h.symm rfl hokH (by simp) (by simp), fun h4 => absurd hz (by omega)⟩, fun _ => Fin.nmErr h.symm rfl hokH (by simp) (by simp)⟩, fun h1 => ⟨fun _ => Fin.nmErr h.symm rfl hokH (by simp) (by simp), fun h4 => absurd hz (by omega)⟩⟩
          · rw [if_neg hz] at h
            simp -implicitDefEqProofs [go_sem, byte_wrap, f1, e1, f2, e2, f3, e3, f4, hs, show (i : Int) < 8 by omega, show (src[i].toNat : Int) < 128 by omega, show ¬ src.length ≤ i by omega]
            exact ⟨fun h1 => ⟨fun h2 => ⟨fun h4 => absurd (.inr (by omega)) hz, fun _ => Fin.nmOk (k := i + 1) h.symm rfl (by rw [wrap_succ (by omega)]) rfl (by omega) rfl hokH (by simp) (by simp)⟩, fun h2 => absurd (.inl ⟨h1, by omega⟩) hz⟩, fun h1 => ⟨fun h4 => absurd (.inr (by omega)) hz, fun _ => Fin.nmOk (k := i + 1) h.symm rfl (by rw [wrap_succ (by omega)]) rfl (by omega) rfl hokH (by simp) (by simp)⟩⟩
        · rw [if_neg hb] at h
          simp -implicitDefEqProofs [go_sem, byte_wrap, f1, e1, f2, e2, f3, e3, f4, hs, show (i : Int) < 8 by omega, show ¬ (src[i].toNat : Int) < 128 by omega, show ¬ src.length ≤ i by omega]
          refine ⟨N, i + 1, w', ⟨by omega, by rw [← hw', hw8], by rw [← hN, ← hP, ← hB]; exact hlt, ?_⟩, by omega, Sh.forget (by simp -implicitDefEqProofs [go_sem, wrap_succ (show i ≤ 1000000000 by omega)]) rfl rfl⟩
          rw [hB, hP, hN] at h
          rw [show 8 - (i + 1) = 7 - i by omega]; exact h
      · rw [show 8 - i = (7 - i) + 1 by omega, List.drop_eq_nil_of_le (by omega), numG] at h
        refine Wp.s ?_
        simp -implicitDefEqProofs [go_sem, show (i : Int) < 8 by omega, show src.length ≤ i by omega]
        exact Fin.nmErr h.symm rfl hokH (by simp) (by simp)
    · rw [show 8 - i = 0 by omega, numG] at h
      refine Wp.s ?_
      simp -implicitDefEqProofs [go_sem, show ¬ ((i : Int) < 8) by omega]
      exact ⟨h.symm, Sh.forget (by simp -implicitDefEqProofs [go_sem]) rfl rfl⟩
  · rintro _ he
    refine Wp.s ?_
    simp -implicitDefEqProofs [go_sem]
    exact Fin.nmErr he rfl hokH (by simp) (by simp)
theorem rest_cc (H : Hp) (V : List Nat) (tk : Tk) (src : List UInt8) (k : Nat) (hk : k ≤ src.length) (hl : src.length ≤ 1000000000) : CC Tryz.prog 92 [.sl tk 1 (bs src), ci k] H V (Fr 1 (bs (src.drop k)) H V) := by
  refine CC.of_swp Tryz.func92 rfl (by kernel_rfl) (by rw [Tryz.ntmps92]; exact len_le _ _ rfl) fun hok hokH => Wp.s ?_
  simp -implicitDefEqProofs [go_sem, args0]
  refine ⟨by omega, by omega, ?_⟩
  exact Fin.fresh rfl (okBs _ _ _) hokH (by simp)
theorem refInt_cc (H : Hp) (V : List Nat) (tk : Tk) (src : List UInt8) (hl : src.length ≤ 1000000000) : CC Tryz.prog 61 [.sl tk 1 (bs src)] H V (Pu (rdv (fun n : Nat => ci n) (ci 0) (number src)) H V) := by
  refine CC.of_swp Tryz.func61 rfl (by kernel_rfl) (by rw [Tryz.ntmps61]; exact len_le _ _ rfl) fun hok hokH => Wp.s ?_
  simp -implicitDefEqProofs [go_sem, args0]
  refine CC.mono (refNumber_cc _ _ _ _) ?_
  intro r H' V' h
  unfold Nm at h
  rcases hn : number src with e | ⟨n, s⟩ <;> rw [hn] at h
  · have he := ne0_number _ _ hn
    obtain ⟨rfl, rfl, rfl⟩ := h
    simp -implicitDefEqProofs [go_sem, he]
    exact Fin.pu (.refl _) (by simp -implicitDefEqProofs [go_sem, rdv]) hokH (by simp) (by simp)
  · obtain ⟨⟨k, rfl, hk, rfl⟩, rfl, rfl⟩ := h
    simp -implicitDefEqProofs [go_sem]
    refine CC.mono (rest_cc _ _ _ _ _ hk hl) ?_
    rintro _ _ _ ⟨v', rfl, rfl, rfl⟩
    simp -implicitDefEqProofs [go_sem]
    exact Fin.pu (.tup (.cons (.refl _) (.cons (.sh ..) (.cons (.refl _) .nil)))) (by simp -implicitDefEqProofs [go_sem, rdv]) hokH (by simp) (by simp)
theorem refLength_cc (H : Hp) (V : List Nat) (tk : Tk) (src : List UInt8) (hl : src.length ≤ 1000000000) : CC Tryz.prog 93 [.sl tk 1 (bs src)] H V (Pu (rdv (fun n : Nat => ci n) (ci 0) (lengthP src)) H V) := by
  refine CC.of_swp Tryz.func93 rfl (by kernel_rfl) (by rw [Tryz.ntmps93]; exact len_le _ _ rfl) fun hok hokH => Wp.s ?_
  simp -implicitDefEqProofs [go_sem, args0]
  refine CC.mono (refInt_cc _ _ _ _ hl) ?_
  rintro _ _ _ ⟨rfl, rfl, rfl⟩
  unfold lengthP
  rcases hn : number src with e | ⟨n, s⟩
  · have he := ne0_number _ _ hn
    simp -implicitDefEqProofs [go_sem, rdv, he]
    exact Fin.pu (.refl _) (by simp -implicitDefEqProofs [go_sem]) hokH (by simp) (by simp)
  · dsimp only
    by_cases h5 : 65536 < n
    · rw [if_pos h5]
      simp -implicitDefEqProofs [go_sem, rdv, show (65536 : Int) < n by omega]
      exact Fin.pu (.refl _) (by simp -implicitDefEqProofs [go_sem]) hokH (by simp) (by simp)
    · rw [if_neg h5]
      simp -implicitDefEqProofs [go_sem, rdv, show ¬ (65536 : Int) < n by omega]
      exact Fin.pu (.refl _) (by simp -implicitDefEqProofs [go_sem]) hokH (by simp) (by simp)
end Go.Proofs.YtfbjhkpdlihgeaaGreat
namespace Go.Proofs.YtfbjhkpdlihgeaaGreat
open Go.Proofs
theorem refInts_cc (H : Hp) (V : List Nat) (tk : Tk) (src : List UInt8) (hl : src.length ≤ 1000000000) : CC Tryz.prog 62 [.sl tk 1 (bs src)] H V (Pu (rdv (fun l : List Int => .sl .sh 1 (l.map ic)) nilC (listP intP src)) H V) := by
  refine CC.of_swp Tryz.func62 rfl (by kernel_rfl) (by rw [Tryz.ntmps62]; exact len_le _ _ rfl) fun hok hokH => ?_
  clear hok
  refine SWp.seq (Wp.s ?_)
  simp -implicitDefEqProofs [go_sem, args0]
  refine SWp.seq (Wp.s ?_)
  simp -implicitDefEqProofs [go_sem]
  refine CC.mono (refLength_cc _ _ _ _ hl) ?_
  rintro _ _ _ ⟨rfl, rfl, rfl⟩
  rcases hn : lengthP src with e | ⟨n, s⟩
  · have he := ne0_length _ _ hn
    have hq : listP intP src = .error e := by unfold listP; rw [hn]
    rw [hq]
    simp -implicitDefEqProofs [go_sem, rdv]
    refine Wp.s ?_
    simp -implicitDefEqProofs [go_sem, he]
    exact Fin.pu (.refl _) (by simp -implicitDefEqProofs [go_sem]) hokH (by simp) (by simp)
  · have hn5 := length_le hn
    have hls := shr_length _ _ _ hn
    simp -implicitDefEqProofs [go_sem, rdv]
    refine SWp.seq (Wp.s ?_)
    simp -implicitDefEqProofs [go_sem]
    refine SWp.seq (Wp.s ?_)
    simp -implicitDefEqProofs [go_sem]
    refine SWp.join (α := Option Nat × List Int × List UInt8) (fun x => ([(7, outC x.1 V.length 1 (x.2.1.map ic)), (0, .sl .sh 1 (bs x.2.2))], H, outV V x.1)) (fun x => (x.1 = none → x.2.1 = []) ∧ listP intP src = .ok (x.2.1, x.2.2)) ?_ ?_
    · refine SWp.seq (Wp.s ?_)
      simp -implicitDefEqProofs [go_sem]
      refine SWp.block ?_
      refine SWp.loop (α := Nat × Option Nat × List Int × List UInt8) (fun x => ([(0, .sl .sh 1 (bs x.2.2.2)), (5, ci n), (8, ci x.1), (7, outC x.2.1 V.length 1 (x.2.2.1.map ic))], H, outV V x.2.1))
        (fun x => x.1 ≤ n ∧ x.2.2.1.length = x.1 ∧ (x.2.1 = none → x.2.2.1 = []) ∧ listP intP src = ahead x.2.2.1 (repP intP (n - x.1) x.2.2.2) ∧ x.2.2.2.length ≤ 1000000000) (fun x => n - x.1) (0, none, [], s) ⟨Nat.zero_le _, rfl, fun _ => rfl, by unfold listP; rw [hn]; exact (ahead_nil _).symm, by dsimp only; omega⟩
        (Sh.forget (by simp -implicitDefEqProofs [go_sem]) rfl rfl) ?_
      rintro ⟨i, o, xs, s⟩ ⟨hi, hx, ho, hL, hsl⟩
      dsimp only at hi hx ho hL hsl ⊢
      refine Wp.s ?_
      simp -implicitDefEqProofs [go_sem]
      refine ⟨fun h => ?_, fun h => ?_⟩
      · refine CC.mono (refInt_cc _ _ _ s hsl) ?_
        rintro _ _ _ ⟨rfl, rfl, rfl⟩
        have hnn : n - i = n - (i + 1) + 1 := by omega
        rcases hm : number s with e | ⟨a, s'⟩
        · have he := ne0_number _ _ hm
          have hL' := hL
          rw [hnn, rep_err (show intP s = .error e by unfold intP; rw [hm])] at hL'
          simp -implicitDefEqProofs [go_sem, rdv, he]
          rw [hL']
          exact Fin.pu (.refl _) (by simp -implicitDefEqProofs [go_sem, rdv]) hokH (by simp) (outV_take _ _)
        · have hq : intP s = .ok ((a : Int), s') := by unfold intP; rw [hm]
          simp -implicitDefEqProofs [go_sem, rdv]
          have hs' := shr_int _ _ _ hq
          have hL' := hL
          rw [hnn, rep_ok hq] at hL'
          have hw := wrap_succ (show i ≤ 1000000000 by omega)
          cases o with
          | none =>
            obtain rfl := ho rfl
            simp -implicitDefEqProofs [go_sem]
            exact ⟨i + 1, some 0, [] ++ [(a : Int)], s', ⟨by omega, by rw [List.length_append, hx]; rfl, by simp, hL', by omega⟩, by omega, Sh.forget (by simp -implicitDefEqProofs [go_sem, hw]; exact .refl _) rfl rfl⟩
          | some v =>
            simp -implicitDefEqProofs [go_sem]
            exact ⟨by omega, i + 1, some (v + 1), xs ++ [(a : Int)], s', ⟨by omega, by rw [List.length_append, hx]; rfl, by simp, hL', by omega⟩, by omega, Sh.forget (by simp -implicitDefEqProofs [go_sem, hw]; exact .refl _) rfl rfl⟩
      · exact ⟨o, xs, s, ⟨ho, by rw [hL, show n - i = 0 by omega, repP]; simp [ahead]⟩, Sh.forget (by simp -implicitDefEqProofs [go_sem]) rfl rfl⟩
    · rintro ⟨o, xs, s⟩ ⟨ho, hL⟩
      dsimp only at ho hL ⊢
      refine Wp.s ?_
      simp -implicitDefEqProofs [go_sem]
      rw [hL]
      exact Fin.pu (.tup (.cons (outC_le _ _ _ _ (by decide) ho) (.cons (.refl _) (.cons (.refl _) .nil)))) (by simp -implicitDefEqProofs [go_sem, rdv]) hokH (by simp) (outV_take _ _)
def cell8 (b : UInt8) : CV := .v (.int .u8 (b.toNat : Int))
theorem take_tok (V : List Nat) (v w : Nat) : (V ++ [v, w]).take (V.length + 1) = V ++ [v] := by
  rw [List.take_append, List.take_of_length_le (by omega), show V.length + 1 - V.length = 1 by omega]; rfl
theorem fill_step {cs : List CV} {s : List UInt8} {j : Nat} (hj : j < s.length) (hc : j < cs.length) (ht : cs.take j = (s.take j).map cell8) : (cs.take j ++ cell8 s[j] :: cs.drop (j + 1)).take (j + 1) = (s.take (j + 1)).map cell8 := by
  have h : (cs.take j).length = j := by rw [List.length_take]; omega
  rw [List.take_append, List.take_of_length_le (by omega), h, show j + 1 - j = 1 by omega, List.take_succ_cons, List.take_zero, ht, List.take_succ_eq_append_getElem hj, List.map_append]; rfl
theorem okL_cells (i j : Nat) (l : List UInt8) : okL i j (l.map cell8) := by
  rw [okL_iff]; intro c hc
  obtain ⟨b, _, rfl⟩ := List.mem_map.1 hc
  trivial
theorem allOne_cells (l : List UInt8) : allOne (l.map cell8) = true := by
  simp only [allOne, List.all_map, List.all_eq_true]; intros; rfl
theorem refSectors_cc (H : Hp) (V : List Nat) (tk : Tk) (src : List UInt8) (hl : src.length ≤ 1000000000) : CC Tryz.prog 94 [.sl tk 1 (bs src)] H V (Pu (rdv (fun l : List Sec => .sl .sh 8 (l.map secC)) nilC (listP secP src)) H V) := by
  refine CC.of_swp Tryz.func94 rfl (by kernel_rfl) (by rw [Tryz.ntmps94]; exact len_le _ _ rfl) fun hok hokH => ?_
  clear hok
  refine SWp.seq (Wp.s ?_)
  simp -implicitDefEqProofs [go_sem, args0]
  refine SWp.seq (Wp.s ?_)
  simp -implicitDefEqProofs [go_sem]
  refine CC.mono (refLength_cc _ _ _ _ hl) ?_
  rintro _ _ _ ⟨rfl, rfl, rfl⟩
  rcases hn : lengthP src with e | ⟨n, s⟩
  · have he := ne0_length _ _ hn
    have hq : listP secP src = .error e := by unfold listP; rw [hn]
    rw [hq]
    simp -implicitDefEqProofs [go_sem, rdv]
    refine Wp.s ?_
    simp -implicitDefEqProofs [go_sem, he]
    exact Fin.pu (.refl _) (by simp -implicitDefEqProofs [go_sem]) hokH (by simp) (by simp)
  · have hn5 := length_le hn
    have hls := shr_length _ _ _ hn
    simp -implicitDefEqProofs [go_sem, rdv]
    refine SWp.seq (Wp.s ?_)
    simp -implicitDefEqProofs [go_sem]
    refine SWp.seq (Wp.s ?_)
    simp -implicitDefEqProofs [go_sem]
    refine SWp.join (α := Option Nat × List Sec × List UInt8) (fun x => ([(7, outC x.1 V.length 8 (x.2.1.map secC)), (0, .sl .sh 1 (bs x.2.2))], H, outV V x.1)) (fun x => (x.1 = none → x.2.1 = []) ∧ listP secP src = .ok (x.2.1, x.2.2)) ?_ ?_
    · refine SWp.seq (Wp.s ?_)
      simp -implicitDefEqProofs [go_sem]
      refine SWp.block ?_
      refine SWp.loop (α := Nat × Option Nat × List Sec × List UInt8) (fun x => ([(0, .sl .sh 1 (bs x.2.2.2)), (5, ci n), (8, ci x.1), (7, outC x.2.1 V.length 8 (x.2.2.1.map secC))], H, outV V x.2.1))
        (fun x => x.1 ≤ n ∧ x.2.2.1.length = x.1 ∧ (x.2.1 = none → x.2.2.1 = []) ∧ listP secP src = ahead x.2.2.1 (repP secP (n - x.1) x.2.2.2) ∧ x.2.2.2.length ≤ 1000000000) (fun x => n - x.1) (0, none, [], s) ⟨Nat.zero_le _, rfl, fun _ => rfl, by unfold listP; rw [hn]; exact (ahead_nil _).symm, by dsimp only; omega⟩
        (Sh.forget (by simp -implicitDefEqProofs [go_sem]) rfl rfl) ?_
      rintro ⟨i, o, xs, s⟩ ⟨hi, hx, ho, hL, hsl⟩
      dsimp only at hi hx ho hL hsl ⊢
      refine SWp.seq (Wp.s ?_)
      simp -implicitDefEqProofs [go_sem]
      refine And.symm ⟨?_, fun h => ?_⟩
      · intro h
        exact ⟨o, xs, s, ⟨ho, by rw [hL, show n - i = 0 by omega, repP]; simp [ahead]⟩, Sh.forget (by simp -implicitDefEqProofs [go_sem]) rfl rfl⟩
      have hnn : n - i = n - (i + 1) + 1 := by omega
      refine SWp.seq (SWp.block ?_)
      refine SWp.seq (Wp.s ?_)
      by_cases h8 : s.length < 8
      · have hq : secP s = .error 10 := by unfold secP; rw [dif_pos h8]
        have hL' := hL
        rw [hnn, rep_err hq] at hL'
        simp -implicitDefEqProofs [go_sem, show (s.length : Int) < 8 by omega]
        rw [hL']
        exact Fin.pu (.refl _) (by simp -implicitDefEqProofs [go_sem, rdv]) hokH (by simp) (outV_take _ _)
      · obtain ⟨s0, e0, hq⟩ : ∃ s0 : Sec, s0.val = s.take 8 ∧ secP s = .ok (s0, s.drop 8) := ⟨⟨s.take 8, by rw [List.length_take]; omega⟩, rfl, by unfold secP; rw [dif_neg h8]⟩
        simp -implicitDefEqProofs [go_sem, show ¬ (s.length : Int) < 8 by omega]
        refine SWp.seq (Wp.s ?_)
        simp -implicitDefEqProofs [go_sem]
        refine SWp.join (α := Unit) (fun _ => ([(9, .ptr H.length 0), (0, .sl .sh 1 (bs s)), (5, ci n), (8, ci i), (7, outC o V.length 8 (xs.map secC))], H ++ [some (secC s0)], outV V o)) (fun _ => True) ?_ ?_
        · refine SWp.seq (Wp.s ?_)
          simp -implicitDefEqProofs [go_sem]
          refine SWp.block ?_
          refine SWp.loop (α := Nat × List CV) (fun x => ([(10, ci x.1), (9, .ptr H.length 0), (0, .sl .sh 1 (bs s)), (5, ci n), (8, ci i), (7, outC o V.length 8 (xs.map secC))], H ++ [some x.2], outV V o))
            (fun x => x.1 ≤ 8 ∧ x.2.length = 8 ∧ x.2.take x.1 = (s.take x.1).map cell8) (fun x => 8 - x.1) (0, List.replicate 8 (cell8 0)) ⟨by decide, rfl, rfl⟩ (Sh.forget (by simp -implicitDefEqProofs [go_sem]) rfl rfl) ?_
          rintro ⟨j, cs⟩ ⟨hj, hc, ht⟩
          dsimp only at hj hc ht ⊢
          refine Wp.s ?_
          simp -implicitDefEqProofs [go_sem]
          refine ⟨fun h1 => ?_, fun h2 => ?_⟩
          · have hjs : j < s.length := by omega
            exact ⟨h1, by omega, hjs, j + 1, cs.take j ++ cell8 s[j] :: cs.drop (j + 1), ⟨by omega, by rw [List.length_append, List.length_cons, List.length_take, List.length_drop]; omega, (fill_step hjs (by omega) ht).trans List.map_take⟩, by omega, Sh.forget (by simp -implicitDefEqProofs [go_sem, wrap_succ (show j ≤ 1000000000 by omega)]) rfl rfl⟩
          · have e1 : cs = secC s0 := by
              have e2 : j = 8 := by omega
              rw [e2, List.take_of_length_le (by omega), ← e0] at ht
              rw [ht]; rfl
            rw [e1]
            exact Sh.forget (by simp -implicitDefEqProofs [go_sem]) rfl rfl
        · rintro _ -
          dsimp only
          refine Wp.s ?_
          have hs' := shr_sec _ _ _ hq
          have hL' := hL
          rw [hnn, rep_ok hq] at hL'
          have hw := wrap_succ (show i ≤ 1000000000 by omega)
          cases o with
          | none =>
            obtain rfl := ho rfl
            simp -implicitDefEqProofs [go_sem]
            refine CC.mono (rest_cc _ _ _ s 8 (by omega) hsl) ?_
            rintro _ _ _ ⟨v', rfl, rfl, rfl⟩
            simp -implicitDefEqProofs [go_sem]
            refine Wp.s ?_
            simp -implicitDefEqProofs [go_sem]
            exact ⟨i + 1, some 0, [] ++ [s0], s.drop 8, ⟨by omega, by rw [List.length_append, hx]; rfl, by simp, hL', by omega⟩, by omega, Sh.cut H.length (V.length + 1) (by simp -implicitDefEqProofs [go_sem, hw]) (Nat.le_refl _) (Nat.le_succ _) (by simp -implicitDefEqProofs [go_sem]) (fun b cs h => okL_mono (Nat.le_refl _) (Nat.le_succ _) (hokH b cs h)) (by simp) (take_tok ..)⟩
          | some v =>
            simp -implicitDefEqProofs [go_sem]
            refine ⟨by omega, ?_⟩
            refine CC.mono (rest_cc _ _ _ s 8 (by omega) hsl) ?_
            rintro _ _ _ ⟨v', rfl, rfl, rfl⟩
            simp -implicitDefEqProofs [go_sem]
            refine Wp.s ?_
            simp -implicitDefEqProofs [go_sem]
            exact ⟨i + 1, some (v + 1), xs ++ [s0], s.drop 8, ⟨by omega, by rw [List.length_append, hx]; rfl, by simp, hL', by omega⟩, by omega, Sh.cut H.length (V.length + 1) (by simp -implicitDefEqProofs [go_sem, hw]) (Nat.le_refl _) (Nat.le_succ _) (by simp -implicitDefEqProofs [go_sem, okE_app]) (fun b cs h => okL_mono (Nat.le_refl _) (Nat.le_succ _) (hokH b cs h)) (by simp) (take_tok ..)⟩
    · rintro ⟨o, xs, s⟩ ⟨ho, hL⟩
      dsimp only at ho hL ⊢
      refine Wp.s ?_
      simp -implicitDefEqProofs [go_sem]
      rw [hL]
      exact Fin.pu (.tup (.cons (outC_le _ _ _ _ (by decide) ho) (.cons (.refl _) (.cons (.refl _) .nil)))) (by simp -implicitDefEqProofs [go_sem, rdv]) hokH (by simp) (outV_take _ _)
theorem refWrites_cc (H : Hp) (V : List Nat) (tk : Tk) (src : List UInt8) (hl : src.length ≤ 1000000000) : CC Tryz.prog 63 [.sl tk 1 (bs src)] H V (Pu (rdv (fun l : List Wr => .sl .sh 3 (l.map wrC)) nilC (listP wrP src)) H V) := by
  refine CC.of_swp Tryz.func63 rfl (by kernel_rfl) (by rw [Tryz.ntmps63]; exact len_le _ _ rfl) fun hok hokH => ?_
  clear hok
  refine SWp.seq (Wp.s ?_)
  simp -implicitDefEqProofs [go_sem, args0]
  refine SWp.seq (Wp.s ?_)
  simp -implicitDefEqProofs [go_sem]
  refine CC.mono (refLength_cc _ _ _ _ hl) ?_
  rintro _ _ _ ⟨rfl, rfl, rfl⟩
  rcases hn : lengthP src with e | ⟨n, s⟩
  · have he := ne0_length _ _ hn
    have hq : listP wrP src = .error e := by unfold listP; rw [hn]
    rw [hq]
    simp -implicitDefEqProofs [go_sem, rdv]
    refine Wp.s ?_
    simp -implicitDefEqProofs [go_sem, he]
    exact Fin.pu (.refl _) (by simp -implicitDefEqProofs [go_sem]) hokH (by simp) (by simp)
  · have hn5 := length_le hn
    have hls := shr_length _ _ _ hn
    simp -implicitDefEqProofs [go_sem, rdv]
    refine SWp.seq (Wp.s ?_)
    simp -implicitDefEqProofs [go_sem]
    refine SWp.seq (Wp.s ?_)
    simp -implicitDefEqProofs [go_sem]
    refine SWp.join (α := Option Nat × List Wr × List UInt8) (fun x => ([(7, outC x.1 V.length 3 (x.2.1.map wrC)), (0, .sl .sh 1 (bs x.2.2))], H, outV V x.1)) (fun x => (x.1 = none → x.2.1 = []) ∧ listP wrP src = .ok (x.2.1, x.2.2)) ?_ ?_
    · refine SWp.seq (Wp.s ?_)
      simp -implicitDefEqProofs [go_sem]
      refine SWp.block ?_
      refine SWp.loop (α := Nat × Option Nat × List Wr × List UInt8) (fun x => ([(0, .sl .sh 1 (bs x.2.2.2)), (5, ci n), (8, ci x.1), (7, outC x.2.1 V.length 3 (x.2.2.1.map wrC))], H, outV V x.2.1))
        (fun x => x.1 ≤ n ∧ x.2.2.1.length = x.1 ∧ (x.2.1 = none → x.2.2.1 = []) ∧ listP wrP src = ahead x.2.2.1 (repP wrP (n - x.1) x.2.2.2) ∧ x.2.2.2.length ≤ 1000000000) (fun x => n - x.1) (0, none, [], s) ⟨Nat.zero_le _, rfl, fun _ => rfl, by unfold listP; rw [hn]; exact (ahead_nil _).symm, by dsimp only; omega⟩
        (Sh.forget (by simp -implicitDefEqProofs [go_sem]) rfl rfl) ?_
      rintro ⟨i, o, xs, s⟩ ⟨hi, hx, ho, hL, hsl⟩
      dsimp only at hi hx ho hL hsl ⊢
      refine Wp.s ?_
      simp -implicitDefEqProofs [go_sem]
      refine ⟨fun h => ?_, fun h => ?_⟩
      · refine CC.mono (refInt_cc _ _ _ s hsl) ?_
        rintro _ _ _ ⟨rfl, rfl, rfl⟩
        have hnn : n - i = n - (i + 1) + 1 := by omega
        rcases hm : number s with e | ⟨a, s1⟩
        · have he := ne0_number _ _ hm
          have hL' := hL
          rw [hnn, rep_err (show wrP s = .error e by unfold wrP pairP; rw [hm])] at hL'
          simp -implicitDefEqProofs [go_sem, rdv, he]
          rw [hL']
          exact Fin.pu (.refl _) (by simp -implicitDefEqProofs [go_sem, rdv]) hokH (by simp) (outV_take _ _)
        · have hs1 := shr_number _ _ _ hm
          simp -implicitDefEqProofs [go_sem, rdv]
          refine CC.mono (refInt_cc _ _ _ s1 (by omega)) ?_
          rintro _ _ _ ⟨rfl, rfl, rfl⟩
          rcases hm2 : number s1 with e | ⟨b, s2⟩
          · have he := ne0_number _ _ hm2
            have hL' := hL
            rw [hnn, rep_err (show wrP s = .error e by unfold wrP pairP; rw [hm]; dsimp only; rw [hm2])] at hL'
            simp -implicitDefEqProofs [go_sem, rdv, he]
            rw [hL']
            exact Fin.pu (.refl _) (by simp -implicitDefEqProofs [go_sem, rdv]) hokH (by simp) (outV_take _ _)
          · have hs2 := shr_number _ _ _ hm2
            simp -implicitDefEqProofs [go_sem, rdv]
            refine CC.mono (refSectors_cc _ _ _ s2 (by omega)) ?_
            rintro _ _ _ ⟨rfl, rfl, rfl⟩
            rcases hm3 : listP secP s2 with e | ⟨l, s3⟩
            · have he := ne0_list ne0_sec _ _ hm3
              have hL' := hL
              rw [hnn, rep_err (show wrP s = .error e by unfold wrP pairP; rw [hm]; dsimp only; rw [hm2]; dsimp only; rw [hm3])] at hL'
              simp -implicitDefEqProofs [go_sem, rdv, he]
              rw [hL']
              exact Fin.pu (.refl _) (by simp -implicitDefEqProofs [go_sem, rdv]) hokH (by simp) (outV_take _ _)
            · have hs3 := shr_list shr_sec _ _ _ hm3
              simp -implicitDefEqProofs [go_sem, rdv]
              have hq : wrP s = .ok (⟨a, b, l⟩, s3) := by unfold wrP pairP; rw [hm]; dsimp only; rw [hm2]; dsimp only; rw [hm3]
              have hs' := shr_wr _ _ _ hq
              have hL' := hL
              rw [hnn, rep_ok hq] at hL'
              have hw := wrap_succ (show i ≤ 1000000000 by omega)
              cases o with
              | none =>
                obtain rfl := ho rfl
                simp -implicitDefEqProofs [go_sem]
                exact ⟨i + 1, some 0, [] ++ [⟨a, b, l⟩], s3, ⟨by omega, by rw [List.length_append, hx]; rfl, by simp, hL', by omega⟩, by omega, Sh.forget (by simp -implicitDefEqProofs [go_sem, hw]; exact .refl _) rfl rfl⟩
              | some v =>
                simp -implicitDefEqProofs [go_sem]
                exact ⟨by omega, i + 1, some (v + 1), xs ++ [⟨a, b, l⟩], s3, ⟨by omega, by rw [List.length_append, hx]; rfl, by simp, hL', by omega⟩, by omega, Sh.forget (by simp -implicitDefEqProofs [go_sem, hw]; exact .refl _) rfl rfl⟩
      · exact ⟨o, xs, s, ⟨ho, by rw [hL, show n - i = 0 by omega, repP]; simp [ahead]⟩, Sh.forget (by simp -implicitDefEqProofs [go_sem]) rfl rfl⟩
    · rintro ⟨o, xs, s⟩ ⟨ho, hL⟩
      dsimp only at ho hL ⊢
      refine Wp.s ?_
      simp -implicitDefEqProofs [go_sem]
      rw [hL]
      exact Fin.pu (.tup (.cons (outC_le _ _ _ _ (by decide) ho) (.cons (.refl _) (.cons (.refl _) .nil)))) (by simp -implicitDefEqProofs [go_sem, rdv]) hokH (by simp) (outV_take _ _)
end Go.Proofs.YtfbjhkpdlihgeaaGreat
namespace Go.Proofs.YtfbjhkpdlihgeaaGreat
open Go.Proofs
@[go_sem] theorem hbx_at1 (H : Hp) (a : Option (List CV)) (cs : List CV) (L : Hp) (K : List CV → Prop) : hbx (H ++ a :: some cs :: L) (H.length + 1) K = K cs := by
  rw [show H ++ a :: some cs :: L = (H ++ [a]) ++ some cs :: L by simp]; exact hbx_at (by simp)
@[go_sem] theorem set_at1 (H : Hp) (a c d : Option (List CV)) (L : Hp) : (H ++ a :: c :: L).set (H.length + 1) d = H ++ a :: d :: L := by
  rw [show H ++ a :: c :: L = (H ++ [a]) ++ c :: L by simp, set_at (by simp)]; simp
/-- The table, as cells. -/
def tabC : List CV := (List.range 256).map fun j => c32 (tabE j)
theorem tabC_len : tabC.length = 256 := by rw [tabC, List.length_map, List.length_range]
theorem tabC_get (i : Nat) (h : i < tabC.length) : tabC[i] = c32 (tabE i) := by
  simp only [tabC, List.getElem_map, List.getElem_range]
theorem tabC_all : allOne tabC = true := by
  simp only [allOne, tabC, List.all_map, List.all_eq_true]; intros; rfl
theorem okL_tabC (i j : Nat) : okL i j tabC = True := eq_true (by
  rw [okL_iff]; intro c hc
  simp only [tabC, List.mem_map] at hc
  obtain ⟨b, _, rfl⟩ := hc
  trivial)
theorem tabC_take : tabC.take 256 = tabC := List.take_of_length_le (by rw [tabC_len]; exact Nat.le_refl _)
theorem fill_tab {α : Type} {cs : List α} {f : Nat → α} {i : Nat} (hc : i < cs.length) (ht : cs.take i = (List.range i).map f) : (cs.take i ++ f i :: cs.drop (i + 1)).take (i + 1) = (List.range (i + 1)).map f := by
  have h : (cs.take i).length = i := by rw [List.length_take]; omega
  rw [List.take_append, List.take_of_length_le (by omega), h, show i + 1 - i = 1 by omega, List.take_succ_cons, List.take_zero, ht, List.range_succ, List.map_append]; rfl
set_option maxRecDepth 20000 in
theorem registers_cc (H : Hp) (V : List Nat) : CC Tryz.prog 75 [] H V (Pu (.agg tabC) H V) := by
  refine CC.of_swp Tryz.func75 rfl (by kernel_rfl) (by rw [Tryz.ntmps75]; exact len_le _ _ rfl) fun hok hokH => ?_
  refine SWp.seq (Wp.s ?_)
  simp -implicitDefEqProofs [go_sem, args0]
  refine SWp.seq (Wp.s ?_)
  simp -implicitDefEqProofs [go_sem]
  obtain ⟨zs, hzs⟩ : ∃ zs, z256.map CV.v = zs := ⟨_, rfl⟩
  have hzl : zs.length = 256 := by rw [← hzs, List.length_map, z256, List.length_replicate]
  rw [hzs]
  refine SWp.join (α := Unit) (fun _ => ([(1, .ptr (H.length + 1) 0), (0, .ptr H.length 0)], H ++ [some zs, some tabC], V)) (fun _ => True) ?_ ?_
  · refine SWp.seq (Wp.s ?_)
    simp -implicitDefEqProofs [go_sem]
    refine SWp.block ?_
    refine SWp.loop (α := Nat × List CV) (fun x => ([(5, ci x.1), (1, .ptr (H.length + 1) 0), (0, .ptr H.length 0)], H ++ [some zs, some x.2], V)) (fun x => x.1 ≤ 256 ∧ x.2.length = 256 ∧ x.2.take x.1 = (List.range x.1).map fun j => c32 (tabE j)) (fun x => 256 - x.1) (0, zs) ⟨Nat.zero_le _, hzl, rfl⟩ (Sh.forget (by simp -implicitDefEqProofs [go_sem]) rfl rfl) ?_
    rintro ⟨i, cs⟩ ⟨hi, hc, ht⟩
    dsimp only at hi hc ht ⊢
    refine SWp.seq (Wp.s ?_)
    simp -implicitDefEqProofs [go_sem]
    refine SWp.seq (Wp.s ?_)
    by_cases h : i < 256
    · simp -implicitDefEqProofs [go_sem, show (i : Int) < 256 by omega]
      refine SWp.seq (SWp.block ?_)
      refine SWp.seq (Wp.s ?_)
      simp -implicitDefEqProofs [go_sem]
      refine SWp.seq (Wp.s ?_)
      have hwi := ofNatR (show i < 4294967296 by omega)
      simp -implicitDefEqProofs [go_sem, hwi]
      refine SWp.join (α := Unit) (fun _ => ([(3, c32 (tabE i)), (2, ci i), (5, ci i), (1, .ptr (H.length + 1) 0), (0, .ptr H.length 0)], H ++ [some zs, some cs], V)) (fun _ => True) ?_ ?_
      · refine SWp.seq (Wp.s ?_)
        simp -implicitDefEqProofs [go_sem]
        refine SWp.block ?_
        refine SWp.loop (α := Nat × Reg) (fun x => ([(10, ci x.1), (3, c32 x.2), (2, ci i), (5, ci i), (1, .ptr (H.length + 1) 0), (0, .ptr H.length 0)], H ++ [some zs, some cs], V)) (fun x => x.1 ≤ 8 ∧ bits (8 - x.1) x.2 = tabE i) (fun x => 8 - x.1) (0, BitVec.ofNat 32 i) ⟨Nat.zero_le _, rfl⟩ (Sh.forget (by simp -implicitDefEqProofs [go_sem]) rfl rfl) ?_
        rintro ⟨q, r⟩ ⟨hq, hr⟩
        dsimp only at hq hr ⊢
        refine Wp.s ?_
        by_cases hq8 : q < 8
        · simp -implicitDefEqProofs [go_sem, show (q : Int) < 8 by omega, and1R, shr1R, stepR]
          refine ⟨q + 1, bit1 r, ⟨by omega, ?_⟩, by omega, Sh.forget (by simp -implicitDefEqProofs [go_sem, wrap_succ (show q ≤ 1000000000 by omega)]) rfl rfl⟩
          rw [show 8 - q = (8 - (q + 1)) + 1 by omega, bits] at hr
          exact hr
        · simp -implicitDefEqProofs [go_sem, show ¬ (q : Int) < 8 by omega]
          rw [show 8 - q = 0 by omega, bits] at hr
          subst hr
          exact Sh.forget (by simp -implicitDefEqProofs [go_sem]) rfl rfl
      · rintro _ -
        dsimp only
        refine Wp.s ?_
        simp -implicitDefEqProofs [go_sem, h]
        refine ⟨by omega, by omega, ?_⟩
        refine Wp.s ?_
        simp -implicitDefEqProofs [go_sem]
        exact ⟨i + 1, cs.take i ++ c32 (tabE i) :: cs.drop (i + 1), ⟨by omega, by rw [List.length_append, List.length_cons, List.length_take, List.length_drop]; omega, fill_tab (f := fun j => c32 (tabE j)) (by omega) ht⟩, by omega, Sh.forget (by simp -implicitDefEqProofs [go_sem, wrap_succ (show i ≤ 1000000000 by omega)]) rfl rfl⟩
    · simp -implicitDefEqProofs [go_sem, show ¬ (i : Int) < 256 by omega]
      have e : cs = tabC := by
        have e2 : i = 256 := by omega
        rw [e2, List.take_of_length_le (by omega)] at ht
        exact ht
      rw [e]
      exact Sh.forget (by simp -implicitDefEqProofs [go_sem]) rfl rfl
  · rintro _ -
    dsimp only
    refine Wp.s ?_
    simp -implicitDefEqProofs [go_sem, tabC_len, tabC_take, tabC_all, hzl]
    exact Fin.pu (.refl _) (by simp -implicitDefEqProofs [go_sem, okL_tabC]) hokH (by simp) (by simp)
end Go.Proofs.YtfbjhkpdlihgeaaGreat
namespace Go.Proofs.YtfbjhkpdlihgeaaGreat
open Go.Proofs
theorem tabC_at {i : Nat} (h : i < 256) (H : Hp) (L : Hp) (K : CV → Prop) : (hbx (H ++ some tabC :: L) H.length fun cs => ∃ h : i < cs.length, K cs[i]) = K (c32 (tabE i)) := by
  rw [hbx_new]
  exact propext ⟨fun ⟨h, k⟩ => by rw [tabC_get] at k; exact k, fun k => ⟨by rw [tabC_len]; exact h, by rw [tabC_get]; exact k⟩⟩
theorem Update_cc (H : Hp) (V : List Nat) (tk : Tk) (s : Reg) (l : List UInt8) (hl : l.length ≤ 900000000) : CC Tryz.prog 44 [c32 s, .sl tk 1 (bs l)] H V (Pu (c32 (~~~(crcR (~~~s) l))) H V) := by
  refine CC.of_swp Tryz.func44 rfl (by kernel_rfl) (by rw [Tryz.ntmps44]; exact len_le _ _ rfl) fun hok hokH => ?_
  clear hok
  refine SWp.seq (Wp.s ?_)
  simp -implicitDefEqProofs [go_sem, args0]
  refine SWp.seq (Wp.s ?_)
  simp -implicitDefEqProofs [go_sem]
  refine CC.mono (registers_cc _ _) ?_
  rintro _ _ _ ⟨rfl, rfl, rfl⟩
  have hzl : (z256.map CV.v).length = 256 := by rw [List.length_map, z256, List.length_replicate]
  have hzl' : z256.length = 256 := by rw [z256, List.length_replicate]
  simp -implicitDefEqProofs [go_sem, tabC_len, tabC_all, hzl', List.drop_eq_nil_of_le]
  refine SWp.seq (Wp.s ?_)
  simp -implicitDefEqProofs [go_sem, maxU32, notR]
  refine SWp.join (α := Unit) (fun _ => ([(6, c32 (crcR (~~~s) l))], H ++ [some tabC], V)) (fun _ => True) ?_ ?_
  · refine SWp.seq (Wp.s ?_)
    simp -implicitDefEqProofs [go_sem]
    refine SWp.block ?_
    refine SWp.loop (α := Nat × Reg) (fun x => ([(14, ci x.1), (6, c32 x.2), (5, .ptr H.length 0), (12, .sl tk 1 (bs l)), (13, ci l.length)], H ++ [some tabC], V)) (fun x => x.1 ≤ l.length ∧ crcR x.2 (l.drop x.1) = crcR (~~~s) l) (fun x => l.length - x.1) (0, ~~~s) ⟨Nat.zero_le _, rfl⟩ (Sh.forget (by simp -implicitDefEqProofs [go_sem]) rfl rfl) ?_
    rintro ⟨i, r⟩ ⟨hi, hr⟩
    dsimp only at hi hr ⊢
    refine Wp.s ?_
    by_cases h : i < l.length
    · rw [List.drop_eq_getElem_cons h] at hr
      have hr : crcR (regB r l[i]) (l.drop (i + 1)) = crcR (~~~s) l := hr
      rw [reg_table] at hr
      have hx : (r ^^^ BitVec.ofNat 32 l[i].toNat).toNat % 256 < 256 := Nat.mod_lt _ (by omega)
      have hx8 := xor8 r l[i]
      generalize (r ^^^ BitVec.ofNat 32 l[i].toNat).toNat % 256 = j at hr hx hx8
      simp -implicitDefEqProofs [go_sem, h, shr8R, hx8, hx, tabC_len, tabC_get, xorR]
      exact ⟨by omega, i + 1, r >>> 8 ^^^ tabE j, ⟨by omega, hr⟩, by omega, Sh.forget (by simp -implicitDefEqProofs [go_sem, wrap_succ (show i ≤ 1000000000 by omega)]) rfl rfl⟩
    · simp -implicitDefEqProofs [go_sem, h]
      rw [List.drop_eq_nil_of_le (by omega)] at hr
      have hr : r = crcR (~~~s) l := hr
      rw [← hr]
      exact Sh.forget (by simp -implicitDefEqProofs [go_sem]) rfl rfl
  · rintro _ -
    dsimp only
    refine Wp.s ?_
    simp -implicitDefEqProofs [go_sem, maxU32, notR]
    exact Fin.pu (.refl _) (by simp -implicitDefEqProofs [go_sem]) hokH (by simp) (by simp)
theorem Sum_cc (H : Hp) (V : List Nat) (tk : Tk) (l : List UInt8) (hl : l.length ≤ 900000000) : CC Tryz.prog 22 [.sl tk 1 (bs l)] H V (Pu (c32 (crc l)) H V) := by
  refine CC.of_swp Tryz.func22 rfl (by kernel_rfl) (by rw [Tryz.ntmps22]; exact len_le _ _ rfl) fun hok hokH => Wp.s ?_
  simp -implicitDefEqProofs [go_sem, args0]
  refine CC.mono (Update_cc H V tk 0#32 l hl) ?_
  rintro _ _ _ ⟨rfl, rfl, rfl⟩
  simp -implicitDefEqProofs [go_sem]
  exact Fin.pu (.refl _) (by simp -implicitDefEqProofs [go_sem]) hokH (by simp) (by simp)
theorem register_cc (H : Hp) (V : List Nat) (r : Reg) (b : UInt8) : CC Tryz.prog 81 [c32 r, .v (.int .u8 (b.toNat : Int))] H V (Pu (c32 (regB r b)) H V) := by
  refine CC.of_swp Tryz.func81 rfl (by kernel_rfl) (by rw [Tryz.ntmps81]; exact len_le _ _ rfl) fun hok hokH => ?_
  clear hok
  refine SWp.seq (Wp.s ?_)
  simp -implicitDefEqProofs [go_sem, args0]
  refine SWp.seq (Wp.s ?_)
  have hb := b.toNat_lt
  simp -implicitDefEqProofs [go_sem, ofNatR (show b.toNat < 4294967296 by omega), xorR]
  refine SWp.join (α := Unit) (fun _ => ([(0, c32 (regB r b))], H, V)) (fun _ => True) ?_ ?_
  · refine SWp.seq (Wp.s ?_)
    simp -implicitDefEqProofs [go_sem]
    refine SWp.block ?_
    refine SWp.loop (α := Nat × Reg) (fun x => ([(5, ci x.1), (0, c32 x.2)], H, V)) (fun x => x.1 ≤ 8 ∧ bits (8 - x.1) x.2 = regB r b) (fun x => 8 - x.1) (0, r ^^^ BitVec.ofNat 32 b.toNat) ⟨Nat.zero_le _, rfl⟩ (Sh.forget (by simp -implicitDefEqProofs [go_sem]) rfl rfl) ?_
    rintro ⟨q, x⟩ ⟨hq, hx⟩
    dsimp only at hq hx ⊢
    refine Wp.s ?_
    have hw := wrap_succ (show q ≤ 1000000000 by omega)
    by_cases h8 : q < 8
    · rw [show 8 - q = (8 - (q + 1)) + 1 by omega, bits] at hx
      by_cases hm : x.toNat % 2 = 1
      · rw [bit1_1 hm] at hx
        simp -implicitDefEqProofs [go_sem, show (q : Int) < 8 by omega, remR, hm, shr1R, xorP]
        exact ⟨q + 1, _, ⟨by omega, hx⟩, by omega, Sh.forget (by simp -implicitDefEqProofs [go_sem, hw]) rfl rfl⟩
      · rw [bit1_0 hm] at hx
        simp -implicitDefEqProofs [go_sem, show (q : Int) < 8 by omega, remR, show x.toNat % 2 = 0 by omega, shr1R]
        exact ⟨q + 1, _, ⟨by omega, hx⟩, by omega, Sh.forget (by simp -implicitDefEqProofs [go_sem, hw]) rfl rfl⟩
    · simp -implicitDefEqProofs [go_sem, show ¬ (q : Int) < 8 by omega]
      rw [show 8 - q = 0 by omega, bits] at hx
      rw [← hx]
      exact Sh.forget (by simp -implicitDefEqProofs [go_sem]) rfl rfl
  · rintro _ -
    dsimp only
    refine Wp.s ?_
    simp -implicitDefEqProofs [go_sem]
    exact Fin.pu (.refl _) (by simp -implicitDefEqProofs [go_sem]) hokH (by simp) (by simp)
theorem refUpdate_cc (H : Hp) (V : List Nat) (tk : Tk) (s : Reg) (l : List UInt8) (hl : l.length ≤ 900000000) : CC Tryz.prog 51 [c32 s, .sl tk 1 (bs l)] H V (Pu (c32 (~~~(crcR (~~~s) l))) H V) := by
  refine CC.of_swp Tryz.func51 rfl (by kernel_rfl) (by rw [Tryz.ntmps51]; exact len_le _ _ rfl) fun hok hokH => ?_
  clear hok
  refine SWp.seq (Wp.s ?_)
  simp -implicitDefEqProofs [go_sem, args0]
  refine SWp.seq (Wp.s ?_)
  simp -implicitDefEqProofs [go_sem, maxU32, notR]
  refine SWp.join (α := Unit) (fun _ => ([(5, c32 (crcR (~~~s) l))], H, V)) (fun _ => True) ?_ ?_
  · refine SWp.seq (Wp.s ?_)
    simp -implicitDefEqProofs [go_sem]
    refine SWp.block ?_
    refine SWp.loop (α := Nat × Reg) (fun x => ([(6, ci x.1), (5, c32 x.2), (1, .sl tk 1 (bs l))], H, V)) (fun x => x.1 ≤ l.length ∧ crcR x.2 (l.drop x.1) = crcR (~~~s) l) (fun x => l.length - x.1) (0, ~~~s) ⟨Nat.zero_le _, rfl⟩ (Sh.forget (by simp -implicitDefEqProofs [go_sem]) rfl rfl) ?_
    rintro ⟨i, r⟩ ⟨hi, hr⟩
    dsimp only at hi hr ⊢
    refine Wp.s ?_
    by_cases h : i < l.length
    · rw [List.drop_eq_getElem_cons h] at hr
      have hr : crcR (regB r l[i]) (l.drop (i + 1)) = crcR (~~~s) l := hr
      simp -implicitDefEqProofs [go_sem, h]
      refine CC.mono (register_cc _ _ _ _) ?_
      rintro _ _ _ ⟨rfl, rfl, rfl⟩
      simp -implicitDefEqProofs [go_sem]
      exact ⟨i + 1, _, ⟨by omega, hr⟩, by omega, Sh.forget (by simp -implicitDefEqProofs [go_sem, wrap_succ (show i ≤ 1000000000 by omega)]) rfl rfl⟩
    · simp -implicitDefEqProofs [go_sem, h]
      rw [List.drop_eq_nil_of_le (by omega)] at hr
      have hr : r = crcR (~~~s) l := hr
      rw [← hr]
      exact Sh.forget (by simp -implicitDefEqProofs [go_sem]) rfl rfl
  · rintro _ -
    dsimp only
    refine Wp.s ?_
    simp -implicitDefEqProofs [go_sem, maxU32, notR]
    exact Fin.pu (.refl _) (by simp -implicitDefEqProofs [go_sem]) hokH (by simp) (by simp)
theorem refSum_cc (H : Hp) (V : List Nat) (tk : Tk) (l : List UInt8) (hl : l.length ≤ 900000000) : CC Tryz.prog 27 [.sl tk 1 (bs l)] H V (Pu (c32 (crc l)) H V) := by
  refine CC.of_swp Tryz.func27 rfl (by kernel_rfl) (by rw [Tryz.ntmps27]; exact len_le _ _ rfl) fun hok hokH => Wp.s ?_
  simp -implicitDefEqProofs [go_sem, args0]
  refine CC.mono (refUpdate_cc H V tk 0#32 l hl) ?_
  rintro _ _ _ ⟨rfl, rfl, rfl⟩
  simp -implicitDefEqProofs [go_sem]
  exact Fin.pu (.refl _) (by simp -implicitDefEqProofs [go_sem]) hokH (by simp) (by simp)
end Go.Proofs.YtfbjhkpdlihgeaaGreat
namespace Go.Proofs.YtfbjhkpdlihgeaaGreat
open Go.Proofs
theorem in_cc (H : Hp) (V : List Nat) (a b c : Int) : CC Tryz.prog 66 [ci a, ci b, ci c] H V (Pu (cb (inB a b c)) H V) := by
  refine CC.of_swp Tryz.func66 rfl (by kernel_rfl) (by rw [Tryz.ntmps66]; exact len_le _ _ rfl) fun hok hokH => ?_
  clear hok
  refine SWp.seq (Wp.s ?_)
  simp -implicitDefEqProofs [go_sem, args0]
  by_cases h : b ≤ a
  · refine Wp.s ?_
    simp -implicitDefEqProofs [go_sem, h]
    exact Fin.bool (by simp [inB, h]) hokH (by simp) (by simp)
  · refine Wp.s ?_
    simp -implicitDefEqProofs [go_sem, h]
    exact Fin.bool (by simp [inB, h]) hokH (by simp) (by simp)
theorem indexInt_cc (H : Hp) (V : List Nat) (tk : Tk) (l : List Int) (g : Nat) (p : Int → Bool) (hg : ∀ (H : Hp) (V : List Nat) (a : Int), CC Tryz.prog g [ci a] H V (Pu (cb (p a)) H V)) (hl : l.length ≤ 9223372036854775807) :
    CC Tryz.prog 111 [.sl tk 1 (l.map ic), .fn g []] H V (Ix (l.any p) H V) := by
  refine CC.of_swp Tryz.func111 rfl (by kernel_rfl) (by rw [Tryz.ntmps111]; exact len_le _ _ rfl) fun hok hokH => ?_
  clear hok
  refine SWp.seq (Wp.s ?_)
  simp -implicitDefEqProofs [go_sem, args0]
  refine SWp.join (α := Unit) (fun _ => ([], H, V)) (fun _ => l.any p = false) ?_ ?_
  · refine SWp.seq (Wp.s ?_)
    simp -implicitDefEqProofs [go_sem]
    refine SWp.block ?_
    refine SWp.loop (α := Nat) (fun i => ([(0, .sl tk 1 (l.map ic)), (1, .fn g []), (7, ci l.length), (8, ci i)], H, V)) (fun i => i ≤ l.length ∧ (l.take i).any p = false) (fun i => l.length - i) 0 ⟨Nat.zero_le _, rfl⟩
      (Sh.forget (by simp [go_sem]) rfl rfl) ?_
    rintro i ⟨hi, hp⟩
    dsimp only
    refine Wp.s ?_
    simp -implicitDefEqProofs [go_sem]
    refine ⟨fun h => ⟨h, ?_⟩, fun h => ⟨?_, Sh.forget (by simp [go_sem]) rfl rfl⟩⟩
    · refine CC.mono (hg _ _ _) ?_
      rintro _ _ _ ⟨rfl, rfl, rfl⟩
      rcases hq : p l[i] with - | -
      · simp -implicitDefEqProofs [go_sem]
        refine ⟨i + 1, ⟨by omega, by simpa using any_take h hp hq⟩, by omega, Sh.forget ?_ rfl rfl⟩
        simp [go_sem, wrap_big (show i < 9223372036854775807 by omega)]
      · simp -implicitDefEqProofs [go_sem]
        exact Fin.ix (by rw [any_at h hq]; simp) hokH (by simp) (by simp)
    · rw [List.take_of_length_le h] at hp; simpa using hp
  · rintro _ hp
    dsimp only
    refine Wp.s ?_
    simp -implicitDefEqProofs [go_sem]
    exact Fin.ix (by rw [hp]; rfl) hokH (by simp) (by simp)
theorem containsInt_cc (H : Hp) (V : List Nat) (tk : Tk) (l : List Int) (g : Nat) (p : Int → Bool) (hg : ∀ (H : Hp) (V : List Nat) (a : Int), CC Tryz.prog g [ci a] H V (Pu (cb (p a)) H V)) (hl : l.length ≤ 9223372036854775807) :
    CC Tryz.prog 98 [.sl tk 1 (l.map ic), .fn g []] H V (Pu (cb (l.any p)) H V) := by
  refine CC.of_swp Tryz.func98 rfl (by kernel_rfl) (by rw [Tryz.ntmps98]; exact len_le _ _ rfl) fun hok hokH => Wp.s ?_
  simp -implicitDefEqProofs [go_sem, args0]
  refine CC.mono (indexInt_cc _ _ _ _ _ _ hg hl) ?_
  rintro _ _ _ ⟨k, rfl, hk, rfl, rfl⟩
  simp -implicitDefEqProofs [go_sem]
  exact Fin.bool hk hokH (by simp) (by simp)
theorem pos1_cc (H : Hp) (V : List Nat) (a : Int) : CC Tryz.prog 99 [ci a] H V (Pu (cb (badPos a)) H V) := by
  refine CC.of_swp Tryz.func99 rfl (by kernel_rfl) (by rw [Tryz.ntmps99]; exact len_le _ _ rfl) fun hok hokH => ?_
  clear hok
  refine SWp.seq (Wp.s ?_)
  simp -implicitDefEqProofs [go_sem, args0]
  refine SWp.seq (Wp.s ?_)
  simp -implicitDefEqProofs [go_sem]
  refine CC.mono (in_cc _ _ a 0 1073741824) ?_
  rintro _ _ _ ⟨rfl, rfl, rfl⟩
  simp -implicitDefEqProofs [go_sem]
  refine Wp.s ?_
  simp -implicitDefEqProofs [go_sem]
  exact Fin.bool rfl hokH (by simp) (by simp)
theorem positions_cc (H : Hp) (V : List Nat) (tk : Tk) (l : List Int) (n : Int) (hl : l.length ≤ 9223372036854775807) : CC Tryz.prog 67 [.sl tk 1 (l.map ic), ci n] H V (Pu (er (posE l n)) H V) := by
  refine CC.of_swp Tryz.func67 rfl (by kernel_rfl) (by rw [Tryz.ntmps67]; exact len_le _ _ rfl) fun hok hokH => ?_
  clear hok
  refine SWp.seq (Wp.s ?_)
  simp -implicitDefEqProofs [go_sem, args0]
  refine SWp.seq (Wp.s ?_)
  simp -implicitDefEqProofs [go_sem]
  refine CC.mono (in_cc _ _ l.length n 8) ?_
  rintro _ _ _ ⟨rfl, rfl, rfl⟩
  rcases h : inB l.length n 8 with - | -
  · simp -implicitDefEqProofs [go_sem]
    exact Fin.er (by rw [posE, if_pos h]) hokH (by simp) (by simp)
  simp -implicitDefEqProofs [go_sem]
  refine SWp.seq (Wp.s ?_)
  simp -implicitDefEqProofs [go_sem]
  refine CC.mono (containsInt_cc _ _ tk l _ badPos (fun H V a => pos1_cc H V a) hl) ?_
  rintro _ _ _ ⟨rfl, rfl, rfl⟩
  rcases h2 : l.any badPos with - | -
  · simp -implicitDefEqProofs [go_sem]
    refine Wp.s ?_
    simp -implicitDefEqProofs [go_sem]
    exact Fin.er (by rw [posE, if_neg (by simp [h]), if_neg (by simp [h2])]) hokH (by simp) (by simp)
  · simp -implicitDefEqProofs [go_sem]
    exact Fin.er (by rw [posE, if_neg (by simp [h]), if_pos h2]) hokH (by simp) (by simp)
theorem size1_cc (H : Hp) (V : List Nat) (a : Int) : CC Tryz.prog 110 [ci a] H V (Pu (cb (badSz a)) H V) := by
  refine CC.of_swp Tryz.func110 rfl (by kernel_rfl) (by rw [Tryz.ntmps110]; exact len_le _ _ rfl) fun hok hokH => ?_
  clear hok
  refine SWp.seq (Wp.s ?_)
  simp -implicitDefEqProofs [go_sem, args0]
  by_cases h : a < 1
  · refine Wp.s ?_
    simp -implicitDefEqProofs [go_sem, h]
    exact Fin.bool (by simp [badSz, h]) hokH (by simp) (by simp)
  · refine Wp.s ?_
    simp -implicitDefEqProofs [go_sem, h]
    exact Fin.bool (by simp [badSz, h]) hokH (by simp) (by simp)
theorem checkSizes_cc (H : Hp) (V : List Nat) (tk : Tk) (l : List Int) (hl : l.length ≤ 9223372036854775807) : CC Tryz.prog 95 [.sl tk 1 (l.map ic)] H V (Pu (er (sizesE l)) H V) := by
  refine CC.of_swp Tryz.func95 rfl (by kernel_rfl) (by rw [Tryz.ntmps95]; exact len_le _ _ rfl) fun hok hokH => ?_
  clear hok
  refine SWp.seq (Wp.s ?_)
  simp -implicitDefEqProofs [go_sem, args0]
  refine SWp.seq (Wp.s ?_)
  by_cases h1 : l.length < 1
  · simp -implicitDefEqProofs [go_sem, h1, show (l.length : Int) < 1 by omega]
    exact Fin.er (by rw [sizesE, if_pos (.inl h1)]) hokH (by simp) (by simp)
  by_cases h2 : 8 < l.length
  · simp -implicitDefEqProofs [go_sem, h1, show ¬ (l.length : Int) < 1 by omega, show (8 : Int) < l.length by omega]
    exact Fin.er (by rw [sizesE, if_pos (.inr h2)]) hokH (by simp) (by simp)
  simp -implicitDefEqProofs [go_sem, h1, show ¬ (l.length : Int) < 1 by omega, show ¬ (8 : Int) < l.length by omega]
  refine SWp.seq (Wp.s ?_)
  simp -implicitDefEqProofs [go_sem]
  refine CC.mono (containsInt_cc _ _ tk l _ badSz (fun H V a => size1_cc H V a) hl) ?_
  rintro _ _ _ ⟨rfl, rfl, rfl⟩
  rcases h3 : l.any badSz with - | -
  · simp -implicitDefEqProofs [go_sem]
    refine Wp.s ?_
    simp -implicitDefEqProofs [go_sem]
    exact Fin.er (by rw [sizesE, if_neg (by omega), if_neg (by simp [h3])]) hokH (by simp) (by simp)
  · simp -implicitDefEqProofs [go_sem]
    exact Fin.er (by rw [sizesE, if_neg (by omega), if_pos h3]) hokH (by simp) (by simp)
end Go.Proofs.YtfbjhkpdlihgeaaGreat
namespace Go.Proofs.YtfbjhkpdlihgeaaGreat
open Go.Proofs
theorem mul64_cc (H : Hp) (V : List Nat) : CC Tryz.prog 115 [.v (.int .u64 1), .v (.int .u64 8)] H V (Pu (.tup [.v (.int .u64 0), .v (.int .u64 8)]) H V) := by
  have a1 : shr .u64 1 32 = 0 := by kernel_rfl
  have a2 : shr .u64 8 32 = 0 := by kernel_rfl
  have a3 : bitop .and .u64 8 4294967295 = 8 := by kernel_rfl
  have a4 : bitop .and .u64 1 4294967295 = 1 := by kernel_rfl
  have a5 : bitop .and .u64 0 4294967295 = 0 := by kernel_rfl
  have a6 : shr .u64 0 32 = 0 := by kernel_rfl
  have a7 : IntKind.u64.wrap 0 = 0 := by kernel_rfl
  have a8 : IntKind.u64.wrap 8 = 8 := by kernel_rfl
  refine CC.of_swp Tryz.func115 rfl (by kernel_rfl) (by rw [Tryz.ntmps115]; exact len_le _ _ rfl) fun hok hokH => ?_
  clear hok
  refine SWp.seq (Wp.s ?_)
  simp -implicitDefEqProofs [go_sem, args0]
  refine Wp.s ?_
  simp -implicitDefEqProofs [go_sem, a1, a2, a3, a4, a5, a6, a7, a8]
  exact Fin.pu (.refl _) (by simp [go_sem]) hokH (by simp) (by simp)
theorem mul_cc (H : Hp) (V : List Nat) : CC Tryz.prog 103 [.v (.int .u64 1), .v (.int .u64 8)] H V (Pu (.tup [.v (.int .u64 0), .v (.int .u64 8)]) H V) := by
  refine CC.of_swp Tryz.func103 rfl (by kernel_rfl) (by rw [Tryz.ntmps103]; exact len_le _ _ rfl) fun hok hokH => ?_
  clear hok
  refine SWp.seq (Wp.s ?_)
  simp -implicitDefEqProofs [go_sem, args0]
  refine SWp.seq (Wp.s ?_)
  simp -implicitDefEqProofs [go_sem]
  refine SWp.seq (Wp.s ?_)
  simp -implicitDefEqProofs [go_sem]
  refine CC.mono (mul64_cc _ _) ?_
  rintro _ _ _ ⟨rfl, rfl, rfl⟩
  simp -implicitDefEqProofs [go_sem]
  refine Wp.s ?_
  simp -implicitDefEqProofs [go_sem]
  exact Fin.pu (.refl _) (by simp [go_sem]) hokH (by simp) (by simp)
/-- 4096, 2 ^ k times, then zeros. -/
def rpC (k : Nat) : List CV := (List.replicate (2 ^ k) (4096 : Int) ++ List.replicate (8 - 2 ^ k) 0).map ci
theorem repeat_cc (H : Hp) (V : List Nat) (tk : Tk) : CC Tryz.prog 69 [.sl tk 1 ([4096].map ic), ci 8] H V (Pu (.sl .sh 1 (mostS.map ic)) H V) := by
  have a1 : IntKind.u64.wrap 1 = 1 := by kernel_rfl
  have a8 : IntKind.u64.wrap 8 = 8 := by kernel_rfl
  have b8 : IntKind.i64.wrap 8 = 8 := by kernel_rfl
  refine CC.of_swp Tryz.func69 rfl (by kernel_rfl) (by rw [Tryz.ntmps69]; exact len_le _ _ rfl) fun hok hokH => ?_
  clear hok
  refine SWp.seq (Wp.s ?_)
  simp -implicitDefEqProofs [go_sem, args0]
  refine SWp.seq (Wp.s ?_)
  simp -implicitDefEqProofs [go_sem]
  refine SWp.seq (Wp.s ?_)
  simp -implicitDefEqProofs [go_sem, a1, a8]
  refine CC.mono (mul_cc _ _) ?_
  rintro _ _ _ ⟨rfl, rfl, rfl⟩
  simp -implicitDefEqProofs [go_sem]
  refine SWp.seq (Wp.s ?_)
  simp -implicitDefEqProofs [go_sem]
  refine SWp.seq (Wp.s ?_)
  simp -implicitDefEqProofs [go_sem, b8]
  have h0 : (List.replicate 8 [CV.v (.int .i64 0)]).flatten = List.replicate 8 (ci 0) := rfl
  refine SWp.seq (Wp.s ?_)
  simp -implicitDefEqProofs [go_sem, b8]
  refine ⟨rfl, ?_⟩
  refine SWp.join (α := Unit) (fun _ => ([(7, .bsl H.length 0 8 1)], H ++ [some (rpC 3)], V)) (fun _ => True) ?_ ?_
  · refine SWp.block ?_
    refine SWp.loop (α := Nat) (fun k => ([(7, .bsl H.length 0 8 1), (8, ci (2 ^ k : Nat))], H ++ [some (rpC k)], V)) (fun k => k ≤ 3) (fun k => 3 - k) 0 (by omega) (Sh.forget (by simp [go_sem]) rfl rfl) ?_
    intro k hk
    dsimp only
    obtain rfl | rfl | rfl | rfl : k = 0 ∨ k = 1 ∨ k = 2 ∨ k = 3 := by omega
    all_goals
      refine SWp.seq (SWp.seq (Wp.s ?_))
      simp -implicitDefEqProofs [go_sem]
      refine Wp.s ?_
      simp -implicitDefEqProofs [go_sem]
      first
      | exact Sh.forget (by simp [go_sem]) rfl rfl
      | refine SWp.block ?_
        refine SWp.drawnT [] [7] (.s 0 .pl <| .s 1 .pl <| .s 2 .pl <| .s 3 .pl <| .s 4 .pl <| .s 5 .pl <| .s 6 .pl <| .s 7 .st <| .s 8 .pl <| .s 9 .pl <| .n) (by kernel_rfl) (by kernel_rfl) ?_
        simp -implicitDefEqProofs [go_sem]
        first
        | exact ⟨by decide, by decide, by kernel_rfl, by decide, 1, by omega, by omega, Sh.forget ⟨.refl _, .of_eq rfl, trivial⟩ rfl rfl⟩
        | exact ⟨by decide, by decide, by kernel_rfl, by decide, 2, by omega, by omega, Sh.forget ⟨.refl _, .of_eq rfl, trivial⟩ rfl rfl⟩
        | exact ⟨by decide, by decide, by kernel_rfl, by decide, 3, by omega, by omega, Sh.forget ⟨.refl _, .of_eq rfl, trivial⟩ rfl rfl⟩
  · rintro _ -
    dsimp only
    refine SWp.seq (Wp.s ?_)
    simp -implicitDefEqProofs [go_sem]
    refine Wp.s ?_
    simp -implicitDefEqProofs [go_sem]
    refine Fin.froz (b := H.length) (cs := rpC 3) ⟨rfl, rfl, rfl⟩ (.refl _) (by simp) (xs := mostS.map ic) rfl (by decide) (by omega) (by rw [okE_ints]; trivial) hokH (by simp) (by simp)
theorem largest_cc (H : Hp) (V : List Nat)  : CC Tryz.prog 36 [] H V (Pu (.sl .sh 1 (mostS.map ic)) H V) := by
  refine CC.of_swp Tryz.func36 rfl (by kernel_rfl) (by rw [Tryz.ntmps36]; exact len_le _ _ rfl) fun hok hokH => ?_
  clear hok
  refine SWp.seq (Wp.s ?_)
  simp -implicitDefEqProofs [go_sem, args0]
  refine Wp.s ?_
  simp -implicitDefEqProofs [go_sem]
  refine CC.mono (repeat_cc _ _ .ti) ?_
  rintro _ _ _ ⟨rfl, rfl, rfl⟩
  simp -implicitDefEqProofs [go_sem]
  exact Fin.pu (.refl _) (by simp [go_sem, okE_ints]) hokH (by simp) (by simp)
end Go.Proofs.YtfbjhkpdlihgeaaGreat
namespace Go.Proofs.YtfbjhkpdlihgeaaGreat
open Go.Proofs
theorem new1_cc (H : Hp) (V : List Nat) (n : Int) (h0 : 0 ≤ n) (h1 : n ≤ 1000000) : CC Tryz.prog 97 [ci n] H V (Pu (secsV (zer n.toNat)) H V) := by
  refine CC.of_swp Tryz.func97 rfl (by kernel_rfl) (by rw [Tryz.ntmps97]; exact len_le _ _ rfl) fun hok hokH => ?_
  clear hok
  have hz : (List.replicate n.toNat [CV.v (.int .u8 0), CV.v (.int .u8 0), CV.v (.int .u8 0), CV.v (.int .u8 0), CV.v (.int .u8 0), CV.v (.int .u8 0), CV.v (.int .u8 0), CV.v (.int .u8 0)]).flatten = secsF (zer n.toNat) := zeros_secs n.toNat
  refine SWp.seq (Wp.s ?_)
  simp -implicitDefEqProofs [go_sem, args0]
  refine Wp.s ?_
  simp -implicitDefEqProofs [go_sem]
  refine ⟨h0, by omega, ?_⟩
  rw [hz]
  exact Fin.froz (b := H.length) (cs := secsF (zer n.toNat)) ⟨rfl, rfl, rfl⟩ (.refl _) (by simp) (xs := (zer n.toNat).map secC) (by have := chunks_secs (zer n.toNat); rw [zer_len] at this; rw [List.drop_zero, this]) (by simp; omega) (by omega) (by simp [go_sem]) hokH (by simp) (by simp)
theorem mapNew_cc (H : Hp) (V : List Nat) (tk : Tk) (l : List Int) (hl : l.length ≤ 1000000) (hn : ∀ n ∈ l, 0 ≤ n ∧ n ≤ 1000000) : CC Tryz.prog 96 [.sl tk 1 (l.map ic), .fn 97 []] H V (Fr 1 ((imOf l).map imE) H V) := by
  refine CC.of_swp Tryz.func96 rfl (by kernel_rfl) (by rw [Tryz.ntmps96]; exact len_le _ _ rfl) fun hok hokH => ?_
  clear hok
  refine SWp.seq (Wp.s ?_)
  simp -implicitDefEqProofs [go_sem, args0]
  refine SWp.seq (Wp.s ?_)
  simp -implicitDefEqProofs [go_sem]
  refine ⟨by omega, ?_⟩
  refine SWp.join (α := Unit) (fun _ => ([(5, .sl (.own V.length l.length) 1 ((imOf l).map imE))], H, V ++ [l.length])) (fun _ => True) ?_ ?_
  · refine SWp.seq (Wp.s ?_)
    simp -implicitDefEqProofs [go_sem]
    refine SWp.block ?_
    refine SWp.loop (α := Nat) (fun i => ([(1, .fn 97 []), (5, .sl (.own V.length i) 1 ((imOf (l.take i)).map imE)), (11, .sl tk 1 (l.map ic)), (12, ci l.length), (13, ci i)], H, V ++ [i])) (fun i => i ≤ l.length) (fun i => l.length - i) 0 (Nat.zero_le _) (Sh.forget (by simp [go_sem, imOf]) rfl rfl) ?_
    intro i hi
    dsimp only
    refine Wp.s ?_
    simp -implicitDefEqProofs [go_sem]
    refine ⟨fun h => ⟨h, ?_⟩, fun h => Sh.forget (by simp [go_sem]; rw [List.take_of_length_le h]; exact .of_eq (by rw [show i = l.length by omega])) rfl (by rw [show i = l.length by omega])⟩
    obtain ⟨n1, n2⟩ := hn l[i] (List.getElem_mem h)
    refine CC.mono (new1_cc _ _ l[i] n1 n2) ?_
    rintro _ _ _ ⟨rfl, rfl, rfl⟩
    simp -implicitDefEqProofs [go_sem]
    refine ⟨by omega, i + 1, by omega, by omega, Sh.forget ?_ rfl rfl⟩
    have : (imOf (l.take (i + 1))).map imE = (imOf (l.take i)).map imE ++ [imE (zer l[i].toNat)] := by
      rw [List.take_succ_eq_append_getElem h, imOf, List.map_append, List.map_append]; rfl
    rw [this]
    simp [go_sem, wrap_succ (show i ≤ 1000000000 by omega)]
    exact .refl _
  · rintro _ -
    dsimp only
    refine Wp.s ?_
    simp -implicitDefEqProofs [go_sem]
    exact Fin.fr (by simp [go_sem]) hokH (by simp)
theorem New_cc (H : Hp) (V : List Nat) (tk : Tk) (l : List Int) (hl : l.length ≤ 9223372036854775807) : CC Tryz.prog 65 [.sl tk 1 (l.map ic)] H V (Pu (.tup [imV (if sizesE l ≠ 0 then [] else imOf l), er (sizesE l)]) H V) := by
  refine CC.of_swp Tryz.func65 rfl (by kernel_rfl) (by rw [Tryz.ntmps65]; exact len_le _ _ rfl) fun hok hokH => ?_
  clear hok
  refine SWp.seq (Wp.s ?_)
  simp -implicitDefEqProofs [go_sem, args0]
  refine SWp.seq (Wp.s ?_)
  simp -implicitDefEqProofs [go_sem]
  refine CC.mono (checkSizes_cc _ _ tk l hl) ?_
  rintro _ _ _ ⟨rfl, rfl, rfl⟩
  by_cases he : sizesE l = 0
  · simp -implicitDefEqProofs [go_sem, he]
    refine Wp.s ?_
    simp -implicitDefEqProofs [go_sem]
    obtain ⟨s1, s2, s3⟩ := sizesE_0 he
    refine CC.mono (mapNew_cc _ _ tk l (by omega) (fun n hn => by have := s3 n hn; omega)) ?_
    rintro _ _ _ ⟨v, rfl, rfl, rfl⟩
    simp -implicitDefEqProofs [go_sem]
    exact Fin.tup2 (.sh _ _ _) (.refl _) (by simp [go_sem]) (by simp [go_sem]) hokH (by simp) (by simp)
  · simp -implicitDefEqProofs [go_sem, he]
    exact Fin.tup2 (.nil 1 (by decide)) (.refl _) (by simp [go_sem]) (by simp [go_sem]) hokH (by simp) (by simp)
theorem sizes1_cc (H : Hp) (V : List Nat) (v : List Sec) : CC Tryz.prog 121 [secsV v] H V (Pu (ci v.length) H V) := by
  refine CC.of_swp Tryz.func121 rfl (by kernel_rfl) (by rw [Tryz.ntmps121]; exact len_le _ _ rfl) fun hok hokH => ?_
  clear hok
  refine SWp.seq (Wp.s ?_)
  simp -implicitDefEqProofs [go_sem, args0]
  refine Wp.s ?_
  simp -implicitDefEqProofs [go_sem]
  exact Fin.int rfl hokH (by simp) (by simp)
theorem mapSz_cc (H : Hp) (V : List Nat) (tk : Tk) (l : Img) (hl : l.length ≤ 1000000000) : CC Tryz.prog 120 [.sl tk 1 (l.map imE), .fn 121 []] H V (Fr 1 ((imgSz l).map ic) H V) := by
  refine CC.of_swp Tryz.func120 rfl (by kernel_rfl) (by rw [Tryz.ntmps120]; exact len_le _ _ rfl) fun hok hokH => ?_
  clear hok
  refine SWp.seq (Wp.s ?_)
  simp -implicitDefEqProofs [go_sem, args0]
  refine SWp.seq (Wp.s ?_)
  simp -implicitDefEqProofs [go_sem]
  refine ⟨by omega, ?_⟩
  refine SWp.join (α := Unit) (fun _ => ([(5, .sl (.own V.length l.length) 1 ((imgSz l).map ic))], H, V ++ [l.length])) (fun _ => True) ?_ ?_
  · refine SWp.seq (Wp.s ?_)
    simp -implicitDefEqProofs [go_sem]
    refine SWp.block ?_
    refine SWp.loop (α := Nat) (fun i => ([(1, .fn 121 []), (5, .sl (.own V.length i) 1 ((imgSz (l.take i)).map ic)), (11, .sl tk 1 (l.map imE)), (12, ci l.length), (13, ci i)], H, V ++ [i])) (fun i => i ≤ l.length) (fun i => l.length - i) 0 (Nat.zero_le _) (Sh.forget (by simp [go_sem, imgSz]) rfl rfl) ?_
    intro i hi
    dsimp only
    refine Wp.s ?_
    simp -implicitDefEqProofs [go_sem]
    refine ⟨fun h => ⟨h, ?_⟩, fun h => Sh.forget (by simp [go_sem]; rw [List.take_of_length_le h]; exact .of_eq (by rw [show i = l.length by omega])) rfl (by rw [show i = l.length by omega])⟩
    refine CC.mono (sizes1_cc _ _ l[i]) ?_
    rintro _ _ _ ⟨rfl, rfl, rfl⟩
    simp -implicitDefEqProofs [go_sem]
    refine ⟨by omega, i + 1, by omega, by omega, Sh.forget ?_ rfl rfl⟩
    have : (imgSz (l.take (i + 1))).map ic = (imgSz (l.take i)).map ic ++ [[ci l[i].length]] := by
      rw [List.take_succ_eq_append_getElem h, imgSz, List.map_append, List.map_append]; rfl
    rw [this]
    simp [go_sem, wrap_succ (show i ≤ 1000000000 by omega)]
  · rintro _ -
    dsimp only
    refine Wp.s ?_
    simp -implicitDefEqProofs [go_sem]
    exact Fin.fr (by simp [go_sem, okE_ints]) hokH (by simp)
theorem sizes_cc (H : Hp) (V : List Nat) (tk : Tk) (l : Img) (hl : l.length ≤ 1000000000) : CC Tryz.prog 118 [.sl tk 1 (l.map imE)] H V (Fr 1 ((imgSz l).map ic) H V) := by
  refine CC.of_swp Tryz.func118 rfl (by kernel_rfl) (by rw [Tryz.ntmps118]; exact len_le _ _ rfl) fun hok hokH => ?_
  clear hok
  refine SWp.seq (Wp.s ?_)
  simp -implicitDefEqProofs [go_sem, args0]
  refine Wp.s ?_
  simp -implicitDefEqProofs [go_sem]
  refine CC.mono (mapSz_cc _ _ tk l hl) ?_
  rintro _ _ _ ⟨v, rfl, rfl, rfl⟩
  simp -implicitDefEqProofs [go_sem]
  exact Fin.fr (by simp [go_sem, okE_ints]) hokH (by simp)
theorem iCheck_cc (H : Hp) (V : List Nat) (tk : Tk) (l : Img) (hl : l.length ≤ 1000000000) : CC Tryz.prog 112 [.sl tk 1 (l.map imE)] H V (Pu (er (sizesE (imgSz l))) H V) := by
  refine CC.of_swp Tryz.func112 rfl (by kernel_rfl) (by rw [Tryz.ntmps112]; exact len_le _ _ rfl) fun hok hokH => ?_
  clear hok
  refine SWp.seq (Wp.s ?_)
  simp -implicitDefEqProofs [go_sem, args0]
  refine Wp.s ?_
  simp -implicitDefEqProofs [go_sem]
  refine CC.mono (sizes_cc _ _ tk l hl) ?_
  rintro _ _ _ ⟨v, rfl, rfl, rfl⟩
  simp -implicitDefEqProofs [go_sem]
  refine CC.mono (checkSizes_cc _ _ _ (imgSz l) (by simp; omega)) ?_
  rintro _ _ _ ⟨rfl, rfl, rfl⟩
  simp -implicitDefEqProofs [go_sem]
  exact Fin.er rfl hokH (by simp) (by simp)
end Go.Proofs.YtfbjhkpdlihgeaaGreat
namespace Go.Proofs.YtfbjhkpdlihgeaaGreat
open Go.Proofs
theorem imgSz_getD (l : Img) (n : Nat) (h : n < l.length) : (imgSz l).getD n 0 = ((l[n]).length : Int) := by
  rw [List.getD_eq_getElem?_getD, imgSz, List.getElem?_map, List.getElem?_eq_getElem h]; rfl
theorem fits_cc (H : Hp) (V : List Nat) (tk : Tk) (l : Img) (w : Wr) (hl : l.length ≤ 1000000000) (hs : ∀ v ∈ l, v.length ≤ 1000000000) (hw : w.data.length ≤ 1000000000) : CC Tryz.prog 113 [.sl tk 1 (l.map imE), .agg (wrC w)] H V (Pu (er (fitsS (imgSz l) w)) H V) := by
  refine CC.of_swp Tryz.func113 rfl (by kernel_rfl) (by rw [Tryz.ntmps113]; exact len_le _ _ rfl) fun hok hokH => ?_
  clear hok
  refine SWp.seq (Wp.s ?_)
  simp -implicitDefEqProofs [go_sem, args0]
  refine SWp.seq (SWp.block (SWp.seq (Wp.s ?_)))
  by_cases h1 : w.volume < 0
  · simp -implicitDefEqProofs [go_sem, h1]
    refine Wp.s ?_
    simp -implicitDefEqProofs [go_sem]
    exact Fin.er (by rw [fitsS, if_pos (.inl h1)]) hokH (by simp) (by simp)
  by_cases h2 : (l.length : Int) ≤ w.volume
  · simp -implicitDefEqProofs [go_sem, h1, h2]
    refine Wp.s ?_
    simp -implicitDefEqProofs [go_sem]
    exact Fin.er (by rw [fitsS, if_pos (.inr (by simpa using h2))]) hokH (by simp) (by simp)
  simp -implicitDefEqProofs [go_sem, h1, h2]
  refine Wp.s ?_
  obtain ⟨n, hn⟩ := Int.eq_ofNat_of_zero_le (Int.not_lt.1 h1)
  have hnl : n < l.length := by omega
  have hvl := hs l[n] (List.getElem_mem hnl)
  by_cases h3 : w.data.length = 0
  · simp -implicitDefEqProofs [go_sem, h1, h2, h3]
    exact Fin.er (by rw [fitsS, if_neg (by simp; omega), if_pos h3]) hokH (by simp) (by simp)
  simp -implicitDefEqProofs [go_sem, h1, h2, h3]
  refine SWp.drawnT [] [] (.s 0 .pl <| .s 1 .pl <| .s 2 .pl <| .s 3 .pl <| .s 4 .pl <| .s 5 .pl <| .s 6 .pl <| .s 7 .pl <| .s 8 .pl <| .s 9 .pl <| .s 10 .pl <| .s 11 .pl <| .s 12 .pl <| .s 13 .pl <| .s 14 .pl <| .s 15 .pl <| .s 16 .pl <| .s 17 .pl <| .s 18 .pl <| .n) (by kernel_rfl) (by kernel_rfl) ?_
  have hg : (imgSz l).getD w.volume.toNat 0 = (l[n].length : Int) := by rw [hn]; exact imgSz_getD l n hnl
  have hwr : IntKind.i64.wrap ((l[n].length : Int) - (w.data.length : Int)) = (l[n].length : Int) - (w.data.length : Int) := IntWalk.i64_in _ ⟨by omega, by omega⟩
  have hfit : fitsS (imgSz l) w = if w.start < 0 ∨ (l[n].length : Int) - (w.data.length : Int) < w.start then 2 else 0 := by
    rw [fitsS, if_neg (by simp; omega), if_neg h3, hg]
  rw [hfit]
  by_cases h4 : w.start < 0
  · simp -implicitDefEqProofs [go_sem, h4]
    exact Fin.er rfl hokH (by simp) (by simp)
  · simp -implicitDefEqProofs [go_sem, h4, hn, hnl, hwr]
    refine ⟨fun h5 => Fin.er (by rw [if_pos h5]) hokH (by simp) (by simp), fun h5 => ?_⟩
    refine Wp.s ?_
    simp -implicitDefEqProofs [go_sem]
    exact Fin.er (by rw [if_neg (by omega)]) hokH (by simp) (by simp)
def fitsI (l : Img) (w : Wr) : Nat := if sizesE (imgSz l) ≠ 0 then sizesE (imgSz l) else fitsS (imgSz l) w
theorem Fits_cc (H : Hp) (V : List Nat) (tk : Tk) (l : Img) (w : Wr) (hl : l.length ≤ 1000000000) (hs : ∀ v ∈ l, v.length ≤ 1000000000) (hw : w.data.length ≤ 1000000000) : CC Tryz.prog 102 [.sl tk 1 (l.map imE), .agg (wrC w)] H V (Pu (er (fitsI l w)) H V) := by
  refine CC.of_swp Tryz.func102 rfl (by kernel_rfl) (by rw [Tryz.ntmps102]; exact len_le _ _ rfl) fun hok hokH => ?_
  clear hok
  refine SWp.seq (Wp.s ?_)
  simp -implicitDefEqProofs [go_sem, args0]
  refine SWp.seq (Wp.s ?_)
  simp -implicitDefEqProofs [go_sem]
  refine CC.mono (iCheck_cc _ _ _ l hl) ?_
  rintro _ _ _ ⟨rfl, rfl, rfl⟩
  by_cases he : sizesE (imgSz l) = 0
  · simp -implicitDefEqProofs [go_sem, he]
    refine Wp.s ?_
    simp -implicitDefEqProofs [go_sem]
    refine CC.mono (fits_cc _ _ _ l w hl hs hw) ?_
    rintro _ _ _ ⟨rfl, rfl, rfl⟩
    simp -implicitDefEqProofs [go_sem]
    exact Fin.er (by rw [fitsI, if_neg (by simp [he])]) hokH (by simp) (by simp)
  · simp -implicitDefEqProofs [go_sem, he]
    exact Fin.er (by rw [fitsI, if_pos he]) hokH (by simp) (by simp)
theorem chkW_step {f : Wr → Nat} {o : Option Wr} {l : List Wr} {i : Nat} (h : i < l.length) (hf : f l[i] = 0) (hb : ∀ x, o = some x → badO x l[i] = false) : chkW f o (l.drop i) = chkW f (some l[i]) (l.drop (i + 1)) := by
  rw [List.drop_eq_getElem_cons h]
  cases o with
  | none => rw [chkW, if_neg (by simp [hf])]
  | some x => rw [chkW, if_neg (by simp [hf]), if_neg (by simp [hb x rfl])]
/-- The write before the i-th. -/
def prevW (l : List Wr) (i : Nat) : Option Wr := match i with | 0 => none | i + 1 => l[i]?
theorem check_cc (H : Hp) (V : List Nat) (tk : Tk) (l : List Wr) (g : Nat) (caps : List CV) (f : Wr → Nat) (hcap : caps.length = 0 ∨ ∃ b, caps = [.ptr b 0] ∧ b < H.length) (hl : l.length ≤ 1000000000) (hw : WrS l) (hf : ∀ (H' : Hp) (V' : List Nat) (w : Wr), w ∈ l → (∀ (b : Nat) cs, H[b]? = some (some cs) → H'[b]? = some (some cs)) → CC Tryz.prog g (.agg (wrC w) :: caps) H' V' (Pu (er (f w)) H' V')) (hfb : ∀ w ∈ l, f w = 0 → 0 ≤ w.start ∧ w.start ≤ 1000000000) : CC Tryz.prog 100 [.sl tk 3 (l.map wrC), .fn g caps] H V (Pu (er (chkW f none l)) H V) := by
  refine CC.of_swp Tryz.func100 rfl (by kernel_rfl) (by rw [Tryz.ntmps100]; exact len_le _ _ rfl) fun hok hokH => ?_
  have hfn : okV H.length V.length (.fn g caps) := by
    rw [okV]
    rcases hcap with h | ⟨b, rfl, h⟩
    · rw [List.eq_nil_of_length_eq_zero h, okL]; trivial
    · rw [okL, okL, okV]; exact ⟨h, trivial⟩
  refine SWp.seq (Wp.s ?_)
  simp -implicitDefEqProofs [go_sem, args0]
  refine SWp.join (α := Unit) (fun _ => ([], H, V)) (fun _ => chkW f none l = 0) ?_ ?_
  · refine SWp.seq (Wp.s ?_)
    simp -implicitDefEqProofs [go_sem]
    refine SWp.block ?_
    refine SWp.loop (α := Nat) (fun i => ([(0, .sl tk 3 (l.map wrC)), (1, .fn g caps), (9, .sl tk 3 (l.map wrC)), (10, ci l.length), (11, ci i)], H, V)) (fun i => i ≤ l.length ∧ chkW f none l = chkW f (prevW l i) (l.drop i) ∧ ∀ x, prevW l i = some x → f x = 0) (fun i => l.length - i) 0 ⟨Nat.zero_le _, rfl, fun x hx => by cases hx⟩ (Sh.forget (by simp [go_sem]) rfl rfl) ?_
    rintro i ⟨hi, hp, hpf⟩
    dsimp only
    refine SWp.seq (Wp.s ?_)
    simp -implicitDefEqProofs [go_sem]
    refine SWp.seq (Wp.s ?_)
    simp -implicitDefEqProofs [go_sem]
    refine ⟨fun h => ?_, fun h => ⟨?_, Sh.forget (by simp [go_sem]) rfl rfl⟩⟩
    case refine_2 => rw [hp, List.drop_of_length_le h]; cases prevW l i <;> rfl
    have hwi := hw _ (List.getElem_mem h)
    refine SWp.seq (SWp.block (SWp.seq (Wp.s ?_)))
    simp -implicitDefEqProofs [go_sem, h]
    refine SWp.seq (SWp.seq (Wp.s ?_))
    simp -implicitDefEqProofs [go_sem]
    refine CC.mono (hf _ _ l[i] (List.getElem_mem h) (fun b cs hb => at_old _ _ hb)) ?_
    rintro _ _ _ ⟨rfl, rfl, rfl⟩
    simp -implicitDefEqProofs [go_sem]
    refine SWp.seq (Wp.s ?_)
    have next : (∀ x, prevW l i = some x → badO x l[i] = false) → f l[i] = 0 → (chkW f none l = chkW f (prevW l (i + 1)) (l.drop (i + 1)) ∧ ∀ x, prevW l (i + 1) = some x → f x = 0) := fun hb h0 => by
      have e : prevW l (i + 1) = some l[i] := List.getElem?_eq_getElem h
      rw [hp, chkW_step h h0 hb, e]
      exact ⟨rfl, fun x hx => by cases hx; exact h0⟩
    by_cases h0 : f l[i] = 0
    · simp -implicitDefEqProofs [go_sem, h0]
      refine Wp.s ?_
      simp -implicitDefEqProofs [go_sem]
      have fin : ∀ {T : Tm} {L : Hp}, TLe T [(0, .sl tk 3 (l.map wrC)), (1, .fn g caps), (9, .sl tk 3 (l.map wrC)), (10, ci l.length), (11, ci (i + 1 : Nat))] → Sh 53 H.length V.length T (H ++ L) V ([(0, .sl tk 3 (l.map wrC)), (1, .fn g caps), (9, .sl tk 3 (l.map wrC)), (10, ci l.length), (11, ci (i + 1 : Nat))], H, V) := fun {T L} hT =>
        Sh.cut H.length V.length hT (Nat.le_refl _) (Nat.le_refl _) (by
          intro p hp'
          simp only [List.mem_cons, List.not_mem_nil, or_false] at hp'
          rcases hp' with rfl | rfl | rfl | rfl | rfl
          · exact okL_iff.1 hok _ (by simp)
          · exact hfn
          · exact okL_iff.1 hok _ (by simp)
          · rw [okV]; trivial
          · rw [okV]; trivial) hokH (by simp) (by simp)
      by_cases hi0 : i = 0
      · subst hi0
        refine SWp.seq (Wp.s ?_)
        simp -implicitDefEqProofs [go_sem]
        refine Wp.s ?_
        simp -implicitDefEqProofs [go_sem, show IntKind.i64.wrap 1 = 1 from rfl]
        refine ⟨1, ⟨by omega, next (fun x hx => by cases hx) h0⟩, by omega, fin ?_⟩
        simp [go_sem]
      · have hwm : IntKind.i64.wrap ((i : Int) - 1) = ((i - 1 : Nat) : Int) := by rw [IntWalk.i64_in _ ⟨by omega, by omega⟩]; omega
        have hx1 : i - 1 < l.length := by omega
        have hprev : prevW l i = some l[i - 1] := by
          obtain ⟨k, rfl⟩ : ∃ k, i = k + 1 := ⟨i - 1, by omega⟩
          simp only [prevW, Nat.add_sub_cancel]
          exact List.getElem?_eq_getElem (by omega)
        refine SWp.seq (Wp.s ?_)
        simp -implicitDefEqProofs [go_sem, hi0]
        refine SWp.seq (Wp.s ?_)
        simp -implicitDefEqProofs [go_sem, hwm, hx1]
        have hwx := hw _ (List.getElem_mem hx1)
        obtain ⟨s1, s2⟩ := hfb _ (List.getElem_mem hx1) (hpf _ hprev)
        have hadd : IntKind.i64.wrap (l[i - 1].start + (l[i - 1].data.length : Int)) = l[i - 1].start + (l[i - 1].data.length : Int) := IntWalk.i64_in _ ⟨by omega, by omega⟩
        have bad : badO l[i - 1] l[i] = true → chkW f none l = 3 := fun hb => by
          rw [hp, hprev, List.drop_eq_getElem_cons h, chkW, if_neg (by simp [h0]), if_pos hb]
        have good : badO l[i - 1] l[i] = false → _ := fun hb => next (fun x hx => by rw [hprev] at hx; cases hx; exact hb) h0
        refine SWp.seq (Wp.s ?_)
        by_cases b1 : l[i].volume < l[i - 1].volume
        · simp -implicitDefEqProofs [go_sem, b1]
          refine Wp.s ?_
          simp -implicitDefEqProofs [go_sem]
          exact Fin.er (bad (by simp [badO, b1])) hokH (by simp) (by simp)
        by_cases b2 : l[i].volume = l[i - 1].volume
        · by_cases b3 : l[i].start ≤ l[i - 1].start + l[i - 1].data.length
          · simp -implicitDefEqProofs [go_sem, b1, b2, hadd, b3]
            refine Wp.s ?_
            simp -implicitDefEqProofs [go_sem]
            exact Fin.er (bad (by simp [badO, b2, b3])) hokH (by simp) (by simp)
          · simp -implicitDefEqProofs [go_sem, b1, b2, hadd, b3]
            refine Wp.s ?_
            simp -implicitDefEqProofs [go_sem]
            refine Wp.s ?_
            simp -implicitDefEqProofs [go_sem, wrap_succ (show i ≤ 1000000000 by omega)]
            refine ⟨i + 1, ⟨by omega, good (by simp [badO, b2]; omega)⟩, by omega, fin ?_⟩
            simp [go_sem]
        · simp -implicitDefEqProofs [go_sem, b1, b2]
          refine Wp.s ?_
          simp -implicitDefEqProofs [go_sem]
          refine Wp.s ?_
          simp -implicitDefEqProofs [go_sem, wrap_succ (show i ≤ 1000000000 by omega)]
          refine ⟨i + 1, ⟨by omega, good (by simp [badO, b2]; omega)⟩, by omega, fin ?_⟩
          simp [go_sem]
    · simp -implicitDefEqProofs [go_sem, h0]
      refine Wp.s ?_
      simp -implicitDefEqProofs [go_sem]
      exact Fin.er (by rw [hp, List.drop_eq_getElem_cons h]; cases prevW l i <;> simp [chkW, h0]) hokH (by simp) (by simp)
  · rintro _ hp
    dsimp only
    refine Wp.s ?_
    simp -implicitDefEqProofs [go_sem]
    exact Fin.er (by rw [hp]) hokH (by simp) (by simp)
end Go.Proofs.YtfbjhkpdlihgeaaGreat
namespace Go.Proofs.YtfbjhkpdlihgeaaGreat
open Go.Proofs
theorem fitsI_of {sizes : List Int} (h : sizesE sizes = 0) (w : Wr) : fitsI (imOf sizes) w = fitsS sizes w := by
  rw [fitsI, imgSz_of h, if_neg (by simp [h])]
theorem fitsS_0 {sizes : List Int} {w : Wr} (h : sizesE sizes = 0) (hf : fitsS sizes w = 0) : 0 ≤ w.volume ∧ w.volume < sizes.length ∧ 0 < w.data.length ∧ 0 ≤ w.start ∧ w.start + w.data.length ≤ 4096 := by
  unfold fitsS at hf
  split at hf
  · cases hf
  · split at hf
    · cases hf
    · split at hf
      · cases hf
      · rename_i a b c
        have hv : w.volume.toNat < sizes.length := by omega
        have hm := (sizesE_0 h).2.2 _ (List.getElem_mem hv)
        rw [List.getD_eq_getElem?_getD, List.getElem?_eq_getElem hv, Option.getD_some] at c
        omega
theorem Check1_cc (H : Hp) (V : List Nat) (w : Wr) (b : Nat) (sizes : List Int) (hb : H[b]? = some (some [imV (imOf sizes)])) (he : sizesE sizes = 0) (hw : w.data.length ≤ 1000000) : CC Tryz.prog 101 [.agg (wrC w), .ptr b 0] H V (Pu (er (fitsS sizes w)) H V) := by
  refine CC.of_swp Tryz.func101 rfl (by kernel_rfl) (by rw [Tryz.ntmps101]; exact len_le _ _ rfl) fun hok hokH => ?_
  clear hok
  have hlen : (imOf sizes).length ≤ 1000000000 := by rw [imOf_len]; have := (sizesE_0 he).2.1; omega
  have hs : ∀ v ∈ imOf sizes, v.length ≤ 1000000000 := fun v hv => by
    obtain ⟨n, hn, rfl⟩ := List.mem_map.1 hv
    have := (sizesE_0 he).2.2 n hn
    rw [zer_len]; omega
  refine SWp.seq (Wp.s ?_)
  simp -implicitDefEqProofs [go_sem, args0]
  refine Wp.s ?_
  simp -implicitDefEqProofs [go_sem, hbx_of (at_old _ [some (wrC w)] hb)]
  refine CC.mono (Fits_cc _ _ .sh (imOf sizes) w hlen hs (by omega)) ?_
  rintro _ _ _ ⟨rfl, rfl, rfl⟩
  simp -implicitDefEqProofs [go_sem]
  exact Fin.er (fitsI_of he w).symm hokH (by simp) (by simp)
theorem wsCheck_cc (H : Hp) (V : List Nat) (tk t2 : Tk) (l : List Wr) (sizes : List Int) (hl : l.length ≤ 1000000000) (hw : WrS l) (h2 : sizes.length ≤ 9223372036854775807) : CC Tryz.prog 68 [.sl tk 3 (l.map wrC), .sl t2 1 (sizes.map ic)] H V (Pu (er (wsE sizes l)) H V) := by
  refine CC.of_swp Tryz.func68 rfl (by kernel_rfl) (by rw [Tryz.ntmps68]; exact len_le _ _ rfl) fun hok hokH => ?_
  clear hok
  refine SWp.seq (Wp.s ?_)
  simp -implicitDefEqProofs [go_sem, args0]
  refine SWp.seq (Wp.s ?_)
  simp -implicitDefEqProofs [go_sem]
  refine CC.mono (New_cc _ _ _ sizes h2) ?_
  rintro _ _ _ ⟨rfl, rfl, rfl⟩
  by_cases he : sizesE sizes = 0
  · simp -implicitDefEqProofs [go_sem, he]
    refine SWp.seq (Wp.s ?_)
    simp -implicitDefEqProofs [go_sem]
    refine Wp.s ?_
    simp -implicitDefEqProofs [go_sem]
    refine CC.mono (check_cc _ _ _ l _ [.ptr H.length 0] (fitsS sizes) (.inr ⟨_, rfl, by simp⟩) hl hw (fun H' V' w hm hb => Check1_cc H' V' w H.length sizes (hb _ _ (by simp)) he (hw w hm)) (fun w hm hf => by have := fitsS_0 he hf; omega)) ?_
    rintro _ _ _ ⟨rfl, rfl, rfl⟩
    simp -implicitDefEqProofs [go_sem]
    exact Fin.er (by rw [wsE, if_neg (by simp [he])]) hokH (by simp) (by simp)
  · simp -implicitDefEqProofs [go_sem, he]
    refine SWp.seq (Wp.s ?_)
    simp -implicitDefEqProofs [go_sem, he]
    exact Fin.er (by rw [wsE, if_pos he]) hokH (by simp) (by simp)
theorem cCheck_cc (H : Hp) (V : List Nat) (t2 : Tk) (c : Cyc) (sizes : List Int) (hl : c.wrs.length ≤ 1000000000) (hw : WrS c.wrs) (h2 : sizes.length ≤ 9223372036854775807) (h3 : c.poss.length ≤ 9223372036854775807) : CC Tryz.prog 35 [.agg (cycC c), .sl t2 1 (sizes.map ic)] H V (Pu (er (chkC c sizes)) H V) := by
  refine CC.of_swp Tryz.func35 rfl (by kernel_rfl) (by rw [Tryz.ntmps35]; exact len_le _ _ rfl) fun hok hokH => ?_
  clear hok
  refine SWp.seq (Wp.s ?_)
  simp -implicitDefEqProofs [go_sem, args0]
  refine SWp.seq (Wp.s ?_)
  simp -implicitDefEqProofs [go_sem]
  refine CC.mono (New_cc _ _ _ sizes h2) ?_
  rintro _ _ _ ⟨rfl, rfl, rfl⟩
  by_cases he : sizesE sizes = 0
  case neg =>
    simp -implicitDefEqProofs [go_sem, he]
    exact Fin.er (by rw [chkC, if_pos he]) hokH (by simp) (by simp)
  have e0 : chkC c sizes = if c.base < 0 ∨ c.number ≤ c.base ∨ 1073741824 < c.number then 2 else if inB c.time 0 1073741824 = false then 24 else if posE c.poss 0 ≠ 0 then posE c.poss 0 else wsE sizes c.wrs := by
    rw [chkC, if_neg (by simp [he])]
  simp -implicitDefEqProofs [go_sem, he]
  refine SWp.join (α := Unit) (fun _ => ([(1, .sl t2 1 (sizes.map ic)), (2, .ptr H.length 0)], H ++ [some (cycC c)], V)) (fun _ => ¬ (c.base < 0 ∨ c.number ≤ c.base ∨ 1073741824 < c.number) ∧ inB c.time 0 1073741824 = true) ?_ ?_
  · refine SWp.block (SWp.seq (Wp.s ?_))
    by_cases b1 : c.base < 0
    · simp -implicitDefEqProofs [go_sem, b1]
      refine Wp.s ?_
      simp -implicitDefEqProofs [go_sem]
      exact Fin.er (by rw [e0, if_pos (.inl b1)]) hokH (by simp) (by simp)
    by_cases b2 : c.number ≤ c.base
    · simp -implicitDefEqProofs [go_sem, b1, b2]
      refine Wp.s ?_
      simp -implicitDefEqProofs [go_sem]
      exact Fin.er (by rw [e0, if_pos (.inr (.inl b2))]) hokH (by simp) (by simp)
    by_cases b3 : 1073741824 < c.number
    · simp -implicitDefEqProofs [go_sem, b1, b2, b3]
      refine Wp.s ?_
      simp -implicitDefEqProofs [go_sem]
      exact Fin.er (by rw [e0, if_pos (.inr (.inr b3))]) hokH (by simp) (by simp)
    simp -implicitDefEqProofs [go_sem, b1, b2, b3]
    refine Wp.s ?_
    simp -implicitDefEqProofs [go_sem]
    refine CC.mono (in_cc _ _ c.time 0 1073741824) ?_
    rintro _ _ _ ⟨rfl, rfl, rfl⟩
    rcases ht : inB c.time 0 1073741824 with - | -
    · simp -implicitDefEqProofs [go_sem]
      exact Fin.er (by rw [e0, if_neg (by omega), if_pos ht]) hokH (by simp) (by simp)
    · simp -implicitDefEqProofs [go_sem, b1, b2, b3]
      exact Sh.forget (by simp [go_sem]) rfl rfl
  · rintro _ ⟨n1, n2⟩
    dsimp only
    rw [if_neg n1, if_neg (by simp [n2])] at e0
    refine SWp.seq (SWp.seq (Wp.s ?_))
    simp -implicitDefEqProofs [go_sem]
    refine CC.mono (positions_cc _ _ _ c.poss 0 h3) ?_
    rintro _ _ _ ⟨rfl, rfl, rfl⟩
    by_cases hp : posE c.poss 0 = 0
    · simp -implicitDefEqProofs [go_sem, hp]
      refine Wp.s ?_
      simp -implicitDefEqProofs [go_sem, hp]
      refine Wp.s ?_
      simp -implicitDefEqProofs [go_sem]
      refine CC.mono (wsCheck_cc _ _ _ _ c.wrs sizes hl hw h2) ?_
      rintro _ _ _ ⟨rfl, rfl, rfl⟩
      simp -implicitDefEqProofs [go_sem]
      exact Fin.er (by rw [e0, if_neg (by simp [hp])]) hokH (by simp) (by simp)
    · simp -implicitDefEqProofs [go_sem, hp]
      refine Wp.s ?_
      simp -implicitDefEqProofs [go_sem, hp]
      exact Fin.er (by rw [e0, if_pos hp]) hokH (by simp) (by simp)
end Go.Proofs.YtfbjhkpdlihgeaaGreat
namespace Go.Proofs.YtfbjhkpdlihgeaaGreat
open Go.Proofs
def encCyc (c : Cyc) : List UInt8 := enc c.base ++ enc c.number ++ enc c.time ++ encInts c.poss ++ encWrs c.wrs
def encE (c : Cyc) : Nat := if chkC c mostS ≠ 0 then chkC c mostS else if 65536 < (encCyc c).length then 5 else 0
def encB (c : Cyc) : List UInt8 := if encE c = 0 then encCyc c else []
theorem Encode_cc (H : Hp) (V : List Nat) (c : Cyc) (hl : c.wrs.length ≤ 800000000) (hw : WrS c.wrs) (h3 : c.poss.length ≤ 1000000) (h4 : (encWrs c.wrs).length ≤ 800000000) : CC Tryz.prog 15 [.agg (cycC c)] H V (Pu (.tup [.sl .sh 1 (bs (encB c)), er (encE c)]) H V) := by
  refine CC.of_swp Tryz.func15 rfl (by kernel_rfl) (by rw [Tryz.ntmps15]; exact len_le _ _ rfl) fun hok hokH => ?_
  clear hok
  refine SWp.seq (Wp.s ?_)
  simp -implicitDefEqProofs [go_sem, args0]
  refine SWp.seq (SWp.seq (SWp.drawnT [] [] (.s 0 .pl <| .c 1 <| .s 2 .pl <| .s 3 .pl <| .n) (by kernel_rfl) (by kernel_rfl) ?_))
  simp -implicitDefEqProofs [go_sem]
  refine ⟨_, fun H V => largest_cc H V, ?_⟩
  simp -implicitDefEqProofs [go_sem]
  refine CC.mono (cCheck_cc _ _ _ c mostS (by omega) hw (by decide) (by omega)) ?_
  rintro _ _ _ ⟨rfl, rfl, rfl⟩
  simp -implicitDefEqProofs [go_sem]
  by_cases he : chkC c mostS = 0
  case neg =>
    refine Wp.s ?_
    simp -implicitDefEqProofs [go_sem, he]
    have e1 : encE c = chkC c mostS := by rw [encE, if_pos he]
    exact Fin.tup2 (by rw [encB, e1, if_neg he]; exact .nil 1 (by decide)) (.of_eq (by rw [e1] <;> rfl)) (by simp [go_sem]) (by simp [go_sem]) hokH (by simp) (by simp)
  refine Wp.s ?_
  simp -implicitDefEqProofs [go_sem, he]
  have e0 : encE c = if 65536 < (encCyc c).length then 5 else 0 := by rw [encE, if_neg (by simp [he])]
  obtain ⟨l3, hl3⟩ : ∃ l3 : List Int, l3 = [c.base, c.number, c.time] := ⟨_, rfl⟩
  have hl3l : l3.length = 3 := by rw [hl3]; rfl
  refine SWp.seq (Wp.s ?_)
  simp -implicitDefEqProofs [go_sem]
  refine SWp.join (α := Unit) (fun _ => ([(1, .ptr H.length 0), (5, .sl .sh 1 (bs (l3.flatMap enc)))], H ++ [some (cycC c)], V)) (fun _ => True) ?_ ?_
  · refine SWp.seq (Wp.s ?_)
    simp -implicitDefEqProofs [go_sem]
    refine SWp.block ?_
    refine SWp.loop (α := Nat) (fun i => ([(1, .ptr H.length 0), (20, .sl .ti 1 (l3.map ic)), (21, ci 3), (22, ci i), (5, .sl .sh 1 (bs ((l3.take i).flatMap enc)))], H ++ [some (cycC c)], V)) (fun i => i ≤ 3) (fun i => 3 - i) 0 (by omega) (Sh.forget (by subst hl3; simp [go_sem]; exact ⟨.refl _, .nil 1 (by decide)⟩) rfl rfl) ?_
    intro i hi
    dsimp only
    have hlen := flat_len (f := enc) enc_len (l3.take i)
    rw [List.length_take] at hlen
    refine SWp.seq (Wp.s ?_)
    simp -implicitDefEqProofs [go_sem]
    refine SWp.seq (Wp.s ?_)
    simp -implicitDefEqProofs [go_sem]
    refine ⟨fun h => ?_, fun h => Sh.forget ?_ rfl rfl⟩
    · have h' : i < l3.length := by omega
      refine SWp.seq (SWp.block (SWp.seq (Wp.s ?_)))
      simp -implicitDefEqProofs [go_sem, h']
      refine Wp.s ?_
      simp -implicitDefEqProofs [go_sem]
      refine CC.mono (PutInt_cc _ _ _ _ _ (by omega)) ?_
      rintro _ _ _ ⟨v, rfl, rfl, rfl⟩
      simp -implicitDefEqProofs [go_sem]
      refine Wp.s ?_
      simp -implicitDefEqProofs [go_sem]
      refine ⟨i + 1, by omega, by omega, ?_⟩
      refine Sh.trim ?_ ?_ hokH ?_ (by simp) (by simp) (by simp)
      · simp [go_sem, wrap_succ (show i ≤ 1000000000 by omega), flat_take h']
      · simp [go_sem, okE_ints]
      · simp [go_sem]
    · rw [List.take_of_length_le (by omega)]; simp [go_sem]
  · rintro _ -
    dsimp only
    have el : l3.flatMap enc = enc c.base ++ enc c.number ++ enc c.time := by rw [hl3]; simp
    have hlen := flat_len (f := enc) enc_len l3
    have hi8 : (encInts c.poss).length ≤ 8 + 8 * c.poss.length := by
      rw [encInts, List.length_append]
      have := enc_len c.poss.length
      have := flat_len (f := enc) enc_len c.poss
      omega
    refine SWp.seq (SWp.drawnT [] [] (.s 0 .pl <| .s 1 .pl <| .s 2 .pl <| .s 4 .pl <| .s 5 .pl <| .s 3 .pl <| .s 6 .pl <| .s 7 .pl <| .n) (by kernel_rfl) (by kernel_rfl) ?_)
    simp -implicitDefEqProofs [go_sem]
    refine CC.mono (PutInts_cc _ _ _ _ _ c.poss (by omega)) ?_
    rintro _ _ _ ⟨v, rfl, rfl, rfl⟩
    simp -implicitDefEqProofs [go_sem]
    refine CC.mono (PutWrites_cc _ _ _ _ _ c.wrs (by omega) (by simp only [List.length_append]; omega)) ?_
    rintro _ _ _ ⟨v2, rfl, rfl, rfl⟩
    simp -implicitDefEqProofs [go_sem]
    have ee : l3.flatMap enc ++ (encInts c.poss ++ encWrs c.wrs) = encCyc c := by rw [el, encCyc]; simp
    refine SWp.seq (SWp.seq (Wp.s ?_))
    simp -implicitDefEqProofs [go_sem, ee]
    refine Wp.s ?_
    simp -implicitDefEqProofs [go_sem]
    refine ⟨fun h => ?_, fun h => ?_⟩
    · have e1 : encE c = 5 := by rw [e0, if_pos (by omega)]
      exact Fin.tup2 (by rw [encB, e1]; exact .nil 1 (by decide)) (.of_eq (by rw [e1] <;> rfl)) (by simp [go_sem]) (by simp [go_sem]) hokH (by simp) (by simp)
    · refine Wp.s ?_
      simp -implicitDefEqProofs [go_sem, ee]
      have e1 : encE c = 0 := by rw [e0, if_neg (by omega)]
      exact Fin.tup2 (by rw [encB, e1]; exact .sh ..) (.of_eq (by rw [e1] <;> rfl)) (by simp [go_sem]) (by simp [go_sem]) hokH (by simp) (by simp)
end Go.Proofs.YtfbjhkpdlihgeaaGreat
namespace Go.Proofs.YtfbjhkpdlihgeaaGreat
open Go.Proofs
def pan (k : Nat) : List PanicEntry := [{ v := .iface 136 (.agg #[.int .i64 (k : Int)]), recovered := false }]
theorem demand_run (b : Bool) (k : Nat) (w : World) : Calls Tryz.prog 56 #[.bool b, .int .i64 (k : Int)] w fun e w' => w' = w ∧ if b then e = .returned (.tuple #[]) else e = .panicked (pan k) := by
  go_enter Tryz.func56, Tryz.ntmps56
  go_wp2
  · simp_all
  · simp [bodyPost, pan]
  · simp [bodyPost, results, Tryz.results56, go_sem]
  · simp_all
theorem ta143 (v : Value) (w : World) : (Instr.typeAssert (.iface 136 v) 20 136 true).run Tryz.prog w = .ok (.tuple #[v, .bool true]) w := by
  simp [Instr.typeAssert, go_sem]
theorem demand_cx (H : Hp) (V : List Nat) (b : Bool) (k : Nat) : CX Tryz.prog 56 [.v (.bool b), er k] H V (fun r H' V' => b = true ∧ r = .tup [] ∧ H' = H ∧ V' = V) (fun ch H' V' => b = false ∧ ch = pan k ∧ H' = H ∧ V' = V) := by
  refine ⟨⟨_, Tryz.func56, rfl, by kernel_rfl⟩, fun m w us hi hu => ?_⟩
  rw [RelL] at hu
  obtain ⟨u, r, rfl, h1, h2⟩ := hu
  rw [RelL] at h2
  obtain ⟨u2, r2, rfl, h2, h3⟩ := h2
  rw [RelL] at h3
  subst h3
  rw [RelV] at h1 h2
  subst h1 h2
  refine (demand_run b k w).mono fun e w' ⟨e1, e2⟩ => ?_
  subst e1
  cases b
  · exact .inr ⟨_, m, H, V, e2, ⟨rfl, rfl, rfl, rfl⟩, hi, Ext.refl _ _ _⟩
  · exact .inl ⟨_, m, .tup [], H, V, e2, ⟨rfl, rfl, rfl, rfl⟩, hi, (by rw [RelV]; exact ⟨[], rfl, by rw [RelL]⟩), Ext.refl _ _ _⟩
theorem cx_dem {f : FuncId} {args : List CV} {H : Hp} {V : List Nat} {K : CV → Hp → List Nat → Prop} {E : List PanicEntry → Hp → List Nat → Prop} (b : Bool) (k : Nat) (e : f = 56) (ha : args = [.v (.bool b), er k]) (h0 : b = true → K (.tup []) H V) (h1 : b = false → E (pan k) H V) : CX Tryz.prog f args H V K E := by
  subst e ha
  exact CX.mono (demand_cx H V b k) (fun r H' V' ⟨a, b, c, d⟩ => by subst b c d; exact h0 a) (fun ch H' V' ⟨a, b, c, d⟩ => by subst b c d; exact h1 a)
theorem pass_cx (H : Hp) (V : List Nat) (k : Nat) : CX Tryz.prog 58 [er k] H V (fun r H' V' => k = 0 ∧ r = .tup [] ∧ H' = H ∧ V' = V) (fun ch H' V' => k ≠ 0 ∧ ch = pan k ∧ H' = H ∧ V' = V) := by
  refine CX.of_swp Tryz.func58 rfl (by kernel_rfl) (by rw [Tryz.ntmps58]; exact len_le _ _ rfl) fun hok hokH => SWp.callx (pre := [_, _, _]) (post := []) ?_
  simp -implicitDefEqProofs [go_sem, args0]
  refine cx_dem (decide (k = 0)) k rfl (by simp) (fun h => ?_) (fun h => ?_)
  · simp -implicitDefEqProofs [go_sem]
    exact Fin.self ⟨by simpa using h, rfl, rfl, rfl⟩
  · exact ⟨by simpa using h, rfl, rfl, rfl⟩
theorem cx_pass {f : FuncId} {args : List CV} {H : Hp} {V : List Nat} {K : CV → Hp → List Nat → Prop} {E : List PanicEntry → Hp → List Nat → Prop} (k : Nat) (e : f = 58) (ha : args = [er k]) (h0 : k = 0 → K (.tup []) H V) (h1 : k ≠ 0 → E (pan k) H V) : CX Tryz.prog f args H V K E := by
  subst e ha
  exact CX.mono (pass_cx H V k) (fun r H' V' ⟨a, b, c, d⟩ => by subst b c d; exact h0 a) (fun ch H' V' ⟨a, b, c, d⟩ => by subst b c d; exact h1 a)
theorem caught_cc (H : Hp) (V : List Nat) (k : Nat) : CC Tryz.prog 55 [.v (.iface 136 (.agg #[.int .i64 (k : Int)]))] H V (Pu (er k) H V) := by
  refine CC.of_swp Tryz.func55 rfl (by kernel_rfl) (by rw [Tryz.ntmps55]; exact len_le _ _ rfl) fun hok hokH => ?_
  clear hok
  refine SWp.seq (Wp.s ?_)
  simp -implicitDefEqProofs [go_sem, args0]
  refine SWp.seq (SWp.seq (SWp.tassert (pre := [_]) (post := [_, _, _, _, _, _]) ?_))
  simp -implicitDefEqProofs [go_sem]
  refine ⟨.agg [ci k], 136, _, ⟨rfl, rfl⟩, fun m w V => ?_, fun A w hA => ?_, ?_⟩
  · rw [RelV]; exact ⟨[_], rfl, by rw [RelL]; exact ⟨_, _, rfl, by rw [RelV], by rw [RelL]⟩⟩
  · rw [hA, ta143]; rfl
  simp -implicitDefEqProofs [go_sem]
  refine SWp.seq (Wp.s ?_)
  simp -implicitDefEqProofs [go_sem]
  refine Wp.s ?_
  simp -implicitDefEqProofs [go_sem]
  exact Fin.er rfl hokH (by simp) (by simp)
theorem retDec : RetD Tryz.prog 54 2 := ⟨⟨_, Tryz.func54, rfl, by kernel_rfl⟩, fun us w hs => by
  obtain ⟨a, b, rfl⟩ : ∃ a b, us = #[a, b] := by
    rcases us with ⟨l⟩
    match l, hs with
    | [a, b], _ => exact ⟨a, b, rfl⟩
  refine callsD_of_wpS Tryz.func54 rfl fun c₀ cs hu => ?_
  apply wpS_seq
  apply wpS_region
  simp [wpOpsS, go_sem, recoverD, hu, Tryz.ntmps54, Exit.thenS]
  apply wpS_seq
  apply wpS_region
  simp [wpOpsS, go_sem, recoverD, hu, Tryz.ntmps54, Exit.thenS]
  refine wpS_cond (t := false) (by simp [Act.eval, Array.replicate]) ?_
  simp only [Bool.false_eq_true, if_false]
  refine wpS_of_wp (wp_skip ?_)
  cases c₀
  simp_all [bodyPostS, results, Tryz.results54]⟩
def cycZ : List CV := [ci 0, ci 0, ci 0, .v (.slice none 0 0), .v (.slice none 0 0)]
theorem catchDec (H : Hp) (V : List Nat) (a b k : Nat) (cs : List CV) (x : CV) (ha : H[a]? = some (some cs)) (hb : H[b]? = some (some [x])) (hab : a ≠ b) (hcs : cs.length = 5) : CD Tryz.prog 54 [.ptr a 0, .ptr b 0] (pan k) H V (fun H' V' => H' = (H.set a (some cycZ)).set b (some [er k]) ∧ V' = V) := by
  have hb' : ∀ y : List CV, (H.set a (some y))[b]? = some (some [x]) := fun y => by rw [List.getElem?_set_ne hab]; exact hb
  refine CD.of_swp Tryz.func54 rfl (by kernel_rfl) Tryz.results54 (by rw [Tryz.ntmps54]; exact len_le _ _ rfl) (by rw [Tryz.ntmps54]; decide) (by rw [Tryz.ntmps54]; decide) (by rw [Tryz.ntmps54]; decide) (by rw [Tryz.ntmps54]; decide) ?_ (Wp.s ?_)
  · intro w A h
    have h' : A.tmps[4]?.getD undef = .iface 136 (.agg #[.int .i64 k]) := by simpa [Act.eval] using h
    simp [go_sem, h']
  · simp -implicitDefEqProofs [go_sem, args0]
    refine CC.mono (caught_cc _ _ _) ?_
    rintro _ _ _ ⟨rfl, rfl, rfl⟩
    simp -implicitDefEqProofs [go_sem, hbx_some ha, hbx_some (hb' _), hcs, List.drop_eq_nil_of_le (show cs.length ≤ 5 by omega)]
    exact Fin.self ⟨rfl, rfl⟩
end Go.Proofs.YtfbjhkpdlihgeaaGreat
namespace Go.Proofs.YtfbjhkpdlihgeaaGreat
open Go.Proofs
/-! ### Reading a cycle -/
theorem rep_len {α : Type} {p : Pr α} : ∀ {n : Nat} {s r : List UInt8} {l : List α}, repP p n s = .ok (l, r) → l.length = n
  | 0, s, r, l, h => by rw [repP] at h; cases h; rfl
  | n + 1, s, r, l, h => by
    rw [repP] at h
    split at h
    · cases h
    · split at h
      · cases h
      · rename_i h2; cases h; rw [List.length_cons, rep_len h2]
theorem rep_all {α : Type} {p : Pr α} {Q : α → Prop} (hp : ∀ s a r, p s = .ok (a, r) → Q a) : ∀ {n : Nat} {s r : List UInt8} {l : List α}, repP p n s = .ok (l, r) → ∀ a ∈ l, Q a
  | 0, s, r, l, h => by rw [repP] at h; cases h; simp
  | n + 1, s, r, l, h => by
    rw [repP] at h
    split at h
    · cases h
    · rename_i h1
      split at h
      · cases h
      · rename_i h2; cases h
        intro a ha
        rcases List.mem_cons.1 ha with rfl | ha
        · exact hp _ _ _ h1
        · exact rep_all hp h2 a ha
theorem list_len {α : Type} {p : Pr α} {s r : List UInt8} {l : List α} (h : listP p s = .ok (l, r)) : l.length ≤ 65536 := by
  unfold listP at h
  split at h
  · cases h
  · rename_i h1; rw [rep_len h]; exact length_le h1
theorem list_all {α : Type} {p : Pr α} {Q : α → Prop} (hp : ∀ s a r, p s = .ok (a, r) → Q a) {s r : List UInt8} {l : List α} (h : listP p s = .ok (l, r)) : ∀ a ∈ l, Q a := by
  unfold listP at h
  split at h
  · cases h
  · exact rep_all hp h
theorem wrP_data {s r : List UInt8} {w : Wr} (h : wrP s = .ok (w, r)) : w.data.length ≤ 65536 := by
  unfold wrP at h
  split at h
  · cases h
  · split at h
    · cases h
    · rename_i h2; cases h; exact list_len h2
def zcyc : Cyc := ⟨0, 0, 0, [], []⟩
def at3 (xs : List Nat) (i : Nat) : Int := ((xs.getD i 0 : Nat) : Int)
def cycP : Pr Cyc := fun s =>
  match repP number 3 s with
  | .error e => .error e
  | .ok (xs, s1) =>
    match listP intP s1 with
    | .error e => .error e
    | .ok (ps, s2) =>
      match listP wrP s2 with
      | .error e => .error e
      | .ok (ws, s3) => .ok (⟨at3 xs 0, at3 xs 1, at3 xs 2, ps, ws⟩, s3)
def decC (b : List UInt8) : Except Nat Cyc :=
  if 65536 < b.length then .error 5 else
  match cycP b with
  | .error e => .error e
  | .ok (c, r) => if r.length ≠ 0 then .error 3 else if chkC c mostS ≠ 0 then .error (chkC c mostS) else .ok c
def dvC : Except Nat Cyc → CV
  | .ok c => .tup [.agg (cycC c), er 0]
  | .error e => .tup [.agg (cycC zcyc), er e]
def cells3 (xs : List Nat) (c d : CV) : List CV := [ci (at3 xs 0), ci (at3 xs 1), ci (at3 xs 2), c, d]
abbrev nilS : CV := .v (.slice none 0 0)
theorem Le_zc : Le (.agg cycZ) (.agg (cycC zcyc)) := .agg (.cons (.refl _) (.cons (.refl _) (.cons (.refl _) (.cons (.nil 1 (by decide)) (.cons (.nil 3 (by decide)) .nil)))))
@[go_sem] theorem okV_cyc (i j : Nat) (c : Cyc) : okV i j (.agg (cycC c)) = True := by rw [okV, okL_cycC]
theorem Decode_cc (H : Hp) (V : List Nat) (tk : Tk) (b : List UInt8) (hl : b.length ≤ 800000000) : CC Tryz.prog 31 [.sl tk 1 (bs b)] H V (Pu (dvC (decC b)) H V) := by
  refine CC.of_deferX (pre := [_]) Tryz.func31 rfl (by kernel_rfl) (by rw [Tryz.ntmps31]; exact len_le _ _ rfl) retDec fun hok hokH => Wp.s ?_
  clear hok
  simp -implicitDefEqProofs [go_sem, args0]
  have stop : ∀ (k : Nat) (cs : List CV) (x : CV) (L : Hp), cs.length = 5 → decC b = .error k → CD Tryz.prog 54 [.ptr H.length 0, .ptr (H.length + 1) 0] (pan k) (H ++ some cs :: some [x] :: L) V
      fun H' V' => hbx H' H.length fun cs => 5 ≤ cs.length ∧ hbx H' (H.length + 1) fun cs1 => ∃ h : 0 < cs1.length, Fin H.length V.length (Pu (dvC (decC b)) H V) (.tup [.agg (cs.take 5), cs1[0]]) H' V' := fun k cs x L hcs e => by
    refine (catchDec _ _ _ _ k _ x (by rw [at_len]; rfl) (by rw [at_len_add]; rfl) (by omega) hcs).mono ?_
    rintro _ _ ⟨rfl, rfl⟩
    simp -implicitDefEqProofs [go_sem, cycZ]
    rw [e, dvC]
    exact Fin.pu (.tup (.cons Le_zc (.cons (.refl _) .nil))) (by simp [go_sem]) hokH (by simp) (by simp)
  by_cases hb : 65536 < b.length
  · refine SWp.seq (SWp.callx (pre := [_, _, _]) (post := []) ?_)
    simp -implicitDefEqProofs [go_sem]
    refine cx_dem (decide (b.length ≤ 65536)) 5 rfl (by simp; omega) (fun h => ?_) (fun h => ?_)
    · exact absurd (of_decide_eq_true h) (by omega)
    · exact stop 5 _ _ [] rfl (by rw [decC, if_pos hb])
  have e0 : decC b = (match cycP b with | .error e => .error e | .ok (c, r) => if r.length ≠ 0 then .error 3 else if chkC c mostS ≠ 0 then .error (chkC c mostS) else .ok c) := by rw [decC, if_neg hb]
  refine SWp.seq (SWp.callx (pre := [_, _, _]) (post := []) ?_)
  simp -implicitDefEqProofs [go_sem]
  refine cx_dem (decide (b.length ≤ 65536)) 5 rfl (by simp; omega) (fun _ => ?_) (fun h => ?_)
  case refine_2 => exact absurd (of_decide_eq_false h) (by omega)
  simp -implicitDefEqProofs [go_sem]
  refine SWp.join (α := List Nat × List UInt8) (fun x => ([(0, .sl .sh 1 (bs x.2)), (2, .ptr H.length 0), (3, .ptr (H.length + 1) 0)], H ++ [some (cells3 x.1 nilS nilS), some [er 0]], V)) (fun x => repP number 3 b = .ok (x.1, x.2) ∧ x.2.length ≤ 65536) ?_ ?_
  · refine SWp.seq (Wp.s ?_)
    simp -implicitDefEqProofs [go_sem]
    refine SWp.block ?_
    refine SWp.loop (α := List Nat × List UInt8) (fun x => ([(0, .sl .sh 1 (bs x.2)), (2, .ptr H.length 0), (3, .ptr (H.length + 1) 0), (14, .sl .ti 1 [[.ptr H.length 0], [.ptr H.length 1], [.ptr H.length 2]]), (15, ci 3), (16, ci x.1.length)], H ++ [some (cells3 x.1 nilS nilS), some [er 0]], V)) (fun x => x.1.length ≤ 3 ∧ repP number 3 b = ahead x.1 (repP number (3 - x.1.length) x.2) ∧ x.2.length ≤ 65536) (fun x => 3 - x.1.length) ([], b) ⟨by simp, (ahead_nil _).symm, by simpa using hb⟩ (Sh.forget (by simp [go_sem]) rfl rfl) ?_
    rintro ⟨xs, s⟩ ⟨h3, hr, hs⟩
    dsimp only at h3 hr hs ⊢
    refine SWp.seq (Wp.s ?_)
    simp -implicitDefEqProofs [go_sem]
    refine SWp.seq (Wp.s ?_)
    simp -implicitDefEqProofs [go_sem]
    refine ⟨fun h => ?_, fun h => ⟨xs, s, ⟨?_, hs⟩, Sh.forget (by simp [go_sem]) rfl rfl⟩⟩
    case refine_2 => rw [hr, show 3 - xs.length = 0 by omega, repP]; simp [ahead]
    rcases hn : number s with e | ⟨n, r⟩
    · have he : decC b = .error e := by
        rw [e0, cycP, hr, show 3 - xs.length = (2 - xs.length) + 1 by omega, rep_err hn]
      have hne := ne0_number _ _ hn
      obtain rfl | ⟨x, rfl⟩ | ⟨x, y, rfl⟩ : xs = [] ∨ (∃ x, xs = [x]) ∨ (∃ x y, xs = [x, y]) := by
        match xs, h with
        | [], _ => exact .inl rfl
        | [x], _ => exact .inr (.inl ⟨x, rfl⟩)
        | [x, y], _ => exact .inr (.inr ⟨x, y, rfl⟩)
        | x :: y :: z :: l, h => exact absurd h (by simp only [List.length_cons]; omega)
      all_goals
        refine SWp.seq (SWp.block (SWp.seq (Wp.s ?_)))
        simp -implicitDefEqProofs [go_sem, cells3]
        refine SWp.seq (Wp.s ?_)
        simp -implicitDefEqProofs [go_sem]
        refine CC.mono (Int_cc _ _ _ s (by omega)) ?_
        rintro _ _ _ ⟨rfl, rfl, rfl⟩
        simp -implicitDefEqProofs [go_sem, hn, rdv]
        refine SWp.callx (pre := [_]) (post := []) ?_
        simp -implicitDefEqProofs [go_sem]
        refine cx_pass e rfl rfl (fun h => absurd h hne) (fun _ => ?_)
        exact stop e _ _ [] rfl he
    · have hrl := shr_number _ _ _ hn
      have next : repP number 3 b = ahead (xs ++ [n]) (repP number (3 - (xs ++ [n]).length) r) := by
        rw [hr, show 3 - xs.length = (2 - xs.length) + 1 by omega, rep_ok hn]
        congr 2
        rw [List.length_append, List.length_cons, List.length_nil]
        omega
      obtain rfl | ⟨x, rfl⟩ | ⟨x, y, rfl⟩ : xs = [] ∨ (∃ x, xs = [x]) ∨ (∃ x y, xs = [x, y]) := by
        match xs, h with
        | [], _ => exact .inl rfl
        | [x], _ => exact .inr (.inl ⟨x, rfl⟩)
        | [x, y], _ => exact .inr (.inr ⟨x, y, rfl⟩)
        | x :: y :: z :: l, h => exact absurd h (by simp only [List.length_cons]; omega)
      all_goals
        refine SWp.seq (SWp.block (SWp.seq (Wp.s ?_)))
        simp -implicitDefEqProofs [go_sem, cells3]
        refine SWp.seq (Wp.s ?_)
        simp -implicitDefEqProofs [go_sem]
        refine CC.mono (Int_cc _ _ _ s (by omega)) ?_
        rintro _ _ _ ⟨rfl, rfl, rfl⟩
        simp -implicitDefEqProofs [go_sem, hn, rdv]
        refine SWp.callx (pre := [_]) (post := []) ?_
        simp -implicitDefEqProofs [go_sem]
        refine cx_pass 0 rfl rfl (fun _ => ?_) (fun h => absurd rfl h)
        simp -implicitDefEqProofs [go_sem]
        refine Wp.s ?_
        simp -implicitDefEqProofs [go_sem, show IntKind.i64.wrap 1 = 1 from rfl, show IntKind.i64.wrap 2 = 2 from rfl, show IntKind.i64.wrap 3 = 3 from rfl]
        refine ⟨_, r, ⟨?_, next, by omega⟩, ?_, Sh.forget ?_ rfl rfl⟩
        · simp
        · simp
        · simp [go_sem]
  · rintro ⟨xs, s⟩ ⟨hr, hs⟩
    dsimp only at hr hs ⊢
    refine SWp.seq (Wp.s ?_)
    simp -implicitDefEqProofs [go_sem, cells3]
    refine CC.mono (Ints_cc _ _ _ s (by omega)) ?_
    rintro _ _ _ ⟨rfl, rfl, rfl⟩
    rcases hn : listP intP s with e | ⟨ps, s2⟩
    · have he : decC b = .error e := by rw [e0, cycP, hr]; dsimp only; rw [hn]
      have hne := (ne0_list ne0_int) _ _ hn
      simp -implicitDefEqProofs [go_sem, rdv]
      refine SWp.seq (SWp.callx (pre := [_]) (post := []) ?_)
      simp -implicitDefEqProofs [go_sem]
      refine cx_pass e rfl rfl (fun h => absurd h hne) (fun _ => ?_)
      exact stop e _ _ [] rfl he
    have hs2 := (shr_list shr_int) _ _ _ hn
    have hpl := list_len hn
    simp -implicitDefEqProofs [go_sem, rdv]
    refine SWp.seq (SWp.callx (pre := [_]) (post := []) ?_)
    simp -implicitDefEqProofs [go_sem]
    refine cx_pass 0 rfl rfl (fun _ => ?_) (fun h => absurd rfl h)
    simp -implicitDefEqProofs [go_sem]
    refine SWp.seq (Wp.s ?_)
    simp -implicitDefEqProofs [go_sem]
    refine CC.mono (Writes_cc _ _ _ s2 (by omega)) ?_
    rintro _ _ _ ⟨rfl, rfl, rfl⟩
    rcases hm : listP wrP s2 with e | ⟨ws, s3⟩
    · have he : decC b = .error e := by rw [e0, cycP, hr]; dsimp only; rw [hn]; dsimp only; rw [hm]
      have hne := (ne0_list ne0_wr) _ _ hm
      simp -implicitDefEqProofs [go_sem, rdv]
      refine SWp.seq (SWp.callx (pre := [_]) (post := []) ?_)
      simp -implicitDefEqProofs [go_sem]
      refine cx_pass e rfl rfl (fun h => absurd h hne) (fun _ => ?_)
      exact stop e _ _ [] rfl he
    have hwl := list_len hm
    have hwd := list_all (Q := fun w => w.data.length ≤ 65536) (fun _ _ _ h => wrP_data h) hm
    obtain ⟨c, hc⟩ : ∃ c : Cyc, c = ⟨at3 xs 0, at3 xs 1, at3 xs 2, ps, ws⟩ := ⟨_, rfl⟩
    have hcc : [ci (at3 xs 0), ci (at3 xs 1), ci (at3 xs 2), .sl .sh 1 (ps.map ic), .sl .sh 3 (ws.map wrC)] = cycC c := by rw [hc]; rfl
    have hcy : cycP b = .ok (c, s3) := by rw [cycP, hr]; dsimp only; rw [hn]; dsimp only; rw [hm, hc]
    rw [hcy] at e0
    dsimp only at e0
    simp -implicitDefEqProofs [go_sem, rdv]
    refine SWp.seq (SWp.callx (pre := [_]) (post := []) ?_)
    simp -implicitDefEqProofs [go_sem]
    refine cx_pass 0 rfl rfl (fun _ => ?_) (fun h => absurd rfl h)
    simp -implicitDefEqProofs [go_sem, hcc]
    refine SWp.seq (SWp.callx (pre := [_, _, _]) (post := []) ?_)
    simp -implicitDefEqProofs [go_sem]
    refine cx_dem (decide (s3.length = 0)) 3 rfl (by simp) (fun h => ?_) (fun h => ?_)
    case refine_2 => exact stop 3 _ _ [] rfl (by rw [e0, if_pos (of_decide_eq_false h)])
    rw [if_neg (by simpa using h)] at e0
    simp -implicitDefEqProofs [go_sem]
    have hw1 : c.wrs.length ≤ 1000000000 := by rw [hc]; dsimp only; omega
    have hw2 : WrS c.wrs := fun w hw => by rw [hc] at hw; have := hwd w hw; omega
    have hp1 : c.poss.length ≤ 9223372036854775807 := by rw [hc]; dsimp only; omega
    refine SWp.seq (SWp.drawnX (.f 0 (.s 1 (.s 2 (.x 3))) 1 (.s 0 (.s 2 (.x 3)))) (by kernel_rfl) (by kernel_rfl) ?_)
    simp -implicitDefEqProofs [go_sem]
    refine ⟨?_, ?_⟩
    · refine CC.mono (largest_cc _ _) ?_
      rintro _ _ _ ⟨rfl, rfl, rfl⟩
      simp -implicitDefEqProofs [go_sem]
      refine CC.mono (cCheck_cc _ _ _ c mostS hw1 hw2 (by decide) hp1) ?_
      rintro _ _ _ ⟨rfl, rfl, rfl⟩
      simp -implicitDefEqProofs [go_sem]
      refine crunX_x rfl rfl (by simp [go_sem]) ?_
      simp -implicitDefEqProofs [go_sem]
      refine cx_pass (chkC c mostS) rfl rfl (fun h0 => ?_) (fun h0 => ?_)
      · refine SWp.seq (Wp.s ?_)
        simp -implicitDefEqProofs [go_sem]
        refine Wp.s ?_
        simp -implicitDefEqProofs [go_sem]
        rw [e0, if_neg (by simp [h0]), dvC]
        exact Fin.pu (.refl _) (by simp [go_sem]) hokH (by simp) (by simp)
      · exact stop (chkC c mostS) _ _ [] rfl (by rw [e0, if_pos h0])
    · refine CC.mono (largest_cc _ _) ?_
      rintro _ _ _ ⟨rfl, rfl, rfl⟩
      simp -implicitDefEqProofs [go_sem]
      refine CC.mono (cCheck_cc _ _ _ c mostS hw1 hw2 (by decide) hp1) ?_
      rintro _ _ _ ⟨rfl, rfl, rfl⟩
      simp -implicitDefEqProofs [go_sem]
      refine crunX_x rfl rfl (by simp [go_sem]) ?_
      simp -implicitDefEqProofs [go_sem]
      refine cx_pass (chkC c mostS) rfl rfl (fun h0 => ?_) (fun h0 => ?_)
      · refine SWp.seq (Wp.s ?_)
        simp -implicitDefEqProofs [go_sem]
        refine Wp.s ?_
        simp -implicitDefEqProofs [go_sem]
        rw [e0, if_neg (by simp [h0]), dvC]
        exact Fin.pu (.refl _) (by simp [go_sem]) hokH (by simp) (by simp)
      · exact stop (chkC c mostS) _ _ [] rfl (by rw [e0, if_pos h0])
end Go.Proofs.YtfbjhkpdlihgeaaGreat
namespace Go.Proofs.YtfbjhkpdlihgeaaGreat
open Go.Proofs
/-! ### Headers -/
structure Hd where
  number : Int
  parts : Int
  sum : Int
  index : Int
def hdC (h : Hd) : List CV := [.v (.int .i64 h.number), .v (.int .i64 h.parts), .v (.int .i64 h.sum), .v (.int .i64 h.index)]
@[go_sem, simp] theorem hdC_len (h : Hd) : (hdC h).length = 4 := by rw [hdC]; rfl
@[go_sem, simp] theorem hdC_take (h : Hd) : (hdC h).take 4 = hdC h := rfl
@[go_sem, simp] theorem hdC_take3 (h : Hd) : (hdC h).take 3 = [.v (.int .i64 h.number), .v (.int .i64 h.parts), .v (.int .i64 h.sum)] := rfl
@[go_sem, simp] theorem hdC_all (h : Hd) : allOne (hdC h) = true := rfl
@[go_sem, simp] theorem hdC_0 (h : Hd) (q : 0 < (hdC h).length) : (hdC h)[0] = CV.v (.int .i64 h.number) := rfl
@[go_sem, simp] theorem hdC_1 (h : Hd) (q : 1 < (hdC h).length) : (hdC h)[1] = CV.v (.int .i64 h.parts) := rfl
@[go_sem, simp] theorem hdC_2 (h : Hd) (q : 2 < (hdC h).length) : (hdC h)[2] = CV.v (.int .i64 h.sum) := rfl
@[go_sem, simp] theorem hdC_3 (h : Hd) (q : 3 < (hdC h).length) : (hdC h)[3] = CV.v (.int .i64 h.index) := rfl
@[go_sem] theorem okL_hdC (jb jv : Nat) (h : Hd) : okL jb jv (hdC h) = True := by simp [hdC, okL, okV]
@[go_sem] theorem okV_hd (i j : Nat) (h : Hd) : okV i j (.agg (hdC h)) = True := by rw [okV, okL_hdC]
def zhd : Hd := ⟨0, 0, 0, 0⟩
def corrB (h : Hd) : Bool := decide (1 ≤ h.number) && decide (h.number ≤ 1073741824) && decide (h.index < h.parts) && decide (h.parts ≤ 65536) && decide (h.sum ≤ 4294967295)
def hd4 (xs : List Nat) : Hd := ⟨at3 xs 0, at3 xs 2, at3 xs 3, at3 xs 1⟩
def prsP (b : List UInt8) : Except Nat (Hd × List UInt8) :=
  match repP number 4 b with
  | .error e => .error e
  | .ok (xs, r) => if corrB (hd4 xs) = false ∨ r.length < 1 ∨ 4096 < r.length then .error 3 else .ok (hd4 xs, r)
def dvH : Except Nat (Hd × List UInt8) → CV
  | .ok (h, r) => .tup [.agg (hdC h), .sl .sh 1 (bs r), er 0]
  | .error e => .tup [.agg (hdC zhd), .sl .sh 1 [], er e]
/-! ### Assemblies -/
structure Asm where
  number : Int
  parts : Int
  sum : Int
  pcs : List (List UInt8)
  seen : List Bool
def byE (b : List UInt8) : List CV := [.sl .sh 1 (bs b)]
def boE (b : Bool) : List CV := [.v (.bool b)]
@[go_sem, simp] theorem byE_len (b : List UInt8) : (byE b).length = 1 := rfl
@[go_sem, simp] theorem byE_0 (b : List UInt8) (h : 0 < (byE b).length) : (byE b)[0] = .sl .sh 1 (bs b) := rfl
@[go_sem, simp] theorem boE_len (b : Bool) : (boE b).length = 1 := rfl
@[go_sem, simp] theorem boE_0 (b : Bool) (h : 0 < (boE b).length) : (boE b)[0] = .v (.bool b) := rfl
@[go_sem] theorem okL_byE (jb jv : Nat) (b : List UInt8) : okL jb jv (byE b) = True := by simp [byE, go_sem]
@[go_sem] theorem okL_boE (jb jv : Nat) (b : Bool) : okL jb jv (boE b) = True := by simp [boE, okL, okV]
@[go_sem] theorem okE_bys (jb jv : Nat) (l : List (List UInt8)) : okE jb jv (l.map byE) = True := eq_true (okE_map byE l fun e => by rw [okL_byE]; trivial)
@[go_sem] theorem okE_bos (jb jv : Nat) (l : List Bool) : okE jb jv (l.map boE) = True := eq_true (okE_map boE l fun e => by rw [okL_boE]; trivial)
def asmC (a : Asm) : List CV := [.v (.int .i64 a.number), .v (.int .i64 a.parts), .v (.int .i64 a.sum), .sl .sh 1 (a.pcs.map byE), .sl .sh 1 (a.seen.map boE)]
@[go_sem, simp] theorem asmC_len (h : Asm) : (asmC h).length = 5 := by rw [asmC]; rfl
@[go_sem, simp] theorem asmC_take (h : Asm) : (asmC h).take 5 = asmC h := rfl
@[go_sem, simp] theorem asmC_all (h : Asm) : allOne (asmC h) = true := rfl
@[go_sem, simp] theorem asmC_0 (h : Asm) (q : 0 < (asmC h).length) : (asmC h)[0] = CV.v (.int .i64 h.number) := rfl
@[go_sem, simp] theorem asmC_1 (h : Asm) (q : 1 < (asmC h).length) : (asmC h)[1] = CV.v (.int .i64 h.parts) := rfl
@[go_sem, simp] theorem asmC_2 (h : Asm) (q : 2 < (asmC h).length) : (asmC h)[2] = CV.v (.int .i64 h.sum) := rfl
@[go_sem, simp] theorem asmC_3 (h : Asm) (q : 3 < (asmC h).length) : (asmC h)[3] = .sl .sh 1 (h.pcs.map byE) := rfl
@[go_sem, simp] theorem asmC_4 (h : Asm) (q : 4 < (asmC h).length) : (asmC h)[4] = .sl .sh 1 (h.seen.map boE) := rfl
@[go_sem] theorem okL_asmC (jb jv : Nat) (h : Asm) : okL jb jv (asmC h) = True := by simp [asmC, okL, okV, okTk, okE_bys, okE_bos]
@[go_sem] theorem okV_asm (i j : Nat) (h : Asm) : okV i j (.agg (asmC h)) = True := by rw [okV, okL_asmC]
def zasm : Asm := ⟨0, 0, 0, [], []⟩
/-- A piece that is not as it is said to be. -/
def badPc (p : List UInt8) (s : Bool) : Bool := (decide (0 < p.length) != s) || decide (4096 < p.length)
def asmHd (a : Asm) : Bool := decide (a.number < 1) || decide (1073741824 < a.number) || decide (a.parts < 1) || decide (65536 < a.parts) || decide (a.sum < 0) || decide (4294967295 < a.sum) || decide ((a.pcs.length : Int) ≠ a.parts) || decide ((a.seen.length : Int) ≠ a.parts)
def chkA (a : Asm) : Nat := if asmHd a = true then 3 else if (a.pcs.zip a.seen).any (fun x => badPc x.1 x.2) = true then 3 else 0
def begA (b : List UInt8) : Except Nat Asm :=
  match prsP b with
  | .error e => .error e
  | .ok (h, r) => .ok ⟨h.number, h.parts, h.sum, (List.replicate h.parts.toNat []).set h.index.toNat r, (List.replicate h.parts.toNat false).set h.index.toNat true⟩
def addA (a : Asm) (b : List UInt8) : Except Nat Asm :=
  if chkA a ≠ 0 then .error (chkA a) else
  match prsP b with
  | .error e => .error e
  | .ok (h, r) =>
    if h.number ≠ a.number then .error 7
    else if h.parts ≠ a.parts ∨ h.sum ≠ a.sum then .error 22
    else if a.seen.getD h.index.toNat false = true ∧ a.pcs.getD h.index.toNat [] ≠ r then .error 22
    else .ok ⟨a.number, a.parts, a.sum, a.pcs.set h.index.toNat r, a.seen.set h.index.toNat true⟩
def dvA : Except Nat Asm → CV
  | .ok a => .tup [.agg (asmC a), er 0]
  | .error e => .tup [.agg (asmC zasm), er e]
/-- The places that are not seen, from k on. -/
def missF : Nat → List Bool → List Int
  | _, [] => []
  | k, b :: l => if b = true then missF (k + 1) l else (k : Int) :: missF (k + 1) l
def missA (a : Asm) : List Int := if chkA a ≠ 0 then [] else missF 0 a.seen
def cycA (a : Asm) : Except Nat Cyc :=
  if chkA a ≠ 0 then .error (chkA a) else if a.seen.contains false = true then .error 15
  else if 65536 < a.pcs.flatten.length then .error 5
  else if ((crc a.pcs.flatten).toNat : Int) ≠ a.sum then .error 9
  else match decC a.pcs.flatten with
  | .error e => .error e
  | .ok c => if c.number ≠ a.number then .error 22 else .ok c
end Go.Proofs.YtfbjhkpdlihgeaaGreat
namespace Go.Proofs.YtfbjhkpdlihgeaaGreat
theorem encN_pos : ∀ n, 0 < (encN n).length := fun n => by
  by_cases h : n < 128
  · rw [encN_lt h]; simp
  · rw [encN_ge (by omega)]; simp
/-! ### Plain: what is put is read again; beginnings are torn; what is read, put again -/
theorem numG_enc : ∀ (m f i n : Nat) (r : List UInt8), (0 < i → 0 < m) → n + m * 128 ^ i ≤ 9007199254740991 → (encN m).length ≤ f → numG f i n (encN m ++ r) = .ok (n + m * 128 ^ i, r) := by
  intro m
  induction m using Nat.strongRecOn with
  | ind m ih =>
    intro f i n r h0 h1 h2
    cases f with
    | zero => have := encN_pos m; omega
    | succ f =>
      by_cases hm : m < 128
      · have hb : (UInt8.ofNat m).toNat = m := by rw [UInt8.toNat_ofNat']; omega
        rw [encN_lt hm, List.cons_append, List.nil_append, numG, hb, if_pos hm, if_neg (by omega)]
      · have hb : (UInt8.ofNat (m % 128 + 128)).toNat = m % 128 + 128 := by rw [UInt8.toNat_ofNat']; omega
        have e1 : (m % 128 + 128) % 128 = m % 128 := by omega
        have e2 : n + m % 128 * 128 ^ i + m / 128 * 128 ^ (i + 1) = n + m * 128 ^ i := by
          have h3 : m = m % 128 + m / 128 * 128 := by omega
          have h4 : m * 128 ^ i = m % 128 * 128 ^ i + m / 128 * 128 * 128 ^ i := by rw [← Nat.add_mul, ← h3]
          have h5 : m / 128 * 128 ^ (i + 1) = m / 128 * 128 * 128 ^ i := by rw [Nat.pow_succ, Nat.mul_comm (128 ^ i), Nat.mul_assoc]
          omega
        rw [encN_ge (n := m) (by omega), List.length_cons] at h2
        rw [encN_ge (n := m) (by omega), List.cons_append, numG, hb, if_neg (by omega), e1, ih (m / 128) (by omega) f (i + 1) _ r (by omega) (by rw [e2]; exact h1) (by omega), e2]
theorem number_enc (n : Int) (r : List UInt8) : number (enc n ++ r) = .ok (norm n, r) := by
  have h := numG_enc (norm n) 8 0 0 r (by omega) (by have := norm_lt n; omega) (enc_len n)
  rw [number, enc, h]; simp
theorem numG_once : ∀ (f i n : Nat) (s : List UInt8) {m : Nat} {r : List UInt8}, numG f i n s = .ok (m, r) → ∃ q, m = n + q * 128 ^ i ∧ s = encN q ++ r ∧ (0 < i → 0 < q) ∧ m ≤ 9007199254740991
  | 0, _, _, _, _, _, h => by rw [numG] at h; cases h
  | f + 1, _, _, [], _, _, h => by rw [numG] at h; cases h
  | f + 1, i, n, b :: s, m, r, h => by
    rw [numG] at h
    have hb := b.toNat_lt
    split at h
    · rename_i h1
      split at h
      · cases h
      · rename_i h2
        cases h
        refine ⟨b.toNat, rfl, ?_, by omega, by omega⟩
        rw [encN_lt h1, UInt8.ofNat_toNat]; rfl
    · rename_i h1
      obtain ⟨q, h3, h4, h5, h6⟩ := numG_once f _ _ s h
      have hq : 0 < q := h5 (by omega)
      refine ⟨b.toNat % 128 + q * 128, ?_, ?_, by omega, h6⟩
      · rw [h3, Nat.add_mul, Nat.pow_succ, Nat.mul_comm (128 ^ i), Nat.mul_assoc]; omega
      · rw [encN_ge (by omega), show (b.toNat % 128 + q * 128) % 128 + 128 = b.toNat by omega, show (b.toNat % 128 + q * 128) / 128 = q by omega, UInt8.ofNat_toNat, h4]; rfl
theorem enc_nat {m : Nat} (h : m ≤ 9007199254740991) : enc (m : Int) = encN m := by
  rw [enc, norm, if_neg (by omega)]; rfl
theorem number_once {s r : List UInt8} {m : Nat} (h : number s = .ok (m, r)) : s = enc m ++ r ∧ m ≤ 9007199254740991 := by
  obtain ⟨q, h1, h2, _, h4⟩ := numG_once 8 0 0 s h
  have : m = q := by simpa using h1
  subst this
  exact ⟨by rw [enc_nat h4]; exact h2, h4⟩
theorem numG_tear : ∀ (m f i n k : Nat), k < (encN m).length → (encN m).length ≤ f → numG f i n ((encN m).take k) = .error 10 := by
  intro m
  induction m using Nat.strongRecOn with
  | ind m ih =>
    intro f i n k hk hf
    cases f with
    | zero => omega
    | succ f =>
      cases k with
      | zero => rw [List.take_zero, numG]
      | succ k =>
        by_cases hm : m < 128
        · rw [encN_lt hm] at hk; simp at hk
        · have hb : (UInt8.ofNat (m % 128 + 128)).toNat = m % 128 + 128 := by rw [UInt8.toNat_ofNat']; omega
          rw [encN_ge (n := m) (by omega), List.length_cons] at hk hf
          rw [encN_ge (n := m) (by omega), List.take_succ_cons, numG, hb, if_neg (by omega)]
          exact ih (m / 128) (by omega) f _ _ k (by omega) (by omega)
theorem number_tear (n : Int) (k : Nat) (h : k < (enc n).length) : number ((enc n).take k) = .error 10 := numG_tear _ _ _ _ _ h (enc_len n)

/-- What is put is read again. -/
def RT {α : Type} (p : Pr α) (e : α → List UInt8) (h : α → α) (A : α → Prop) : Prop := ∀ a r, A a → p (e a ++ r) = .ok (h a, r)
/-- Beginnings are torn. -/
def TR {α : Type} (p : Pr α) (e : α → List UInt8) (A : α → Prop) : Prop := ∀ a k, A a → k < (e a).length → p ((e a).take k) = .error 10
/-- What is read, put again. -/
def ON {α : Type} (p : Pr α) (e : α → List UInt8) : Prop := ∀ s a r, p s = .ok (a, r) → s = e a ++ r
section
variable {α : Type} {p : Pr α} {e : α → List UInt8} {h : α → α} {A : α → Prop}
theorem rep_rt (hp : RT p e h A) : ∀ (l : List α) (r : List UInt8), (∀ a ∈ l, A a) → repP p l.length (l.flatMap e ++ r) = .ok (l.map h, r)
  | [], r, _ => by rw [List.length_nil, repP]; rfl
  | a :: l, r, hA => by
    rw [List.length_cons, repP, List.flatMap_cons, List.append_assoc, hp _ _ (hA a (by simp))]
    dsimp only
    rw [rep_rt hp l r fun b hb => hA b (List.mem_cons_of_mem _ hb)]; rfl
theorem rep_tr (hp : RT p e h A) (ht : TR p e A) : ∀ (l : List α) (k : Nat), (∀ a ∈ l, A a) → k < (l.flatMap e).length → repP p l.length ((l.flatMap e).take k) = .error 10
  | [], k, _, hk => by simp at hk
  | a :: l, k, hA, hk => by
    rw [List.flatMap_cons, List.length_append] at hk
    rw [List.length_cons, repP, List.flatMap_cons]
    by_cases h1 : k < (e a).length
    · rw [List.take_append_of_le_length (by omega), ht _ _ (hA a (by simp)) h1]
    · rw [List.take_append, List.take_of_length_le (by omega), hp _ _ (hA a (by simp))]
      dsimp only
      rw [rep_tr hp ht l _ (fun b hb => hA b (List.mem_cons_of_mem _ hb)) (by omega)]
theorem rep_on (hp : ON p e) : ∀ (n : Nat) (s : List UInt8) (l : List α) (r : List UInt8), repP p n s = .ok (l, r) → s = l.flatMap e ++ r ∧ l.length = n
  | 0, s, l, r, hq => by rw [repP] at hq; cases hq; exact ⟨rfl, rfl⟩
  | n + 1, s, l, r, hq => by
    rw [repP] at hq
    split at hq
    · cases hq
    · rename_i a s1 h1
      split at hq
      · cases hq
      · rename_i l1 s2 h2
        cases hq
        obtain ⟨h3, h4⟩ := rep_on hp n _ _ _ h2
        exact ⟨by rw [hp _ _ _ h1, h3, List.flatMap_cons, List.append_assoc], by rw [List.length_cons, h4]⟩
theorem length_rt (n : Nat) (r : List UInt8) (hn : n ≤ 65536) : lengthP (enc n ++ r) = .ok (n, r) := by
  unfold lengthP
  rw [number_enc]
  have : norm (n : Int) = n := by unfold norm; rw [if_neg (by omega)]; rfl
  dsimp only
  rw [this, if_neg (by omega)]
theorem length_tr (n : Int) (k : Nat) (h : k < (enc n).length) : lengthP ((enc n).take k) = .error 10 := by
  unfold lengthP
  rw [number_tear _ _ h]
theorem length_on {s r : List UInt8} {n : Nat} (h : lengthP s = .ok (n, r)) : s = enc n ++ r := by
  unfold lengthP at h
  split at h
  · cases h
  · rename_i h1
    split at h
    · cases h
    · cases h; exact (number_once h1).1
theorem list_rt (hp : RT p e h A) : ∀ (l : List α) (r : List UInt8), (l.length ≤ 65536 ∧ ∀ a ∈ l, A a) → listP p ((enc l.length ++ l.flatMap e) ++ r) = .ok (l.map h, r) := by
  intro l r ⟨hl, hA⟩
  unfold listP
  rw [List.append_assoc, length_rt _ _ hl]
  dsimp only
  exact rep_rt hp l r hA
theorem list_tr (hp : RT p e h A) (ht : TR p e A) : ∀ (l : List α) (k : Nat), (l.length ≤ 65536 ∧ ∀ a ∈ l, A a) → k < (enc l.length ++ l.flatMap e).length → listP p ((enc l.length ++ l.flatMap e).take k) = .error 10 := by
  intro l k ⟨hl, hA⟩ hk
  unfold listP
  rw [List.length_append] at hk
  by_cases h1 : k < (enc l.length).length
  · rw [List.take_append_of_le_length (by omega), length_tr _ _ h1]
  · rw [List.take_append, List.take_of_length_le (by omega), length_rt _ _ hl]
    dsimp only
    exact rep_tr hp ht l _ hA (by omega)
theorem list_on (hp : ON p e) : ON (listP p) fun l => enc l.length ++ l.flatMap e := by
  intro s l r hq
  unfold listP at hq
  split at hq
  · cases hq
  · rename_i h1
    obtain ⟨h2, h3⟩ := rep_on hp _ _ _ _ hq
    rw [length_on h1, h2, ← h3, List.append_assoc]
end
theorem int_rt : RT intP enc (fun n => (norm n : Int)) fun _ => True := fun a r _ => by unfold intP; rw [number_enc]
theorem int_tr : TR intP enc fun _ => True := fun a k _ h => by unfold intP; rw [number_tear _ _ h]
theorem int_on : ON intP enc := fun s a r h => by
  unfold intP at h
  split at h
  · cases h
  · rename_i h1; cases h; exact (number_once h1).1
theorem Sec.same {a b : Sec} (h : a.val = b.val) : a = b := by
  cases a; cases b; cases h; rfl
theorem sec_rt : RT secP Sec.val id fun _ => True := fun a r _ => by
  have := a.len
  unfold secP
  rw [dif_neg (by rw [List.length_append]; omega)]
  have h1 : (a.val ++ r).take 8 = a.val := by rw [List.take_append_of_le_length (by omega), List.take_of_length_le (by omega)]
  have h2 : (a.val ++ r).drop 8 = r := by rw [← a.len, List.drop_left]
  rw [h2]
  congr 2
  exact Sec.same h1
theorem sec_tr : TR secP Sec.val fun _ => True := fun a k _ h => by
  have := a.len
  unfold secP
  rw [dif_pos (by rw [List.length_take]; omega)]
theorem sec_on : ON secP Sec.val := fun s a r h => by
  unfold secP at h
  split at h
  · cases h
  · cases h; exact (List.take_append_drop 8 s).symm
theorem pair_rt (a b : Int) (r : List UInt8) : pairP (enc a ++ enc b ++ r) = .ok ((norm a, norm b), r) := by
  unfold pairP
  rw [List.append_assoc, number_enc]
  dsimp only
  rw [number_enc]
theorem pair_tr (a b : Int) (k : Nat) (h : k < (enc a ++ enc b).length) : pairP ((enc a ++ enc b).take k) = .error 10 := by
  unfold pairP
  rw [List.length_append] at h
  by_cases h1 : k < (enc a).length
  · rw [List.take_append_of_le_length (by omega), number_tear _ _ h1]
  · rw [List.take_append, List.take_of_length_le (by omega), number_enc]
    dsimp only
    rw [number_tear _ _ (by omega)]
theorem pair_on {s r : List UInt8} {a b : Nat} (h : pairP s = .ok ((a, b), r)) : s = enc a ++ enc b ++ r := by
  unfold pairP at h
  split at h
  · cases h
  · rename_i h1
    split at h
    · cases h
    · rename_i h2; cases h
      rw [(number_once h1).1, (number_once h2).1, List.append_assoc]
theorem ext_rt : RT extP encExt (fun x => ⟨norm x.start, norm x.count⟩) fun _ => True := fun a r _ => by unfold extP encExt; rw [pair_rt]
theorem ext_on : ON extP encExt := fun s a r h => by
  unfold extP at h
  split at h
  · cases h
  · rename_i h1; cases h; exact pair_on h1
theorem wr_rt : RT wrP encWr (fun x => ⟨norm x.volume, norm x.start, x.data⟩) fun x => x.data.length ≤ 65536 := fun x r hx => by
  unfold wrP encWr encSecs
  rw [List.append_assoc, pair_rt]
  dsimp only
  rw [list_rt sec_rt _ _ ⟨hx, fun _ _ => trivial⟩, List.map_id]
theorem wr_tr : TR wrP encWr fun x => x.data.length ≤ 65536 := fun x k hx h => by
  unfold wrP
  unfold encWr encSecs at h ⊢
  rw [List.length_append] at h
  by_cases h1 : k < (enc x.volume ++ enc x.start).length
  · rw [List.take_append_of_le_length (by omega), pair_tr _ _ _ h1]
  · rw [List.take_append, List.take_of_length_le (by omega), pair_rt]
    dsimp only
    rw [list_tr sec_rt sec_tr _ _ ⟨hx, fun _ _ => trivial⟩ (by omega)]
theorem wr_on : ON wrP encWr := fun s a r h => by
  unfold wrP at h
  split at h
  · cases h
  · rename_i h1
    split at h
    · cases h
    · rename_i h2; cases h
      unfold encWr encSecs
      rw [pair_on h1, list_on sec_on _ _ _ h2]
      simp only [List.append_assoc]
theorem text_rt (b r : List UInt8) (h : b.length ≤ 65536) : textP (encBytes b ++ r) = .ok (b, r) := by
  unfold textP encBytes
  rw [List.append_assoc, length_rt _ _ h]
  dsimp only
  unfold takeP
  rw [if_neg (by rw [List.length_append]; omega), List.take_left, List.drop_left]
theorem text_on : ON textP encBytes := fun s a r h => by
  unfold textP at h
  split at h
  · cases h
  · rename_i n s1 h1
    unfold takeP at h
    split at h
    · cases h
    · rename_i h2; cases h
      unfold encBytes
      rw [length_on h1, List.length_take, Nat.min_eq_left (by omega), List.append_assoc, List.take_append_drop]
end Go.Proofs.YtfbjhkpdlihgeaaGreat
namespace Go.Proofs.YtfbjhkpdlihgeaaGreat
open Go.Proofs
theorem correct_cc (H : Hp) (V : List Nat) (h : Hd) : CC Tryz.prog 74 [.agg (hdC h)] H V (Pu (.v (.bool (corrB h))) H V) := by
  refine CC.of_swp Tryz.func74 rfl (by kernel_rfl) (by rw [Tryz.ntmps74]; exact len_le _ _ rfl) fun hok hokH => ?_
  clear hok
  refine SWp.seq (Wp.s ?_)
  simp -implicitDefEqProofs [go_sem, args0]
  refine SWp.seq (Wp.s ?_)
  by_cases h1 : 1 ≤ h.number <;> by_cases h2 : h.number ≤ 1073741824 <;> by_cases h3 : h.index < h.parts <;> by_cases h4 : h.parts ≤ 65536 <;> by_cases h5 : h.sum ≤ 4294967295
  all_goals
    simp -implicitDefEqProofs [go_sem, h1, h2, h3, h4, h5]
    refine Wp.s ?_
    simp -implicitDefEqProofs [go_sem, h1, h2, h3, h4, h5]
    exact Fin.bool (by simp [corrB, h1, h2, h3, h4, h5]) hokH (by simp) (by simp)
def cells4 (xs : List Nat) : List CV := [ci (at3 xs 0), ci (at3 xs 2), ci (at3 xs 3), ci (at3 xs 1)]
theorem parse_cc (H : Hp) (V : List Nat) (tk : Tk) (b : List UInt8) (hl : b.length ≤ 800000000) : CC Tryz.prog 40 [.sl tk 1 (bs b)] H V (Pu (dvH (prsP b)) H V) := by
  refine CC.of_swp Tryz.func40 rfl (by kernel_rfl) (by rw [Tryz.ntmps40]; exact len_le _ _ rfl) fun hok hokH => ?_
  clear hok
  refine SWp.seq (Wp.s ?_)
  simp -implicitDefEqProofs [go_sem, args0]
  refine SWp.seq (Wp.s ?_)
  simp -implicitDefEqProofs [go_sem]
  refine SWp.seq (Wp.s ?_)
  simp -implicitDefEqProofs [go_sem]
  refine SWp.join (α := List Nat × List UInt8) (fun x => ([(6, .sl .sh 1 (bs x.2)), (2, .ptr H.length 0), (5, .ptr (H.length + 1) 0)], H ++ [some (hdC zhd), some (cells4 x.1)], V)) (fun x => repP number 4 b = .ok (x.1, x.2) ∧ x.2.length ≤ 800000000) ?_ ?_
  · refine SWp.seq (Wp.s ?_)
    simp -implicitDefEqProofs [go_sem]
    refine SWp.block ?_
    refine SWp.loop (α := List Nat × List UInt8) (fun x => ([(6, .sl .sh 1 (bs x.2)), (2, .ptr H.length 0), (5, .ptr (H.length + 1) 0), (20, .sl .ti 1 [[.ptr (H.length + 1) 0], [.ptr (H.length + 1) 3], [.ptr (H.length + 1) 1], [.ptr (H.length + 1) 2]]), (21, ci 4), (22, ci x.1.length)], H ++ [some (hdC zhd), some (cells4 x.1)], V)) (fun x => x.1.length ≤ 4 ∧ repP number 4 b = ahead x.1 (repP number (4 - x.1.length) x.2) ∧ x.2.length ≤ 800000000) (fun x => 4 - x.1.length) ([], b) ⟨by simp, (ahead_nil _).symm, hl⟩ (Sh.forget (by simp [go_sem]) rfl rfl) ?_
    rintro ⟨xs, s⟩ ⟨h3, hr, hs⟩
    dsimp only at h3 hr hs ⊢
    refine SWp.seq (Wp.s ?_)
    simp -implicitDefEqProofs [go_sem]
    refine SWp.seq (Wp.s ?_)
    simp -implicitDefEqProofs [go_sem]
    refine ⟨fun h => ?_, fun h => ⟨xs, s, ⟨?_, hs⟩, Sh.forget (by simp [go_sem]) rfl rfl⟩⟩
    case refine_2 => rw [hr, show 4 - xs.length = 0 by omega, repP]; simp [ahead]
    rcases hn : number s with e | ⟨n, r⟩
    · have he : prsP b = .error e := by
        rw [prsP, hr, show 4 - xs.length = (3 - xs.length) + 1 by omega, rep_err hn]
      have hne := ne0_number _ _ hn
      obtain rfl | ⟨x, rfl⟩ | ⟨x, y, rfl⟩ | ⟨x, y, z, rfl⟩ : xs = [] ∨ (∃ x, xs = [x]) ∨ (∃ x y, xs = [x, y]) ∨ (∃ x y z, xs = [x, y, z]) := by
        match xs, h with
        | [], _ => exact .inl rfl
        | [x], _ => exact .inr (.inl ⟨x, rfl⟩)
        | [x, y], _ => exact .inr (.inr (.inl ⟨x, y, rfl⟩))
        | [x, y, z], _ => exact .inr (.inr (.inr ⟨x, y, z, rfl⟩))
        | x :: y :: z :: u :: l, h => exact absurd h (by simp only [List.length_cons]; omega)
      all_goals
        refine SWp.seq (SWp.block (SWp.seq (Wp.s ?_)))
        simp -implicitDefEqProofs [go_sem, cells4]
        refine SWp.seq (Wp.s ?_)
        simp -implicitDefEqProofs [go_sem]
        refine CC.mono (Int_cc _ _ _ s (by omega)) ?_
        rintro _ _ _ ⟨rfl, rfl, rfl⟩
        simp -implicitDefEqProofs [go_sem, hn, rdv]
        refine SWp.seq (SWp.seq (Wp.s ?_))
        simp -implicitDefEqProofs [go_sem, hne]
        refine Wp.s ?_
        simp -implicitDefEqProofs [go_sem, hne]
        rw [he, dvH]
        exact Fin.pu (.tup (.cons (.refl _) (.cons (.nil 1 (by decide)) (.cons (.refl _) .nil)))) (by simp [go_sem]) hokH (by simp) (by simp)
    · have hrl := shr_number _ _ _ hn
      have next : repP number 4 b = ahead (xs ++ [n]) (repP number (4 - (xs ++ [n]).length) r) := by
        rw [hr, show 4 - xs.length = (3 - xs.length) + 1 by omega, rep_ok hn]
        congr 2
        rw [List.length_append, List.length_cons, List.length_nil]
        omega
      obtain rfl | ⟨x, rfl⟩ | ⟨x, y, rfl⟩ | ⟨x, y, z, rfl⟩ : xs = [] ∨ (∃ x, xs = [x]) ∨ (∃ x y, xs = [x, y]) ∨ (∃ x y z, xs = [x, y, z]) := by
        match xs, h with
        | [], _ => exact .inl rfl
        | [x], _ => exact .inr (.inl ⟨x, rfl⟩)
        | [x, y], _ => exact .inr (.inr (.inl ⟨x, y, rfl⟩))
        | [x, y, z], _ => exact .inr (.inr (.inr ⟨x, y, z, rfl⟩))
        | x :: y :: z :: u :: l, h => exact absurd h (by simp only [List.length_cons]; omega)
      all_goals
        refine SWp.seq (SWp.block (SWp.seq (Wp.s ?_)))
        simp -implicitDefEqProofs [go_sem, cells4]
        refine SWp.seq (Wp.s ?_)
        simp -implicitDefEqProofs [go_sem]
        refine CC.mono (Int_cc _ _ _ s (by omega)) ?_
        rintro _ _ _ ⟨rfl, rfl, rfl⟩
        simp -implicitDefEqProofs [go_sem, hn, rdv]
        refine SWp.seq (SWp.seq (Wp.s ?_))
        simp -implicitDefEqProofs [go_sem]
        refine Wp.s ?_
        simp -implicitDefEqProofs [go_sem]
        refine Wp.s ?_
        simp -implicitDefEqProofs [go_sem]
        refine Wp.s ?_
        simp -implicitDefEqProofs [go_sem, show IntKind.i64.wrap 1 = 1 from rfl, show IntKind.i64.wrap 2 = 2 from rfl, show IntKind.i64.wrap 3 = 3 from rfl, show IntKind.i64.wrap 4 = 4 from rfl]
        refine ⟨_, r, ⟨?_, next, by omega⟩, ?_, Sh.forget ?_ rfl rfl⟩
        · simp
        · simp
        · simp [go_sem]
  · rintro ⟨xs, s⟩ ⟨hr, hs⟩
    dsimp only at hr hs ⊢
    have hc4 : cells4 xs = hdC (hd4 xs) := rfl
    have e0 : prsP b = if corrB (hd4 xs) = false ∨ s.length < 1 ∨ 4096 < s.length then .error 3 else .ok (hd4 xs, s) := by rw [prsP, hr]
    rw [hc4]
    refine SWp.seq (SWp.seq (Wp.s ?_))
    simp -implicitDefEqProofs [go_sem]
    refine CC.mono (correct_cc _ _ (hd4 xs)) ?_
    rintro _ _ _ ⟨rfl, rfl, rfl⟩
    have bad : (corrB (hd4 xs) = false ∨ s.length < 1 ∨ 4096 < s.length) → prsP b = .error 3 := fun h => by rw [e0, if_pos h]
    by_cases c1 : corrB (hd4 xs) = false
    · simp -implicitDefEqProofs [go_sem, c1]
      refine Wp.s ?_
      simp -implicitDefEqProofs [go_sem]
      rw [bad (.inl c1), dvH]
      exact Fin.pu (.tup (.cons (.refl _) (.cons (.nil 1 (by decide)) (.cons (.refl _) .nil)))) (by simp [go_sem]) hokH (by simp) (by simp)
    have c1' : corrB (hd4 xs) = true := by simpa using c1
    by_cases c2 : s.length < 1
    · have : (s.length : Int) < 1 := by omega
      simp -implicitDefEqProofs [go_sem, c1', this]
      refine Wp.s ?_
      simp -implicitDefEqProofs [go_sem]
      rw [bad (.inr (.inl c2)), dvH]
      exact Fin.pu (.tup (.cons (.refl _) (.cons (.nil 1 (by decide)) (.cons (.refl _) .nil)))) (by simp [go_sem]) hokH (by simp) (by simp)
    by_cases c3 : 4096 < s.length
    · have h1 : ¬ (s.length : Int) < 1 := by omega
      have h2 : 4096 < (s.length : Int) := by omega
      simp -implicitDefEqProofs [go_sem, c1', h1, h2]
      refine Wp.s ?_
      simp -implicitDefEqProofs [go_sem]
      rw [bad (.inr (.inr c3)), dvH]
      exact Fin.pu (.tup (.cons (.refl _) (.cons (.nil 1 (by decide)) (.cons (.refl _) .nil)))) (by simp [go_sem]) hokH (by simp) (by simp)
    have h1 : ¬ (s.length : Int) < 1 := by omega
    have h2 : ¬ 4096 < (s.length : Int) := by omega
    simp -implicitDefEqProofs [go_sem, c1', h1, h2]
    refine Wp.s ?_
    simp -implicitDefEqProofs [go_sem]
    refine SWp.seq (SWp.drawnT [] [3] (.s 0 .pl <| .s 1 .pl <| .s 2 .pl <| .s 3 .st <| .s 4 .pl <| .s 5 .pl <| .n) (by kernel_rfl) (by kernel_rfl) ?_)
    simp -implicitDefEqProofs [go_sem]
    refine CC.mono (clone_cc _ _ _ _ (by simp only [bs_len]; omega)) ?_
    rintro _ _ _ ⟨v, rfl, rfl, rfl⟩
    simp -implicitDefEqProofs [go_sem]
    refine Wp.s ?_
    simp -implicitDefEqProofs [go_sem]
    rw [e0, if_neg (fun h => h.elim c1 (fun h => h.elim c2 c3)), dvH]
    exact Fin.pu (.tup (.cons (.refl _) (.cons (.sh ..) (.cons (.refl _) .nil)))) (by simp [go_sem]) hokH (by simp) (by simp)
end Go.Proofs.YtfbjhkpdlihgeaaGreat
namespace Go.Proofs.YtfbjhkpdlihgeaaGreat
open Go.Proofs
/-- A part of the reference. -/
def ptC (h : Hd) (r : List UInt8) : List CV := [.v (.int .i64 h.number), .v (.int .i64 h.index), .v (.int .i64 h.parts), .v (.int .i64 h.sum), .sl .sh 1 (bs r)]
@[go_sem, simp] theorem ptC_len (h : Hd) (r : List UInt8) : (ptC h r).length = 5 := by rw [ptC]; rfl
@[go_sem, simp] theorem ptC_take (h : Hd) (r : List UInt8) : (ptC h r).take 5 = ptC h r := rfl
@[go_sem, simp] theorem ptC_all (h : Hd) (r : List UInt8) : allOne (ptC h r) = true := rfl
@[go_sem, simp] theorem ptC_0 (h : Hd) (r : List UInt8) (q : 0 < (ptC h r).length) : (ptC h r)[0] = CV.v (.int .i64 h.number) := rfl
@[go_sem, simp] theorem ptC_1 (h : Hd) (r : List UInt8) (q : 1 < (ptC h r).length) : (ptC h r)[1] = CV.v (.int .i64 h.index) := rfl
@[go_sem, simp] theorem ptC_2 (h : Hd) (r : List UInt8) (q : 2 < (ptC h r).length) : (ptC h r)[2] = CV.v (.int .i64 h.parts) := rfl
@[go_sem, simp] theorem ptC_3 (h : Hd) (r : List UInt8) (q : 3 < (ptC h r).length) : (ptC h r)[3] = CV.v (.int .i64 h.sum) := rfl
@[go_sem, simp] theorem ptC_4 (h : Hd) (r : List UInt8) (q : 4 < (ptC h r).length) : (ptC h r)[4] = CV.sl .sh 1 (bs r) := rfl
@[go_sem] theorem okL_ptC (jb jv : Nat) (h : Hd) (r : List UInt8) : okL jb jv (ptC h r) = True := by simp [ptC, okL, okV, okTk, go_sem]
@[go_sem] theorem okV_pt (i j : Nat) (h : Hd) (r : List UInt8) : okV i j (.agg (ptC h r)) = True := by rw [okV, okL_ptC]
def dvPt : Except Nat (Hd × List UInt8) → CV
  | .ok (h, r) => .tup [.agg (ptC h r), er 0]
  | .error e => .tup [.agg (ptC zhd []), er e]
def zpt : List CV := [ci 0, ci 0, ci 0, ci 0, nilS]
theorem Le_zpt : Le (.agg zpt) (.agg (ptC zhd [])) := .agg (.cons (.refl _) (.cons (.refl _) (.cons (.refl _) (.cons (.refl _) (.cons (.nil 1 (by decide)) .nil)))))
def arr4 (xs : List Nat) : List CV := [ci (at3 xs 0), ci (at3 xs 1), ci (at3 xs 2), ci (at3 xs 3)]
def dvHdr : Except Nat (Hd × List UInt8) → CV
  | .ok (h, _) => .tup [.v (.int .i64 h.number), .v (.int .i64 h.index), .v (.int .i64 h.parts), er 0]
  | .error e => .tup [ci 0, ci 0, ci 0, er e]
theorem Header_cc (H : Hp) (V : List Nat) (tk : Tk) (b : List UInt8) (hl : b.length ≤ 800000000) : CC Tryz.prog 19 [.sl tk 1 (bs b)] H V (Pu (dvHdr (prsP b)) H V) := by
  refine CC.of_swp Tryz.func19 rfl (by kernel_rfl) (by rw [Tryz.ntmps19]; exact len_le _ _ rfl) fun hok hokH => ?_
  clear hok
  refine SWp.seq (Wp.s ?_)
  simp -implicitDefEqProofs [go_sem, args0]
  refine SWp.seq (Wp.s ?_)
  simp -implicitDefEqProofs [go_sem]
  refine CC.mono (parse_cc _ _ _ b hl) ?_
  rintro _ _ _ ⟨rfl, rfl, rfl⟩
  rcases hp : prsP b with e | ⟨h, r⟩
  · simp -implicitDefEqProofs [go_sem, dvH, hp]
    refine SWp.seq (SWp.drawnT [] [] (.s 0 .pl <| .s 1 .pl <| .s 2 .pl <| .s 3 .pl <| .s 4 .pl <| .s 5 .pl <| .s 6 .pl <| .s 7 .pl <| .s 8 .pl <| .s 9 .pl <| .s 10 .pl <| .s 11 .pl <| .s 12 .pl <| .n) (by kernel_rfl) (by kernel_rfl) ?_)
    simp -implicitDefEqProofs [go_sem]
    refine Wp.s ?_
    simp -implicitDefEqProofs [go_sem]
    exact Fin.pu (.refl _) (by simp [go_sem, dvHdr]) hokH (by simp) (by simp)
  · simp -implicitDefEqProofs [go_sem, dvH, hp]
    refine SWp.seq (SWp.drawnT [] [] (.s 0 .pl <| .s 1 .pl <| .s 2 .pl <| .s 3 .pl <| .s 4 .pl <| .s 5 .pl <| .s 6 .pl <| .s 7 .pl <| .s 8 .pl <| .s 9 .pl <| .s 10 .pl <| .s 11 .pl <| .s 12 .pl <| .n) (by kernel_rfl) (by kernel_rfl) ?_)
    simp -implicitDefEqProofs [go_sem]
    refine Wp.s ?_
    simp -implicitDefEqProofs [go_sem]
    exact Fin.pu (.refl _) (by simp [go_sem, dvHdr]) hokH (by simp) (by simp)
end Go.Proofs.YtfbjhkpdlihgeaaGreat
