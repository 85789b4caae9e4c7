import Derived.Test.YthakkopnoeinmaaA14
set_option linter.unusedSimpArgs false
set_option linter.unusedVariables false
namespace Go.Proofs.Ythakkopnoeinmaa
open Go.Proofs
def rngM (m : Ms) : Bool := timeB m.src && timeB m.dst && numB m.number && numB m.value && numB m.epoch
def valsB (l : List Int) : Bool := l.all numB
def checkM (m : Ms) : Nat := if m.kind < 1 ∨ 26 < m.kind then 1 else if (rngM m && valsB m.values) = false then 2 else if 4096 < m.values.length then 6 else 0
theorem any_num (l : List Int) : (l.any fun n => !numB n) = !valsB l := by
  unfold valsB
  induction l with
  | nil => rfl
  | cons a l ih => rw [List.any_cons, List.all_cons, ih, Bool.not_and]
theorem badnum_cc (H : Hp) (V : List Nat) (n : Int) : CC Try.prog 85 [ci n] H V (Pu (cb (!numB n)) H V) := by
  refine CC.of_swp Try.func85 rfl (by kernel_rfl) (by rw [Try.ntmps85]; exact len_le _ _ rfl) fun hok hokH => Wp.s ?_
  simp -implicitDefEqProofs [go_sem, args0]
  refine CC.mono (numb_cc _ _ _) ?_
  rintro _ _ _ ⟨rfl, rfl, rfl⟩
  simp -implicitDefEqProofs [go_sem]
  exact Fin.bool rfl hokH (by simp) (by simp)
theorem checkMessage_cc (H : Hp) (V : List Nat) (m : Ms) (hl : m.values.length ≤ 900000000) : CC Try.prog 59 [.agg (msC m)] H V (Pu (er (checkM m)) H V) := by
  refine CC.of_swp Try.func59 rfl (by kernel_rfl) (by rw [Try.ntmps59]; exact len_le _ _ rfl) fun hok hokH => ?_
  refine SWp.seq (Wp.s ?_)
  simp -implicitDefEqProofs [go_sem, args0]
  refine Wp.s ?_
  by_cases a1 : m.kind < 1
  · simp -implicitDefEqProofs [go_sem, a1]
    exact Fin.er (a := 1) (by simp [checkM, a1]) hokH (by simp) (by simp)
  by_cases a2 : 26 < m.kind
  · simp -implicitDefEqProofs [go_sem, a1, a2]
    exact Fin.er (a := 1) (by simp [checkM, a1, a2]) hokH (by simp) (by simp)
  simp -implicitDefEqProofs [go_sem, a1, a2]
  refine CC.mono (time_cc _ _ _) ?_
  rintro _ _ _ ⟨rfl, rfl, rfl⟩
  rcases b0 : timeB m.src with - | -
  · simp -implicitDefEqProofs [go_sem]
    exact Fin.er (a := 2) (by simp [checkM, rngM, a1, a2, b0]) hokH (by simp) (by simp)
  simp -implicitDefEqProofs [go_sem]
  refine CC.mono (time_cc _ _ _) ?_
  rintro _ _ _ ⟨rfl, rfl, rfl⟩
  rcases b1 : timeB m.dst with - | -
  · simp -implicitDefEqProofs [go_sem]
    exact Fin.er (a := 2) (by simp [checkM, rngM, a1, a2, b0, b1]) hokH (by simp) (by simp)
  simp -implicitDefEqProofs [go_sem]
  refine CC.mono (numb_cc _ _ _) ?_
  rintro _ _ _ ⟨rfl, rfl, rfl⟩
  rcases b2 : numB m.number with - | -
  · simp -implicitDefEqProofs [go_sem]
    exact Fin.er (a := 2) (by simp [checkM, rngM, a1, a2, b0, b1, b2]) hokH (by simp) (by simp)
  simp -implicitDefEqProofs [go_sem]
  refine CC.mono (numb_cc _ _ _) ?_
  rintro _ _ _ ⟨rfl, rfl, rfl⟩
  rcases b3 : numB m.value with - | -
  · simp -implicitDefEqProofs [go_sem]
    exact Fin.er (a := 2) (by simp [checkM, rngM, a1, a2, b0, b1, b2, b3]) hokH (by simp) (by simp)
  simp -implicitDefEqProofs [go_sem]
  refine CC.mono (numb_cc _ _ _) ?_
  rintro _ _ _ ⟨rfl, rfl, rfl⟩
  rcases b4 : numB m.epoch with - | -
  · simp -implicitDefEqProofs [go_sem]
    exact Fin.er (a := 2) (by simp [checkM, rngM, a1, a2, b0, b1, b2, b3, b4]) hokH (by simp) (by simp)
  have hr : rngM m = true := by simp [rngM, b0, b1, b2, b3, b4]
  simp -implicitDefEqProofs [go_sem]
  refine CC.mono (containsInt_cc _ _ _ m.values 85 (fun n => !numB n) badnum_cc hl) ?_
  rintro _ _ _ ⟨rfl, rfl, rfl⟩
  rw [any_num]
  rcases c1 : valsB m.values with - | -
  · simp -implicitDefEqProofs [go_sem]
    exact Fin.er (a := 2) (by simp [checkM, hr, a1, a2, c1]) hokH (by simp) (by simp)
  by_cases d1 : 4096 < m.values.length
  · simp -implicitDefEqProofs [go_sem, show (4096 : Int) < m.values.length by omega]
    exact Fin.er (a := 6) (by simp [checkM, hr, a1, a2, c1, d1]) hokH (by simp) (by simp)
  · simp -implicitDefEqProofs [go_sem, show ¬ (4096 : Int) < m.values.length by omega]
    exact Fin.er (a := 0) (by simp [checkM, hr, a1, a2, c1, d1]) hokH (by simp) (by simp)
theorem numB_eq (n : Int) : numB n = (decide (0 ≤ n) && decide (n ≤ 9007199254740991)) := rfl
theorem refCheckMessage_cc (H : Hp) (V : List Nat) (m : Ms) (hl : m.values.length ≤ 900000000) : CC Try.prog 61 [.agg (msC m)] H V (Pu (er (checkM m)) H V) := by
  refine CC.of_swp Try.func61 rfl (by kernel_rfl) (by rw [Try.ntmps61]; exact len_le _ _ rfl) fun hok hokH => ?_
  clear hok
  refine SWp.seq (Wp.s ?_)
  simp -implicitDefEqProofs [go_sem, args0]
  refine SWp.join (α := Unit) (fun _ => ([(1, .ptr H.length 0), (2, er 0)], H ++ [some (msC m)], V)) (fun _ => ¬ m.kind < 1 ∧ ¬ 26 < m.kind) ?_ ?_
  · refine Wp.s ?_
    by_cases a1 : m.kind < 1
    · simp -implicitDefEqProofs [go_sem, a1]
      exact Fin.er (a := 1) (by simp [checkM, a1]) hokH (by simp) (by simp)
    by_cases a2 : 26 < m.kind
    · simp -implicitDefEqProofs [go_sem, a1, a2]
      exact Fin.er (a := 1) (by simp [checkM, a1, a2]) hokH (by simp) (by simp)
    simp -implicitDefEqProofs [go_sem, a1, a2]
    exact Sh.forget (by simp [go_sem]; exact .refl _) rfl rfl
  rintro _ ⟨a1, a2⟩
  dsimp only
  refine SWp.join (α := Unit) (fun _ => ([(3, cb (rngM m)), (1, .ptr H.length 0), (2, er 0)], H ++ [some (msC m)], V)) (fun _ => True) ?_ ?_
  · refine Wp.s ?_
    simp -implicitDefEqProofs [go_sem]
    refine CC.mono (reftime_cc _ _ _) ?_
    rintro _ _ _ ⟨rfl, rfl, rfl⟩
    rcases b0 : timeB m.src with - | -
    · have hr : rngM m = false := by simp [rngM, b0]
      rw [hr]
      simp -implicitDefEqProofs [go_sem]
      exact Sh.forget (by simp [go_sem]) rfl rfl
    simp -implicitDefEqProofs [go_sem]
    refine CC.mono (reftime_cc _ _ _) ?_
    rintro _ _ _ ⟨rfl, rfl, rfl⟩
    rcases b1 : timeB m.dst with - | -
    · have hr : rngM m = false := by simp [rngM, b0, b1]
      rw [hr]
      simp -implicitDefEqProofs [go_sem]
      exact Sh.forget (by simp [go_sem]) rfl rfl
    by_cases c0 : 0 ≤ m.number
    case neg =>
      have hr : rngM m = false := by simp [rngM, numB_eq, b0, b1, c0]
      rw [hr]
      simp -implicitDefEqProofs [go_sem, c0]
      exact Sh.forget (by simp [go_sem]) rfl rfl
    by_cases e0 : m.number ≤ 9007199254740991
    case neg =>
      have hr : rngM m = false := by simp [rngM, numB_eq, b0, b1, c0, e0]
      rw [hr]
      simp -implicitDefEqProofs [go_sem, c0, e0]
      exact Sh.forget (by simp [go_sem]) rfl rfl
    by_cases c1 : 0 ≤ m.value
    case neg =>
      have hr : rngM m = false := by simp [rngM, numB_eq, b0, b1, c0, e0, c1]
      rw [hr]
      simp -implicitDefEqProofs [go_sem, c0, e0, c1]
      exact Sh.forget (by simp [go_sem]) rfl rfl
    by_cases e1 : m.value ≤ 9007199254740991
    case neg =>
      have hr : rngM m = false := by simp [rngM, numB_eq, b0, b1, c0, e0, c1, e1]
      rw [hr]
      simp -implicitDefEqProofs [go_sem, c0, e0, c1, e1]
      exact Sh.forget (by simp [go_sem]) rfl rfl
    by_cases c2 : 0 ≤ m.epoch
    case neg =>
      have hr : rngM m = false := by simp [rngM, numB_eq, b0, b1, c0, e0, c1, e1, c2]
      rw [hr]
      simp -implicitDefEqProofs [go_sem, c0, e0, c1, e1, c2]
      exact Sh.forget (by simp [go_sem]) rfl rfl
    by_cases e2 : m.epoch ≤ 9007199254740991
    case neg =>
      have hr : rngM m = false := by simp [rngM, numB_eq, b0, b1, c0, e0, c1, e1, c2, e2]
      rw [hr]
      simp -implicitDefEqProofs [go_sem, c0, e0, c1, e1, c2, e2]
      exact Sh.forget (by simp [go_sem]) rfl rfl
    have hr : rngM m = true := by simp [rngM, numB_eq, b0, b1, c0, e0, c1, e1, c2, e2]
    rw [hr]
    simp -implicitDefEqProofs [go_sem, c0, e0, c1, e1, c2, e2]
    exact Sh.forget (by simp [go_sem]) rfl rfl
  rintro _ -
  dsimp only
  refine SWp.join (α := Unit) (fun _ => ([(3, cb (rngM m && valsB m.values)), (1, .ptr H.length 0), (2, er 0)], H ++ [some (msC m)], V)) (fun _ => True) ?_ ?_
  · refine SWp.seq (Wp.s ?_)
    simp -implicitDefEqProofs [go_sem]
    refine SWp.block ?_
    refine SWp.loop (α := Nat) (fun x => ([(4, ci x), (3, cb (rngM m && valsB (m.values.take x))), (1, .ptr H.length 0), (2, er 0)], H ++ [some (msC m)], V)) (fun x => x ≤ m.values.length) (fun x => m.values.length - x) 0 (Nat.zero_le _) (Sh.forget (by simp [go_sem, valsB]) rfl rfl) ?_
    intro i hi
    dsimp only
    refine Wp.s ?_
    have hw := wrap_succ (show i ≤ 1000000000 by omega)
    by_cases h : i < m.values.length
    · have hs : (rngM m && valsB (m.values.take (i + 1))) = ((rngM m && valsB (m.values.take i)) && numB m.values[i]) := by
        rw [List.take_succ_eq_append_getElem h]
        unfold valsB
        rw [List.all_append, List.all_cons, List.all_nil, Bool.and_true, Bool.and_assoc]
      generalize hx : m.values[i] = n at hs
      rcases hb : (rngM m && valsB (m.values.take i)) with - | -
      · rw [hb, Bool.false_and] at hs
        simp -implicitDefEqProofs [go_sem, h]
        refine ⟨i + 1, by omega, by omega, ?_⟩
        rw [hs]
        exact Sh.forget (by simp [go_sem, hw]) rfl rfl
      · rw [hb, Bool.true_and, numB_eq] at hs
        by_cases n1 : 0 ≤ n
        · by_cases n2 : n ≤ 9007199254740991
          · simp -implicitDefEqProofs [go_sem, h, hx, n1, n2]
            refine ⟨i + 1, by omega, by omega, ?_⟩
            rw [hs]
            exact Sh.forget (by simp [go_sem, hw, n1, n2]) rfl rfl
          · simp -implicitDefEqProofs [go_sem, h, hx, n1, n2]
            refine ⟨i + 1, by omega, by omega, ?_⟩
            rw [hs]
            exact Sh.forget (by simp [go_sem, hw, n1, n2]) rfl rfl
        · simp -implicitDefEqProofs [go_sem, h, hx, n1]
          refine ⟨i + 1, by omega, by omega, ?_⟩
          rw [hs]
          exact Sh.forget (by simp [go_sem, hw, n1]) rfl rfl
    · have e := List.take_of_length_le (show m.values.length ≤ i by omega)
      rw [e]
      simp -implicitDefEqProofs [go_sem, h]
      exact Sh.forget (by simp [go_sem]) rfl rfl
  rintro _ -
  dsimp only
  refine Wp.s ?_
  rcases c1 : (rngM m && valsB m.values) with - | -
  · simp -implicitDefEqProofs [go_sem]
    exact Fin.er (a := 2) (by simp [checkM, a1, a2, c1]) hokH (by simp) (by simp)
  by_cases d1 : 4096 < m.values.length
  · simp -implicitDefEqProofs [go_sem, show (4096 : Int) < m.values.length by omega]
    exact Fin.er (a := 6) (by simp [checkM, a1, a2, c1, d1]) hokH (by simp) (by simp)
  · simp -implicitDefEqProofs [go_sem, show ¬ (4096 : Int) < m.values.length by omega]
    exact Fin.er (a := 0) (by simp [checkM, a1, a2, c1, d1]) hokH (by simp) (by simp)
end Go.Proofs.Ythakkopnoeinmaa
namespace Go.Proofs.Ythakkopnoeinmaa
open Go.Proofs
def numsP (p : Pk) : List Int := [p.kind, p.session, p.sequence, p.ack, p.credit]
def bodyP (p : Pk) : List UInt8 := (numsP p).flatMap enc ++ encExts p.sel ++ encBytes p.payload
def encP (p : Pk) : List UInt8 := sealed (bodyP p)
def numsM (m : Ms) : List Int := [m.kind, m.src, m.dst, m.number, m.value, m.epoch]
def bodyM (m : Ms) : List UInt8 := (numsM m).flatMap enc ++ encInts m.values ++ encBytes m.body
def encM (m : Ms) : List UInt8 := sealed (bodyM m)
/-- What an encoder returns. -/
def encV (e : Nat) (l : List UInt8) : CV := if e = 0 then .tup [.sl .sh 1 (bs l), er 0] else .tup [.v (.slice none 0 0), er e]
theorem encV_0 (l : List UInt8) : encV 0 l = .tup [.sl .sh 1 (bs l), er 0] := rfl
theorem encV_ne {e : Nat} (h : ¬ e = 0) (l : List UInt8) : encV e l = .tup [.v (.slice none 0 0), er e] := if_neg h
theorem nums_len (l : List Int) : (l.flatMap enc).length ≤ 8 * l.length := flat_len enc_len l
theorem encBytes_le2 (b : List UInt8) : (encBytes b).length ≤ 8 + b.length := by
  rw [encBytes, List.length_append]
  have := enc_len b.length
  omega
theorem okH_app {H : Hp} {V : List Nat} {α : Type} {f : α → List CV} {a : α} (hf : ∀ i j a, okL i j (f a) = True) (hokH : ∀ (b : Nat) cs, H[b]? = some (some cs) → okL H.length V.length cs) (b : Nat) (cs : List CV) (h : (H ++ [some (f a)])[b]? = some (some cs)) : okL (H.length + 1) V.length cs := by
  by_cases hb : b < H.length
  · rw [List.getElem?_append_left hb] at h
    exact okL_mono (Nat.le_succ _) (Nat.le_refl _) (hokH b cs h)
  · rw [List.getElem?_append_right (by omega)] at h
    have : b - H.length = 0 := by
      have := (List.getElem?_eq_some_iff.1 h).1
      simp at this; omega
    rw [this] at h
    simp at h
    subst h
    rw [hf]; trivial
theorem LeS {tk : Tk} {sz : Nat} {xs ys : List UInt8} (h : xs = ys) : Le (.sl tk sz (bs xs)) (.sl .sh sz (bs ys)) := by subst h; exact .sh ..
theorem Encode_cc (H : Hp) (V : List Nat) (p : Pk) (hl : p.sel.length ≤ 1000000) : CC Try.prog 18 [.agg (pkC p)] H V (Pu (encV (checkP p) (encP p)) H V) := by
  refine CC.of_swp Try.func18 rfl (by kernel_rfl) (by rw [Try.ntmps18]; exact len_le _ _ rfl) fun hok hokH => ?_
  clear hok
  refine SWp.seq (Wp.s ?_)
  simp -implicitDefEqProofs [go_sem, args0]
  refine SWp.join (α := Unit) (fun _ => ([(1, .ptr H.length 0)], H ++ [some (pkC p)], V)) (fun _ => checkP p = 0) ?_ ?_
  · refine Wp.s ?_
    simp -implicitDefEqProofs [go_sem]
    refine CC.mono (Check_cc _ _ p (by omega)) ?_
    rintro _ _ _ ⟨rfl, rfl, rfl⟩
    by_cases h : checkP p = 0
    · simp -implicitDefEqProofs [go_sem, h]
      exact Sh.forget (by simp [go_sem]) rfl rfl
    · simp -implicitDefEqProofs [go_sem, h]
      rw [encV_ne h]
      exact Fin.pu (.refl _) (by simp [go_sem]) hokH (by simp) (by simp)
  rintro _ h
  rw [h, encV_0]
  have hpl : p.payload.length ≤ 4096 := by
    unfold checkP at h
    split at h
    · cases h
    · split at h
      · cases h
      · split at h
        · cases h
        · split at h
          · cases h
          · omega
  have hel := encExts_len p.sel
  have hnl := nums_len (numsP p)
  have hn5 : (numsP p).length = 5 := rfl
  have hbl := encBytes_le2 p.payload
  dsimp only
  refine SWp.seq (Wp.s ?_)
  simp -implicitDefEqProofs [go_sem]
  refine SWp.join (α := Unit) (fun _ => ([(5, .sl .sh 1 (bs ((numsP p).flatMap enc))), (1, .ptr H.length 0)], H ++ [some (pkC p)], V)) (fun _ => True) ?_ ?_
  · refine SWp.seq (Wp.s ?_)
    simp -implicitDefEqProofs [go_sem]
    have e : [[CV.v (.int .i64 p.kind)], [CV.v (.int .i64 p.session)], [CV.v (.int .i64 p.sequence)], [CV.v (.int .i64 p.ack)], [CV.v (.int .i64 p.credit)]] = (numsP p).map ic := rfl
    rw [e]
    refine SWp.block ?_
    refine SWp.loop (α := Nat) (fun i => ([(25, ci i), (24, ci 5), (23, .sl .ti 1 ((numsP p).map ic)), (5, .sl .sh 1 (bs (((numsP p).take i).flatMap enc))), (1, .ptr H.length 0)], H ++ [some (pkC p)], V)) (fun i => i ≤ 5) (fun i => 5 - i) 0 (Nat.zero_le _) (Sh.forget (by simp [go_sem]; exact .nil 1 (by decide)) rfl rfl) ?_
    intro i hi
    dsimp only
    refine Wp.s ?_
    by_cases hi5 : i < 5
    · have hin : i < (numsP p).length := by rw [hn5]; exact hi5
      have hil := nums_len ((numsP p).take i)
      rw [List.length_take] at hil
      simp -implicitDefEqProofs [go_sem, show (i : Int) < 5 by omega, hin]
      refine CC.mono (PutInt_cc _ _ _ _ _ (by omega)) ?_
      rintro _ _ _ ⟨v, rfl, rfl, rfl⟩
      simp -implicitDefEqProofs [go_sem]
      refine ⟨i + 1, by omega, by omega, Sh.cut (H.length + 1) V.length ?_ (Nat.le_succ _) (Nat.le_refl _) (by simp [go_sem, okV_slt]) (okH_app okL_pkC hokH) (List.take_of_length_le (by simp)) (by simp)⟩
      simp [go_sem, wrap_succ (show i ≤ 1000000000 by omega), flat_take hin]
    · simp -implicitDefEqProofs [go_sem, show ¬ (i : Int) < 5 by omega]
      rw [show i = 5 by omega, show (numsP p).take 5 = numsP p from rfl]
      exact Sh.forget (by simp [go_sem]) rfl rfl
  rintro _ -
  dsimp only
  refine SWp.seq (SWp.drawnL [0, 1, 2, 4, 5, 3, 6, 7, 8, 9] (by kernel_rfl) (by kernel_rfl) rfl ?_)
  simp -implicitDefEqProofs [go_sem]
  refine CC.mono (PutExtents_cc _ _ _ _ _ _ (by omega) (by omega)) ?_
  rintro _ _ _ ⟨v1, rfl, rfl, rfl⟩
  simp -implicitDefEqProofs [go_sem]
  refine CC.mono (PutBytes_cc _ _ _ _ _ _ (by simp only [List.length_append]; omega)) ?_
  rintro _ _ _ ⟨v2, rfl, rfl, rfl⟩
  simp -implicitDefEqProofs [go_sem]
  refine CC.mono (seal_cc _ _ _ v2 _ (by simp) (by simp only [List.length_append]; omega)) ?_
  rintro _ _ _ ⟨v3, rfl, rfl, rfl⟩
  simp -implicitDefEqProofs [go_sem]
  refine Wp.s ?_
  simp -implicitDefEqProofs [go_sem]
  exact Fin.pu (.tup (.cons (LeS (by simp [encP, bodyP])) (.cons (.refl _) .nil))) (by simp [go_sem]) hokH (by simp) (by simp)
theorem hpl_of {p : Pk} (h : checkP p = 0) : p.payload.length ≤ 4096 := by
  unfold checkP at h
  split at h
  · cases h
  · split at h
    · cases h
    · split at h
      · cases h
      · split at h
        · cases h
        · omega
theorem refEncode_cc (H : Hp) (V : List Nat) (p : Pk) (hl : p.sel.length ≤ 1000000) : CC Try.prog 19 [.agg (pkC p)] H V (Pu (encV (checkP p) (encP p)) H V) := by
  refine CC.of_swp Try.func19 rfl (by kernel_rfl) (by rw [Try.ntmps19]; exact len_le _ _ rfl) fun hok hokH => ?_
  clear hok
  refine SWp.seq (Wp.s ?_)
  simp -implicitDefEqProofs [go_sem, args0]
  refine SWp.join (α := Unit) (fun _ => ([(1, .ptr H.length 0)], H ++ [some (pkC p)], V)) (fun _ => checkP p = 0) ?_ ?_
  · refine Wp.s ?_
    simp -implicitDefEqProofs [go_sem]
    refine CC.mono (refCheck_cc _ _ p (by omega)) ?_
    rintro _ _ _ ⟨rfl, rfl, rfl⟩
    by_cases h : checkP p = 0
    · simp -implicitDefEqProofs [go_sem, h]
      exact Sh.forget (by simp [go_sem]) rfl rfl
    · simp -implicitDefEqProofs [go_sem, h]
      rw [encV_ne h]
      exact Fin.pu (.refl _) (by simp [go_sem]) hokH (by simp) (by simp)
  rintro _ h
  rw [h, encV_0]
  have hpl := hpl_of h
  have hel := encExts_len p.sel
  have h1 := enc_len p.kind
  have h2 := enc_len p.session
  have h3 := enc_len p.sequence
  have h4 := enc_len p.ack
  have h5 := enc_len p.credit
  have hbl := encBytes_le2 p.payload
  dsimp only
  refine SWp.seq (Wp.s ?_)
  simp -implicitDefEqProofs [go_sem]
  refine CC.mono (CC.nil0 (by decide) (refPutInt_cc _ _ .sh [] _ (by decide))) ?_
  rintro _ _ _ ⟨v0, rfl, rfl, rfl⟩
  simp -implicitDefEqProofs [go_sem]
  refine SWp.seq (Wp.s ?_)
  simp -implicitDefEqProofs [go_sem]
  refine CC.mono ((refPutInt_cc _ _ _ _ _ (by first | omega | (simp only [List.length_append]; omega)))) ?_
  rintro _ _ _ ⟨v1, rfl, rfl, rfl⟩
  simp -implicitDefEqProofs [go_sem]
  refine SWp.seq (Wp.s ?_)
  simp -implicitDefEqProofs [go_sem]
  refine CC.mono ((refPutInt_cc _ _ _ _ _ (by first | omega | (simp only [List.length_append]; omega)))) ?_
  rintro _ _ _ ⟨v2, rfl, rfl, rfl⟩
  simp -implicitDefEqProofs [go_sem]
  refine SWp.seq (Wp.s ?_)
  simp -implicitDefEqProofs [go_sem]
  refine CC.mono ((refPutInt_cc _ _ _ _ _ (by first | omega | (simp only [List.length_append]; omega)))) ?_
  rintro _ _ _ ⟨v3, rfl, rfl, rfl⟩
  simp -implicitDefEqProofs [go_sem]
  refine SWp.seq (Wp.s ?_)
  simp -implicitDefEqProofs [go_sem]
  refine CC.mono ((refPutInt_cc _ _ _ _ _ (by first | omega | (simp only [List.length_append]; omega)))) ?_
  rintro _ _ _ ⟨v4, rfl, rfl, rfl⟩
  simp -implicitDefEqProofs [go_sem]
  refine SWp.seq (Wp.s ?_)
  simp -implicitDefEqProofs [go_sem]
  refine CC.mono (refPutExtents_cc _ _ _ _ _ _ (by omega) (by simp only [List.length_append]; omega)) ?_
  rintro _ _ _ ⟨rfl, rfl, rfl⟩
  simp -implicitDefEqProofs [go_sem]
  refine SWp.seq (Wp.s ?_)
  simp -implicitDefEqProofs [go_sem]
  refine CC.mono (refPutBytes_cc _ _ _ _ _ _ (by simp only [List.length_append]; omega)) ?_
  rintro _ _ _ ⟨v6, rfl, rfl, rfl⟩
  simp -implicitDefEqProofs [go_sem]
  refine CC.mono (Sealed_cc _ _ _ _ (by simp only [List.length_append]; omega)) ?_
  rintro _ _ _ ⟨v7, rfl, rfl, rfl⟩
  simp -implicitDefEqProofs [go_sem]
  refine Wp.s ?_
  simp -implicitDefEqProofs [go_sem]
  exact Fin.pu (.tup (.cons (LeS (by simp [encP, bodyP, numsP])) (.cons (.refl _) .nil))) (by simp [go_sem]) hokH (by simp) (by simp)
/-- The error of a message's encoder. -/
def errM (m : Ms) : Nat := if checkM m = 0 then (if 65536 < (encM m).length then 5 else 0) else checkM m
theorem hvl_of {m : Ms} (h : checkM m = 0) : m.values.length ≤ 4096 := by
  unfold checkM at h
  split at h
  · cases h
  · split at h
    · cases h
    · split at h
      · cases h
      · omega
theorem sealed_len (l : List UInt8) : (sealed l).length = l.length + 4 := by rw [sealed, List.length_append, crc4_len]
theorem encInts_le3 (l : List Int) : (encInts l).length ≤ 8 + 8 * l.length := by
  rw [encInts, List.length_append]
  have := enc_len l.length
  have := nums_len l
  omega
theorem EncodeMessage_cc (H : Hp) (V : List Nat) (p : Ms) (hl : p.values.length ≤ 900000000) (hb : p.body.length ≤ 1000000) : CC Try.prog 29 [.agg (msC p)] H V (Pu (encV (errM p) (encM p)) H V) := by
  refine CC.of_swp Try.func29 rfl (by kernel_rfl) (by rw [Try.ntmps29]; exact len_le _ _ rfl) fun hok hokH => ?_
  clear hok
  refine SWp.seq (Wp.s ?_)
  simp -implicitDefEqProofs [go_sem, args0]
  refine SWp.join (α := Unit) (fun _ => ([(1, .ptr H.length 0)], H ++ [some (msC p)], V)) (fun _ => checkM p = 0) ?_ ?_
  · refine Wp.s ?_
    simp -implicitDefEqProofs [go_sem]
    refine CC.mono (checkMessage_cc _ _ p (by omega)) ?_
    rintro _ _ _ ⟨rfl, rfl, rfl⟩
    by_cases h : checkM p = 0
    · simp -implicitDefEqProofs [go_sem, h]
      exact Sh.forget (by simp [go_sem]) rfl rfl
    · simp -implicitDefEqProofs [go_sem, h]
      rw [errM, if_neg h, encV_ne h]
      exact Fin.pu (.refl _) (by simp [go_sem]) hokH (by simp) (by simp)
  rintro _ h
  have hpl := hvl_of h
  have hel := encInts_le3 p.values
  have hnl := nums_len (numsM p)
  have hn5 : (numsM p).length = 6 := rfl
  have hbl := encBytes_le2 p.body
  dsimp only
  refine SWp.seq (Wp.s ?_)
  simp -implicitDefEqProofs [go_sem]
  refine SWp.join (α := Unit) (fun _ => ([(5, .sl .sh 1 (bs ((numsM p).flatMap enc))), (1, .ptr H.length 0)], H ++ [some (msC p)], V)) (fun _ => True) ?_ ?_
  · refine SWp.seq (Wp.s ?_)
    simp -implicitDefEqProofs [go_sem]
    have e : [[CV.v (.int .i64 p.kind)], [CV.v (.int .i64 p.src)], [CV.v (.int .i64 p.dst)], [CV.v (.int .i64 p.number)], [CV.v (.int .i64 p.value)], [CV.v (.int .i64 p.epoch)]] = (numsM p).map ic := rfl
    rw [e]
    refine SWp.block ?_
    refine SWp.loop (α := Nat) (fun i => ([(27, ci i), (26, ci 6), (25, .sl .ti 1 ((numsM p).map ic)), (5, .sl .sh 1 (bs (((numsM p).take i).flatMap enc))), (1, .ptr H.length 0)], H ++ [some (msC p)], V)) (fun i => i ≤ 6) (fun i => 6 - i) 0 (Nat.zero_le _) (Sh.forget (by simp [go_sem]; exact .nil 1 (by decide)) rfl rfl) ?_
    intro i hi
    dsimp only
    refine Wp.s ?_
    by_cases hi5 : i < 6
    · have hin : i < (numsM p).length := by rw [hn5]; exact hi5
      have hil := nums_len ((numsM p).take i)
      rw [List.length_take] at hil
      simp -implicitDefEqProofs [go_sem, show (i : Int) < 6 by omega, hin]
      refine CC.mono (PutInt_cc _ _ _ _ _ (by omega)) ?_
      rintro _ _ _ ⟨v, rfl, rfl, rfl⟩
      simp -implicitDefEqProofs [go_sem]
      refine ⟨i + 1, by omega, by omega, Sh.cut (H.length + 1) V.length ?_ (Nat.le_succ _) (Nat.le_refl _) (by simp [go_sem, okV_slt]) (okH_app okL_msC hokH) (List.take_of_length_le (by simp)) (by simp)⟩
      simp [go_sem, wrap_succ (show i ≤ 1000000000 by omega), flat_take hin]
    · simp -implicitDefEqProofs [go_sem, show ¬ (i : Int) < 6 by omega]
      rw [show i = 6 by omega, show (numsM p).take 6 = numsM p from rfl]
      exact Sh.forget (by simp [go_sem]) rfl rfl
  rintro _ -
  dsimp only
  refine SWp.seq (SWp.drawnL [0, 1, 2, 4, 5, 3, 6, 7, 8] (by kernel_rfl) (by kernel_rfl) rfl ?_)
  simp -implicitDefEqProofs [go_sem]
  refine CC.mono (PutInts_cc _ _ _ _ _ _ (by omega)) ?_
  rintro _ _ _ ⟨v1, rfl, rfl, rfl⟩
  simp -implicitDefEqProofs [go_sem]
  refine CC.mono (PutBytes_cc _ _ _ _ _ _ (by simp only [List.length_append]; omega)) ?_
  rintro _ _ _ ⟨v2, rfl, rfl, rfl⟩
  simp -implicitDefEqProofs [go_sem]
  refine CC.mono (seal_cc _ _ _ v2 _ (by simp) (by simp only [List.length_append]; omega)) ?_
  rintro _ _ _ ⟨v3, rfl, rfl, rfl⟩
  have e2 : sealed ((numsM p).flatMap enc ++ encInts p.values ++ encBytes p.body) = encM p := rfl
  simp -implicitDefEqProofs only [← List.append_assoc]
  rw [e2]
  simp -implicitDefEqProofs [go_sem]
  refine Wp.s ?_
  by_cases hL : 65536 < (encM p).length
  · simp -implicitDefEqProofs [go_sem, show (65536 : Int) < (encM p).length by omega]
    rw [errM, if_pos h, if_pos hL, encV_ne (by decide)]
    exact Fin.pu (.refl _) (by simp [go_sem]) hokH (by simp) (by simp)
  · simp -implicitDefEqProofs [go_sem, show ¬ (65536 : Int) < (encM p).length by omega]
    rw [errM, if_pos h, if_neg hL, encV_0]
    exact Fin.pu (.tup (.cons (.sh ..) (.cons (.refl _) .nil))) (by simp [go_sem]) hokH (by simp) (by simp)
theorem refEncodeMessage_cc (H : Hp) (V : List Nat) (p : Ms) (hl : p.values.length ≤ 900000000) (hb : p.body.length ≤ 1000000) : CC Try.prog 30 [.agg (msC p)] H V (Pu (encV (errM p) (encM p)) H V) := by
  refine CC.of_swp Try.func30 rfl (by kernel_rfl) (by rw [Try.ntmps30]; exact len_le _ _ rfl) fun hok hokH => ?_
  clear hok
  refine SWp.seq (Wp.s ?_)
  simp -implicitDefEqProofs [go_sem, args0]
  refine SWp.join (α := Unit) (fun _ => ([(1, .ptr H.length 0)], H ++ [some (msC p)], V)) (fun _ => checkM p = 0) ?_ ?_
  · refine Wp.s ?_
    simp -implicitDefEqProofs [go_sem]
    refine CC.mono (refCheckMessage_cc _ _ p (by omega)) ?_
    rintro _ _ _ ⟨rfl, rfl, rfl⟩
    by_cases h : checkM p = 0
    · simp -implicitDefEqProofs [go_sem, h]
      exact Sh.forget (by simp [go_sem]) rfl rfl
    · simp -implicitDefEqProofs [go_sem, h]
      rw [errM, if_neg h, encV_ne h]
      exact Fin.pu (.refl _) (by simp [go_sem]) hokH (by simp) (by simp)
  rintro _ h
  have hpl := hvl_of h
  have hel := encInts_le3 p.values
  have h1 := enc_len p.kind
  have h2 := enc_len p.src
  have h3 := enc_len p.dst
  have h4 := enc_len p.number
  have h5 := enc_len p.value
  have h6 := enc_len p.epoch
  have hbl := encBytes_le2 p.body
  dsimp only
  refine SWp.seq (Wp.s ?_)
  simp -implicitDefEqProofs [go_sem]
  refine CC.mono (CC.nil0 (by decide) (refPutInt_cc _ _ .sh [] _ (by decide))) ?_
  rintro _ _ _ ⟨v0, rfl, rfl, rfl⟩
  simp -implicitDefEqProofs [go_sem]
  refine SWp.seq (Wp.s ?_)
  simp -implicitDefEqProofs [go_sem]
  refine CC.mono ((refPutInt_cc _ _ _ _ _ (by first | omega | (simp only [List.length_append]; omega)))) ?_
  rintro _ _ _ ⟨v1, rfl, rfl, rfl⟩
  simp -implicitDefEqProofs [go_sem]
  refine SWp.seq (Wp.s ?_)
  simp -implicitDefEqProofs [go_sem]
  refine CC.mono ((refPutInt_cc _ _ _ _ _ (by first | omega | (simp only [List.length_append]; omega)))) ?_
  rintro _ _ _ ⟨v2, rfl, rfl, rfl⟩
  simp -implicitDefEqProofs [go_sem]
  refine SWp.seq (Wp.s ?_)
  simp -implicitDefEqProofs [go_sem]
  refine CC.mono ((refPutInt_cc _ _ _ _ _ (by first | omega | (simp only [List.length_append]; omega)))) ?_
  rintro _ _ _ ⟨v3, rfl, rfl, rfl⟩
  simp -implicitDefEqProofs [go_sem]
  refine SWp.seq (Wp.s ?_)
  simp -implicitDefEqProofs [go_sem]
  refine CC.mono ((refPutInt_cc _ _ _ _ _ (by first | omega | (simp only [List.length_append]; omega)))) ?_
  rintro _ _ _ ⟨v4, rfl, rfl, rfl⟩
  simp -implicitDefEqProofs [go_sem]
  refine SWp.seq (Wp.s ?_)
  simp -implicitDefEqProofs [go_sem]
  refine CC.mono ((refPutInt_cc _ _ _ _ _ (by first | omega | (simp only [List.length_append]; omega)))) ?_
  rintro _ _ _ ⟨v5, rfl, rfl, rfl⟩
  simp -implicitDefEqProofs [go_sem]
  refine SWp.seq (Wp.s ?_)
  simp -implicitDefEqProofs [go_sem]
  refine CC.mono (refPutInts_cc _ _ _ _ _ _ (by simp only [List.length_append]; omega)) ?_
  rintro _ _ _ ⟨rfl, rfl, rfl⟩
  simp -implicitDefEqProofs [go_sem]
  refine SWp.seq (Wp.s ?_)
  simp -implicitDefEqProofs [go_sem]
  refine CC.mono (refPutBytes_cc _ _ _ _ _ _ (by simp only [List.length_append]; omega)) ?_
  rintro _ _ _ ⟨v6, rfl, rfl, rfl⟩
  simp -implicitDefEqProofs [go_sem]
  refine CC.mono (Sealed_cc _ _ _ _ (by simp only [List.length_append]; omega)) ?_
  rintro _ _ _ ⟨v7, rfl, rfl, rfl⟩
  have e2 : sealed (enc p.kind ++ (enc p.src ++ (enc p.dst ++ (enc p.number ++ (enc p.value ++ (enc p.epoch ++ (encInts p.values ++ encBytes p.body))))))) = encM p := by simp [encM, bodyM, numsM]
  simp -implicitDefEqProofs only [List.append_assoc]
  rw [e2]
  simp -implicitDefEqProofs [go_sem]
  refine Wp.s ?_
  by_cases hL : 65536 < (encM p).length
  · simp -implicitDefEqProofs [go_sem, show (65536 : Int) < (encM p).length by omega]
    rw [errM, if_pos h, if_pos hL, encV_ne (by decide)]
    exact Fin.pu (.refl _) (by simp [go_sem]) hokH (by simp) (by simp)
  · simp -implicitDefEqProofs [go_sem, show ¬ (65536 : Int) < (encM p).length by omega]
    rw [errM, if_pos h, if_neg hL, encV_0]
    exact Fin.pu (.tup (.cons (.sh ..) (.cons (.refl _) .nil))) (by simp [go_sem]) hokH (by simp) (by simp)
end Go.Proofs.Ythakkopnoeinmaa
