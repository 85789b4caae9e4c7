import Derived.Test.YthakkopnoeinmaaA16
set_option linter.unusedSimpArgs false
set_option linter.unusedVariables false
namespace Go.Proofs.Ythakkopnoeinmaa
open Go.Proofs
section
variable {α : Type}
/-- The steps from i on, n of them. -/
def runF (stp : Nat → α → Except Nat α) : Nat → Nat → α → Except Nat α
  | _, 0, x => .ok x
  | i, n + 1, x => match stp i x with | .ok y => runF stp (i + 1) n y | .error k => .error k
def StK (Hs : α → Hp) (stp : Nat → α → Except Nat α) (i : Nat) (x : α) (V : List Nat) : CV → Hp → List Nat → Prop := fun _ H' V' => ∃ y, stp i x = .ok y ∧ H' = Hs y ∧ V' = V
def StE (Hs : α → Hp) (stp : Nat → α → Except Nat α) (i : Nat) (x : α) (V : List Nat) : List PanicEntry → Hp → List Nat → Prop := fun ch H' V' => ∃ k, stp i x = .error k ∧ ch = pan k ∧ H' = Hs x ∧ V' = V
def RdK (_good : α → Prop) (Hs : α → Hp) (stp : Nat → α → Except Nat α) (rest : α → List UInt8) (n : Nat) (x : α) (V : List Nat) : CV → Hp → List Nat → Prop := fun _ H' V' => ∃ y, runF stp 0 n x = .ok y ∧ rest y = [] ∧ H' = Hs y ∧ V = V'
def RdE (good : α → Prop) (Hs : α → Hp) (stp : Nat → α → Except Nat α) (rest : α → List UInt8) (n : Nat) (x : α) (V : List Nat) : List PanicEntry → Hp → List Nat → Prop := fun ch H' V' => ∃ k y, good y ∧ ch = pan k ∧ H' = Hs y ∧ V = V' ∧ (runF stp 0 n x = .error k ∨ (∃ z, runF stp 0 n x = .ok z ∧ rest z ≠ [] ∧ k = 3))
theorem read_cx (Hs : α → Hp) (rest : α → List UInt8) (good : α → Prop) (stp : Nat → α → Except Nat α) (R : Nat) (tkf : Tk) (fs : List CV) (V : List Nat)
    (hbox : ∀ x, (Hs x)[R]? = some (some [.sl .sh 1 (bs (rest x)), .sl tkf 1 (fs.map fun c => [c])]))
    (hgood : ∀ i x y, good x → stp i x = .ok y → good y) (hfn : ∀ i (h : i < fs.length) x, good x → hcallx Try.prog (Hs x) V (StK Hs stp i x V) (StE Hs stp i x V) fs[i] [])
    (hl : fs.length ≤ 1000) (x0 : α) (g0 : good x0) : CX Try.prog 51 [.ptr R 0] (Hs x0) V (RdK good Hs stp rest fs.length x0 V) (RdE good Hs stp rest fs.length x0 V) := by
  refine CX.of_swp Try.func51 rfl (by kernel_rfl) (by rw [Try.ntmps51]; exact len_le _ _ rfl) fun hok hokH => ?_
  clear hok
  have hb := fun (x : α) (K : List CV → Prop) => hbx_some (hbox x) K
  refine SWp.join (α := α) (fun x => ([(0, .ptr R 0)], Hs x, V)) (fun x => runF stp 0 fs.length x0 = .ok x ∧ good x) ?_ ?_
  · refine SWp.seq (Wp.s ?_)
    simp -implicitDefEqProofs [go_sem, args0, hb]
    refine SWp.block ?_
    refine SWp.loop (α := Nat × α) (fun x => ([(0, .ptr R 0), (7, .sl tkf 1 (fs.map fun c => [c])), (8, ci fs.length), (9, ci x.1)], Hs x.2, V)) (fun x => x.1 ≤ fs.length ∧ good x.2 ∧ runF stp 0 fs.length x0 = runF stp x.1 (fs.length - x.1) x.2) (fun x => fs.length - x.1) (0, x0) ⟨Nat.zero_le _, g0, rfl⟩ (Sh.forget (by simp [go_sem]) rfl rfl) ?_
    rintro ⟨i, x⟩ ⟨hi, hg, hr⟩
    dsimp only at hi hg hr ⊢
    refine SWp.seq (Wp.s ?_)
    simp -implicitDefEqProofs [go_sem]
    refine SWp.seq (Wp.s ?_)
    simp -implicitDefEqProofs [go_sem]
    refine ⟨fun h => ?_, fun h => ⟨x, ?_, Sh.forget (by simp [go_sem]) rfl rfl⟩⟩
    case refine_2 =>
      exact ⟨by rw [hr, show fs.length - i = 0 by omega, runF], hg⟩
    have hw := wrap_succ (show i ≤ 1000000000 by omega)
    rw [show fs.length - i = (fs.length - (i + 1)) + 1 by omega, runF] at hr
    refine SWp.seq (SWp.block ?_)
    refine SWp.seq (Wp.s ?_)
    simp -implicitDefEqProofs [go_sem, h]
    refine SWp.callx (pre := [_]) (post := []) ?_
    simp -implicitDefEqProofs [go_sem]
    have hf := hfn i h x hg
    generalize fs[i] = f at hf
    unfold hcallx at hf ⊢
    split at hf
    · refine hf.mono ?_ ?_
      · rintro r H' V' ⟨y, h1, rfl, rfl⟩
        rw [h1] at hr
        simp -implicitDefEqProofs [go_sem]
        refine Wp.s ?_
        simp -implicitDefEqProofs [go_sem, hw]
        exact ⟨i + 1, y, ⟨by omega, hgood i x y hg h1, hr⟩, by omega, Sh.forget (by simp [go_sem]) rfl rfl⟩
      · rintro ch H' V' ⟨k, h1, rfl, rfl, rfl⟩
        rw [h1] at hr
        exact ⟨k, x, hg, rfl, rfl, rfl, .inl hr⟩
    · exact hf.elim
  · rintro x ⟨hx, hg⟩
    dsimp only
    refine SWp.seq (Wp.s ?_)
    simp -implicitDefEqProofs [go_sem, hb]
    by_cases h0 : rest x = []
    · refine SWp.condF (by simp [go_sem, h0]) (Wp.s ?_)
      simp -implicitDefEqProofs [go_sem]
      exact Fin.self ⟨x, hx, h0, rfl, rfl⟩
    · have h1 : 0 < (rest x).length := List.length_pos_iff.2 h0
      refine SWp.condT (by simp [go_sem, h0, h1]) (SWp.callx (pre := []) (post := []) ?_)
      simp -implicitDefEqProofs [go_sem]
      exact cx_err 3 rfl rfl (fun h => by cases h) fun _ => ⟨3, x, hg, rfl, rfl, rfl, .inr ⟨x, hx, h0, rfl⟩⟩
end
end Go.Proofs.Ythakkopnoeinmaa
namespace Go.Proofs.Ythakkopnoeinmaa
open Go.Proofs
theorem ret45 : RetD Try.prog 45 2 := ⟨⟨_, Try.func45, rfl, by kernel_rfl⟩, fun us w hs => by
  obtain ⟨a, b, rfl⟩ : ∃ a b, us = #[a, b] := by
    rcases us with ⟨l⟩
    match l, hs with
    | [a, b], _ => exact ⟨a, b, rfl⟩
  refine callsD_of_wpS Try.func45 rfl fun c₀ cs hu => ?_
  apply wpS_seq
  apply wpS_region
  simp [wpOpsS, go_sem, recoverD, hu, Try.ntmps45, Exit.thenS]
  apply wpS_seq
  apply wpS_region
  simp [wpOpsS, go_sem, recoverD, hu, Try.ntmps45, Exit.thenS]
  refine wpS_cond (t := false) (by simp [Act.eval, Array.replicate]) ?_
  simp only [Bool.false_eq_true, if_false]
  refine wpS_of_wp (wp_skip ?_)
  cases c₀
  simp_all [bodyPostS, results, Try.results45]⟩
def pkZ : List CV := [ci 0, ci 0, ci 0, ci 0, ci 0, .v (.slice none 0 0), .v (.slice none 0 0)]
theorem catch45 (H : Hp) (V : List Nat) (a b k : Nat) (cs : List CV) (x : CV) (ha : H[a]? = some (some cs)) (hb : H[b]? = some (some [x])) (hab : a ≠ b) (hcs : cs.length = 7) : CD Try.prog 45 [.ptr a 0, .ptr b 0] (pan k) H V (fun H' V' => H' = (H.set a (some pkZ)).set b (some [er k]) ∧ V' = V) := by
  have hb' : ∀ y : List CV, (H.set a (some y))[b]? = some (some [x]) := fun y => by rw [List.getElem?_set_ne hab]; exact hb
  refine CD.of_swp Try.func45 rfl (by kernel_rfl) Try.results45 (by rw [Try.ntmps45]; exact len_le _ _ rfl) (by rw [Try.ntmps45]; decide) (by rw [Try.ntmps45]; decide) (by rw [Try.ntmps45]; decide) (by rw [Try.ntmps45]; decide) ?_ (Wp.s ?_)
  · intro w A h
    have h' : A.tmps[4]?.getD undef = .iface 102 (.int .i64 k) := by simpa [Act.eval] using h
    simp [go_sem, h']
  · simp -implicitDefEqProofs [go_sem, args0]
    refine CC.mono (caught_cc _ _ _) ?_
    rintro _ _ _ ⟨rfl, rfl, rfl⟩
    simp -implicitDefEqProofs [go_sem, hbx_some ha, hbx_some (hb' _), hcs, List.drop_eq_nil_of_le (show cs.length ≤ 7 by omega)]
    exact Fin.self ⟨rfl, rfl⟩
theorem ret57 : RetD Try.prog 57 2 := ⟨⟨_, Try.func57, rfl, by kernel_rfl⟩, fun us w hs => by
  obtain ⟨a, b, rfl⟩ : ∃ a b, us = #[a, b] := by
    rcases us with ⟨l⟩
    match l, hs with
    | [a, b], _ => exact ⟨a, b, rfl⟩
  refine callsD_of_wpS Try.func57 rfl fun c₀ cs hu => ?_
  apply wpS_seq
  apply wpS_region
  simp [wpOpsS, go_sem, recoverD, hu, Try.ntmps57, Exit.thenS]
  apply wpS_seq
  apply wpS_region
  simp [wpOpsS, go_sem, recoverD, hu, Try.ntmps57, Exit.thenS]
  refine wpS_cond (t := false) (by simp [Act.eval, Array.replicate]) ?_
  simp only [Bool.false_eq_true, if_false]
  refine wpS_of_wp (wp_skip ?_)
  cases c₀
  simp_all [bodyPostS, results, Try.results57]⟩
def msZ : List CV := [ci 0, ci 0, ci 0, ci 0, ci 0, ci 0, .v (.slice none 0 0), .v (.slice none 0 0)]
theorem catch57 (H : Hp) (V : List Nat) (a b k : Nat) (cs : List CV) (x : CV) (ha : H[a]? = some (some cs)) (hb : H[b]? = some (some [x])) (hab : a ≠ b) (hcs : cs.length = 8) : CD Try.prog 57 [.ptr a 0, .ptr b 0] (pan k) H V (fun H' V' => H' = (H.set a (some msZ)).set b (some [er k]) ∧ V' = V) := by
  have hb' : ∀ y : List CV, (H.set a (some y))[b]? = some (some [x]) := fun y => by rw [List.getElem?_set_ne hab]; exact hb
  refine CD.of_swp Try.func57 rfl (by kernel_rfl) Try.results57 (by rw [Try.ntmps57]; exact len_le _ _ rfl) (by rw [Try.ntmps57]; decide) (by rw [Try.ntmps57]; decide) (by rw [Try.ntmps57]; decide) (by rw [Try.ntmps57]; decide) ?_ (Wp.s ?_)
  · intro w A h
    have h' : A.tmps[4]?.getD undef = .iface 102 (.int .i64 k) := by simpa [Act.eval] using h
    simp [go_sem, h']
  · simp -implicitDefEqProofs [go_sem, args0]
    refine CC.mono (caught_cc _ _ _) ?_
    rintro _ _ _ ⟨rfl, rfl, rfl⟩
    simp -implicitDefEqProofs [go_sem, hbx_some ha, hbx_some (hb' _), hcs, List.drop_eq_nil_of_le (show cs.length ≤ 8 by omega)]
    exact Fin.self ⟨rfl, rfl⟩
end Go.Proofs.Ythakkopnoeinmaa
