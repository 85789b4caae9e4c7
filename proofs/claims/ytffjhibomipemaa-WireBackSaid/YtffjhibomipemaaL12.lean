/-
  A PROGRAM LOGIC, PART 12: functions.
-/
import Derived.Test.YtffjhibomipemaaL11
namespace Go.Proofs.Ytffjhibomipemaa

/-- The results, one behind the other. -/
def resK (P : Program) : List ResultVar → Tm → Hp → (List CV → Prop) → Prop
  | [], _, _, K => K []
  | .tmp t :: r, T, H, K => resK P r T H fun cs => K (tget T t :: cs)
  | .cell a ty :: r, T, H, K => ∃ g n, ldTy P ty = some (g, n) ∧
      match tget T a with
      | .ptr b o => ∃ cs, H[b]? = some (some cs) ∧ ld g n cs o fun c => resK P r T H fun ds => K (c :: ds)
      | _ => False

def one : List CV → CV
  | [c] => c
  | cs => .tup cs

/-- What is handed back: the result, and what is said of the boxes and the tokens. -/
def Fin (nb nv : Nat) (R : CV → Hp → List Nat → Prop) (r : CV) (H : Hp) (V : List Nat) : Prop :=
  ∃ r' H' V', Gst 1 nb nv [(0, r)] H V [(0, r')] H' V' ∧ R r' H' V'

def Rt (P : Program) (nb nv : Nat) (res : List ResultVar) (R : CV → Hp → List Nat → Prop) : Exit → Tm → Hp → List Nat → Prop
  | .ret, T, H, V => resK P res T H fun cs => Fin nb nv R (one cs) H V
  | .normal, T, H, V => resK P res T H fun cs => Fin nb nv R (one cs) H V
  | _, _, _, _ => False

/-- The arguments, in the first temporaries. -/
def args0 : Nat → List CV → Tm
  | _, [] => []
  | i, c :: cs => (i, c) :: args0 (i + 1) cs

section
variable {P : Program} {m : Gh} {w : World} {H : Hp} {V : List Nat}

theorem resK_run {T : Tm} {tmps : Array Value} (hi : Inv m w H V) (ht : RelT m w V T tmps) {q : ResultVar → Sem Value} (hq1 : ∀ t, (q (.tmp t)).run P w = .ok (tmps.getD t undef) w)
    (hq2 : ∀ a t k o u, tmps.getD a undef = .pointer (some ⟨k, o, none⟩) → (loadVar t ⟨k, o, none⟩).run P w = .ok u w → (q (.cell a t)).run P w = .ok u w) : ∀ (res : List ResultVar) {K : List CV → Prop}, resK P res T H K →
    ∃ cs us, (res.mapM q).run P w = .ok us w ∧ RelL m w V cs us ∧ K cs
  | [], K, h => ⟨[], [], by simp, by rw [RelL], h⟩
  | .tmp t :: r, K, h => by
    rw [resK] at h
    obtain ⟨cs, us, h1, h2, h3⟩ := resK_run hi ht hq1 hq2 r h
    refine ⟨_, tmps.getD t undef :: us, ?_, ?_, h3⟩
    · rw [List.mapM_cons]
      simp only [Sem.run_bind, Sem.run_pure, Result.andThen_ok, hq1, h1]
    · rw [RelL]; exact ⟨_, us, rfl, ht t, h2⟩
  | .cell a ty :: r, K, h => by
    rw [resK] at h
    obtain ⟨g, n, hty, h⟩ := h
    have hx := ht a
    split at h
    · rename_i b o he
      obtain ⟨cs0, hb, h⟩ := h
      rw [he, RelV] at hx
      obtain ⟨k, hk, hu⟩ := hx
      obtain ⟨k', c, e, g1, g2, g3, g4, g5⟩ := hi.alive b cs0 hb
      rw [hk] at g1; cases g1
      obtain ⟨c', u, r1, r2, r3⟩ := ld_run (P := P) hty g5 h
      rw [Nat.zero_add] at r1
      obtain ⟨cs, us, h1, h2, h3⟩ := resK_run hi ht hq1 hq2 r r3
      refine ⟨_, u :: us, ?_, ?_, h3⟩
      · rw [List.mapM_cons]
        simp only [Sem.run_bind, hq2 a ty k o u hu r1, Sem.run_pure, Result.andThen_ok, h1]
      · rw [RelL]; exact ⟨_, us, rfl, r2, h2⟩
    · exact h.elim

theorem results_run {fn : Func} {T : Tm} {tmps : Array Value} (hi : Inv m w H V) (ht : RelT m w V T tmps) {K : List CV → Prop} (h : resK P fn.results.toList T H K) :
    ∃ cs u, (results fn tmps).run P w = .ok u w ∧ RelV m w V (one cs) u ∧ K cs := by
  have main : ∃ cs us, (fn.results.mapM (m := Sem) fun | .tmp t => pure (tmps.getD t undef) | .cell a t => do loadVar t (← asAddr (tmps.getD a undef))).run P w = .ok (List.toArray us) w ∧ RelL m w V cs us ∧ K cs := by
    obtain ⟨cs, us, h1, h2, h3⟩ := resK_run (q := fun | .tmp t => pure (tmps.getD t undef) | .cell a t => do loadVar t (← asAddr (tmps.getD a undef))) hi ht (fun _ => rfl) (fun a t k o u hu hr => by simp only [Sem.run_bind, hu, asAddr, Sem.run_pure, Result.andThen_ok, hr]) _ h
    exact ⟨cs, us, by rw [Array.mapM_eq_mapM_toList, Sem.run_map, h1]; rfl, h2, h3⟩
  obtain ⟨cs, us, hrun, h2, h3⟩ := main
  have hl := relL_length h2
  refine ⟨cs, if h : us.toArray.size = 1 then us.toArray[0] else .tuple us.toArray, ?_, ?_, h3⟩
  · unfold results
    rw [Sem.run_bind]
    exact congrArg (fun r => Result.andThen r _) hrun
  · match cs, us, h2 with
    | [c], us, h2 =>
      rw [RelL] at h2
      obtain ⟨u, r, rfl, q1, q2⟩ := h2
      rw [RelL] at q2; subst q2
      simpa [one] using q1
    | [], us, h2 =>
      rw [RelL] at h2; subst h2
      simp only [one]
      rw [RelV]
      exact ⟨[], by simp, by rw [RelL]⟩
    | c :: d :: cs, us, h2 =>
      have hl := relL_length h2
      simp only [one]
      rw [RelV]
      refine ⟨us, ?_, h2⟩
      rw [dif_neg (by simp [hl])]

theorem args0_get : ∀ (cs : List CV) (i n : Nat), tget (args0 i cs) n = if i ≤ n then (cs[n - i]?).getD .any else .any
  | [], i, n => by simp [args0, tget]
  | c :: cs, i, n => by
    simp only [args0, tget]
    by_cases h : n = i
    · subst h; simp
    · rw [if_neg h, args0_get cs (i + 1) n]
      by_cases h2 : i ≤ n
      · rw [if_pos h2, if_pos (by omega), show n - i = (n - (i + 1)) + 1 from by omega]; simp
      · rw [if_neg h2, if_neg (by omega)]

/-- A FUNCTION's CONTRACT, from its code. -/
theorem CC.of_swp {f : FuncId} {fn : Func} {c : Code} {args : List CV} {R : CV → Hp → List Nat → Prop} (hf : P.funcs[f]? = some fn) (hb : fn.body = some c) (hn : (fn.name == "runtime.NumGoroutine") = false) (ha : args.length ≤ fn.ntmps)
    (h : okL H.length V.length args → (∀ (b : Nat) cs, H[b]? = some (some cs) → okL H.length V.length cs) → SWp P fn.ntmps H.length V.length c (Rt P H.length V.length fn.results.toList R) (args0 0 args) H V) : CC P f args H V R := by
  refine ⟨⟨fn, hf, by rw [hb]; rfl, hn⟩, fun m w us hi hu => ?_⟩
  have hl := relL_length hu
  have hok : okL H.length V.length args := by rw [← hi.boxlen]; exact RelL.ok args us hu
  have hokH : ∀ (b : Nat) cs, H[b]? = some (some cs) → okL H.length V.length cs := fun b cs hbc => by
    obtain ⟨k, c, e, _, _, _, _, h5⟩ := hi.alive b cs hbc
    rw [← hi.boxlen]; exact RelC.ok k cs 0 h5
  refine calls_of_wp hf hb ?_
  have hst : St fn.ntmps m w { tmps := us.toArray ++ Array.replicate (fn.ntmps - us.toArray.size) undef, defers := [] } (args0 0 args) H V := by
    refine ⟨hi, fun k => ?_, by simp [hl]; omega, rfl⟩
    rw [args0_get]
    simp only [Nat.zero_le, if_true, Nat.sub_zero]
    cases hk : args[k]? with
    | none => rw [Option.getD_none, RelV]; trivial
    | some c =>
      obtain ⟨u, h1, h2⟩ := relL_get hu k c hk
      have : (us.toArray ++ Array.replicate (fn.ntmps - us.toArray.size) undef).getD k undef = u := by
        have hlt := (List.getElem?_eq_some_iff.1 h1).1
        simp only [Array.getD_eq_getD_getElem?]
        rw [Array.getElem?_append_left (by simpa using hlt)]
        simp [h1]
      rw [this]; exact h2
  refine wp_mono (h hok hokH m w _ m w V hi.boxlen hi.tiplen rfl (Ext.refl m w V) hst) fun e a' w' ⟨T', H', V', m', k1, k2, k3⟩ => ?_
  have fin : resK P fn.results.toList T' H' (fun cs => Fin H.length V.length R (one cs) H' V') → a'.defers = [] ∧ ∃ v, (results fn a'.tmps).run P w' = .ok v w' ∧ ∃ u m' r H' V', Ending.returned v = Ending.returned u ∧ R r H' V' ∧ Inv m' w' H' V' ∧ RelV m' w' V' r u ∧ Ext m w V m' w' V' := by
    intro hk
    obtain ⟨cs, u, q1, q2, r', H2, V2, q3, q4⟩ := results_run k2.inv k2.tm hk
    refine ⟨k2.df, u, q1, ?_⟩
    have hst2 : St 1 m' w' { tmps := #[u], defers := [] } [(0, one cs)] H' V' := by
      refine ⟨k2.inv, fun k => ?_, rfl, rfl⟩
      simp only [tget]
      by_cases hk : k = 0
      · subst hk; rw [if_pos rfl]; exact q2
      · rw [if_neg hk, RelV]; trivial
    obtain ⟨m2, s1, s2⟩ := q3 m' w' { tmps := #[u], defers := [] } m w V hi.boxlen hi.tiplen rfl k3 hst2
    refine ⟨u, m2, r', H2, V2, rfl, q4, s1.inv, ?_, s2⟩
    have := s1.tm 0
    simpa [tget] using this
  cases e with
  | normal => exact fin k1
  | ret => exact fin k1
  | _ => exact k1.elim
end
end Go.Proofs.Ytffjhibomipemaa
