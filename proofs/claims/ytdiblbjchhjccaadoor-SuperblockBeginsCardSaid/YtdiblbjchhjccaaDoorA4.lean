import Derived.Test.YtdiblbjchhjccaaDoorA3
import Derived.OrdersIn
set_option linter.unusedSimpArgs false
set_option linter.unusedVariables false
set_option linter.unusedSectionVars false
namespace Go.Proofs.YtdiblbjchhjccaaDoor

abbrev En := Nat → CV
def evE (E : En) : Operand → CV
  | .tmp t => E t
  | .const v => .v v
  | .global _ => .any
  | .func f => .fn f []
theorem evT_eq (T : Tm) : evT T = evE (tget T) := by funext x; cases x <;> rfl
def putE (d : Option Nat) (c : CV) (E : En) : En :=
  match d with
  | some d => fun n => if n = d then c else E n
  | none => E
theorem tget_tput (d : Option Nat) (c : CV) (T : Tm) : tget (tput d c T) = putE d c (tget T) := by cases d <;> rfl
theorem putE_self {E : En} {g : Nat} {c : CV} (h : E g = c) : putE (some g) c E = E := by
  funext n; simp only [putE]; split
  · rename_i e; rw [e, h]
  · rfl
theorem putE_comm {x y : Option Nat} {c d : CV} {E : En} (h : ∀ t, x = some t → y ≠ some t) : putE y d (putE x c E) = putE x c (putE y d E) := by
  cases x with
  | none => rfl
  | some x =>
    cases y with
    | none => rfl
    | some y =>
      have hne : x ≠ y := fun e => h x rfl (e ▸ rfl)
      funext n
      simp only [putE]
      by_cases h1 : n = x
      · rw [h1, if_neg hne, if_pos rfl, if_pos rfl]
      · rw [if_neg h1, if_neg h1]

section
variable (P : Program) (n : Nat) (ops : List Oper)
/-- One operation. -/
def cstepE (o : Oper) (E : En) (H : Hp) (V : List Nat) (K : En → Hp → List Nat → Prop) : Prop :=
  dOk o.dst n ∧
  match o.guard with
  | none => cop P (evE E) H V (fun c H' V' => K (putE o.dst c E) H' V') o.op
  | some (j, want) =>
    match gtmp ops j with
    | some g =>
      match E g with
      | .v (.bool b) => (b = want → cop P (evE E) H V (fun c H' V' => K (putE o.dst c E) H' V') o.op) ∧ (b = !want → K (putE o.dst (.v undef) E) H V)
      | .v (.tuple _) => K (putE o.dst (.v undef) E) H V
      | _ => False
    | none => False

/-- Whatever order is picked from here on. -/
def SAny (K : En → Hp → List Nat → Prop) : Nat → Array Bool → En → Hp → List Nat → Prop
  | 0, listed, E, H, V => Region.ready .any ops.toArray listed = [] ∧ K E H V
  | f + 1, listed, E, H, V => (Region.ready .any ops.toArray listed = [] → K E H V) ∧
    ∀ i ∈ Region.ready .any ops.toArray listed, ∀ o, ops[i]? = some o → cstepE P n ops o E H V (fun E' H' V' => H <+: H' ∧ SAny K f (listed.setIfInBounds i true) E' H' V')
end

section
variable {P : Program} {n : Nat} {ops : List Oper}

theorem cstepE_mono {o : Oper} {E : En} {H : Hp} {V : List Nat} {K K' : En → Hp → List Nat → Prop} (h : ∀ E H V, K E H V → K' E H V) (hs : cstepE P n ops o E H V K) : cstepE P n ops o E H V K' := by
  unfold cstepE at *
  refine ⟨hs.1, ?_⟩
  have hs := hs.2
  split
  · rename_i hg; rw [hg] at hs; exact cop_mono (fun _ _ _ => h _ _ _) hs
  · rename_i j want hg
    rw [hg] at hs
    dsimp only at hs
    split
    · rename_i g hj
      rw [hj] at hs
      dsimp only at hs
      split
      · rename_i b hb
        rw [hb] at hs
        exact ⟨fun e => cop_mono (fun _ _ _ => h _ _ _) (hs.1 e), fun e => h _ _ _ (hs.2 e)⟩
      · rename_i vs hb
        rw [hb] at hs
        exact h _ _ _ hs
      · rename_i h1 h2
        split at hs
        · rename_i hb; exact absurd hb (h1 _)
        · rename_i hb; exact absurd hb (h2 _)
        · exact hs
    · rename_i hj
      rw [hj] at hs; exact hs

theorem eval_agree {o : Oper} {E E' : En} (h : ∀ d ∈ o.looksAt ops.toArray, E d = E' d) : ∀ x ∈ o.op.operands, evE E x = evE E' x := fun x hx => by
  cases x with
  | tmp t => exact h t (List.mem_append_left _ (List.mem_filterMap.2 ⟨.tmp t, by simpa using hx, rfl⟩))
  | _ => rfl
theorem guard_agree {o : Oper} {E E' : En} (h : ∀ d ∈ o.looksAt ops.toArray, E d = E' d) {j g : Nat} {want : Bool} (hg : o.guard = some (j, want)) (hj : gtmp ops j = some g) : E g = E' g := by
  refine h g (List.mem_append_right _ ?_)
  rw [hg]
  have : (ops[j]?).bind (·.dst) = some g := hj
  simp [this]

/-- Whether the temporary of another is already filled makes no difference. -/
theorem cstepE_swap {o : Oper} {E E' : En} {H : Hp} {V : List Nat} {K K' : En → Hp → List Nat → Prop} (h : ∀ d ∈ o.looksAt ops.toArray, E d = E' d) (hk : ∀ c H V, K (putE o.dst c E) H V → K' (putE o.dst c E') H V)
    (hs : cstepE P n ops o E H V K) : cstepE P n ops o E' H V K' := by
  unfold cstepE at *
  refine ⟨hs.1, ?_⟩
  have hs := hs.2
  have ea := eval_agree h
  have go : cop P (evE E) H V (fun c H' V' => K (putE o.dst c E) H' V') o.op → cop P (evE E') H V (fun c H' V' => K' (putE o.dst c E') H' V') o.op := fun q => by
    rw [← cop_local ea]
    exact cop_mono (fun _ _ _ => hk _ _ _) q
  cases hg : o.guard with
  | none => rw [hg] at hs; exact go hs
  | some jw =>
    obtain ⟨j, want⟩ := jw
    rw [hg] at hs
    dsimp only at hs ⊢
    cases hj : gtmp ops j with
    | none => rw [hj] at hs; exact hs
    | some g =>
      rw [hj] at hs
      dsimp only at hs ⊢
      rw [guard_agree h hg hj] at hs
      split
      · rename_i b hb
        rw [hb] at hs
        exact ⟨fun e => go (hs.1 e), fun e => hk _ _ _ (hs.2 e)⟩
      · rename_i vs hb
        rw [hb] at hs
        exact hk _ _ _ hs
      · rename_i h1 h2
        split at hs
        · rename_i hb; exact absurd hb (h1 _)
        · rename_i hb; exact absurd hb (h2 _)
        · exact hs

/-- It leaves c, now and later. -/
def Hld (P : Program) (n : Nat) (ops : List Oper) (o : Oper) (c : CV) (E : En) (H : Hp) : Prop :=
  ∀ E2 H2 V2 K2, (∀ d ∈ o.looksAt ops.toArray, E2 d = E d) → H <+: H2 → K2 (putE o.dst c E2) H2 V2 → cstepE P n ops o E2 H2 V2 K2

theorem pure_step {o : Oper} {E : En} {H : Hp} {V : List Nat} {K : En → Hp → List Nat → Prop} (hp : pureOp o.op = true) (hk : pureOk (evE E) o.op = true) (hs : cstepE P n ops o E H V K) :
    ∃ c, K (putE o.dst c E) H V ∧ Hld P n ops o c E H := by
  unfold cstepE at hs
  obtain ⟨hd, hs⟩ := hs
  have go : cop P (evE E) H V (fun c H' V' => K (putE o.dst c E) H' V') o.op → ∃ c, K (putE o.dst c E) H V ∧ ∀ (E2 : En) (H2 : Hp) (V2 : List Nat) (K2 : En → Hp → List Nat → Prop), (∀ d ∈ o.looksAt ops.toArray, E2 d = E d) → H <+: H2 → K2 (putE o.dst c E2) H2 V2 → cop P (evE E2) H2 V2 (fun c H' V' => K2 (putE o.dst c E2) H' V') o.op := fun q => by
    obtain ⟨c, h1, h2⟩ := cop_once hp hk q
    refine ⟨c, h1, fun E2 H2 V2 K2 ha hl k => ?_⟩
    rw [cop_local (eval_agree ha)]
    exact h2 H2 V2 (fun c H' V' => K2 (putE o.dst c E2) H' V') hl k
  cases hg : o.guard with
  | none =>
    rw [hg] at hs
    obtain ⟨c, h1, h2⟩ := go hs
    refine ⟨c, h1, fun E2 H2 V2 K2 ha hl k => ?_⟩
    unfold cstepE
    rw [hg]
    exact ⟨hd, h2 E2 H2 V2 K2 ha hl k⟩
  | some jw =>
    obtain ⟨j, want⟩ := jw
    rw [hg] at hs
    dsimp only at hs
    cases hj : gtmp ops j with
    | none => rw [hj] at hs; exact hs.elim
    | some g =>
      rw [hj] at hs
      dsimp only at hs
      split at hs
      · rename_i b hb
        by_cases hbw : b = want
        · obtain ⟨c, h1, h2⟩ := go (hs.1 hbw)
          refine ⟨c, h1, fun E2 H2 V2 K2 ha hl k => ?_⟩
          unfold cstepE
          rw [hg]
          dsimp only
          rw [hj]
          dsimp only
          rw [guard_agree ha hg hj, hb]
          exact ⟨hd, fun _ => h2 E2 H2 V2 K2 ha hl k, fun e => absurd (hbw.symm.trans e) (by cases want <;> simp)⟩
        · have hb2 : b = !want := by cases b <;> cases want <;> simp_all
          refine ⟨.v undef, hs.2 hb2, fun E2 H2 V2 K2 ha hl k => ?_⟩
          unfold cstepE
          rw [hg]
          dsimp only
          rw [hj]
          dsimp only
          rw [guard_agree ha hg hj, hb]
          exact ⟨hd, fun e => absurd e hbw, fun _ => k⟩
      · rename_i vs hb
        refine ⟨.v undef, hs, fun E2 H2 V2 K2 ha hl k => ?_⟩
        unfold cstepE
        rw [hg]
        dsimp only
        rw [hj]
        dsimp only
        rw [guard_agree ha hg hj, hb]
        exact ⟨hd, k⟩
      · exact hs.elim

theorem SAny_first {K : En → Hp → List Nat → Prop} {i : Nat} {oi : Oper} {c : CV} (hi : ops[i]? = some oi) :
    ∀ (f : Nat) (listed : Array Bool) (E : En) (H : Hp) (V : List Nat),
      (∀ j oj, ops[j]? = some oj → j ≠ i → listed.getD j true = false → (∀ e ∈ oj.after, Region.binds .any e = true → e.on ≠ i) → oi.apart ops.toArray oj = true) →
      i ∈ Region.ready .any ops.toArray listed → Hld P n ops oi c E H →
      SAny P n ops K f (listed.setIfInBounds i true) (putE oi.dst c E) H V → SAny P n ops K (f + 1) listed E H V := by
  intro f
  induction f with
  | zero =>
    intro listed E H V _ hr hy h
    refine ⟨fun e => (by rw [e] at hr; cases hr), fun j hj o ho => ?_⟩
    by_cases hji : j = i
    · subst hji; rw [hi] at ho; cases ho
      exact hy _ _ _ _ (fun _ _ => rfl) (List.prefix_refl _) ⟨List.prefix_refl _, h⟩
    · have := ready_mono hj hji
      rw [h.1] at this; cases this
  | succ f ih =>
    intro listed E H V hfree hr hy h
    refine ⟨fun e => (by rw [e] at hr; cases hr), fun j hj o ho => ?_⟩
    by_cases hji : j = i
    · subst hji; rw [hi] at ho; cases ho
      exact hy _ _ _ _ (fun _ _ => rfl) (List.prefix_refl _) ⟨List.prefix_refl _, h⟩
    · have h1 := h.2 j (ready_mono hj hji) o ho
      obtain ⟨hjun, oj, hoj, hall⟩ := mem_ready.1 hj
      rw [List.getElem?_toArray, ho] at hoj; cases hoj
      have hnot : ∀ e ∈ o.after, Region.binds .any e = true → e.on ≠ i := fun e he hb heq => by
        have h1 := hall e he hb
        have h0 := (mem_ready.1 hr).1
        rw [heq] at h1
        rcases Nat.lt_or_ge i listed.size with h' | h'
        · simp [h'] at h0 h1; rw [h0] at h1; cases h1
        · simp [Array.getElem?_eq_none h'] at h1
      obtain ⟨p1, p2, p3⟩ := Oper.apart_spec (hfree j o ho hji hjun hnot)
      have hfree' : ∀ k ok, ops[k]? = some ok → k ≠ i → (listed.setIfInBounds j true).getD k true = false →
          (∀ e ∈ ok.after, Region.binds .any e = true → e.on ≠ i) → oi.apart ops.toArray ok = true := fun k ok hk hki hun hno => by
        refine hfree k ok hk hki ?_ hno
        by_cases hjk : j = k
        · subst hjk; exact hjun
        · rw [getD_set_ne true hjk] at hun; exact hun
      have hput : ∀ {d : Option Nat} {c : CV} {E : En} {t : Nat}, (d ≠ some t) → putE d c E t = E t := fun {d c E t} h => by
        cases d with
        | none => rfl
        | some d => simp only [putE]; rw [if_neg (fun e => h (by rw [e]))]
      refine cstepE_swap (E := putE oi.dst c E) (fun d hd => hput fun e => p1 d e hd) (fun c' H' V' ⟨q1, q2⟩ => ⟨q1, ?_⟩) h1
      rw [putE_comm p2] at q2
      rw [Array.setIfInBounds_comm _ _ (Ne.symm hji)] at q2
      refine ih (listed.setIfInBounds j true) _ H' V' hfree' (ready_mono hr (Ne.symm hji)) (fun E2 H2 V2 K2 ha hl k => hy E2 H2 V2 K2 (fun d hd => ?_) (q1.trans hl) k) q2
      rw [ha d hd]
      exact hput fun e => p3 d e hd

/-- One operation is run. -/
theorem cstepE_sound {ro : Option Nat} {Q : Exit → Act → World → Prop} {Kw : Act → World → Prop} {i : Nat} {o : Oper} (ho : ops[i]? = some o) {E : En} {m : Gh} {w : World} {a : Act} {H : Hp} {V : List Nat} {K : En → Hp → List Nat → Prop}
    (hi : Inv m w H V) (ht : ∀ k, RelV m w V (E k) (a.tmps.getD k undef)) (hz : a.tmps.size = n) (hs : cstepE P n ops o E H V K)
    (hK : ∀ E' H' V' a' m' w', K E' H' V' → Inv m' w' H' V' → (∀ k, RelV m' w' V' (E' k) (a'.tmps.getD k undef)) → a'.tmps.size = n → a'.defers = a.defers → Ext m w V m' w' V' → Kw a' w') : wpOpIn (fen ro) 0 P ops.toArray Q i Kw a w := by
  have hput : ∀ {m' : Gh} {w' : World} {V' : List Nat} {c : CV} {u : Value}, dOk o.dst n → Ext m w V m' w' V' → RelV m' w' V' c u → ∀ k, RelV m' w' V' (putE o.dst c E k) ((a.put o.dst u).tmps.getD k undef) := fun {m' w' V' c u} hd hx hu k => by
    cases hdst : o.dst with
    | none => exact RelV.mono hx _ _ (ht k)
    | some d =>
      rw [hdst] at hd
      have hd : d < a.tmps.size := by rw [hz]; exact hd
      simp only [putE, Act.put]
      by_cases hn : k = d
      · subst hn; rw [if_pos rfl]; simpa [Array.getD, hd] using hu
      · rw [if_neg hn]
        have : (a.tmps.setIfInBounds d u).getD k undef = a.tmps.getD k undef := by
          simp only [Array.getD_eq_getD_getElem?]
          rw [Array.getElem?_setIfInBounds_ne (Ne.symm hn)]
        rw [this]; exact RelV.mono hx _ _ (ht k)
  have hev : ∀ x, RelV m w V (evE E x) (a.eval x) := fun x => by
    cases x with
    | tmp t => exact ht t
    | const v => simp only [evE, Act.eval]; rw [RelV]
    | global g => simp only [evE]; rw [RelV]; trivial
    | func f => simp only [evE, Act.eval]; rw [RelV]; exact ⟨[], rfl, by rw [RelL]⟩
  unfold cstepE at hs
  obtain ⟨hd, hs⟩ := hs
  have run : cop P (evE E) H V (fun c H' V' => K (putE o.dst c E) H' V') o.op → o.wpIn (fen ro) 0 P a w Kw Q := fun q =>
    cop_sound (P := P) hi hev q fun c H' V' u m' w' h1 h2 h3 h4 => hK _ _ _ _ _ _ h1 h2 (hput hd h4 h3) (by rw [put_size]; exact hz) (by rw [put_defers]) h4
  have skip : K (putE o.dst (.v undef) E) H V → Kw (a.put o.dst undef) w := fun q =>
    hK _ _ _ _ _ _ q hi (hput hd (Ext.refl m w V) (by rw [RelV])) (by rw [put_size]; exact hz) (by rw [put_defers]) (Ext.refl m w V)
  unfold wpOpIn
  rw [List.getElem?_toArray, ho]
  dsimp only
  cases hg : o.guard with
  | none =>
    rw [hg] at hs
    rw [if_pos (by simp [Region.wanted, hg])]
    exact run hs
  | some jw =>
    obtain ⟨j, want⟩ := jw
    rw [hg] at hs
    dsimp only at hs
    cases hj : gtmp ops j with
    | none => rw [hj] at hs; exact hs.elim
    | some g =>
      rw [hj] at hs
      dsimp only at hs
      have hy := yielded_eq ops a.tmps j
      rw [hj, Option.bind_some] at hy
      have hg2 := ht g
      split at hs
      · rename_i b hb
        rw [hb, RelV] at hg2
        have hget : a.tmps[g]? = some (.bool b) := by
          cases hq : a.tmps[g]? with
          | none => simp [hq] at hg2; cases hg2
          | some x => simp [hq] at hg2; rw [hg2]
        rw [hget] at hy
        simp only at hy
        have hw : Region.wanted o (yielded ops.toArray a.tmps) = (b == want) := by
          simp [Region.wanted, hg, hy]
        rw [hw]
        by_cases hbw : b = want
        · rw [if_pos (by simpa using hbw)]
          exact run (hs.1 hbw)
        · rw [if_neg (by simpa using hbw)]
          exact ⟨fun _ _ => trivial, skip (hs.2 (by cases b <;> cases want <;> simp_all))⟩
      · rename_i vs hb
        rw [hb, RelV] at hg2
        have hw : Region.wanted o (yielded ops.toArray a.tmps) = false := by
          have : yielded ops.toArray a.tmps j = none := by
            rw [hy]
            cases hq : a.tmps[g]? with
            | none => rfl
            | some x => simp [hq] at hg2; subst hg2; rfl
          simp [Region.wanted, hg, this]
        rw [hw, if_neg (by simp)]
        exact ⟨fun _ _ => trivial, skip hs⟩
      · exact hs.elim

theorem SAny_sound {ro : Option Nat} {Q : Exit → Act → World → Prop} {K : En → Hp → List Nat → Prop} : ∀ (f : Nat) {listed : Array Bool} {E : En} {m : Gh} {w : World} {a : Act} {H : Hp} {V : List Nat},
    Inv m w H V → (∀ k, RelV m w V (E k) (a.tmps.getD k undef)) → a.tmps.size = n → SAny P n ops K f listed E H V →
    (∀ E' H' V' a' m' w', K E' H' V' → Inv m' w' H' V' → (∀ k, RelV m' w' V' (E' k) (a'.tmps.getD k undef)) → a'.tmps.size = n → a'.defers = a.defers → Ext m w V m' w' V' → Q .normal a' w') → wpAnyIn (fen ro) 0 P .any ops.toArray Q f listed a w
  | 0, listed, E, m, w, a, H, V, hi, ht, hz, h, hK => ⟨h.1, hK _ _ _ _ _ _ h.2 hi ht hz rfl (Ext.refl m w V)⟩
  | f + 1, listed, E, m, w, a, H, V, hi, ht, hz, h, hK => by
    refine ⟨fun e => hK _ _ _ _ _ _ (h.1 e) hi ht hz rfl (Ext.refl m w V), fun i hr => ?_⟩
    obtain ⟨_, o, ho, _⟩ := mem_ready.1 hr
    rw [List.getElem?_toArray] at ho
    refine cstepE_sound ho hi ht hz (h.2 i hr o ho) fun E' H' V' a' m' w' k1 k2 k3 k4 k5 k6 => ?_
    exact SAny_sound f k2 k3 k4 k1.2 fun E2 H2 V2 a2 m2 w2 q1 q2 q3 q4 q5 q6 => hK _ _ _ _ _ _ q1 q2 q3 q4 (q5.trans k5) (k6.trans q6)

/-! ### One order -/
/-- This order will do: what may be early may be carried out at once; else nothing else may come up. -/
def ordOk (ops : List Oper) : List Nat → Array Bool → Bool
  | [], listed => (Region.ready .any ops.toArray listed).isEmpty
  | i :: r, listed =>
    (match ops[i]? with
      | some o => (pureOp o.op && (Region.ready .any ops.toArray listed).contains i && Region.free .any ops.toArray listed i) || Region.ready .any ops.toArray listed == [i]
      | none => false) && ordOk ops r (listed.setIfInBounds i true)

/-- The operations in this order. -/
def crunO (P : Program) (n : Nat) (ops : List Oper) : List Nat → Tm → Hp → List Nat → (Tm → Hp → List Nat → Prop) → Prop
  | [], T, H, V, K => K T H V
  | i :: r, T, H, V, K =>
    match ops[i]? with
    | some o => pureOk (evT T) o.op = true ∧ crun P n ops [o] T H V fun T' H' V' => H <+: H' ∧ crunO P n ops r T' H' V' K
    | none => False

theorem crun_one {o : Oper} {T : Tm} {H : Hp} {V : List Nat} {K : Tm → Hp → List Nat → Prop} (h : crun P n ops [o] T H V K) : cstepE P n ops o (tget T) H V fun E H V => ∃ T', tget T' = E ∧ K T' H V := by
  unfold cstepE
  rw [crun] at h
  have go : ∀ T0, tget T0 = tget T → cop P (evT T0) H V (fun c H' V' => crun P n ops [] (tput o.dst c T0) H' V' K) o.op → cop P (evE (tget T)) H V (fun c H' V' => ∃ T', tget T' = putE o.dst c (tget T) ∧ K T' H' V') o.op := fun T0 e q => by
    rw [evT_eq, e] at q
    exact cop_mono (fun c H V k => ⟨tput o.dst c T0, by rw [tget_tput, e], k⟩) q
  cases hg : o.guard with
  | none => simp only [hg] at h; exact ⟨h.1, go T rfl h.2⟩
  | some jw =>
    obtain ⟨j, want⟩ := jw
    simp only [hg] at h
    refine ⟨h.1, ?_⟩
    have h := h.2
    dsimp only
    cases hj : gtmp ops j with
    | none => rw [hj] at h; exact h
    | some g =>
      rw [hj] at h
      dsimp only at h ⊢
      have self : ∀ b : Bool, tget T g = .v (.bool b) → tget ((g, .v (.bool b)) :: T) = tget T := fun b e => putE_self (E := tget T) e
      unfold cguard at h
      split at h
      · rename_i b hb
        rw [hb]
        refine ⟨fun e => ?_, fun e => ?_⟩
        · subst e; exact go _ (self _ hb) (h.1 rfl)
        · have h3 := h.2 e
          rw [hb] at h3
          subst e
          exact ⟨_, by rw [tget_tput, self _ hb], h3⟩
      · rename_i vs hb
        rw [hb] at h ⊢
        exact ⟨_, tget_tput _ _ _, h⟩
      · exact h.elim

theorem crunO_any {K : Tm → Hp → List Nat → Prop} : ∀ (l : List Nat) (f : Nat) (listed : Array Bool) (T : Tm) (H : Hp) (V : List Nat), l.length = f → ordOk ops l listed = true → crunO P n ops l T H V K →
    SAny P n ops (fun E H V => ∃ T', tget T' = E ∧ K T' H V) f listed (tget T) H V
  | [], f, listed, T, H, V, hf, ho, h => by
    subst hf
    exact ⟨by simpa [ordOk] using ho, T, rfl, h⟩
  | i :: r, f, listed, T, H, V, hf, ho, h => by
    subst hf
    rw [ordOk, Bool.and_eq_true] at ho
    rw [crunO] at h
    obtain ⟨ho, hrest⟩ := ho
    cases hi : ops[i]? with
    | none => rw [hi] at h; exact h.elim
    | some o =>
      rw [hi] at h ho
      dsimp only at h ho
      obtain ⟨hk, h⟩ := h
      have h1 := crun_one h
      rw [Bool.or_eq_true] at ho
      rcases ho with ho | ho
      · rw [Bool.and_eq_true, Bool.and_eq_true] at ho
        obtain ⟨⟨hp, hr⟩, hf⟩ := ho
        obtain ⟨c, ⟨T', e1, _, e3⟩, hh⟩ := pure_step hp (by rw [← evT_eq]; exact hk) h1
        have := crunO_any r r.length _ T' H V rfl hrest e3
        rw [e1] at this
        exact SAny_first hi r.length listed _ H V (fun j oj hj hne hun hno => Region.free_spec (by rw [List.getElem?_toArray]; exact hi) hf j oj (by rw [List.getElem?_toArray]; exact hj) hne hun hno) (by simpa using hr) hh this
      · have hr : Region.ready .any ops.toArray listed = [i] := by simpa using ho
        refine ⟨fun e => (by rw [hr] at e; cases e), fun j hj o' ho' => ?_⟩
        rw [hr] at hj
        obtain rfl : j = i := by simpa using hj
        rw [hi] at ho'; cases ho'
        refine cstepE_mono (fun E H' V' ⟨T', e1, e2, e3⟩ => ?_) h1
        subst e1
        exact ⟨e2, crunO_any r r.length _ T' H' V' rfl hrest e3⟩

/-- A REGION WHOSE ORDER IS DRAWN: one order is enough. -/
theorem SWp.drawn {id nb nv : Nat} {Q : Exit → Tm → Hp → List Nat → Prop} {T : Tm} {H : Hp} {V : List Nat} (l : List Nat) (hm : P.follows .mixedOrders = true) (ho : ordOk ops l (Array.replicate ops.length false) = true) (hl : l.length = ops.length)
    (h : crunO P n ops l T H V (Q .normal)) : SWp P n nb nv (.region id ops.toArray true) Q T H V := by
  intro ro D m w a m0 w0 V0 h1 h2 h3 hx hs
  refine wpIn_region_any hm ?_
  have hd : Inv m { w with drawn := w.drawn + 1 } H V ∧ Ext m w V m { w with drawn := w.drawn + 1 } V := hs.inv.drew
  have := crunO_any l ops.length _ T H V hl ho h
  simp only [List.size_toArray]
  refine SAny_sound (Q := fun e a' w' => ∃ T' H' V' m', Q e T' H' V' ∧ St D n m' w' a' T' H' V' ∧ Ext m0 w0 V0 m' w' V') ops.length hd.1 (fun k => RelV.mono hd.2 _ _ (hs.tm k)) hs.size this fun E' H' V' a' m' w' k1 k2 k3 k4 k5 k6 => ?_
  obtain ⟨T', e, hq⟩ := k1
  subst e
  exact ⟨T', H', V', m', hq, ⟨k2, k3, k4, by rw [k5]; exact hs.df.mono (hd.2.trans k6)⟩, (hx.trans hd.2).trans k6⟩
end
end Go.Proofs.YtdiblbjchhjccaaDoor
namespace Go.Proofs.YtdiblbjchhjccaaDoor
attribute [go_sem] pureOk noNil cfill

/-- One order, over what simp is to look at. -/
def crunOL (P : Program) (n : Nat) (ds : List (Option Tmp)) (ops : List Oper) : List Nat → Tm → Hp → List Nat → (Tm → Hp → List Nat → Prop) → Prop
  | [], T, H, V, K => K T H V
  | i :: r, T, H, V, K => withO (ops[i]?) fun o => pureOk (evT T) o.op = true ∧ crunL P n ds [o] T H V fun T' H' V' => H <+: H' ∧ crunOL P n ds ops r T' H' V' K
def crunOS (P : Program) (n : Nat) (ds : List (Option Tmp)) (ops : List Oper) (l : List Nat) (T : Tm) (H : Hp) (V : List Nat) (K : Tm → Hp → List Nat → Prop) : Prop := crunOL P n ds ops l T H V K
theorem crunO_lite (P : Program) (n : Nat) (ops : List Oper) : ∀ (l : List Nat) (T : Tm) (H : Hp) (V : List Nat) (K : Tm → Hp → List Nat → Prop), crunO P n ops l T H V K = crunOL P n (ops.map (·.dst)) ops l T H V K
  | [], _, _, _, _ => rfl
  | i :: r, T, H, V, K => by
    rw [crunO, crunOL, withO_eq]
    cases ops[i]? with
    | none => simp
    | some o => simp [crun_lite, crunO_lite P n ops r]
section
variable {P : Program} {n : Nat} {ds : List (Option Tmp)} {ls : List Oper} {T T' : Tm} {H H' : Hp} {V V' : List Nat} {K : Tm → Hp → List Nat → Prop}
@[go_sem] theorem crunOS_eq (l : List Nat) : crunOS P n ds ls l T H V K = crunOL P n ds ls l T H V K := rfl
@[go_sem] theorem crunOL_nil : crunOL P n ds ls [] T H V K = K T H V := rfl
/-- What follows an operation of one order. -/
def contO (P : Program) (n : Nat) (ds : List (Option Tmp)) (ls : List Oper) (r : List Nat) (H : Hp) (K : Tm → Hp → List Nat → Prop) : Tm → Hp → List Nat → Prop := fun T' H' V' => H <+: H' ∧ crunOL P n ds ls r T' H' V' K
@[go_sem ↓] theorem contO_eq (r : List Nat) : contO P n ds ls r H K T H' V = (H <+: H' ∧ crunOL P n ds ls r T H' V K) := id rfl
@[go_sem] theorem crunOL_cons (i : Nat) (r : List Nat) : crunOL P n ds ls (i :: r) T H V K = withO (ls[i]?) fun o => pureOk (evT T) o.op = true ∧ crunL P n ds [o] T H V (contO P n ds ls r H K) := rfl
@[congr] theorem crunOL_congr {l : List Nat} (h1 : T = T') (h2 : H = H') (h3 : V = V') : crunOL P n ds ls l T H V K = crunOL P n ds ls l T' H' V' K := by subst h1 h2 h3; rfl
@[congr] theorem crunOS_congr {ds' : List (Option Tmp)} {l : List Nat} (h0 : ds = ds') (h1 : T = T') (h2 : H = H') (h3 : V = V') : crunOS P n ds ls l T H V K = crunOS P n ds' ls l T' H' V' K := by subst h0 h1 h2 h3; rfl
end
@[go_sem] theorem prefix_self (H : Hp) : (H <+: H) = True := eq_true (List.prefix_refl _)
@[go_sem] theorem prefix_app (H L : Hp) : (H <+: H ++ L) = True := eq_true (List.prefix_append _ _)
@[go_sem] theorem prefix_app2 (H L M : Hp) : (H <+: H ++ L ++ M) = True := eq_true (by rw [List.append_assoc]; exact List.prefix_append _ _)
theorem SWp.drawnL {P : Program} {n id nb nv : Nat} {ops : List Oper} {Q : Exit → Tm → Hp → List Nat → Prop} {T : Tm} {H : Hp} {V : List Nat} (l : List Nat) (hm : P.follows .mixedOrders = true) (ho : ordOk ops l (Array.replicate ops.length false) = true) (hl : l.length = ops.length)
    (h : crunOS P n (ops.map (·.dst)) ops l T H V (Q .normal)) : SWp P n nb nv (.region id ops.toArray true) Q T H V := SWp.drawn l hm ho hl (by rw [crunO_lite]; exact h)
section
variable {H H' : Hp} {V V' : List Nat}
theorem Fin.bool {a b : Bool} (h : a = b) (hokH : ∀ (b : Nat) cs, H[b]? = some (some cs) → okL H.length V.length cs) (hH : H'.take H.length = H) (hV : V'.take V.length = V) : Fin H.length V.length (Pu (.v (.bool b)) H V) (.v (.bool a)) H' V' := by
  subst h; exact Fin.pu (.refl _) trivial hokH hH hV
end

/-! ### What may stay -/
def TOk (i j : Nat) : Tm → Prop
  | [] => True
  | (_, c) :: r => okV i j c ∧ TOk i j r
theorem TOk.all {i j : Nat} : ∀ {T : Tm}, TOk i j T → ∀ p ∈ T, okV i j p.2
  | [], _, p, hp => by cases hp
  | (k, c) :: r, h, p, hp => by
    rcases List.mem_cons.1 hp with rfl | hp
    · exact h.1
    · exact TOk.all h.2 p hp
section
variable (i j : Nat)
@[go_sem] theorem TOk_nil : TOk i j [] = True := rfl
@[go_sem] theorem TOk_cons (k : Nat) (c : CV) (r : Tm) : TOk i j ((k, c) :: r) = (okV i j c ∧ TOk i j r) := rfl
@[go_sem] theorem okV_any : okV i j .any = True := by rw [okV]
@[go_sem] theorem okV_v (x : Value) : okV i j (.v x) = True := by rw [okV]
@[go_sem] theorem okV_agg (cs : List CV) : okV i j (.agg cs) = okL i j cs := by rw [okV]
@[go_sem] theorem okV_tup (cs : List CV) : okV i j (.tup cs) = okL i j cs := by rw [okV]
@[go_sem] theorem okV_sh (sz : Nat) (xs : List (List CV)) : okV i j (.sl .sh sz xs) = okE i j xs := by rw [okV]; simp [okTk]
@[go_sem] theorem okV_ti (sz : Nat) (xs : List (List CV)) : okV i j (.sl .ti sz xs) = okE i j xs := by rw [okV]; simp [okTk]
@[go_sem] theorem okV_own (t v sz : Nat) (xs : List (List CV)) : okV i j (.sl (.own t v) sz xs) = (t < j ∧ okE i j xs) := by rw [okV]; simp [okTk]
@[go_sem] theorem okTk_own (t v : Nat) : okTk j (.own t v) = (t < j) := rfl
@[go_sem] theorem okTk_sh : okTk j .sh = True := rfl
@[go_sem] theorem okTk_ti : okTk j .ti = True := rfl
@[go_sem, simp] theorem take_set_len {α : Type} (V : List α) (k : Nat) (v : α) : (V.set k v).take V.length = V.set k v := List.take_of_length_le (by simp)
theorem okV_slt (tk : Tk) (sz : Nat) (xs : List (List CV)) : okV i j (.sl tk sz xs) = (okTk j tk ∧ okE i j xs) := by rw [okV]
@[go_sem] theorem okV_bsl (b o n sz : Nat) : okV i j (.bsl b o n sz) = (b < i) := by rw [okV]
@[go_sem] theorem okV_ptr (b o : Nat) : okV i j (.ptr b o) = (b < i) := by rw [okV]
@[go_sem] theorem okV_eptr (cs : List CV) (o : Nat) : okV i j (.eptr cs o) = okL i j cs := by rw [okV]
@[go_sem] theorem okV_fn (f : Nat) (cs : List CV) : okV i j (.fn f cs) = okL i j cs := by rw [okV]
@[go_sem] theorem okL_nil : okL i j [] = True := by rw [okL]
@[go_sem] theorem okL_cons (c : CV) (cs : List CV) : okL i j (c :: cs) = (okV i j c ∧ okL i j cs) := by rw [okL]
@[go_sem] theorem okE_nil : okE i j [] = True := by rw [okE]
@[go_sem] theorem okE_cons (e : List CV) (es : List (List CV)) : okE i j (e :: es) = (okL i j e ∧ okE i j es) := by rw [okE]
end
/-- Back to the boxes of the function's beginning. -/
theorem Sh.back {n nb nv : Nat} {T T' : Tm} {H H' : Hp} {V V' : List Nat} (h : TLe T T') (hb : nb = H'.length) (hv : nv = V'.length) (hT : TOk nb nv T') (hH : ∀ (b : Nat) cs, H'[b]? = some (some cs) → okL nb nv cs) (eH : H.take nb = H') (eV : V.take nv = V') : Sh n nb nv T H V (T', H', V') :=
  have _ := hb; have _ := hv
  Sh.cut nb nv h (Nat.le_refl _) (Nat.le_refl _) (TOk.all hT) hH eH eV
end Go.Proofs.YtdiblbjchhjccaaDoor
namespace Go.Proofs.YtdiblbjchhjccaaDoor

mutual
inductive Fy (b : Nat) (cs : List CV) : CV → CV → Prop
  | refl (c : CV) : Fy b cs c c
  | bsl (o n sz : Nat) (h : o + n * sz ≤ cs.length) : Fy b cs (.bsl b o n sz) (.sl .sh sz (chunks sz n (cs.drop o)))
  | agg {xs ys : List CV} (h : FyL b cs xs ys) : Fy b cs (.agg xs) (.agg ys)
  | tup {xs ys : List CV} (h : FyL b cs xs ys) : Fy b cs (.tup xs) (.tup ys)
  | sl (tk : Tk) (sz : Nat) {xs ys : List (List CV)} (h : FyE b cs xs ys) : Fy b cs (.sl tk sz xs) (.sl .sh sz ys)
inductive FyL (b : Nat) (cs : List CV) : List CV → List CV → Prop
  | nil : FyL b cs [] []
  | cons {c d : CV} {xs ys : List CV} (h : Fy b cs c d) (t : FyL b cs xs ys) : FyL b cs (c :: xs) (d :: ys)
inductive FyE (b : Nat) (cs : List CV) : List (List CV) → List (List CV) → Prop
  | nil : FyE b cs [] []
  | cons {c d : List CV} {xs ys : List (List CV)} (h : FyL b cs c d) (t : FyE b cs xs ys) : FyE b cs (c :: xs) (d :: ys)
end
theorem FyL.len {b : Nat} {cs : List CV} : ∀ {xs ys : List CV}, FyL b cs xs ys → xs.length = ys.length
  | _, _, .nil => rfl
  | _, _, .cons _ t => by rw [List.length_cons, List.length_cons, FyL.len t]
theorem FyE.len {b : Nat} {cs : List CV} : ∀ {xs ys : List (List CV)}, FyE b cs xs ys → xs.length = ys.length
  | _, _, .nil => rfl
  | _, _, .cons _ t => by rw [List.length_cons, List.length_cons, FyE.len t]

section
variable {m : Gh} {w : World} {V : List Nat} {b k : Nat} {cs : List CV}
mutual
theorem Fy.rel (hb : m.box[b]? = some k) (hl : cs.length ≤ m.lim k) (hc : RelC m w V k cs 0) {x y : CV} : ∀ {u : Value}, Fy b cs x y → RelV m w V x u → RelV m w V y u
  | _, .refl _, h => h
  | _, .bsl o n sz ho, h => Fz.rel hb hl hc (.bsl o n sz ho) h
  | _, .agg hq, h => by rw [RelV] at h; rw [RelV]; obtain ⟨us, h1, h2⟩ := h; exact ⟨us, h1, FyL.rel hb hl hc hq h2⟩
  | _, .tup hq, h => by rw [RelV] at h; rw [RelV]; obtain ⟨us, h1, h2⟩ := h; exact ⟨us, h1, FyL.rel hb hl hc hq h2⟩
  | _, .sl tk sz hq, h => by
    rw [RelV] at h; rw [RelV]
    obtain ⟨base, cap, h1, h2, h3, h4, h5⟩ := h
    have e := hq.len
    refine ⟨base, cap, by rw [← e]; exact h1, by rw [← e]; exact h2, trivial, h4, ?_⟩
    rcases h5 with h5 | ⟨k', o, h6, h7, h8⟩
    · left
      subst h5
      exact List.eq_nil_of_length_eq_zero e.symm
    · exact .inr ⟨k', o, h6, by rw [← e]; exact h7, FyE.rel hb hl hc hq h8⟩
theorem FyL.rel (hb : m.box[b]? = some k) (hl : cs.length ≤ m.lim k) (hc : RelC m w V k cs 0) {xs ys : List CV} : ∀ {us : List Value}, FyL b cs xs ys → RelL m w V xs us → RelL m w V ys us
  | _, .nil, h => h
  | _, .cons h t, hr => by
    rw [RelL] at hr; rw [RelL]
    obtain ⟨u, r, h1, h2, h3⟩ := hr
    exact ⟨u, r, h1, Fy.rel hb hl hc h h2, FyL.rel hb hl hc t h3⟩
theorem FyC.rel (hb : m.box[b]? = some k) (hl : cs.length ≤ m.lim k) (hc : RelC m w V k cs 0) {xs ys : List CV} {k' : Nat} : ∀ {o : Nat}, FyL b cs xs ys → RelC m w V k' xs o → RelC m w V k' ys o
  | _, .nil, h => h
  | _, .cons h t, hr => by
    rw [RelC] at hr; rw [RelC]
    obtain ⟨⟨u, h1, h2, h3⟩, h4⟩ := hr
    exact ⟨⟨u, h1, Fy.rel hb hl hc h h2, h3⟩, FyC.rel hb hl hc t h4⟩
theorem FyE.rel (hb : m.box[b]? = some k) (hl : cs.length ≤ m.lim k) (hc : RelC m w V k cs 0) {xs ys : List (List CV)} {k' sz : Nat} : ∀ {o : Nat}, FyE b cs xs ys → RelE m w V k' sz xs o → RelE m w V k' sz ys o
  | _, .nil, h => h
  | _, .cons h t, hr => by
    rw [RelE] at hr; rw [RelE]
    obtain ⟨h1, h2, h3⟩ := hr
    exact ⟨by rw [← h.len]; exact h1, FyC.rel hb hl hc h h2, FyE.rel hb hl hc t h3⟩
end
end

section
variable {m : Gh} {w : World} {V : List Nat} {b k : Nat} {cs : List CV}
mutual
theorem Fy.relO (hb : m.box[b]? = some k) (hr0 : ¬ IsRow w k) {x y : CV} : ∀ {u : Value}, Fy b cs x y → RelV m w V x u → RelV m w V y u
  | _, .refl _, h => h
  | _, .bsl o n sz ho, h => Fz.relO hb hr0 (.bsl o n sz ho) h
  | _, .agg hq, h => by rw [RelV] at h; rw [RelV]; obtain ⟨us, h1, h2⟩ := h; exact ⟨us, h1, FyL.relO hb hr0 hq h2⟩
  | _, .tup hq, h => by rw [RelV] at h; rw [RelV]; obtain ⟨us, h1, h2⟩ := h; exact ⟨us, h1, FyL.relO hb hr0 hq h2⟩
  | _, .sl tk sz hq, h => by
    rw [RelV] at h; rw [RelV]
    obtain ⟨base, cap, h1, h2, h3, h4, h5⟩ := h
    have e := hq.len
    refine ⟨base, cap, by rw [← e]; exact h1, by rw [← e]; exact h2, trivial, h4, ?_⟩
    rcases h5 with h5 | ⟨k', o, h6, h7, h8⟩
    · left
      subst h5
      exact List.eq_nil_of_length_eq_zero e.symm
    · exact .inr ⟨k', o, h6, by rw [← e]; exact h7, FyE.relO hb hr0 hq h8⟩
theorem FyL.relO (hb : m.box[b]? = some k) (hr0 : ¬ IsRow w k) {xs ys : List CV} : ∀ {us : List Value}, FyL b cs xs ys → RelL m w V xs us → RelL m w V ys us
  | _, .nil, h => h
  | _, .cons h t, hr => by
    rw [RelL] at hr; rw [RelL]
    obtain ⟨u, r, h1, h2, h3⟩ := hr
    exact ⟨u, r, h1, Fy.relO hb hr0 h h2, FyL.relO hb hr0 t h3⟩
theorem FyC.relO (hb : m.box[b]? = some k) (hr0 : ¬ IsRow w k) {xs ys : List CV} {k' : Nat} : ∀ {o : Nat}, FyL b cs xs ys → RelC m w V k' xs o → RelC m w V k' ys o
  | _, .nil, h => h
  | _, .cons h t, hr => by
    rw [RelC] at hr; rw [RelC]
    obtain ⟨⟨u, h1, h2, h3⟩, h4⟩ := hr
    exact ⟨⟨u, h1, Fy.relO hb hr0 h h2, h3⟩, FyC.relO hb hr0 t h4⟩
theorem FyE.relO (hb : m.box[b]? = some k) (hr0 : ¬ IsRow w k) {xs ys : List (List CV)} {k' sz : Nat} : ∀ {o : Nat}, FyE b cs xs ys → RelE m w V k' sz xs o → RelE m w V k' sz ys o
  | _, .nil, h => h
  | _, .cons h t, hr => by
    rw [RelE] at hr; rw [RelE]
    obtain ⟨h1, h2, h3⟩ := hr
    exact ⟨by rw [← h.len]; exact h1, FyC.relO hb hr0 h h2, FyE.relO hb hr0 t h3⟩
end
end

/-- A call to which a box is handed over within a value: from then on its contents are fixed. -/
theorem CC.let_go {P : Program} {f : FuncId} {xs : List CV} (ys : List CV) {H : Hp} {V : List Nat} {R : CV → Hp → List Nat → Prop} (b : Nat) (cs : List CV) (hb : H[b]? = some (some cs)) (h : FyL b cs xs ys) (hc : CC P f ys (H.set b none) V R) : CC P f xs H V R := by
  refine ⟨hc.1, fun m w us hi hu => ?_⟩
  cases hi.live b cs hb with
  | row k c e g1 g2 g3 g4 g5 =>
    obtain ⟨hi', hx'⟩ := hi.fix hb g1 g2 g3 g4
    have hu' := FyL.rel (m := { m with lim := fun j => if j = k then cs.length else m.lim j }) (k := k) g1 (by show cs.length ≤ if k = k then cs.length else m.lim k; rw [if_pos rfl]; exact Nat.le_refl _) (relC_box hx' rfl g5) h (RelL.mono hx' _ _ hu)
    exact (hc.2 _ w us hi' hu').mono fun _ _ ⟨u, m2, r, H', V', h1, h2, h3, h4, h5⟩ => ⟨u, m2, r, H', V', h1, h2, h3, h4, hx'.trans h5⟩
  | obj k x g1 g2 g3 =>
    have hu' := FyL.relO g1 g3.notRow h hu
    exact hc.2 _ w us (hi.kill b) hu'
end Go.Proofs.YtdiblbjchhjccaaDoor
