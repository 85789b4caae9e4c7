import Derived.Test.YtdiblbjchhjccaaDoorA4
set_option linter.unusedSimpArgs false
set_option linter.unusedVariables false
set_option linter.unusedSectionVars false
namespace Go.Proofs.YtdiblbjchhjccaaDoor
def isLd : Op → Bool
  | .load .. => true
  | _ => false
inductive Fl where
  | pl
  | st
  | ld
instance : DecidableEq Fl := fun a b => by cases a <;> cases b <;> first | exact isTrue rfl | exact isFalse (fun h => by cases h)
/-- These boxes stay. -/
def Keep (S : List Nat) (H H' : Hp) : Prop := ∀ b ∈ S, H'[b]? = H[b]?
theorem Keep.of_prefix {H H' : Hp} {b : Nat} {cs : List CV} (h : H <+: H') (hb : H[b]? = some (some cs)) : H'[b]? = some (some cs) := by
  obtain ⟨L, rfl⟩ := h
  exact at_old _ _ hb
/-- What it loads lies in one of these boxes. -/
def inS (S : List Nat) (ev : Operand → CV) : Op → Prop
  | .load _ a => match ev a with | .ptr b _ => b ∈ S | _ => True
  | _ => True
/-- What was in these boxes is there still. -/
def Kp (S : List Nat) (H H' : Hp) : Prop := ∀ b ∈ S, ∀ cs, H[b]? = some (some cs) → H'[b]? = some (some cs)
def rel (S : List Nat) (k : Bool) (H H' : Hp) : Prop := if k then Kp S H H' else H <+: H'
theorem Kp.of {S : List Nat} {H H' : Hp} (h : H <+: H') : Kp S H H' := fun _ _ _ h2 => Keep.of_prefix h h2
theorem Kp.keep {S : List Nat} {H H' : Hp} (h : Keep S H H') : Kp S H H' := fun b hb cs h2 => by rw [h b hb]; exact h2
theorem rel.refl {S : List Nat} {k : Bool} {H : Hp} : rel S k H H := by cases k; exact List.prefix_refl _; exact fun _ _ _ h => h
theorem rel.trans {S : List Nat} {k : Bool} {H H' H'' : Hp} (h1 : rel S k H H') (h2 : rel S k H' H'') : rel S k H H'' := by
  cases k
  · exact List.IsPrefix.trans h1 h2
  · exact fun b hb cs h => h2 b hb cs (h1 b hb cs h)
section
variable {P : Program}
theorem cop_onceF {S : List Nat} {κ : Bool} {ev : Operand → CV} {H : Hp} {V : List Nat} {K : CV → Hp → List Nat → Prop} {op : Op} (hp : pureOp op = true) (hk : pureOk ev op = true) (hS : κ = true → inS S ev op) (h : cop P ev H V K op) :
    ∃ c, K c H V ∧ ∀ H' V' K', (isLd op = true → rel S κ H H') → K' c H' V' → cop P ev H' V' K' op := by
  by_cases hl : isLd op = true ∧ κ = false
  · obtain ⟨hl, rfl⟩ := hl
    obtain ⟨c, h1, h2⟩ := cop_once hp hk h
    exact ⟨c, h1, fun H' V' K' q k => h2 H' V' K' (q hl) k⟩
  · replace hl : isLd op = false ∨ κ = true := by cases κ <;> simp_all
    cases op <;> simp only [pureOp, Bool.false_eq_true] at hp <;> simp only [cop] at h ⊢
    case move x => exact ⟨_, h, fun H' V' K' _ k => k⟩
    case assign x => exact ⟨_, h, fun H' V' K' _ k => k⟩
    case pick c x y =>
      split at h
      · exact ⟨_, h, fun H' V' K' _ k => k⟩
      · exact h.elim
    case load t a =>
      have hκ : κ = true := hl.elim (fun e => by cases e) id
      subst hκ
      obtain ⟨g, n, p, q⟩ := h
      have hS := hS rfl
      split at q
      · rename_i b o he
        obtain ⟨cs, a2, b2⟩ := q
        obtain ⟨c, h1, h2⟩ := ld_once b2
        simp only [inS, he] at hS
        refine ⟨c, h1, fun H' V' K' hl k => ⟨g, n, p, ?_⟩⟩
        exact ⟨cs, hl rfl b hS cs a2, h2 (fun c => K' c H' V') k⟩
      · rename_i cs o he
        obtain ⟨c, h1, h2⟩ := ld_once q
        refine ⟨c, h1, fun H' V' K' hl k => ⟨g, n, p, ?_⟩⟩
        exact h2 (fun c => K' c H' V') k
      · exact q.elim
    case slice =>
      obtain ⟨c, h1, h2⟩ := cslice_once h
      exact ⟨c, h1, fun H' V' K' _ k => h2 (fun c => K' c H' V') k⟩
    case makeFunc fn first captured =>
      split at h
      · exact ⟨_, h, fun H' V' K' _ k => k⟩
      · exact ⟨_, h, fun H' V' K' _ k => k⟩
      · exact h.elim
    case buildSlice t len parts =>
      obtain ⟨e, sz, a, b, c, d, f⟩ := h
      exact ⟨_, f, fun H' V' K' _ k => ⟨e, sz, a, b, c, d, k⟩⟩
    case nilCheck x =>
      split at h
      · exact ⟨_, h, fun H' V' K' _ k => k⟩
      · exact ⟨_, h, fun H' V' K' _ k => k⟩
      · exact ⟨_, h, fun H' V' K' _ k => k⟩
      · exact ⟨_, h, fun H' V' K' _ k => k⟩
      · exact ⟨_, h, fun H' V' K' _ k => k⟩
      · exact h.elim
    case binOp =>
      obtain ⟨c, h1, h2⟩ := cbin_once hk h
      exact ⟨c, h1, fun H' V' K' _ k => h2 (fun c => K' c H' V') k⟩
    case unOp =>
      obtain ⟨c, h1, h2⟩ := cun_once h
      exact ⟨c, h1, fun H' V' K' _ k => h2 (fun c => K' c H' V') k⟩
    case convert s d x =>
      obtain ⟨k, p, q⟩ := h
      split at q
      · rename_i he; exact ⟨_, q, fun H' V' K' _ r => ⟨_, p, by rw [he]; exact r⟩⟩
      · rename_i he
        obtain ⟨bs, a, b⟩ := q
        exact ⟨_, b, fun H' V' K' _ r => ⟨_, p, by rw [he]; exact ⟨bs, a, r⟩⟩⟩
      · rename_i he; exact ⟨_, q, fun H' V' K' _ r => ⟨_, p, by rw [he]; exact r⟩⟩
      · exact q.elim
    case fieldAddr s x f =>
      obtain ⟨o, g, n, p, q⟩ := h
      split at q
      · exact ⟨_, q, fun H' V' K' _ r => ⟨_, _, _, p, r⟩⟩
      · exact ⟨_, q, fun H' V' K' _ r => ⟨_, _, _, p, r⟩⟩
      · exact q.elim
    case field s x f =>
      obtain ⟨o, g, n, p, q⟩ := h
      split at q
      · obtain ⟨c, h1, h2⟩ := ld_once q
        exact ⟨c, h1, fun H' V' K' hl k => ⟨_, _, _, p, h2 (fun c => K' c H' V') k⟩⟩
      · exact q.elim
    case indexAddr =>
      obtain ⟨c, h1, h2⟩ := cidx_once h
      exact ⟨c, h1, fun H' V' K' _ k => h2 (fun c => K' c H' V') k⟩
    case index t x i =>
      obtain ⟨c, h1, h2⟩ := cindex_once h
      exact ⟨c, h1, fun H' V' K' _ k => h2 (fun c => K' c H' V') k⟩
    case extract x i =>
      split at h
      · obtain ⟨a, b⟩ := h
        exact ⟨_, b, fun H' V' K' _ r => ⟨a, r⟩⟩
      · exact h.elim
    case build t parts =>
      obtain ⟨ps, zs, cs, a, b, c⟩ := h
      exact ⟨_, c, fun H' V' K' _ r => ⟨ps, zs, cs, a, b, r⟩⟩
    case call c =>
      split at h
      · rename_i hc; rw [hc] at hp; cases hp
      · rename_i hc; rw [hc] at hp; cases hp
      · obtain ⟨x, y, a, q⟩ := h
        obtain ⟨r, h1, h2⟩ := cmm_once q
        exact ⟨r, h1, fun H' V' K' _ k => ⟨x, y, a, h2 (fun c => K' c H' V') k⟩⟩
      · obtain ⟨x, y, a, q⟩ := h
        obtain ⟨r, h1, h2⟩ := cmm_once q
        exact ⟨r, h1, fun H' V' K' _ k => ⟨x, y, a, h2 (fun c => K' c H' V') k⟩⟩
      · obtain ⟨t, x, a, b, q⟩ := h
        obtain ⟨r, h1, h2⟩ := clen_once q
        exact ⟨r, h1, fun H' V' K' _ k => ⟨t, x, a, b, h2 (fun c => K' c H' V') k⟩⟩
      · rename_i hc; rw [hc] at hp; cases hp
      · exact h.elim
end
section
variable (P : Program) (n : Nat) (ops : List Oper) (fl : Nat → Bool) (S : List Nat)
/-- Whatever order is picked from here on. -/
def SAnyF (K : En → Hp → List Nat → Prop) : Nat → Array Bool → En → Hp → List Nat → Prop
  | 0, listed, E, H, V => Region.ready .any ops.toArray listed = [] ∧ K E H V
  | f + 1, listed, E, H, V => (Region.ready .any ops.toArray listed = [] → K E H V) ∧
    ∀ i ∈ Region.ready .any ops.toArray listed, ∀ o, ops[i]? = some o → cstepE P n ops o E H V (fun E' H' V' => rel S (fl i) H H' ∧ SAnyF K f (listed.setIfInBounds i true) E' H' V')
end

section
variable {P : Program} {n : Nat} {ops : List Oper} {fl : Nat → Bool} {S : List Nat}
/-- It leaves c, now and later. -/
def HldF (P : Program) (n : Nat) (ops : List Oper) (S : List Nat) (κ : Bool) (o : Oper) (c : CV) (E : En) (H : Hp) : Prop :=
  ∀ E2 H2 V2 K2, (∀ d ∈ o.looksAt ops.toArray, E2 d = E d) → (isLd o.op = true → rel S κ H H2) → K2 (putE o.dst c E2) H2 V2 → cstepE P n ops o E2 H2 V2 K2

theorem pure_stepF {κ : Bool} {o : Oper} {E : En} {H : Hp} {V : List Nat} {K : En → Hp → List Nat → Prop} (hp : pureOp o.op = true) (hk : pureOk (evE E) o.op = true) (hS : κ = true → inS S (evE E) o.op) (hs : cstepE P n ops o E H V K) :
    ∃ c, K (putE o.dst c E) H V ∧ HldF P n ops S κ o c E H := by
  unfold cstepE at hs
  obtain ⟨hd, hs⟩ := hs
  have go : cop P (evE E) H V (fun c H' V' => K (putE o.dst c E) H' V') o.op → ∃ c, K (putE o.dst c E) H V ∧ ∀ (E2 : En) (H2 : Hp) (V2 : List Nat) (K2 : En → Hp → List Nat → Prop), (∀ d ∈ o.looksAt ops.toArray, E2 d = E d) → (isLd o.op = true → rel S κ H H2) → K2 (putE o.dst c E2) H2 V2 → cop P (evE E2) H2 V2 (fun c H' V' => K2 (putE o.dst c E2) H' V') o.op := fun q => by
    obtain ⟨c, h1, h2⟩ := cop_onceF hp hk hS q
    refine ⟨c, h1, fun E2 H2 V2 K2 ha hl k => ?_⟩
    rw [cop_local (eval_agree ha)]
    exact h2 H2 V2 (fun c H' V' => K2 (putE o.dst c E2) H' V') hl k
  cases hg : o.guard with
  | none =>
    rw [hg] at hs
    obtain ⟨c, h1, h2⟩ := go hs
    refine ⟨c, h1, fun E2 H2 V2 K2 ha hl k => ?_⟩
    unfold cstepE
    rw [hg]
    exact ⟨hd, h2 E2 H2 V2 K2 ha hl k⟩
  | some jw =>
    obtain ⟨j, want⟩ := jw
    rw [hg] at hs
    dsimp only at hs
    cases hj : gtmp ops j with
    | none => rw [hj] at hs; exact hs.elim
    | some g =>
      rw [hj] at hs
      dsimp only at hs
      split at hs
      · rename_i b hb
        by_cases hbw : b = want
        · obtain ⟨c, h1, h2⟩ := go (hs.1 hbw)
          refine ⟨c, h1, fun E2 H2 V2 K2 ha hl k => ?_⟩
          unfold cstepE
          rw [hg]
          dsimp only
          rw [hj]
          dsimp only
          rw [guard_agree ha hg hj, hb]
          exact ⟨hd, fun _ => h2 E2 H2 V2 K2 ha hl k, fun e => absurd (hbw.symm.trans e) (by cases want <;> simp)⟩
        · have hb2 : b = !want := by cases b <;> cases want <;> simp_all
          refine ⟨.v undef, hs.2 hb2, fun E2 H2 V2 K2 ha hl k => ?_⟩
          unfold cstepE
          rw [hg]
          dsimp only
          rw [hj]
          dsimp only
          rw [guard_agree ha hg hj, hb]
          exact ⟨hd, fun e => absurd e hbw, fun _ => k⟩
      · rename_i vs hb
        refine ⟨.v undef, hs, fun E2 H2 V2 K2 ha hl k => ?_⟩
        unfold cstepE
        rw [hg]
        dsimp only
        rw [hj]
        dsimp only
        rw [guard_agree ha hg hj, hb]
        exact ⟨hd, k⟩
      · exact hs.elim

theorem SAnyF_first {κ : Bool} {K : En → Hp → List Nat → Prop} {i : Nat} {oi : Oper} {c : CV} (hi : ops[i]? = some oi) :
    ∀ (f : Nat) (listed : Array Bool) (E : En) (H : Hp) (V : List Nat),
      (∀ j oj, ops[j]? = some oj → j ≠ i → listed.getD j true = false → (∀ e ∈ oj.after, Region.binds .any e = true → e.on ≠ i) → oi.apart ops.toArray oj = true) →
      (isLd oi.op = true → κ = false → ∀ j oj, ops[j]? = some oj → j ≠ i → listed.getD j true = false → fl j = true → ∃ e ∈ oj.after, Region.binds .any e = true ∧ e.on = i) → i ∈ Region.ready .any ops.toArray listed → HldF P n ops S κ oi c E H →
      SAnyF P n ops fl S K f (listed.setIfInBounds i true) (putE oi.dst c E) H V → SAnyF P n ops fl S K (f + 1) listed E H V := by
  intro f
  induction f with
  | zero =>
    intro listed E H V _ _ hr hy h
    refine ⟨fun e => (by rw [e] at hr; cases hr), fun j hj o ho => ?_⟩
    by_cases hji : j = i
    · subst hji; rw [hi] at ho; cases ho
      exact hy _ _ _ _ (fun _ _ => rfl) (fun _ => rel.refl) ⟨rel.refl, h⟩
    · have := ready_mono hj hji
      rw [h.1] at this; cases this
  | succ f ih =>
    intro listed E H V hfree hst hr hy h
    refine ⟨fun e => (by rw [e] at hr; cases hr), fun j hj o ho => ?_⟩
    by_cases hji : j = i
    · subst hji; rw [hi] at ho; cases ho
      exact hy _ _ _ _ (fun _ _ => rfl) (fun _ => rel.refl) ⟨rel.refl, h⟩
    · have h1 := h.2 j (ready_mono hj hji) o ho
      obtain ⟨hjun, oj, hoj, hall⟩ := mem_ready.1 hj
      rw [List.getElem?_toArray, ho] at hoj; cases hoj
      have hnot : ∀ e ∈ o.after, Region.binds .any e = true → e.on ≠ i := fun e he hb heq => by
        have h1 := hall e he hb
        have h0 := (mem_ready.1 hr).1
        rw [heq] at h1
        rcases Nat.lt_or_ge i listed.size with h' | h'
        · simp [h'] at h0 h1; rw [h0] at h1; cases h1
        · simp [Array.getElem?_eq_none h'] at h1
      obtain ⟨p1, p2, p3⟩ := Oper.apart_spec (hfree j o ho hji hjun hnot)
      have hfree' : ∀ k ok, ops[k]? = some ok → k ≠ i → (listed.setIfInBounds j true).getD k true = false →
          (∀ e ∈ ok.after, Region.binds .any e = true → e.on ≠ i) → oi.apart ops.toArray ok = true := fun k ok hk hki hun hno => by
        refine hfree k ok hk hki ?_ hno
        by_cases hjk : j = k
        · subst hjk; exact hjun
        · rw [getD_set_ne true hjk] at hun; exact hun
      have hput : ∀ {d : Option Nat} {c : CV} {E : En} {t : Nat}, (d ≠ some t) → putE d c E t = E t := fun {d c E t} h => by
        cases d with
        | none => rfl
        | some d => simp only [putE]; rw [if_neg (fun e => h (by rw [e]))]
      refine cstepE_swap (E := putE oi.dst c E) (fun d hd => hput fun e => p1 d e hd) (fun c' H' V' ⟨q1, q2⟩ => ⟨q1, ?_⟩) h1
      rw [putE_comm p2] at q2
      rw [Array.setIfInBounds_comm _ _ (Ne.symm hji)] at q2
      have hst' : isLd oi.op = true → κ = false → ∀ k ok, ops[k]? = some ok → k ≠ i → (listed.setIfInBounds j true).getD k true = false → fl k = true → ∃ e ∈ ok.after, Region.binds .any e = true ∧ e.on = i := fun hl hκ k ok hk hki hun => by
        refine hst hl hκ k ok hk hki ?_
        by_cases hjk : j = k
        · subst hjk; exact hjun
        · rw [getD_set_ne true hjk] at hun; exact hun
      refine ih (listed.setIfInBounds j true) _ H' V' hfree' hst' (ready_mono hr (Ne.symm hji)) (fun E2 H2 V2 K2 ha hl k => hy E2 H2 V2 K2 (fun d hd => ?_) (fun hld => rel.trans ?_ (hl hld)) k) q2
      case refine_2 =>
        cases hfj : fl j with
        | false =>
          rw [hfj] at q1
          cases κ
          · exact q1
          · exact Kp.of q1
        | true =>
          rw [hfj] at q1
          cases κ with
          | true => exact q1
          | false =>
          obtain ⟨e, he, hb, hon⟩ := hst hld rfl j o ho hji hjun hfj
          exact absurd hon (hnot e he hb)
      rw [ha d hd]
      exact hput fun e => p3 d e hd

theorem SAnyF_sound {ro : Option Nat} {Q : Exit → Act → World → Prop} {K : En → Hp → List Nat → Prop} : ∀ (f : Nat) {listed : Array Bool} {E : En} {m : Gh} {w : World} {a : Act} {H : Hp} {V : List Nat},
    Inv m w H V → (∀ k, RelV m w V (E k) (a.tmps.getD k undef)) → a.tmps.size = n → SAnyF P n ops fl S K f listed E H V →
    (∀ E' H' V' a' m' w', K E' H' V' → Inv m' w' H' V' → (∀ k, RelV m' w' V' (E' k) (a'.tmps.getD k undef)) → a'.tmps.size = n → a'.defers = a.defers → Ext m w V m' w' V' → Q .normal a' w') → wpAnyIn (fen ro) 0 P .any ops.toArray Q f listed a w
  | 0, listed, E, m, w, a, H, V, hi, ht, hz, h, hK => ⟨h.1, hK _ _ _ _ _ _ h.2 hi ht hz rfl (Ext.refl m w V)⟩
  | f + 1, listed, E, m, w, a, H, V, hi, ht, hz, h, hK => by
    refine ⟨fun e => hK _ _ _ _ _ _ (h.1 e) hi ht hz rfl (Ext.refl m w V), fun i hr => ?_⟩
    obtain ⟨_, o, ho, _⟩ := mem_ready.1 hr
    rw [List.getElem?_toArray] at ho
    refine cstepE_sound ho hi ht hz (h.2 i hr o ho) fun E' H' V' a' m' w' k1 k2 k3 k4 k5 k6 => ?_
    exact SAnyF_sound f k2 k3 k4 k1.2 fun E2 H2 V2 a2 m2 w2 q1 q2 q3 q4 q5 q6 => hK _ _ _ _ _ _ q1 q2 q3 q4 (q5.trans k5) (k6.trans q6)

/-! ### Orders, as a tree -/
/-- n: nothing is left; s: this one next; c: this call next, whose result hangs on nothing but its arguments; f: two may come next. -/
inductive OT where
  | n
  | s (i : Nat) (b : Fl) (t : OT)
  | c (i : Nat) (t : OT)
  | f (i : Nat) (b : Fl) (s : OT) (j : Nat) (b' : Fl) (t : OT)
def flg (l : List Nat) (i : Nat) : Bool := l.contains i
/-- What stores comes after this load. -/
def ldOk (ops : List Oper) (l : List Nat) (i : Nat) (listed : Array Bool) : Bool :=
  l.all fun p => p == i || listed.getD p true || (match ops[p]? with | some o => o.after.any fun e => Region.binds .any e && e.on == i | none => true)
theorem ldOk_spec {l : List Nat} {i : Nat} {listed : Array Bool} (h : ldOk ops l i listed = true) : ∀ j oj, ops[j]? = some oj → j ≠ i → listed.getD j true = false → flg l j = true → ∃ e ∈ oj.after, Region.binds .any e = true ∧ e.on = i := fun j oj hj hne hun hf => by
  have h1 := List.all_eq_true.1 h j (by simpa [flg] using hf)
  simp only [hun, Bool.or_false, hj, Bool.or_eq_true, beq_iff_eq] at h1
  rcases h1 with h1 | h1
  · exact absurd h1 hne
  · obtain ⟨e, h1, h2⟩ := Array.any_eq_true'.1 h1
    rw [Bool.and_eq_true] at h2
    exact ⟨e, h1, h2.1, by simpa using h2.2⟩
def ordT (ops : List Oper) (l0 : List Nat) : OT → Nat → Array Bool → Bool
  | .n, f, listed => f == 0 && (Region.ready .any ops.toArray listed).isEmpty
  | .s i b t, f, listed =>
    flg l0 i == (b == Fl.st) &&
    ((match ops[i]? with
      | some o => (pureOp o.op && (Region.ready .any ops.toArray listed).contains i && Region.free .any ops.toArray listed i && (!isLd o.op || b == Fl.ld || ldOk ops l0 i listed)) || Region.ready .any ops.toArray listed == [i]
      | none => false) && f != 0 && ordT ops l0 t (f - 1) (listed.setIfInBounds i true))
  | .c i t, f, listed =>
    (match ops[i]? with
      | some o => (Region.ready .any ops.toArray listed).contains i && Region.free .any ops.toArray listed i && !isLd o.op && o.guard.isNone
      | none => false) && f != 0 && ordT ops l0 t (f - 1) (listed.setIfInBounds i true)
  | .f i b s j b' t, f, listed =>
    flg l0 i == (b == Fl.st) && flg l0 j == (b' == Fl.st) && Region.ready .any ops.toArray listed == [i, j] && f != 0 && ordT ops l0 s (f - 1) (listed.setIfInBounds i true) && ordT ops l0 t (f - 1) (listed.setIfInBounds j true)
/-- The operation leaves c, whatever the boxes and the tokens. -/
def FnOp (P : Program) (ev : Operand → CV) (op : Op) (c : CV) : Prop := ∀ (H : Hp) (V : List Nat) (K : CV → Hp → List Nat → Prop), K c H V → cop P ev H V K op
theorem hcall_mono {P : Program} {H : Hp} {V : List Nat} {x : CV} {args : List CV} {K K' : CV → Hp → List Nat → Prop} (h : ∀ c H V, K c H V → K' c H V) : hcall P H V x args K → hcall P H V x args K' := by
  cases x <;> simp only [hcall]
  case fn => exact fun q => CC.mono q h
  case bm => exact fun q => CC.mono q h
  case yl => exact fun q => YC.mono q h
  all_goals exact id
theorem FnOp_call {P : Program} {ev : Operand → CV} {f : Operand} {args : Array Operand} {tys : Array TypeId} {c : CV} : FnOp P ev (.call ⟨.value f, args, tys⟩) c ↔ ∀ H V, hcall P H V (ev f) (args.toList.map ev) (Pu c H V) := by
  constructor
  · intro h H V
    have := h H V (Pu c H V) ⟨rfl, rfl, rfl⟩
    rwa [cop_call] at this
  · intro h H V K k
    rw [cop_call]
    exact hcall_mono (fun c' H' V' ⟨e1, e2, e3⟩ => by subst e1 e2 e3; exact k) (h H V)
/-- The operations in these orders. -/
def crunT (P : Program) (n : Nat) (ops : List Oper) (S : List Nat) : OT → Tm → Hp → List Nat → (Tm → Hp → List Nat → Prop) → Prop
  | .n, T, H, V, K => K T H V
  | .s i b t, T, H, V, K =>
    match ops[i]? with
    | some o => pureOk (evT T) o.op = true ∧ (b = Fl.ld → inS S (evT T) o.op) ∧ crun P n ops [o] T H V fun T' H' V' => rel S (b == Fl.st) H H' ∧ crunT P n ops S t T' H' V' K
    | none => False
  | .c i t, T, H, V, K =>
    match ops[i]? with
    | some o => dOk o.dst n ∧ ∃ c, FnOp P (evT T) o.op c ∧ crunT P n ops S t (tput o.dst c T) H V K
    | none => False
  | .f i b s j b' t, T, H, V, K =>
    (match ops[i]? with
    | some o => crun P n ops [o] T H V fun T' H' V' => rel S (b == Fl.st) H H' ∧ crunT P n ops S s T' H' V' K
    | none => False) ∧
    (match ops[j]? with
    | some o => crun P n ops [o] T H V fun T' H' V' => rel S (b' == Fl.st) H H' ∧ crunT P n ops S t T' H' V' K
    | none => False)

theorem crunT_any {S : List Nat} {l0 : List Nat} {K : Tm → Hp → List Nat → Prop} : ∀ (l : OT) (f : Nat) (listed : Array Bool) (T : Tm) (H : Hp) (V : List Nat), ordT ops l0 l f listed = true → crunT P n ops S l T H V K →
    SAnyF P n ops (flg l0) S (fun E H V => ∃ T', tget T' = E ∧ K T' H V) f listed (tget T) H V
  | .n, f, listed, T, H, V, ho, h => by
    rw [ordT, Bool.and_eq_true] at ho
    obtain ⟨h0, ho⟩ := ho
    obtain rfl : f = 0 := by simpa using h0
    exact ⟨by simpa using ho, T, rfl, h⟩
  | .s i b t, f, listed, T, H, V, ho, h => by
    rw [ordT, Bool.and_eq_true, Bool.and_eq_true, Bool.and_eq_true] at ho
    rw [crunT] at h
    obtain ⟨hfb, ⟨ho, hf0⟩, hrest⟩ := ho
    obtain ⟨f, rfl⟩ : ∃ g, f = g + 1 := ⟨f - 1, by have : f ≠ 0 := by simpa using hf0
                                                   omega⟩
    rw [Nat.add_sub_cancel] at hrest
    replace hfb : flg l0 i = (b == Fl.st) := by simpa using hfb
    cases hi : ops[i]? with
    | none => rw [hi] at h; exact h.elim
    | some o =>
      rw [hi] at h ho
      dsimp only at h ho
      obtain ⟨hk, hin, h⟩ := h
      have h1 := crun_one h
      rw [Bool.or_eq_true] at ho
      rcases ho with ho | ho
      · rw [Bool.and_eq_true, Bool.and_eq_true, Bool.and_eq_true] at ho
        obtain ⟨⟨⟨hp, hr⟩, hf⟩, hld⟩ := ho
        obtain ⟨c, ⟨T', e1, _, e3⟩, hh⟩ := pure_stepF (κ := b == Fl.ld) (S := S) hp (by rw [← evT_eq]; exact hk) (fun e => by rw [← evT_eq]; exact hin (by simpa using e)) h1
        have := crunT_any t f _ T' H V hrest e3
        rw [e1] at this
        exact SAnyF_first hi f listed _ H V (fun j oj hj hne hun hno => Region.free_spec (by rw [List.getElem?_toArray]; exact hi) hf j oj (by rw [List.getElem?_toArray]; exact hj) hne hun hno) (fun hl hκ => ldOk_spec (by rw [hl, hκ] at hld; simpa using hld)) (by simpa using hr) hh this
      · have hr : Region.ready .any ops.toArray listed = [i] := by simpa using ho
        refine ⟨fun e => (by rw [hr] at e; cases e), fun j hj o' ho' => ?_⟩
        rw [hr] at hj
        obtain rfl : j = i := by simpa using hj
        rw [hi] at ho'; cases ho'
        refine cstepE_mono (fun E H' V' ⟨T', e1, e2, e3⟩ => ?_) h1
        subst e1
        exact ⟨by rw [hfb]; exact e2, crunT_any t f _ T' H' V' hrest e3⟩
  | .c i t, f, listed, T, H, V, ho, h => by
    rw [ordT, Bool.and_eq_true, Bool.and_eq_true] at ho
    rw [crunT] at h
    obtain ⟨⟨ho, hf0⟩, hrest⟩ := ho
    obtain ⟨f, rfl⟩ : ∃ g, f = g + 1 := ⟨f - 1, by have : f ≠ 0 := by simpa using hf0
                                                   omega⟩
    rw [Nat.add_sub_cancel] at hrest
    cases hi : ops[i]? with
    | none => rw [hi] at h; exact h.elim
    | some o =>
      rw [hi] at h ho
      dsimp only at h ho
      rw [Bool.and_eq_true, Bool.and_eq_true, Bool.and_eq_true] at ho
      obtain ⟨⟨⟨hr, hf⟩, hld⟩, hg⟩ := ho
      replace hld : isLd o.op = false := by simpa using hld
      replace hg : o.guard = none := by simpa using hg
      obtain ⟨hd, c, hfn, h⟩ := h
      have := crunT_any t f _ _ H V hrest h
      rw [tget_tput] at this
      refine SAnyF_first (κ := true) hi f listed _ H V (fun j oj hj hne hun hno => Region.free_spec (by rw [List.getElem?_toArray]; exact hi) hf j oj (by rw [List.getElem?_toArray]; exact hj) hne hun hno) (fun hl => by rw [hld] at hl; cases hl) (by simpa using hr) (fun E2 H2 V2 K2 ha _ k => ?_) this
      unfold cstepE
      rw [hg]
      refine ⟨hd, ?_⟩
      rw [cop_local (eval_agree ha), ← evT_eq]
      exact hfn H2 V2 _ k
  | .f i b s j b' t, f, listed, T, H, V, ho, h => by
    rw [ordT, Bool.and_eq_true, Bool.and_eq_true, Bool.and_eq_true, Bool.and_eq_true, Bool.and_eq_true] at ho
    rw [crunT] at h
    obtain ⟨⟨⟨⟨⟨hfb, hfb'⟩, hr⟩, hf0⟩, hs⟩, ht⟩ := ho
    obtain ⟨f, rfl⟩ : ∃ g, f = g + 1 := ⟨f - 1, by have : f ≠ 0 := by simpa using hf0
                                                   omega⟩
    rw [Nat.add_sub_cancel] at hs ht
    replace hfb : flg l0 i = (b == Fl.st) := by simpa using hfb
    replace hfb' : flg l0 j = (b' == Fl.st) := by simpa using hfb'
    replace hr : Region.ready .any ops.toArray listed = [i, j] := by simpa using hr
    refine ⟨fun e => (by rw [hr] at e; cases e), fun q hq o' ho' => ?_⟩
    rw [hr] at hq
    simp only [List.mem_cons, List.not_mem_nil, or_false] at hq
    rcases hq with rfl | rfl
    · have h := h.1
      rw [ho'] at h
      refine cstepE_mono (fun E H' V' ⟨T', e1, e2, e3⟩ => ?_) (crun_one h)
      subst e1
      exact ⟨by rw [hfb]; exact e2, crunT_any s f _ T' H' V' hs e3⟩
    · have h := h.2
      rw [ho'] at h
      refine cstepE_mono (fun E H' V' ⟨T', e1, e2, e3⟩ => ?_) (crun_one h)
      subst e1
      exact ⟨by rw [hfb']; exact e2, crunT_any t f _ T' H' V' ht e3⟩

/-- A REGION WHOSE ORDER IS DRAWN. -/
theorem SWp.drawn0T {S l0 : List Nat} {id nb nv : Nat} {Q : Exit → Tm → Hp → List Nat → Prop} {T : Tm} {H : Hp} {V : List Nat} (l : OT) (hm : P.follows .mixedOrders = true) (ho : ordT ops l0 l ops.length (Array.replicate ops.length false) = true)
    (h : crunT P n ops S l T H V (Q .normal)) : SWp P n nb nv (.region id ops.toArray true) Q T H V := by
  intro ro D m w a m0 w0 V0 h1 h2 h3 hx hs
  refine wpIn_region_any hm ?_
  have hd : Inv m { w with drawn := w.drawn + 1 } H V ∧ Ext m w V m { w with drawn := w.drawn + 1 } V := hs.inv.drew
  have := crunT_any l ops.length _ T H V ho h
  simp only [List.size_toArray]
  refine SAnyF_sound (fl := flg l0) (S := S) (Q := fun e a' w' => ∃ T' H' V' m', Q e T' H' V' ∧ St D n m' w' a' T' H' V' ∧ Ext m0 w0 V0 m' w' V') ops.length hd.1 (fun k => RelV.mono hd.2 _ _ (hs.tm k)) hs.size this fun E' H' V' a' m' w' k1 k2 k3 k4 k5 k6 => ?_
  obtain ⟨T', e, hq⟩ := k1
  subst e
  exact ⟨T', H', V', m', hq, ⟨k2, k3, k4, by rw [k5]; exact hs.df.mono (hd.2.trans k6)⟩, (hx.trans hd.2).trans k6⟩
end
def inA (S : List Nat) : CV → Prop
  | .ptr b _ => b ∈ S
  | _ => True
def inSF (b : Fl) (S : List Nat) (ev : Operand → CV) (op : Op) : Prop := b = Fl.ld → inS S ev op
@[go_sem] theorem inSF_pl (S : List Nat) (ev : Operand → CV) (op : Op) : inSF .pl S ev op = True := eq_true fun h => by cases h
@[go_sem] theorem inSF_st (S : List Nat) (ev : Operand → CV) (op : Op) : inSF .st S ev op = True := eq_true fun h => by cases h
@[go_sem] theorem inSF_ld (S : List Nat) (ev : Operand → CV) (t : TypeId) (a : Operand) : inSF .ld S ev (.load t a) = inA S (ev a) := by
  refine propext ⟨fun h => ?_, fun h _ => ?_⟩
  · have := h rfl; simp only [inS] at this; unfold inA; split <;> simp_all
  · simp only [inS]; unfold inA at h; split <;> simp_all
@[go_sem] theorem inA_ptr (S : List Nat) (b o : Nat) : inA S (.ptr b o) = (b ∈ S) := rfl
@[go_sem] theorem inA_eptr (S : List Nat) (b : List CV) (o : Nat) : inA S (.eptr b o) = True := rfl
def relF (S : List Nat) (b : Fl) (H H' : Hp) : Prop := rel S (b == Fl.st) H H'
@[go_sem] theorem relF_pl (S : List Nat) (H H' : Hp) : relF S .pl H H' = (H <+: H') := rfl
@[go_sem] theorem relF_ld (S : List Nat) (H H' : Hp) : relF S .ld H H' = (H <+: H') := rfl
@[go_sem] theorem relF_st (S : List Nat) (H H' : Hp) : relF S .st H H' = Kp S H H' := rfl
@[go_sem] theorem Kp_nil (H H' : Hp) : Kp [] H H' = True := eq_true fun b hb => by cases hb
@[go_sem] theorem Kp_self (S : List Nat) (H : Hp) : Kp S H H = True := eq_true fun _ _ _ h => h
theorem Kp_set {S : List Nat} {H : Hp} {k : Nat} {x : Option (List CV)} (h : k ∉ S) : Kp S H (H.set k x) := fun b hb cs h2 => by
  rw [List.getElem?_set_ne (fun e => h (by rw [e]; exact hb))]; exact h2
/-- The orders, over what simp is to look at. -/
def crunTL (P : Program) (n : Nat) (ds : List (Option Tmp)) (ops : List Oper) (S : List Nat) : OT → Tm → Hp → List Nat → (Tm → Hp → List Nat → Prop) → Prop
  | .n, T, H, V, K => K T H V
  | .s i b t, T, H, V, K => withO (ops[i]?) fun o => pureOk (evT T) o.op = true ∧ inSF b S (evT T) o.op ∧ crunL P n ds [o] T H V fun T' H' V' => relF S b H H' ∧ crunTL P n ds ops S t T' H' V' K
  | .c i t, T, H, V, K => withO (ops[i]?) fun o => dOk o.dst n ∧ ∃ c, FnOp P (evT T) o.op c ∧ crunTL P n ds ops S t (tput o.dst c T) H V K
  | .f i b s j b' t, T, H, V, K => (withO (ops[i]?) fun o => crunL P n ds [o] T H V fun T' H' V' => relF S b H H' ∧ crunTL P n ds ops S s T' H' V' K) ∧
      (withO (ops[j]?) fun o => crunL P n ds [o] T H V fun T' H' V' => relF S b' H H' ∧ crunTL P n ds ops S t T' H' V' K)
def crunTS (P : Program) (n : Nat) (ds : List (Option Tmp)) (ops : List Oper) (S : List Nat) (l : OT) (T : Tm) (H : Hp) (V : List Nat) (K : Tm → Hp → List Nat → Prop) : Prop := crunTL P n ds ops S l T H V K
theorem crunT_lite (P : Program) (n : Nat) (ops : List Oper) (S : List Nat) : ∀ (l : OT) (T : Tm) (H : Hp) (V : List Nat) (K : Tm → Hp → List Nat → Prop), crunT P n ops S l T H V K = crunTL P n (ops.map (·.dst)) ops S l T H V K
  | .n, _, _, _, _ => rfl
  | .s i b t, T, H, V, K => by
    rw [crunT, crunTL, withO_eq]
    cases ops[i]? with
    | none => simp
    | some o => simp [crun_lite, crunT_lite P n ops S t, inSF, relF]
  | .c i t, T, H, V, K => by
    rw [crunT, crunTL, withO_eq]
    cases ops[i]? with
    | none => simp
    | some o => simp [crunT_lite P n ops S t]
  | .f i b s j b' t, T, H, V, K => by
    rw [crunT, crunTL, withO_eq, withO_eq]
    congr 1
    · cases ops[i]? with
      | none => simp
      | some o => simp [crun_lite, crunT_lite P n ops S s, relF]
    · cases ops[j]? with
      | none => simp
      | some o => simp [crun_lite, crunT_lite P n ops S t, relF]
section
variable {P : Program} {n : Nat} {ds : List (Option Tmp)} {ls : List Oper} {S : List Nat} {T T' : Tm} {H H' : Hp} {V V' : List Nat} {K : Tm → Hp → List Nat → Prop}
@[go_sem] theorem crunTS_eq (l : OT) : crunTS P n ds ls S l T H V K = crunTL P n ds ls S l T H V K := rfl
@[go_sem] theorem crunTL_nil : crunTL P n ds ls S .n T H V K = K T H V := rfl
/-- What follows an operation. -/
def contT (b : Fl) (P : Program) (n : Nat) (ds : List (Option Tmp)) (ls : List Oper) (S : List Nat) (r : OT) (H : Hp) (K : Tm → Hp → List Nat → Prop) : Tm → Hp → List Nat → Prop := fun T' H' V' => relF S b H H' ∧ crunTL P n ds ls S r T' H' V' K
@[go_sem ↓] theorem contT_eq (b : Fl) (r : OT) : contT b P n ds ls S r H K T H' V = (relF S b H H' ∧ crunTL P n ds ls S r T H' V K) := id rfl
@[go_sem] theorem crunTL_s (i : Nat) (b : Fl) (r : OT) : crunTL P n ds ls S (.s i b r) T H V K = withO (ls[i]?) fun o => pureOk (evT T) o.op = true ∧ inSF b S (evT T) o.op ∧ crunL P n ds [o] T H V (contT b P n ds ls S r H K) := rfl
/-- What follows a call that hangs on its arguments alone: left to be shown by hand. -/
def contC (P : Program) (n : Nat) (ds : List (Option Tmp)) (ls : List Oper) (S : List Nat) (d : Option Tmp) (f : CV) (args : List CV) (r : OT) (T : Tm) (H : Hp) (V : List Nat) (K : Tm → Hp → List Nat → Prop) : Prop :=
  ∃ c, (∀ H V, hcall P H V f args (Pu c H V)) ∧ crunTL P n ds ls S r (tput d c T) H V K
def hfn (P : Program) (n : Nat) (ds : List (Option Tmp)) (ls : List Oper) (S : List Nat) (d : Option Tmp) (op : Op) (r : OT) (T : Tm) (H : Hp) (V : List Nat) (K : Tm → Hp → List Nat → Prop) : Prop := ∃ c, FnOp P (evT T) op c ∧ crunTL P n ds ls S r (tput d c T) H V K
@[go_sem] theorem hfn_call (d : Option Tmp) (f : Operand) (args : Array Operand) (tys : Array TypeId) (r : OT) : hfn P n ds ls S d (.call ⟨.value f, args, tys⟩) r T H V K = contC P n ds ls S d (evT T f) (args.toList.map (evT T)) r T H V K := by
  unfold hfn contC
  congr 1; funext c
  rw [FnOp_call]
@[go_sem] theorem crunTL_c (i : Nat) (r : OT) : crunTL P n ds ls S (.c i r) T H V K = withO (ls[i]?) fun o => dOk o.dst n ∧ hfn P n ds ls S o.dst o.op r T H V K := rfl
@[go_sem] theorem crunTL_f (i : Nat) (b : Fl) (s : OT) (j : Nat) (b' : Fl) (t : OT) : crunTL P n ds ls S (.f i b s j b' t) T H V K = ((withO (ls[i]?) fun o => crunL P n ds [o] T H V (contT b P n ds ls S s H K)) ∧ (withO (ls[j]?) fun o => crunL P n ds [o] T H V (contT b' P n ds ls S t H K))) := rfl
@[congr] theorem crunTL_congr {l : OT} (h1 : T = T') (h2 : H = H') (h3 : V = V') : crunTL P n ds ls S l T H V K = crunTL P n ds ls S l T' H' V' K := by subst h1 h2 h3; rfl
@[congr] theorem crunTS_congr {ds' : List (Option Tmp)} {l : OT} (h0 : ds = ds') (h1 : T = T') (h2 : H = H') (h3 : V = V') : crunTS P n ds ls S l T H V K = crunTS P n ds' ls S l T' H' V' K := by subst h0 h1 h2 h3; rfl
@[congr] theorem contC_congr {d : Option Tmp} {f f' : CV} {args args' : List CV} {r : OT} (h1 : T = T') (h2 : H = H') (h3 : V = V') (h4 : f = f') (h5 : args = args') : contC P n ds ls S d f args r T H V K = contC P n ds ls S d f' args' r T' H' V' K := by subst h1 h2 h3 h4 h5; rfl
end
theorem SWp.drawnT {P : Program} {n id nb nv : Nat} {ops : List Oper} {Q : Exit → Tm → Hp → List Nat → Prop} {T : Tm} {H : Hp} {V : List Nat} (S l0 : List Nat) (l : OT) (hm : P.follows .mixedOrders = true) (ho : ordT ops l0 l ops.length (Array.replicate ops.length false) = true)
    (h : crunTS P n (ops.map (·.dst)) ops S l T H V (Q .normal)) : SWp P n nb nv (.region id ops.toArray true) Q T H V := SWp.drawn0T l hm ho (by rw [crunT_lite]; exact h)
end Go.Proofs.YtdiblbjchhjccaaDoor
namespace Go.Proofs.YtdiblbjchhjccaaDoor

variable {P : Program} {m : Gh} {w : World} {H : Hp} {V : List Nat}

/-- A new block of which nothing is kept. -/
theorem step_push {w' : World} {o : Obj} (hi : Inv m w H V) (hp : Pushed w w' o) : Inv m w' H V ∧ Ext m w V m w' V := by
  have hx : Ext m w V m w' V := by
    refine ⟨hp.os, hp.tape, hp.output, by rw [hp.size]; omega, fun k c e fr h => ⟨c, hp.some h, rfl⟩, fun k => Nat.le_refl _, fun k o ho => ?_, fun k ds h => hp.some h, fun k hk _ _ => hp.old hk, fun _ _ h => h, fun b _ h => .inl ⟨b, h⟩, fun _ _ h => .inl h,
      fun t v h => ⟨v, h, Nat.le_refl _, fun _ => ⟨rfl, fun k hk => rfl⟩⟩⟩
    refine hp.cell ?_
    rcases Nat.lt_or_ge k w.heap.size with h | h
    · exact h
    · rw [hi.lim_new h] at ho; omega
  refine ⟨⟨hi.boxlen, hi.tiplen, fun k hk => ?_, fun t k h => ?_, fun b k h => ?_, hi.uniq, fun b c h => ?_⟩, hx⟩
  · obtain ⟨c, e', fr, h1, h2⟩ := hi.limv k hk
    exact ⟨c, e', fr, hp.some h1, h2⟩
  · obtain ⟨⟨c, e', h1⟩, h2⟩ := hi.tips t k h
    exact ⟨⟨c, e', hp.some h1⟩, h2⟩
  · have := hi.boxes b k h
    rw [hp.size]; omega
  · exact (hi.live b c h).mono hx fun k hk => ⟨hp.old (hi.boxes b k hk), rfl⟩

theorem relK_tget {tmps : Array Value} : ∀ {ks : List Nat} {cs : List CV}, RelK m w V tmps ks cs → RelT m w V (ks.zip cs) tmps
  | k :: ks, c :: cs, h => fun n => by
    rw [List.zip_cons_cons]
    simp only [tget]
    by_cases hn : n = k
    · rw [if_pos hn, hn]; exact h.1
    · rw [if_neg hn]; exact relK_tget h.2 n
  | [], [], _ => fun n => by rw [List.zip_nil_left, tget, RelV]; trivial
  | [], _ :: _, h => h.elim
  | _ :: _, [], h => h.elim
theorem relK_of {tmps : Array Value} : ∀ {T : Tm}, (∀ p ∈ T, RelV m w V p.2 (tmps.getD p.1 undef)) → RelK m w V tmps (T.map (·.1)) (T.map (·.2))
  | [], _ => trivial
  | p :: T, h => ⟨h p (by simp), relK_of fun q hq => h q (List.mem_cons_of_mem _ hq)⟩
theorem zip_fst_snd : ∀ (T : Tm), (T.map (·.1)).zip (T.map (·.2)) = T
  | [] => rfl
  | p :: T => by rw [List.map_cons, List.map_cons, List.zip_cons_cons, zip_fst_snd T]

/-- The parameters of a round. -/
def tps : List Nat → List CV → Tm → Tm
  | p :: ps, c :: cs, T => tps ps cs ((p, c) :: T)
  | _, _, T => T
theorem tps_rel {n : Nat} : ∀ {ps : List Nat} {cs : List CV} {us : List Value} {T : Tm} {tmps : Array Value}, RelT m w V T tmps → tmps.size = n → (∀ p ∈ ps, p < n) → cs.length = ps.length → RelL m w V cs us →
    RelT m w V (tps ps cs T) ((ps.zip us).foldl (fun tmps (t, a) => tmps.setIfInBounds t a) tmps) ∧ ((ps.zip us).foldl (fun (tmps : Array Value) (t, a) => tmps.setIfInBounds t a) tmps).size = n
  | [], [], us, T, tmps, h, hn, _, _, _ => ⟨h, hn⟩
  | p :: ps, c :: cs, us, T, tmps, h, hn, hp, hl, hr => by
    rw [RelL] at hr
    obtain ⟨u, r, rfl, h1, h2⟩ := hr
    have h3 := RelT.put (a := { tmps := tmps, defers := [] }) (d := some p) h h1 (by show p < tmps.size; rw [hn]; exact hp p (by simp))
    exact tps_rel (tmps := tmps.setIfInBounds p u) h3 (by simp [hn]) (fun q hq => hp q (List.mem_cons_of_mem _ hq)) (by simpa using hl) h2
  | [], _ :: _, _, _, _, _, _, _, hl, _ => by simp at hl
  | _ :: _, [], _, _, _, _, _, _, hl, _ => by simp at hl

section
variable (n : Nat) (ps : Array Nat) (as bd : Code) (T : Tm)
/-- A loop's record. -/
def lpc (st : LoopState) (pd : Option Code) : CV := .objl st pd n ps as bd (T.map (·.1)) (T.map (·.2))
/-- What a round leaves. -/
def RQ (b : Nat) (K : CV → Hp → List Nat → Prop) : Exit → Tm → Hp → List Nat → Prop
  | .normal, _, H, V => H[b]? = some (some [lpc n ps as bd T .busy none]) ∧ K (.v (.bool true)) (H.set b (some [lpc n ps as bd T .ready none])) V
  | .ret, _, H, V => H[b]? = some (some [lpc n ps as bd T .busy none]) ∧ K (.v (.bool false)) (H.set b (some [lpc n ps as bd T .done (some .ret)])) V
  | .exit id, _, H, V => H[b]? = some (some [lpc n ps as bd T .busy none]) ∧ K (.v (.bool false)) (H.set b (some [lpc n ps as bd T .done (some (.exit id))])) V
  | _, _, _, _ => False
end
theorem live_loop {n : Nat} {ps : Array Nat} {as bd : Code} {T : Tm} {st : LoopState} {pd : Option Code} (hi : Inv m w H V) {b k : Nat} (hb : H[b]? = some (some [lpc n ps as bd T st pd])) (hk : m.box[b]? = some k) :
    ∃ tmps fn df, w.heap[k]? = some (.loop { state := st, pending := pd, fn := fn, tmps := tmps, params := ps, assign := as, body := bd, defers := df }) ∧ tmps.size = n ∧ RelT m w V T tmps ∧ RelK m w V tmps (T.map (·.1)) (T.map (·.2)) := by
  cases hi.live b _ hb with
  | row k' c0 e0 g1 g2 g3 g4 g5 =>
    obtain ⟨u, _, q, _⟩ := relC_get g5 0 _ rfl
    rw [lpc, RelV] at q; exact q.elim
  | obj k' x' g1 g2 g3 =>
    rw [hk] at g1; cases g1; cases g2
    obtain ⟨t, f, d, h1, h2, h3⟩ := g3
    exact ⟨t, f, d, h1, h2, by have := relK_tget h3; rwa [zip_fst_snd] at this, h3⟩
/-- The record is given another state. -/
theorem loop_turn {n : Nat} {ps : Array Nat} {as bd : Code} {T : Tm} {st st' : LoopState} {pd pd' : Option Code} (hi : Inv m w H V) {b k : Nat} (hb : H[b]? = some (some [lpc n ps as bd T st pd])) (hk : m.box[b]? = some k) {r : Loop} (hr : w.heap[k]? = some (.loop r)) :
    Inv m (w.putObj k (.loop { r with state := st', pending := pd' })) (H.set b (some [lpc n ps as bd T st' pd'])) V ∧ Ext m w V m (w.putObj k (.loop { r with state := st', pending := pd' })) V := by
  obtain ⟨t, f, d, h1, h2, _, h3⟩ := live_loop hi hb hk
  rw [hr] at h1; cases h1
  exact step_setObj (y := lpc n ps as bd T st' pd') hi hb hk ⟨t, f, d, hr, h2, h3⟩ (by intros; simp) fun hx hnew => ⟨t, f, d, hnew, h2, h3.mono hx⟩

/-- A ROUND. -/
theorem YC.of_round {n b : Nat} {ps : Array Nat} {as bd : Code} {T : Tm} {args : List CV} {K : CV → Hp → List Nat → Prop} (hb : H[b]? = some (some [lpc n ps as bd T .ready none])) (hl : args.length = ps.size) (hps : ps.toList.all (fun p => decide (p < n)) = true)
    (h : SWp P n H.length V.length as (thn (fun T1 H1 V1 => H1[b]? = some (some [lpc n ps as bd T .ready none]) ∧ SWp P n H.length V.length bd (RQ n ps as bd T b K) T1 (H1.set b (some [lpc n ps as bd T .busy none])) V1) (fun _ _ _ _ => False)) (tps ps.toList args T) H V) : YC P b args H V K := by
  intro m w us k hi hu hk
  obtain ⟨tmps, fn, df, g1, g2, g3, _⟩ := live_loop hi hb hk
  have hus := relL_length hu
  have hy := run_yield (P := P) (w := w) (l := k) (args := us.toArray) g1 (by simp; omega)
  refine ⟨fn, _, as, bd, hy, roundIn_of_wpIn (F := Fence.wide) trivial ?_⟩
  obtain ⟨q1, q2⟩ := tps_rel (n := n) (ps := ps.toList) g3 g2 (fun p hp => by simpa using List.all_eq_true.1 hps p hp) (by simpa using hl) hu
  have hfold : ((ps.zip us.toArray).foldl (fun (tmps : Array Value) (t, a) => tmps.setIfInBounds t a) tmps) = ((ps.toList.zip us).foldl (fun tmps (t, a) => tmps.setIfInBounds t a) tmps) := by
    rw [← Array.foldl_toList]
    simp [Array.toList_zip]
  have hst : St ⟨[], w.heap.size⟩ n m w { tmps := (ps.zip us.toArray).foldl (fun (tmps : Array Value) (t, a) => tmps.setIfInBounds t a) tmps, defers := [] } (tps ps.toList args T) H V :=
    ⟨hi, by rw [hfold]; exact q1, by rw [hfold]; exact q2, DOk.own _ _⟩
  refine wpIn_mono (h (some k) _ m w _ m w V hi.boxlen hi.tiplen rfl (Ext.refl m w V) hst) fun e a1 w1 ⟨T1, H1, V1, m1, k1, s1, x1⟩ => ?_
  cases e with
  | normal =>
    obtain ⟨k1, k2⟩ := k1
    have hk1 := x1.box _ _ hk
    obtain ⟨t1, f1, d1, r1, r2, _, r3⟩ := live_loop s1.inv k1 hk1
    obtain ⟨i1, x2⟩ := loop_turn (st' := .busy) (pd' := none) s1.inv k1 hk1 r1
    refine ⟨_, run_beginRound r1 rfl, ?_⟩
    have s2 : St ⟨[], w.heap.size⟩ n m1 _ a1 T1 (H1.set b (some [lpc n ps as bd T .busy none])) V1 := ⟨i1, s1.tm.mono x2, s1.size, s1.df.mono x2⟩
    refine wpIn_mono (k2 (some k) _ m1 _ a1 m w V hi.boxlen hi.tiplen rfl (x1.trans x2) s2) fun e a3 w3 ⟨T3, H3, V3, m3, k3, s3, x3⟩ => ?_
    have fin : ∀ (st : LoopState) (jump : Option Code), (if jump.isNone then LoopState.ready else .done) = st → H3[b]? = some (some [lpc n ps as bd T .busy none]) → K (.v (.bool jump.isNone)) (H3.set b (some [lpc n ps as bd T st jump])) V3 →
        ∃ v w', (Instr.endRound k jump).run P w3 = .ok v w' ∧ ∃ t m' H' V', Ending.returned v = .returned (.bool t) ∧ K (.v (.bool t)) H' V' ∧ Inv m' w' H' V' ∧ Ext m w V m' w' V' := fun st jump hst hb3 hK => by
      have hk3 := x3.box _ _ hk
      obtain ⟨t4, f4, d4, r4, _⟩ := live_loop s3.inv hb3 hk3
      obtain ⟨i4, x4⟩ := loop_turn (st' := st) (pd' := jump) s3.inv hb3 hk3 r4
      have := run_endRound (P := P) jump r4
      rw [hst] at this
      exact ⟨_, _, this, jump.isNone, m3, _, V3, rfl, hK, i4, x3.trans x4⟩
    cases e with
    | normal => exact fin .ready none rfl k3.1 k3.2
    | ret => exact fin .done (some .ret) rfl k3.1 k3.2
    | exit id => exact fin .done (some (.exit id)) rfl k3.1 k3.2
    | _ => exact k3.elim
  | _ => exact k1.elim

/-! ### The statement -/
section
variable {n nb nv : Nat} {T : Tm} {Q Q' : Exit → Tm → Hp → List Nat → Prop}
theorem SWp.s0 {c : Code} (h : SWp P n nb nv c Q T H V) : SWp0 P n nb nv c Q T H V := h none
theorem SWp0.mono {c : Code} (h : SWp0 P n nb nv c Q T H V) (hq : ∀ e T H V, Q e T H V → Q' e T H V) : SWp0 P n nb nv c Q' T H V :=
  fun D m w a m0 w0 V0 h1 h2 h3 hx hs => wpIn_mono (h D m w a m0 w0 V0 h1 h2 h3 hx hs) fun _ _ _ ⟨T', H', V', m', k1, k2⟩ => ⟨T', H', V', m', hq _ _ _ _ k1, k2⟩
theorem SWp0.seq {x y : Code} (h : SWp0 P n nb nv x (thn (SWp0 P n nb nv y Q) Q) T H V) : SWp0 P n nb nv (.seq x y) Q T H V := by
  intro D m w a m0 w0 V0 h1 h2 h3 hx hs
  refine wpIn_seq (wpIn_mono (h D m w a m0 w0 V0 h1 h2 h3 hx hs) fun e a' w' ⟨T', H', V', m', k1, k2, k3⟩ => ?_)
  cases e with
  | normal => exact k1 D m' w' a' m0 w0 V0 h1 h2 h3 k3 k2
  | _ => exact ⟨T', H', V', m', k1, k2, k3⟩
theorem SWp0.ghost {c : Code} {T' : Tm} {H' : Hp} {V' : List Nat} (g : Gst n nb nv T H V T' H' V') (h : SWp0 P n nb nv c Q T' H' V') : SWp0 P n nb nv c Q T H V := by
  intro D m w a m0 w0 V0 h1 h2 h3 hx hs
  obtain ⟨m', s1, s2⟩ := g D m w a m0 w0 V0 h1 h2 h3 hx hs
  exact h D m' w a m0 w0 V0 h1 h2 h3 s2 s1
theorem SWp0.block {id : Nat} {c : Code} (h : SWp0 P n nb nv c (blk id Q) T H V) : SWp0 P n nb nv (.block id c) Q T H V := by
  intro D m w a m0 w0 V0 h1 h2 h3 hx hs
  refine wpIn_block (wpIn_mono (h D m w a m0 w0 V0 h1 h2 h3 hx hs) fun e a' w' ⟨T', H', V', m', k1, k2⟩ => ?_)
  cases e with
  | exit id' =>
    simp only [blk] at k1
    simp only [Exit.inBlock]
    split
    · rename_i hid; rw [if_pos hid] at k1; exact ⟨T', H', V', m', k1, k2⟩
    · rename_i hid; rw [if_neg hid] at k1; exact ⟨T', H', V', m', k1, k2⟩
  | _ => exact ⟨T', H', V', m', k1, k2⟩
theorem SWp0.join {x y : Code} {α : Type} (S : α → Tm × Hp × List Nat) (ok : α → Prop)
    (h1 : SWp0 P n nb nv x (thn (fun T H V => ∃ s, ok s ∧ Sh n nb nv T H V (S s)) Q) T H V) (h2 : ∀ s, ok s → SWp0 P n nb nv y Q (S s).1 (S s).2.1 (S s).2.2) : SWp0 P n nb nv (.seq x y) Q T H V :=
  SWp0.seq (h1.mono fun e T H V k => by
    cases e with
    | normal => obtain ⟨s, k1, k2⟩ := k; exact SWp0.ghost k2 (h2 s k1)
    | _ => exact k)
theorem SWp0.cond {c : Operand} {x y : Code} {t : Bool} (hc : evT T c = .v (.bool t)) (h1 : t = true → SWp0 P n nb nv x Q T H V) (h2 : t = false → SWp0 P n nb nv y Q T H V) : SWp0 P n nb nv (.cond c x y) Q T H V := by
  intro D m w a m0 w0 V0 g1 g2 g3 hx hs
  have := ev_rel hs.tm c
  rw [hc, RelV] at this
  exact wpIn_cond_split this (fun e => h1 e D m w a m0 w0 V0 g1 g2 g3 hx hs) (fun e => h2 e D m w a m0 w0 V0 g1 g2 g3 hx hs)
/-- What is asked behind the call of the iterator. -/
def RP (n : Nat) (ps : Array Nat) (as bd : Code) (T0 : Tm) (b : Nat) (Q : Exit → Tm → Hp → List Nat → Prop) (T : Tm) : CV → Hp → List Nat → Prop := fun _ H V =>
  (H[b]? = some (some [lpc n ps as bd T0 .ready none]) ∧ Q .normal T (H.set b none) V) ∨
  (H[b]? = some (some [lpc n ps as bd T0 .done (some .ret)]) ∧ Q .ret T (H.set b none) V) ∨
  ∃ id, H[b]? = some (some [lpc n ps as bd T0 .done (some (.exit id))]) ∧ Q (.exit id) T (H.set b none) V
theorem set_set_none (H : Hp) (b : Nat) (x : Option (List CV)) : (H.set b x).set b none = H.set b none := by rw [List.set_set]
/-- A LOOP OVER A FUNCTION. -/
theorem SWp0.range {g : Operand} {ps : Array Nat} {as bd : Code} (T0 : Tm) {f : Nat} {caps : List CV} (hg : evT T g = .fn f caps) (hT : TLe T T0)
    (h : CC P f (.yl H.length :: caps) (H ++ [some [lpc n ps as bd T0 .ready none]]) V (RP n ps as bd T0 H.length Q T)) : SWp0 P n nb nv (.rangeFunc g ps as bd) Q T H V := by
  intro D m w a m0 w0 V0 h1 h2 h3 hx hs
  refine wpIn_rangeFunc (F := fen none) fun fn _ => ?_
  have ef := ev_rel hs.tm g
  rw [hg, RelV] at ef
  obtain ⟨us, eu, hr⟩ := ef
  obtain ⟨⟨fnn, f1, f2, f3⟩, hc⟩ := h
  -- the two blocks
  have hp1 := Pushed.alloc w (.deferred (some []))
  obtain ⟨i1, x1⟩ := step_push hs.inv hp1
  have hp2 := Pushed.alloc (w.alloc (.deferred (some []))) (.loop { state := .ready, pending := none, fn := fn, tmps := a.tmps, params := ps, assign := as, body := bd, defers := w.heap.size })
  have hsz1 : (w.alloc (.deferred (some []))).heap.size = w.heap.size + 1 := hp1.size
  have hst2 := step_obj (x := lpc n ps as bd T0 .ready none) i1 hp2 (fun hxx => ⟨a.tmps, fn, w.heap.size, hp2.new, hs.size, relK_of fun p hp => by
    have e := TLe.get hT p hp
    exact RelV.mono hxx _ _ (RelV.mono x1 _ _ (Le.rel e (hs.tm p.1)))⟩)
  obtain ⟨m1, hk0, i2, x2⟩ : ∃ m1 : Gh, m1.box[H.length]? = some (w.heap.size + 1) ∧ Inv m1 ((w.alloc (.deferred (some []))).alloc (.loop { state := .ready, pending := none, fn := fn, tmps := a.tmps, params := ps, assign := as, body := bd, defers := w.heap.size })) (H ++ [some [lpc n ps as bd T0 .ready none]]) V ∧
      Ext m (w.alloc (.deferred (some []))) V m1 ((w.alloc (.deferred (some []))).alloc (.loop { state := .ready, pending := none, fn := fn, tmps := a.tmps, params := ps, assign := as, body := bd, defers := w.heap.size })) V :=
    ⟨_, by rw [← hsz1, ← i1.boxlen]; exact List.getElem?_concat_length, hst2.1, hst2.2⟩
  have x12 := x1.trans x2
  have hyl : RelV m1 ((w.alloc (.deferred (some []))).alloc (.loop { state := .ready, pending := none, fn := fn, tmps := a.tmps, params := ps, assign := as, body := bd, defers := w.heap.size })) V (.yl H.length) (.func (.yield (w.heap.size + 1)) #[] #[]) := by
    rw [RelV]
    exact ⟨w.heap.size + 1, hk0, rfl⟩
  have hcall := hc m1 _ (.func (.yield (w.heap.size + 1)) #[] #[] :: us) i2 (by rw [RelL]; exact ⟨_, _, rfl, hyl, RelL.mono x12 _ _ hr⟩)
  have hb' : ¬ fnn.body = none := by cases hbb : fnn.body <;> simp_all
  have f3' : ¬ fnn.name = "runtime.NumGoroutine" := by simpa using f3
  refine ⟨w.heap.size + 1, [mark w.heap.size], ((w.alloc (.deferred (some []))).alloc (.loop { state := .ready, pending := none, fn := fn, tmps := a.tmps, params := ps, assign := as, body := bd, defers := w.heap.size })), { target := .fn (.func f) us.toArray, args := #[.func (.yield (w.heap.size + 1)) #[] #[]] }, ((w.alloc (.deferred (some []))).alloc (.loop { state := .ready, pending := none, fn := fn, tmps := a.tmps, params := ps, assign := as, body := bd, defers := w.heap.size })), f, (Value.func (.yield (w.heap.size + 1)) #[] #[] :: us).toArray, ((w.alloc (.deferred (some []))).alloc (.loop { state := .ready, pending := none, fn := fn, tmps := a.tmps, params := ps, assign := as, body := bd, defers := w.heap.size })), run_enterLoop_outer fn a.tmps ps as bd, ?_, fun _ _ => trivial, ?_, fun h => (by cases h), ?_⟩
  · have e0 : a.eval (.const (.func (.yield (w.heap.size + 1)) #[] #[])) = .func (.yield (w.heap.size + 1)) #[] #[] := rfl
    simp [resolve, eu, e0, Deferred.ofValue]
  · simp [invoke, callFunc, f1, f3', hb']
  · refine callsIn_fen.2 (Calls.mono hcall fun e w3 ⟨u, m3, r, H3, V3, q1, q2, q3, q4, q5⟩ => ?_)
    subst q1
    have hk3 := q5.box _ _ hk0
    have xx := x12.trans q5
    have done : ∀ (st : LoopState) (pd : Option Code), st ≠ .busy → H3[H.length]? = some (some [lpc n ps as bd T0 st pd]) →
        ∃ w4, (Instr.endLoop (w.heap.size + 1)).run P w3 = .ok pd w4 ∧ St D n m3 w4 { a with defers := [mark w.heap.size] ++ a.defers } T (H3.set H.length none) V3 ∧ Ext m w V m3 w4 V3 := fun st pd hst hb3 => by
      obtain ⟨t4, f4, d4, r4, _⟩ := live_loop q3 hb3 hk3
      obtain ⟨i4, x4⟩ := loop_turn (st' := .exhausted) (pd' := pd) q3 hb3 hk3 r4
      have hk := i4.kill H.length
      rw [set_set_none] at hk
      refine ⟨_, run_endLoop r4 hst, ⟨hk, (hs.tm.mono xx).mono x4, hs.size, ?_⟩, xx.trans x4⟩
      obtain ⟨d1, ms, d2, d3, d4⟩ := hs.df
      refine ⟨Nat.le_trans d1 (xx.trans x4).size, w.heap.size :: ms, by simp [d2], List.nodup_cons.2 ⟨fun hm => ?_, d3⟩, fun r hr => ?_⟩
      · have := (Array.getElem?_eq_some_iff.1 (d4 _ hm).2).1
        omega
      · rcases List.mem_cons.1 hr with rfl | hr
        · refine ⟨d1, (q5.trans x4).dfr _ _ (x2.dfr _ _ hp1.new)⟩
        · exact ⟨(d4 r hr).1, (xx.trans x4).dfr _ _ (d4 r hr).2⟩
    rcases q2 with ⟨p1, p2⟩ | ⟨p1, p2⟩ | ⟨id, p1, p2⟩
    · obtain ⟨w4, e1, e2, e3⟩ := done .ready none (by decide) p1
      exact ⟨none, w4, e1, T, _, V3, m3, p2, e2, hx.trans e3⟩
    · obtain ⟨w4, e1, e2, e3⟩ := done .done (some .ret) (by decide) p1
      exact ⟨some .ret, w4, e1, wpIn_ret ⟨T, _, V3, m3, p2, e2, hx.trans e3⟩⟩
    · obtain ⟨w4, e1, e2, e3⟩ := done .done (some (.exit id)) (by decide) p1
      exact ⟨some (.exit id), w4, e1, wpIn_exit ⟨T, _, V3, m3, p2, e2, hx.trans e3⟩⟩
end
end Go.Proofs.YtdiblbjchhjccaaDoor
namespace Go.Proofs.YtdiblbjchhjccaaDoor
variable {P : Program}
theorem crun_soundR {l2 : List Oper} {ro : Option Nat} {D : Dl} {n : Nat} {ops : List Oper} {K : Tm → Hp → List Nat → Prop} {Q : Exit → Act → World → Prop} : ∀ (l : List Oper) {a : Act} {m : Gh} {w : World} {T : Tm} {H : Hp} {V : List Nat}, St D n m w a T H V → crun P n ops l T H V K →
    (∀ T' H' V' a' w' m', K T' H' V' → St D n m' w' a' T' H' V' → Ext m w V m' w' V' → wpListIn (fen ro) 0 P ops.toArray Q l2 a' w') → wpListIn (fen ro) 0 P ops.toArray Q (l ++ l2) a w
  | [], a, m, w, T, H, V, hs, h, hK => hK T H V a w m h hs (Ext.refl m w V)
  | o :: rest, a, m, w, T, H, V, hs, h, hK => by
    -- the operation is carried out
    have run : ∀ T0, RelT m w V T0 a.tmps → dOk o.dst n → cop P (evT T0) H V (fun c H' V' => crun P n ops rest (tput o.dst c T0) H' V' K) o.op → o.wpIn (fen ro) 0 P a w (wpListIn (fen ro) 0 P ops.toArray Q (rest ++ l2)) Q := by
      intro T0 ht hd hc
      refine cop_sound (P := P) hs.inv (fun x => ev_rel ht x) hc fun c H' V' u m' w' h1 h2 h3 h4 => ?_
      refine crun_soundR rest (T := tput o.dst c T0) (m := m') ⟨h2, (ht.mono h4).put h3 (by rw [hs.size]; exact hd), by rw [put_size]; exact hs.size, by rw [put_defers]; exact hs.df.mono h4⟩ h1 (fun T' H' V' a' w' m' k1 k2 k3 => hK T' H' V' a' w' m' k1 k2 (h4.trans k3))
    have skip : ∀ T0, RelT m w V T0 a.tmps → dOk o.dst n → crun P n ops rest (tput o.dst (.v undef) T0) H V K → wpListIn (fen ro) 0 P ops.toArray Q (rest ++ l2) (a.put o.dst undef) w := by
      intro T0 ht hd hc
      exact crun_soundR rest (T := tput o.dst (.v undef) T0) (m := m) ⟨hs.inv, ht.put (by rw [RelV]) (by rw [hs.size]; exact hd), by rw [put_size]; exact hs.size, by rw [put_defers]; exact hs.df⟩ hc hK
    rw [List.cons_append]
    unfold wpListIn
    rw [crun] at h
    cases hg : o.guard with
    | none =>
      simp only [hg] at h
      rw [if_pos (by simp [Region.wanted, hg])]
      exact run T hs.tm h.1 h.2
    | some jw =>
      obtain ⟨j, want⟩ := jw
      simp only [hg] at h
      obtain ⟨hd, h⟩ := h
      cases hj : gtmp ops j with
      | none => simp only [hj] at h
      | some g =>
        simp only [hj] at h
        have hy := yielded_eq ops a.tmps j
        rw [hj, Option.bind_some] at hy
        have ht := hs.tm g
        unfold cguard at h
        split at h
        · rename_i b hb
          rw [hb, RelV] at ht
          have hget : a.tmps[g]? = some (.bool b) := by
            cases hq : a.tmps[g]? with
            | none => simp [hq] at ht; cases ht
            | some x => simp [hq] at ht; rw [ht]
          rw [hget] at hy
          simp only at hy
          have hw : Region.wanted o (yielded ops.toArray a.tmps) = (b == want) := by
            simp [Region.wanted, hg, hy]
          rw [hw]
          by_cases hbw : b = want
          · subst hbw
            rw [if_pos (by simp)]
            exact run _ (hs.tm.known (by rw [RelV]; exact ht)) hd (h.1 rfl)
          · rw [if_neg (by simpa using hbw)]
            have hb2 : b = !want := by cases b <;> cases want <;> simp_all
            have h3 := h.2 hb2
            rw [hb] at h3
            exact ⟨fun _ _ => trivial, skip _ (hs.tm.known (by rw [RelV, ← hb2]; exact ht)) hd h3⟩
        · rename_i vs hb
          rw [hb, RelV] at ht
          have hw : Region.wanted o (yielded ops.toArray a.tmps) = false := by
            have : yielded ops.toArray a.tmps j = none := by
              rw [hy]
              cases hq : a.tmps[g]? with
              | none => rfl
              | some x => simp [hq] at ht; subst ht; rfl
            simp [Region.wanted, hg, this]
          rw [hw, if_neg (by simp)]
          rw [hb] at h
          exact ⟨fun _ _ => trivial, skip _ hs.tm hd h⟩
        · exact h.elim
/-- An operation that leaves c, with the boxes and tokens behind it. -/
def OpX (P : Program) (o : Oper) (ev : Operand → CV) (H : Hp) (V : List Nat) (c : CV) (H' : Hp) (V' : List Nat) : Prop :=
  ∀ (m : Gh) (w : World) (a : Act), Inv m w H V → (∀ x, RelV m w V (ev x) (a.eval x)) →
    ∃ u w' m', (execOp a.eval o).run P w = .ok (.value u) w' ∧ Inv m' w' H' V' ∧ RelV m' w' V' c u ∧ Ext m w V m' w' V'
section
variable {n nb nv id : Nat} {Q : Exit → Tm → Hp → List Nat → Prop} {T : Tm} {H : Hp} {V : List Nat}
/-- A region with such an operation. -/
theorem SWp.opx {pre post : List Oper} {o : Oper} (hg : o.guard = none) (hnd : ∀ c, o.op ≠ .defer c)
    (h : crunS P n ((pre ++ o :: post).map (·.dst)) pre T H V fun T H V => dOk o.dst n ∧ ∃ c H' V', OpX P o (evT T) H V c H' V' ∧ contL P n ((pre ++ o :: post).map (·.dst)) o.dst post T (Q .normal) c H' V') :
    SWp P n nb nv (.region id (pre ++ o :: post).toArray false) Q T H V := by
  intro ro D m w a m0 w0 V0 h1 h2 h3 hx hs
  generalize hops : pre ++ o :: post = ops at h ⊢
  rw [crunS, ← crun_lite] at h
  refine wpIn_region_list ?_
  have e : ops.toArray.toList = pre ++ (o :: post) := by rw [hops]
  rw [e]
  refine crun_soundR (P := P) (ro := ro) (Q := fun e a' w' => ∃ T' H' V' m', Q e T' H' V' ∧ St D n m' w' a' T' H' V' ∧ Ext m0 w0 V0 m' w' V') pre hs h fun T1 H1 V1 a1 w1 m1 ⟨hd, c, H', V', hk, hq⟩ s1 x1 => ?_
  unfold wpListIn
  rw [if_pos (by simp [Region.wanted, hg])]
  obtain ⟨u, w', m', q1, q2, q3, q4⟩ := hk m1 w1 a1 s1.inv (fun x => ev_rel s1.tm x)
  refine wp_val hnd q1 ?_
  have hq : crunL P n (ops.map (·.dst)) post (tput o.dst c T1) H' V' (Q .normal) := hq
  rw [← crun_lite] at hq
  have hst : St D n m' w' (a1.put o.dst u) (tput o.dst c T1) H' V' := ⟨q2, (RelT.mono q4 s1.tm).put q3 (by rw [s1.size]; exact hd), by rw [put_size]; exact s1.size, by rw [put_defers]; exact s1.df.mono q4⟩
  exact crun_sound (P := P) (ro := ro) (Q := fun e a' w' => ∃ T' H' V' m', Q e T' H' V' ∧ St D n m' w' a' T' H' V' ∧ Ext m0 w0 V0 m' w' V') post hst hq fun T' H' V' a' w' m' k1 k2 k3 => ⟨T', H', V', m', k1, k2, (hx.trans x1).trans (q4.trans k3)⟩
end
/-- Appended to a tight slice or to nothing: the new block is a box. -/
theorem appbox {d : Option Tmp} {t tx ty : TypeId} {pos : String} {after : Array Edge} {x y : Operand} {ev : Operand → CV} {H : Hp} {V : List Nat} {sz szx : Nat} {e ex : TypeId} {tk : Tk} {ys : List (List CV)} (ht : slTy P t = some (e, sz)) (htx : slTy P tx = some (ex, szx))
    (hx : ev x = .sl .ti sz []) (hy : ev y = .sl tk sz ys) (hn : ys ≠ []) (hl : ys.length ≤ 1099511627776) :
    OpX P ⟨d, .call ⟨.builtin .append, #[x, y], #[t, tx]⟩, ty, pos, after, none⟩ ev H V (.bsa H.length ys.length sz) (H ++ [some ys.flatten]) V := by
  intro m w a hi hev
  obtain ⟨i, z, hu, hinf, hsz, hpos, hb0, hb1, hz, hzs⟩ := slTy_some ht
  obtain ⟨ys', news, hK, hsrc, hnews, hlen⟩ := csrc_run (K := fun q => q = ys) htx hpos hi (hev y) (by rw [hy]; exact ⟨rfl, rfl⟩)
  subst hK
  subst hsz
  have hnl := hsrc.newsLen
  have hxr := hev x
  rw [hx, RelV] at hxr
  obtain ⟨base, cap, hxe, hcap, htk, _, _⟩ := hxr
  have hc0 : cap = 0 := htk
  subst hc0
  have hy0 : 0 < ys'.length := List.length_pos_iff.2 hn
  have ho : (Builtin.firstCells i.size 0 (.slice base 0 0)).run P w.drew = .ok (#[] : Array Value) w.drew := by
    cases base with
    | none => exact run_firstCells_none w.drew i.size 0 0 0
    | some a => exact run_firstCells_some w.drew i.size 0 a 0 0 [] (by simp) (by simp)
  have hfit : (0 + ys'.length) * i.bytes ≤ 140737488355328 := by
    have := Nat.mul_le_mul (show 0 + ys'.length ≤ 1099511627776 by omega) hb1
    omega
  have hg : 0 < 0 + ys'.length := by omega
  have hrun := run_append_grow_src (P := P) w t tx ty e i z hu hinf hz base 0 0 [] ho (a.eval y) ys'.length news hsrc hg (by omega) (growslice_fits hg hfit)
  have hp := Pushed.drewAlloc w (.cells (([] ++ news).toArray ++ Builtin.zeroCells z.cells (grownCap w (0 + ys'.length) 0 e - (0 + ys'.length))) e)
  have hcapg := grownCap_ge w (0 + ys'.length) 0 e
  obtain ⟨s1, s2⟩ := step_boxP (vs := news) (by simp) (fun j hj => by rw [Array.getElem?_append_left (by simpa using hj)]; simp) hi hp hnews hsrc.one
  refine ⟨Value.slice (some ⟨w.heap.size, 0, none⟩) (0 + ys'.length) (grownCap w (0 + ys'.length) 0 e), _, _, ?_, s1, ?_, s2⟩
  · simp [execOp, resolve, invoke, builtin, hxe, hrun]
  · rw [RelV]
    refine ⟨w.heap.size, grownCap w (0 + ys'.length) 0 e, _, e, congrArg (fun q => Value.slice (some ⟨w.heap.size, 0, none⟩) q _) (Nat.zero_add _), Nat.le_trans (by omega) hcapg, hpos, ?_, hp.new, ?_⟩
    · show (m.box ++ [w.heap.size])[H.length]? = _
      rw [← hi.boxlen]; simp
    · rw [Array.size_append]
      simp only [List.nil_append, List.size_toArray, hnl]
      rw [size_zeroCells, hzs, ← Nat.add_mul]
      exact Nat.mul_le_mul_right _ (by omega)
end Go.Proofs.YtdiblbjchhjccaaDoor
