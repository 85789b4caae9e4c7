/-
  A PROGRAM LOGIC, PART 10: code: regions, branches, loops, functions.
-/
import Derived.Test.YtffjhibomipemaaL9
namespace Go.Proofs.Ytffjhibomipemaa

/-- What the temporaries hold: the latest first. -/
abbrev Tm := List (Nat × CV)
def tget : Tm → Nat → CV
  | [], _ => .any
  | (k, c) :: r, n => if n = k then c else tget r n
def evT (T : Tm) : Operand → CV
  | .tmp t => tget T t
  | .const v => .v v
  | .global _ => .any
  | .func f => .fn f []
def tput (d : Option Nat) (c : CV) (T : Tm) : Tm :=
  match d with
  | some d => (d, c) :: T
  | none => T
def dOk (d : Option Nat) (n : Nat) : Prop :=
  match d with
  | some d => d < n
  | none => True
def gtmp (ops : List Oper) (j : Nat) : Option Nat := (ops[j]?).bind (·.dst)

/-- A guarded operation: where the guard's value is known, or in each of its two cases. -/
def cguard (want : Bool) (c : CV) (yes no : Prop) : Prop :=
  match c with
  | .v (.bool b) => (b = want → yes) ∧ (b = !want → no)
  | .v (.tuple _) => no
  | _ => False

/-- A region, in the order of the text. -/
def crun (P : Program) (n : Nat) (ops : List Oper) : List Oper → Tm → Hp → List Nat → (Tm → Hp → List Nat → Prop) → Prop
  | [], T, H, V, K => K T H V
  | o :: rest, T, H, V, K =>
    match o.guard with
    | none => dOk o.dst n ∧ cop P (evT T) H V (fun c H' V' => crun P n ops rest (tput o.dst c T) H' V' K) o.op
    | some (j, want) => dOk o.dst n ∧
      match gtmp ops j with
      | some g => cguard want (tget T g)
          (cop P (evT ((g, .v (.bool want)) :: T)) H V (fun c H' V' => crun P n ops rest (tput o.dst c ((g, .v (.bool want)) :: T)) H' V' K) o.op)
          (match tget T g with
            | .v (.bool _) => crun P n ops rest (tput o.dst (.v undef) ((g, .v (.bool (!want))) :: T)) H V K
            | _ => crun P n ops rest (tput o.dst (.v undef) T) H V K)
      | none => False

def RelT (m : Gh) (w : World) (V : List Nat) (T : Tm) (tmps : Array Value) : Prop := ∀ n, RelV m w V (tget T n) (tmps.getD n undef)

section
variable {P : Program} {m : Gh} {w : World} {H : Hp} {V : List Nat}

theorem RelT.mono {m' : Gh} {w' : World} {V' : List Nat} {T : Tm} {tmps : Array Value} (hx : Ext m w V m' w' V') (h : RelT m w V T tmps) : RelT m' w' V' T tmps := fun n => RelV.mono hx _ _ (h n)

theorem ev_rel {T : Tm} {a : Act} (h : RelT m w V T a.tmps) (x : Operand) : RelV m w V (evT T x) (a.eval x) := by
  cases x with
  | tmp t => exact h t
  | const v => simp only [evT, Act.eval]; rw [RelV]
  | global g => simp only [evT]; rw [RelV]; trivial
  | func f => simp only [evT, Act.eval]; rw [RelV]; exact ⟨[], rfl, by rw [RelL]⟩

theorem put_size (a : Act) (d : Option Nat) (u : Value) : (a.put d u).tmps.size = a.tmps.size := by
  cases d <;> simp [Act.put]
theorem put_defers (a : Act) (d : Option Nat) (u : Value) : (a.put d u).defers = a.defers := by
  cases d <;> simp [Act.put]

theorem RelT.put {T : Tm} {a : Act} {d : Option Nat} {c : CV} {u : Value} (h : RelT m w V T a.tmps) (hu : RelV m w V c u) (hd : dOk d a.tmps.size) : RelT m w V (tput d c T) (a.put d u).tmps := by
  cases d with
  | none => exact h
  | some d =>
    have hd : d < a.tmps.size := hd
    intro n
    simp only [tput, tget, Act.put]
    by_cases hn : n = d
    · subst hn; rw [if_pos rfl]
      simpa [Array.getD, hd] using hu
    · rw [if_neg hn]
      have : (a.tmps.setIfInBounds d u).getD n undef = a.tmps.getD n undef := by
        simp only [Array.getD_eq_getD_getElem?]
        rw [Array.getElem?_setIfInBounds_ne (Ne.symm hn)]
      rw [this]; exact h n

theorem RelT.known {T : Tm} {tmps : Array Value} {g : Nat} {u : CV} (h : RelT m w V T tmps) (hu : RelV m w V u (tmps.getD g undef)) : RelT m w V ((g, u) :: T) tmps := fun n => by
  simp only [tget]
  by_cases hn : n = g
  · subst hn; rw [if_pos rfl]; exact hu
  · rw [if_neg hn]; exact h n

/-- All that is known of a state. -/
structure St (n : Nat) (m : Gh) (w : World) (a : Act) (T : Tm) (H : Hp) (V : List Nat) : Prop where
  inv : Inv m w H V
  tm : RelT m w V T a.tmps
  size : a.tmps.size = n
  df : a.defers = []

theorem yielded_eq (ops : List Oper) (tmps : Array Value) (j : Nat) : yielded ops.toArray tmps j = match (gtmp ops j).bind (tmps[·]?) with | some (.bool b) => some b | _ => none := by
  unfold yielded gtmp
  rw [List.getElem?_toArray]
  rfl

theorem crun_sound {n : Nat} {ops : List Oper} {K : Tm → Hp → List Nat → Prop} {Q : Exit → Act → World → Prop} : ∀ (l : List Oper) {a : Act} {m : Gh} {w : World} {T : Tm} {H : Hp} {V : List Nat}, St n m w a T H V → crun P n ops l T H V K →
    (∀ T' H' V' a' w' m', K T' H' V' → St n m' w' a' T' H' V' → Ext m w V m' w' V' → Q .normal a' w') → wpList P ops.toArray Q l a w
  | [], a, m, w, T, H, V, hs, h, hK => hK T H V a w m h hs (Ext.refl m w V)
  | o :: rest, a, m, w, T, H, V, hs, h, hK => by
    -- the operation is carried out
    have run : ∀ T0, RelT m w V T0 a.tmps → dOk o.dst n → cop P (evT T0) H V (fun c H' V' => crun P n ops rest (tput o.dst c T0) H' V' K) o.op → o.wp P a w (wpList P ops.toArray Q rest) Q := by
      intro T0 ht hd hc
      refine cop_sound (P := P) hs.inv (fun x => ev_rel ht x) hc fun c H' V' u m' w' h1 h2 h3 h4 => ?_
      refine crun_sound rest (T := tput o.dst c T0) (m := m') ⟨h2, (ht.mono h4).put h3 (by rw [hs.size]; exact hd), by rw [put_size]; exact hs.size, by rw [put_defers]; exact hs.df⟩ h1 (fun T' H' V' a' w' m' k1 k2 k3 => hK T' H' V' a' w' m' k1 k2 (h4.trans k3))
    have skip : ∀ T0, RelT m w V T0 a.tmps → dOk o.dst n → crun P n ops rest (tput o.dst (.v undef) T0) H V K → wpList P ops.toArray Q rest (a.put o.dst undef) w := by
      intro T0 ht hd hc
      exact crun_sound rest (T := tput o.dst (.v undef) T0) (m := m) ⟨hs.inv, ht.put (by rw [RelV]) (by rw [hs.size]; exact hd), by rw [put_size]; exact hs.size, by rw [put_defers]; exact hs.df⟩ hc hK
    unfold wpList
    rw [crun] at h
    cases hg : o.guard with
    | none =>
      simp only [hg] at h
      rw [if_pos (by simp [Region.wanted, hg])]
      exact .inl (run T hs.tm h.1 h.2)
    | some jw =>
      obtain ⟨j, want⟩ := jw
      simp only [hg] at h
      obtain ⟨hd, h⟩ := h
      cases hj : gtmp ops j with
      | none => simp only [hj] at h
      | some g =>
        simp only [hj] at h
        have hy := yielded_eq ops a.tmps j
        rw [hj, Option.bind_some] at hy
        have ht := hs.tm g
        unfold cguard at h
        split at h
        · rename_i b hb
          rw [hb, RelV] at ht
          have hget : a.tmps[g]? = some (.bool b) := by
            cases hq : a.tmps[g]? with
            | none => simp [hq] at ht; cases ht
            | some x => simp [hq] at ht; rw [ht]
          rw [hget] at hy
          simp only at hy
          have hw : Region.wanted o (yielded ops.toArray a.tmps) = (b == want) := by
            simp [Region.wanted, hg, hy]
          rw [hw]
          by_cases hbw : b = want
          · subst hbw
            rw [if_pos (by simp)]
            exact .inl (run _ (hs.tm.known (by rw [RelV]; exact ht)) hd (h.1 rfl))
          · rw [if_neg (by simpa using hbw)]
            have hb2 : b = !want := by cases b <;> cases want <;> simp_all
            have h3 := h.2 hb2
            rw [hb] at h3
            exact skip _ (hs.tm.known (by rw [RelV, ← hb2]; exact ht)) hd h3
        · rename_i vs hb
          rw [hb, RelV] at ht
          have hw : Region.wanted o (yielded ops.toArray a.tmps) = false := by
            have : yielded ops.toArray a.tmps j = none := by
              rw [hy]
              cases hq : a.tmps[g]? with
              | none => rfl
              | some x => simp [hq] at ht; subst ht; rfl
            simp [Region.wanted, hg, this]
          rw [hw, if_neg (by simp)]
          rw [hb] at h
          exact skip _ hs.tm hd h
        · exact h.elim

/-! ### What may be forgotten -/
mutual
inductive Le : CV → CV → Prop
  | refl (c : CV) : Le c c
  | any (c : CV) : Le c .any
  | sh (tk : Tk) (sz : Nat) (xs : List (List CV)) : Le (.sl tk sz xs) (.sl .sh sz xs)
  | nil (sz : Nat) (h : 0 < sz) : Le (.v (.slice none 0 0)) (.sl .sh sz [])
  | nilti (sz : Nat) (h : 0 < sz) : Le (.v (.slice none 0 0)) (.sl .ti sz [])
  | agg {cs ds : List CV} (h : LeL cs ds) : Le (.agg cs) (.agg ds)
  | tup {cs ds : List CV} (h : LeL cs ds) : Le (.tup cs) (.tup ds)
  | trans {a b c : CV} (h : Le a b) (g : Le b c) : Le a c
inductive LeL : List CV → List CV → Prop
  | nil : LeL [] []
  | cons {c d : CV} {cs ds : List CV} (h : Le c d) (t : LeL cs ds) : LeL (c :: cs) (d :: ds)
end

mutual
theorem Le.rel {c d : CV} : ∀ {u : Value}, Le c d → RelV m w V c u → RelV m w V d u
  | _, .refl _, h => h
  | _, .any _, _ => by rw [RelV]; trivial
  | _, .sh tk sz xs, h => by
    rw [RelV] at h; rw [RelV]
    obtain ⟨base, cap, h1, h2, h3, h4⟩ := h
    exact ⟨base, cap, h1, h2, trivial, h4⟩
  | _, .nil sz hz, h => by rw [RelV] at h; rw [RelV]; subst h; exact ⟨none, 0, rfl, by simp, trivial, hz, .inl rfl⟩
  | _, .nilti sz hz, h => by rw [RelV] at h; rw [RelV]; subst h; exact ⟨none, 0, rfl, by simp, rfl, hz, .inl rfl⟩
  | _, .agg hl, h => by rw [RelV] at h; rw [RelV]; obtain ⟨us, h1, h2⟩ := h; exact ⟨us, h1, LeL.rel hl h2⟩
  | _, .tup hl, h => by rw [RelV] at h; rw [RelV]; obtain ⟨us, h1, h2⟩ := h; exact ⟨us, h1, LeL.rel hl h2⟩
  | _, .trans h1 h2, h => Le.rel h2 (Le.rel h1 h)
theorem LeL.rel {cs ds : List CV} : ∀ {us : List Value}, LeL cs ds → RelL m w V cs us → RelL m w V ds us
  | _, .nil, h => h
  | _, .cons h t, hr => by
    rw [RelL] at hr; rw [RelL]
    obtain ⟨u, r, h1, h2, h3⟩ := hr
    exact ⟨u, r, h1, Le.rel h h2, LeL.rel t h3⟩
end
end
end Go.Proofs.Ytffjhibomipemaa
