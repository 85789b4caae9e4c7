/-
  A PROGRAM LOGIC, PART 17: equations for regions whose order is drawn; small helps.
-/
import Derived.Test.YtffjhibomipemaaL16
namespace Go.Proofs.Ytffjhibomipemaa
attribute [go_sem] pureOk noNil cfill

/-- One order, over what simp is to look at. -/
def crunOL (P : Program) (n : Nat) (ds : List (Option Tmp)) (ops : List Oper) : List Nat → Tm → Hp → List Nat → (Tm → Hp → List Nat → Prop) → Prop
  | [], T, H, V, K => K T H V
  | i :: r, T, H, V, K => withO (ops[i]?) fun o => pureOk (evT T) o.op = true ∧ crunL P n ds [o] T H V fun T' H' V' => H <+: H' ∧ crunOL P n ds ops r T' H' V' K
def crunOS (P : Program) (n : Nat) (ds : List (Option Tmp)) (ops : List Oper) (l : List Nat) (T : Tm) (H : Hp) (V : List Nat) (K : Tm → Hp → List Nat → Prop) : Prop := crunOL P n ds ops l T H V K
theorem crunO_lite (P : Program) (n : Nat) (ops : List Oper) : ∀ (l : List Nat) (T : Tm) (H : Hp) (V : List Nat) (K : Tm → Hp → List Nat → Prop), crunO P n ops l T H V K = crunOL P n (ops.map (·.dst)) ops l T H V K
  | [], _, _, _, _ => rfl
  | i :: r, T, H, V, K => by
    rw [crunO, crunOL, withO_eq]
    cases ops[i]? with
    | none => simp
    | some o => simp [crun_lite, crunO_lite P n ops r]
section
variable {P : Program} {n : Nat} {ds : List (Option Tmp)} {ls : List Oper} {T T' : Tm} {H H' : Hp} {V V' : List Nat} {K : Tm → Hp → List Nat → Prop}
@[go_sem] theorem crunOS_eq (l : List Nat) : crunOS P n ds ls l T H V K = crunOL P n ds ls l T H V K := rfl
@[go_sem] theorem crunOL_nil : crunOL P n ds ls [] T H V K = K T H V := rfl
/-- What follows an operation of one order. -/
def contO (P : Program) (n : Nat) (ds : List (Option Tmp)) (ls : List Oper) (r : List Nat) (H : Hp) (K : Tm → Hp → List Nat → Prop) : Tm → Hp → List Nat → Prop := fun T' H' V' => H <+: H' ∧ crunOL P n ds ls r T' H' V' K
@[go_sem ↓] theorem contO_eq (r : List Nat) : contO P n ds ls r H K T H' V = (H <+: H' ∧ crunOL P n ds ls r T H' V K) := id rfl
@[go_sem] theorem crunOL_cons (i : Nat) (r : List Nat) : crunOL P n ds ls (i :: r) T H V K = withO (ls[i]?) fun o => pureOk (evT T) o.op = true ∧ crunL P n ds [o] T H V (contO P n ds ls r H K) := rfl
@[congr] theorem crunOL_congr {l : List Nat} (h1 : T = T') (h2 : H = H') (h3 : V = V') : crunOL P n ds ls l T H V K = crunOL P n ds ls l T' H' V' K := by subst h1 h2 h3; rfl
@[congr] theorem crunOS_congr {ds' : List (Option Tmp)} {l : List Nat} (h0 : ds = ds') (h1 : T = T') (h2 : H = H') (h3 : V = V') : crunOS P n ds ls l T H V K = crunOS P n ds' ls l T' H' V' K := by subst h0 h1 h2 h3; rfl
end
@[go_sem] theorem prefix_self (H : Hp) : (H <+: H) = True := eq_true (List.prefix_refl _)
@[go_sem] theorem prefix_app (H L : Hp) : (H <+: H ++ L) = True := eq_true (List.prefix_append _ _)
@[go_sem] theorem prefix_app2 (H L M : Hp) : (H <+: H ++ L ++ M) = True := eq_true (by rw [List.append_assoc]; exact List.prefix_append _ _)
theorem SWp.drawnL {P : Program} {n id nb nv : Nat} {ops : List Oper} {Q : Exit → Tm → Hp → List Nat → Prop} {T : Tm} {H : Hp} {V : List Nat} (l : List Nat) (hm : P.follows .mixedOrders = true) (ho : ordOk ops l (Array.replicate ops.length false) = true) (hl : l.length = ops.length)
    (h : crunOS P n (ops.map (·.dst)) ops l T H V (Q .normal)) : SWp P n nb nv (.region id ops.toArray true) Q T H V := SWp.drawn l hm ho hl (by rw [crunO_lite]; exact h)
section
variable {H H' : Hp} {V V' : List Nat}
theorem Fin.bool {a b : Bool} (h : a = b) (hokH : ∀ (b : Nat) cs, H[b]? = some (some cs) → okL H.length V.length cs) (hH : H'.take H.length = H) (hV : V'.take V.length = V) : Fin H.length V.length (Pu (.v (.bool b)) H V) (.v (.bool a)) H' V' := by
  subst h; exact Fin.pu (.refl _) trivial hokH hH hV
end

/-! ### What may stay -/
def TOk (i j : Nat) : Tm → Prop
  | [] => True
  | (_, c) :: r => okV i j c ∧ TOk i j r
theorem TOk.all {i j : Nat} : ∀ {T : Tm}, TOk i j T → ∀ p ∈ T, okV i j p.2
  | [], _, p, hp => by cases hp
  | (k, c) :: r, h, p, hp => by
    rcases List.mem_cons.1 hp with rfl | hp
    · exact h.1
    · exact TOk.all h.2 p hp
section
variable (i j : Nat)
@[go_sem] theorem TOk_nil : TOk i j [] = True := rfl
@[go_sem] theorem TOk_cons (k : Nat) (c : CV) (r : Tm) : TOk i j ((k, c) :: r) = (okV i j c ∧ TOk i j r) := rfl
@[go_sem] theorem okV_any : okV i j .any = True := by rw [okV]
@[go_sem] theorem okV_v (x : Value) : okV i j (.v x) = True := by rw [okV]
@[go_sem] theorem okV_agg (cs : List CV) : okV i j (.agg cs) = okL i j cs := by rw [okV]
@[go_sem] theorem okV_tup (cs : List CV) : okV i j (.tup cs) = okL i j cs := by rw [okV]
@[go_sem] theorem okV_sh (sz : Nat) (xs : List (List CV)) : okV i j (.sl .sh sz xs) = okE i j xs := by rw [okV]; simp [okTk]
@[go_sem] theorem okV_ti (sz : Nat) (xs : List (List CV)) : okV i j (.sl .ti sz xs) = okE i j xs := by rw [okV]; simp [okTk]
@[go_sem] theorem okV_own (t v sz : Nat) (xs : List (List CV)) : okV i j (.sl (.own t v) sz xs) = (t < j ∧ okE i j xs) := by rw [okV]; simp [okTk]
@[go_sem] theorem okTk_own (t v : Nat) : okTk j (.own t v) = (t < j) := rfl
@[go_sem] theorem okTk_sh : okTk j .sh = True := rfl
@[go_sem] theorem okTk_ti : okTk j .ti = True := rfl
@[go_sem, simp] theorem take_set_len {α : Type} (V : List α) (k : Nat) (v : α) : (V.set k v).take V.length = V.set k v := List.take_of_length_le (by simp)
theorem okV_slt (tk : Tk) (sz : Nat) (xs : List (List CV)) : okV i j (.sl tk sz xs) = (okTk j tk ∧ okE i j xs) := by rw [okV]
@[go_sem] theorem okV_bsl (b o n sz : Nat) : okV i j (.bsl b o n sz) = (b < i) := by rw [okV]
@[go_sem] theorem okV_ptr (b o : Nat) : okV i j (.ptr b o) = (b < i) := by rw [okV]
@[go_sem] theorem okV_eptr (cs : List CV) (o : Nat) : okV i j (.eptr cs o) = okL i j cs := by rw [okV]
@[go_sem] theorem okV_fn (f : Nat) (cs : List CV) : okV i j (.fn f cs) = okL i j cs := by rw [okV]
@[go_sem] theorem okL_nil : okL i j [] = True := by rw [okL]
@[go_sem] theorem okL_cons (c : CV) (cs : List CV) : okL i j (c :: cs) = (okV i j c ∧ okL i j cs) := by rw [okL]
@[go_sem] theorem okE_nil : okE i j [] = True := by rw [okE]
@[go_sem] theorem okE_cons (e : List CV) (es : List (List CV)) : okE i j (e :: es) = (okL i j e ∧ okE i j es) := by rw [okE]
end
/-- Back to the boxes of the function's beginning. -/
theorem Sh.back {n nb nv : Nat} {T T' : Tm} {H H' : Hp} {V V' : List Nat} (h : TLe T T') (hb : nb = H'.length) (hv : nv = V'.length) (hT : TOk nb nv T') (hH : ∀ (b : Nat) cs, H'[b]? = some (some cs) → okL nb nv cs) (eH : H.take nb = H') (eV : V.take nv = V') : Sh n nb nv T H V (T', H', V') :=
  have _ := hb; have _ := hv
  Sh.cut nb nv h (Nat.le_refl _) (Nat.le_refl _) (TOk.all hT) hH eH eV
end Go.Proofs.Ytffjhibomipemaa
