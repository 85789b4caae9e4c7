import Derived.Test.YthakkopnoeinmaaA4
import Derived.Defers
import Derived.Recover
import Derived.Tactics
import Derived.Tactics2
set_option linter.unusedSimpArgs false
set_option linter.unusedVariables false
namespace Go.Proofs.Ythakkopnoeinmaa
section
variable {P : Program}
theorem crun_soundR {D : List Deferred} {l2 : List Oper} {n : Nat} {ops : List Oper} {K : Tm → Hp → List Nat → Prop} {Q : Exit → Act → World → Prop} : ∀ (l : List Oper) {a : Act} {m : Gh} {w : World} {T : Tm} {H : Hp} {V : List Nat}, St D n m w a T H V → crun P n ops l T H V K →
    (∀ T' H' V' a' w' m', K T' H' V' → St D n m' w' a' T' H' V' → Ext m w V m' w' V' → wpList P ops.toArray Q l2 a' w') → wpList P ops.toArray Q (l ++ l2) a w
  | [], a, m, w, T, H, V, hs, h, hK => hK T H V a w m h hs (Ext.refl m w V)
  | o :: rest, a, m, w, T, H, V, hs, h, hK => by
    -- the operation is carried out
    have run : ∀ T0, RelT m w V T0 a.tmps → dOk o.dst n → cop P (evT T0) H V (fun c H' V' => crun P n ops rest (tput o.dst c T0) H' V' K) o.op → o.wp P a w (wpList P ops.toArray Q (rest ++ l2)) Q := by
      intro T0 ht hd hc
      refine cop_sound (P := P) hs.inv (fun x => ev_rel ht x) hc fun c H' V' u m' w' h1 h2 h3 h4 => ?_
      refine crun_soundR rest (T := tput o.dst c T0) (m := m') ⟨h2, (ht.mono h4).put h3 (by rw [hs.size]; exact hd), by rw [put_size]; exact hs.size, by rw [put_defers]; exact hs.df⟩ h1 (fun T' H' V' a' w' m' k1 k2 k3 => hK T' H' V' a' w' m' k1 k2 (h4.trans k3))
    have skip : ∀ T0, RelT m w V T0 a.tmps → dOk o.dst n → crun P n ops rest (tput o.dst (.v undef) T0) H V K → wpList P ops.toArray Q (rest ++ l2) (a.put o.dst undef) w := by
      intro T0 ht hd hc
      exact crun_soundR rest (T := tput o.dst (.v undef) T0) (m := m) ⟨hs.inv, ht.put (by rw [RelV]) (by rw [hs.size]; exact hd), by rw [put_size]; exact hs.size, by rw [put_defers]; exact hs.df⟩ hc hK
    rw [List.cons_append]
    unfold wpList
    rw [crun] at h
    cases hg : o.guard with
    | none =>
      simp only [hg] at h
      rw [if_pos (by simp [Region.wanted, hg])]
      exact .inl (run T hs.tm h.1 h.2)
    | some jw =>
      obtain ⟨j, want⟩ := jw
      simp only [hg] at h
      obtain ⟨hd, h⟩ := h
      cases hj : gtmp ops j with
      | none => simp only [hj] at h
      | some g =>
        simp only [hj] at h
        have hy := yielded_eq ops a.tmps j
        rw [hj, Option.bind_some] at hy
        have ht := hs.tm g
        unfold cguard at h
        split at h
        · rename_i b hb
          rw [hb, RelV] at ht
          have hget : a.tmps[g]? = some (.bool b) := by
            cases hq : a.tmps[g]? with
            | none => simp [hq] at ht; cases ht
            | some x => simp [hq] at ht; rw [ht]
          rw [hget] at hy
          simp only at hy
          have hw : Region.wanted o (yielded ops.toArray a.tmps) = (b == want) := by
            simp [Region.wanted, hg, hy]
          rw [hw]
          by_cases hbw : b = want
          · subst hbw
            rw [if_pos (by simp)]
            exact .inl (run _ (hs.tm.known (by rw [RelV]; exact ht)) hd (h.1 rfl))
          · rw [if_neg (by simpa using hbw)]
            have hb2 : b = !want := by cases b <;> cases want <;> simp_all
            have h3 := h.2 hb2
            rw [hb] at h3
            exact skip _ (hs.tm.known (by rw [RelV, ← hb2]; exact ht)) hd h3
        · rename_i vs hb
          rw [hb, RelV] at ht
          have hw : Region.wanted o (yielded ops.toArray a.tmps) = false := by
            have : yielded ops.toArray a.tmps j = none := by
              rw [hy]
              cases hq : a.tmps[g]? with
              | none => rfl
              | some x => simp [hq] at ht; subst ht; rfl
            simp [Region.wanted, hg, this]
          rw [hw, if_neg (by simp)]
          rw [hb] at h
          exact skip _ hs.tm hd h
        · exact h.elim

/-! ### What may be forgotten -/
end
/-- A CONTRACT WITH PANICS: the call returns, and K holds, or it panics, and E holds. -/
def CX (P : Program) (f : FuncId) (args : List CV) (H : Hp) (V : List Nat) (K : CV → Hp → List Nat → Prop) (E : List PanicEntry → Hp → List Nat → Prop) : Prop :=
  (∃ fn, P.funcs[f]? = some fn ∧ fn.body.isSome = true ∧ (fn.name == "runtime.NumGoroutine") = false) ∧
  ∀ (m : Gh) (w : World) (us : List Value), Inv m w H V → RelL m w V args us →
    Calls P f us.toArray w fun e w' => (∃ u m' r H' V', e = .returned u ∧ K r H' V' ∧ Inv m' w' H' V' ∧ RelV m' w' V' r u ∧ Ext m w V m' w' V') ∨
      (∃ ch m' H' V', e = .panicked ch ∧ E ch H' V' ∧ Inv m' w' H' V' ∧ Ext m w V m' w' V')
theorem CX.mono {P : Program} {f : FuncId} {args : List CV} {H : Hp} {V : List Nat} {K K' : CV → Hp → List Nat → Prop} {E E' : List PanicEntry → Hp → List Nat → Prop} (h : CX P f args H V K E) (hk : ∀ r H V, K r H V → K' r H V) (he : ∀ c H V, E c H V → E' c H V) : CX P f args H V K' E' :=
  ⟨h.1, fun m w us hi hu => (h.2 m w us hi hu).mono fun _ _ h => h.elim (fun ⟨u, m', r, H', V', h1, h2, h3⟩ => .inl ⟨u, m', r, H', V', h1, hk _ _ _ h2, h3⟩) (fun ⟨c, m', H', V', h1, h2, h3⟩ => .inr ⟨c, m', H', V', h1, he _ _ _ h2, h3⟩)⟩
theorem CX.of_cc {P : Program} {f : FuncId} {args : List CV} {H : Hp} {V : List Nat} {K : CV → Hp → List Nat → Prop} {E : List PanicEntry → Hp → List Nat → Prop} (h : CC P f args H V K) : CX P f args H V K E :=
  ⟨h.1, fun m w us hi hu => (h.2 m w us hi hu).mono fun _ _ h => .inl h⟩
def hcallx (P : Program) (H : Hp) (V : List Nat) (K : CV → Hp → List Nat → Prop) (E : List PanicEntry → Hp → List Nat → Prop) : CV → List CV → Prop
  | .fn g caps, args => CX P g (args ++ caps) H V K E
  | _, _ => False
@[go_sem] theorem hcallx_fn (P : Program) (H : Hp) (V : List Nat) (K : CV → Hp → List Nat → Prop) (E : List PanicEntry → Hp → List Nat → Prop) (g : Nat) (caps args : List CV) : hcallx P H V K E (.fn g caps) args = CX P g (args ++ caps) H V K E := id rfl
section
variable {P : Program} {n nb nv id : Nat} {Q : Exit → Tm → Hp → List Nat → Prop} {T : Tm} {H : Hp} {V : List Nat}
/-- A region in which one call may panic. -/
theorem SWp.callx {pre post : List Oper} {d : Option Tmp} {ty : TypeId} {pos : String} {after : Array Edge} {f : Operand} {args : Array Operand} {tys : Array TypeId}
    (h : crunS P n ((pre ++ ⟨d, .call ⟨.value f, args, tys⟩, ty, pos, after, none⟩ :: post).map (·.dst)) pre T H V fun T H V => dOk d n ∧
      hcallx P H V (contL P n ((pre ++ ⟨d, .call ⟨.value f, args, tys⟩, ty, pos, after, none⟩ :: post).map (·.dst)) d post T (Q .normal)) (fun ch H' V' => Q (.panic ch) T H' V') (evT T f) (args.toList.map (evT T))) :
    SWp P n nb nv (.region id (pre ++ ⟨d, .call ⟨.value f, args, tys⟩, ty, pos, after, none⟩ :: post).toArray false) Q T H V := by
  intro D m w a m0 w0 V0 h1 h2 h3 hx hs
  generalize hops : pre ++ ⟨d, .call ⟨.value f, args, tys⟩, ty, pos, after, none⟩ :: post = ops at h ⊢
  rw [crunS, ← crun_lite] at h
  refine wp_region_list ?_
  have e : ops.toArray.toList = pre ++ (⟨d, .call ⟨.value f, args, tys⟩, ty, pos, after, none⟩ :: post) := by rw [hops]
  rw [e]
  refine crun_soundR (P := P) (Q := fun e a' w' => ∃ T' H' V' m', Q e T' H' V' ∧ St D n m' w' a' T' H' V' ∧ Ext m0 w0 V0 m' w' V') pre hs h fun T1 H1 V1 a1 w1 m1 ⟨hd, hk⟩ s1 x1 => ?_
  unfold wpList
  rw [if_pos (by simp [Region.wanted])]
  refine .inl ?_
  have hev : ∀ x : Operand, RelV m1 w1 V1 (evT T1 x) (a1.eval x) := fun x => ev_rel s1.tm x
  unfold hcallx at hk
  split at hk
  · rename_i l g caps hf
    have ef := hev f
    rw [hf, RelV] at ef
    obtain ⟨us, eu, hr⟩ := ef
    obtain ⟨⟨fn, f1, f2, f3⟩, hc⟩ := hk
    have hargs := relL_append (relL_map hev args.toList) hr
    have hcall := hc m1 w1 _ s1.inv hargs
    have hrun : (execOp a1.eval ⟨d, .call ⟨.value f, args, tys⟩, ty, pos, after, none⟩).run P w1 = .ok (.enter g (args.toList.map a1.eval ++ us).toArray) w1 := by
      have hb : ¬ fn.body = none := by cases hbb : fn.body <;> simp_all
      have f3' : ¬ fn.name = "runtime.NumGoroutine" := by simpa using f3
      have hfa : args.map a1.eval ++ us.toArray = (args.toList.map a1.eval ++ us).toArray := by
        rw [← Array.toList_map]; simp
      simp [execOp, resolve, eu, Deferred.ofValue, invoke, callFunc, f1, f3', hb, hfa]
    unfold Oper.wp
    rw [hrun]
    refine Calls.mono hcall fun e w' he => ?_
    rcases he with ⟨u, m', r, H', V', q1, q2, q3, q4, q5⟩ | ⟨ch, m', H', V', q1, q2, q3, q4⟩
    · subst q1
      have q2 : crunL P n (ops.map (·.dst)) post (tput d r T1) H' V' (Q .normal) := q2
      rw [← crun_lite] at q2
      have hst : St D n m' w' (a1.put d u) (tput d r T1) H' V' := ⟨q3, (RelT.mono q5 s1.tm).put q4 (by rw [s1.size]; exact hd), by rw [put_size]; exact s1.size, by rw [put_defers]; exact s1.df⟩
      exact crun_sound (P := P) (Q := fun e a' w' => ∃ T' H' V' m', Q e T' H' V' ∧ St D n m' w' a' T' H' V' ∧ Ext m0 w0 V0 m' w' V') post hst q2 fun T' H' V' a' w' m' k1 k2 k3 => ⟨T', H', V', m', k1, k2, (hx.trans x1).trans (q5.trans k3)⟩
    · subst q1
      exact ⟨T1, H', V', m', q2, ⟨q3, RelT.mono q4 s1.tm, s1.size, s1.df⟩, (hx.trans x1).trans q4⟩
  · exact hk.elim
end
end Go.Proofs.Ythakkopnoeinmaa
namespace Go.Proofs.Ythakkopnoeinmaa
variable {P : Program}
/-- A deferred closure that does nothing where its frame returns. -/
def RetD (P : Program) (g k : Nat) : Prop := (∃ fn, P.funcs[g]? = some fn ∧ fn.body.isSome = true ∧ (fn.name == "runtime.NumGoroutine") = false) ∧
  ∀ (us : Array Value) (w : World), us.size = k → CallsD P g us .returning w fun e u' w' => (∃ v, e = .returned v) ∧ u' = .returning ∧ w' = w
theorem CC.of_defer {f : FuncId} {fn : Func} {c1 c2 : Code} {id : Nat} {pre : List Oper} {dd : Option Tmp} {ty : TypeId} {pos : String} {after : Array Edge} {fo : Operand} {tys : Array TypeId} {g k : Nat} {args : List CV} {H : Hp} {V : List Nat} {R : CV → Hp → List Nat → Prop}
    (hf : P.funcs[f]? = some fn) (hb : fn.body = some (.seq c1 (.seq (.region id (pre ++ [(⟨dd, .defer ⟨.value fo, #[], tys⟩, ty, pos, after, none⟩ : Oper)]).toArray false) c2))) (hn : (fn.name == "runtime.NumGoroutine") = false) (ha : args.length ≤ fn.ntmps) (hD : RetD P g k)
    (h : okL H.length V.length args → (∀ (b : Nat) cs, H[b]? = some (some cs) → okL H.length V.length cs) → SWp P fn.ntmps H.length V.length c1 (thn (fun T H' V' => crunS P fn.ntmps ((pre ++ [(⟨dd, .defer ⟨.value fo, #[], tys⟩, ty, pos, after, none⟩ : Oper)]).map (·.dst)) pre T H' V' fun T H' V' => dOk dd fn.ntmps ∧
      (∃ caps, evT T fo = .fn g caps ∧ caps.length = k) ∧ SWp P fn.ntmps H.length V.length c2 (Rt P H.length V.length fn.results.toList R) (tput dd (.v undef) T) H' V') (fun _ _ _ _ => False)) (args0 0 args) H V) : CC P f args H V R := by
  refine ⟨⟨fn, hf, by rw [hb]; rfl, hn⟩, fun m w us hi hu => ?_⟩
  have hl := relL_length hu
  have hok : okL H.length V.length args := by rw [← hi.boxlen]; exact RelL.ok args us hu
  have hokH : ∀ (b : Nat) cs, H[b]? = some (some cs) → okL H.length V.length cs := fun b cs hbc => by
    obtain ⟨k, c, e, _, _, _, _, h5⟩ := hi.alive b cs hbc
    rw [← hi.boxlen]; exact RelC.ok k cs 0 h5
  refine calls_of_wp_defers hf hb ?_
  have hst : St [] fn.ntmps m w { tmps := us.toArray ++ Array.replicate (fn.ntmps - us.toArray.size) undef, defers := [] } (args0 0 args) H V := by
    refine ⟨hi, fun k => ?_, by simp [hl]; omega, rfl⟩
    rw [args0_get]
    simp only [Nat.zero_le, if_true, Nat.sub_zero]
    cases hk : args[k]? with
    | none => rw [Option.getD_none, RelV]; trivial
    | some c =>
      obtain ⟨u, h1, h2⟩ := relL_get hu k c hk
      have : (us.toArray ++ Array.replicate (fn.ntmps - us.toArray.size) undef).getD k undef = u := by
        have hlt := (List.getElem?_eq_some_iff.1 h1).1
        simp only [Array.getD_eq_getD_getElem?]
        rw [Array.getElem?_append_left (by simpa using hlt)]
        simp [h1]
      rw [this]; exact h2
  refine wp_seq (wp_mono (h hok hokH [] m w _ m w V hi.boxlen hi.tiplen rfl (Ext.refl m w V) hst) fun e a1 w1 ⟨T1, H1, V1, m1, k1, s1, x1⟩ => ?_)
  cases e with
  | normal =>
    have k1 : crunS P fn.ntmps ((pre ++ [(⟨dd, .defer ⟨.value fo, #[], tys⟩, ty, pos, after, none⟩ : Oper)]).map (·.dst)) pre T1 H1 V1 _ := k1
    refine wp_seq (wp_region_list ?_)
    generalize hops : pre ++ [(⟨dd, .defer ⟨.value fo, #[], tys⟩, ty, pos, after, none⟩ : Oper)] = ops at k1 ⊢
    rw [crunS, ← crun_lite] at k1
    have e : ops.toArray.toList = pre ++ [(⟨dd, .defer ⟨.value fo, #[], tys⟩, ty, pos, after, none⟩ : Oper)] := by rw [hops]
    rw [e]
    refine crun_soundR pre s1 k1 fun T2 H2 V2 a2 w2 m2 ⟨hd, ⟨caps, hcap, hlen⟩, hrest⟩ s2 x2 => ?_
    unfold wpList
    rw [if_pos (by simp [Region.wanted])]
    refine .inl ?_
    have ef : RelV m2 w2 V2 (evT T2 fo) (a2.eval fo) := ev_rel s2.tm fo
    rw [hcap, RelV] at ef
    obtain ⟨cus, eu, hr⟩ := ef
    have hrun : (execOp a2.eval ⟨dd, .defer ⟨.value fo, #[], tys⟩, ty, pos, after, none⟩).run P w2 = .ok (.defer { target := .fn (.func g) cus.toArray, args := #[] }) w2 := by
      simp [execOp, resolve, eu, Deferred.ofValue]
    unfold Oper.wp
    rw [hrun, Oper.upon_defer]
    unfold wpList
    have s3 : St [{ target := .fn (.func g) cus.toArray, args := #[] }] fn.ntmps m2 w2 (({ a2 with defers := { target := .fn (.func g) cus.toArray, args := #[] } :: a2.defers } : Act).put dd undef) (tput dd (.v undef) T2) H2 V2 := by
      have hp := s2.tm.put (c := .v undef) (u := undef) (d := dd) (by rw [RelV]) (by rw [s2.size]; exact hd)
      refine ⟨s2.inv, ?_, by rw [put_size]; exact s2.size, by rw [put_defers]; simp [s2.df]⟩
      intro j
      have := hp j
      cases dd <;> exact this
    refine wp_mono (hrest _ m2 w2 _ m w V hi.boxlen hi.tiplen rfl (x1.trans x2) s3) fun e a' w' ⟨T', H', V', m', k1, k2, k3⟩ => ?_
    have fin : resK P fn.results.toList T' H' (fun cs => Fin H.length V.length R (one cs) H' V') → Leaves P fn a'.tmps (fun e w' => ∃ u m' r H' V', e = .returned u ∧ R r H' V' ∧ Inv m' w' H' V' ∧ RelV m' w' V' r u ∧ Ext m w V m' w' V') a'.defers .returning w' := by
      intro hk
      obtain ⟨cs, u, q1, q2, r', H2, V2, q3, q4⟩ := results_run k2.inv k2.tm hk
      have hst2 : St [] 1 m' w' { tmps := #[u], defers := [] } [(0, one cs)] H' V' := by
        refine ⟨k2.inv, fun k => ?_, rfl, rfl⟩
        simp only [tget]
        by_cases hk : k = 0
        · subst hk; rw [if_pos rfl]; exact q2
        · rw [if_neg hk, RelV]; trivial
      obtain ⟨m2, t1, t2⟩ := q3 [] m' w' { tmps := #[u], defers := [] } m w V hi.boxlen hi.tiplen rfl k3 hst2
      rw [k2.df]
      obtain ⟨⟨gn, g1, g2, g3⟩, hcd⟩ := hD
      have hb' : ¬ gn.body = none := by cases hbb : gn.body <;> simp_all
      have g3' : ¬ gn.name = "runtime.NumGoroutine" := by simpa using g3
      refine leaves_cons (f := g) (args := cus.toArray) (by simp) (by simp [invoke, callFunc, g1, g3', hb']) ?_
      refine (hcd cus.toArray w' (by simp [relL_length hr, hlen])).mono ?_
      rintro e u' w'' ⟨⟨v, rfl⟩, rfl, rfl⟩
      refine ⟨u, q1, u, m2, r', H2, V2, rfl, q4, t1.inv, ?_, t2⟩
      have := t1.tm 0
      simpa [tget] using this
    cases e with
    | normal => exact fin k1
    | ret => exact fin k1
    | _ => exact k1.elim
  | _ => exact k1.elim
end Go.Proofs.Ythakkopnoeinmaa
namespace Go.Proofs.Ythakkopnoeinmaa
def isLd : Op → Bool
  | .load .. => true
  | _ => false
inductive Fl where
  | pl
  | st
  | ld
instance : DecidableEq Fl := fun a b => by cases a <;> cases b <;> first | exact isTrue rfl | exact isFalse (fun h => by cases h)
/-- These boxes stay. -/
def Keep (S : List Nat) (H H' : Hp) : Prop := ∀ b ∈ S, H'[b]? = H[b]?
theorem Keep.of_prefix {H H' : Hp} {b : Nat} {cs : List CV} (h : H <+: H') (hb : H[b]? = some (some cs)) : H'[b]? = some (some cs) := by
  obtain ⟨L, rfl⟩ := h
  exact at_old _ _ hb
/-- What it loads lies in one of these boxes. -/
def inS (S : List Nat) (ev : Operand → CV) : Op → Prop
  | .load _ a => match ev a with | .ptr b _ => b ∈ S | _ => True
  | _ => True
/-- What was in these boxes is there still. -/
def Kp (S : List Nat) (H H' : Hp) : Prop := ∀ b ∈ S, ∀ cs, H[b]? = some (some cs) → H'[b]? = some (some cs)
def rel (S : List Nat) (k : Bool) (H H' : Hp) : Prop := if k then Kp S H H' else H <+: H'
theorem Kp.of {S : List Nat} {H H' : Hp} (h : H <+: H') : Kp S H H' := fun _ _ _ h2 => Keep.of_prefix h h2
theorem Kp.keep {S : List Nat} {H H' : Hp} (h : Keep S H H') : Kp S H H' := fun b hb cs h2 => by rw [h b hb]; exact h2
theorem rel.refl {S : List Nat} {k : Bool} {H : Hp} : rel S k H H := by cases k; exact List.prefix_refl _; exact fun _ _ _ h => h
theorem rel.trans {S : List Nat} {k : Bool} {H H' H'' : Hp} (h1 : rel S k H H') (h2 : rel S k H' H'') : rel S k H H'' := by
  cases k
  · exact List.IsPrefix.trans h1 h2
  · exact fun b hb cs h => h2 b hb cs (h1 b hb cs h)
section
variable {P : Program}
theorem cop_onceF {S : List Nat} {κ : Bool} {ev : Operand → CV} {H : Hp} {V : List Nat} {K : CV → Hp → List Nat → Prop} {op : Op} (hp : pureOp op = true) (hk : pureOk ev op = true) (hS : κ = true → inS S ev op) (h : cop P ev H V K op) :
    ∃ c, K c H V ∧ ∀ H' V' K', (isLd op = true → rel S κ H H') → K' c H' V' → cop P ev H' V' K' op := by
  by_cases hl : isLd op = true ∧ κ = false
  · obtain ⟨hl, rfl⟩ := hl
    obtain ⟨c, h1, h2⟩ := cop_once hp hk h
    exact ⟨c, h1, fun H' V' K' q k => h2 H' V' K' (q hl) k⟩
  · replace hl : isLd op = false ∨ κ = true := by cases κ <;> simp_all
    cases op <;> simp only [pureOp, Bool.false_eq_true] at hp <;> simp only [cop] at h ⊢
    case move x => exact ⟨_, h, fun H' V' K' _ k => k⟩
    case assign x => exact ⟨_, h, fun H' V' K' _ k => k⟩
    case pick c x y =>
      split at h
      · exact ⟨_, h, fun H' V' K' _ k => k⟩
      · exact h.elim
    case load t a =>
      have hκ : κ = true := hl.elim (fun e => by cases e) id
      subst hκ
      obtain ⟨g, n, p, q⟩ := h
      have hS := hS rfl
      split at q
      · rename_i b o he
        obtain ⟨cs, a2, b2⟩ := q
        obtain ⟨c, h1, h2⟩ := ld_once b2
        simp only [inS, he] at hS
        refine ⟨c, h1, fun H' V' K' hl k => ⟨g, n, p, ?_⟩⟩
        exact ⟨cs, hl rfl b hS cs a2, h2 (fun c => K' c H' V') k⟩
      · rename_i cs o he
        obtain ⟨c, h1, h2⟩ := ld_once q
        refine ⟨c, h1, fun H' V' K' hl k => ⟨g, n, p, ?_⟩⟩
        exact h2 (fun c => K' c H' V') k
      · exact q.elim
    case nilCheck x =>
      split at h
      · exact ⟨_, h, fun H' V' K' _ k => k⟩
      · exact ⟨_, h, fun H' V' K' _ k => k⟩
      · exact ⟨_, h, fun H' V' K' _ k => k⟩
      · exact h.elim
    case binOp =>
      obtain ⟨c, h1, h2⟩ := cbin_once hk h
      exact ⟨c, h1, fun H' V' K' _ k => h2 (fun c => K' c H' V') k⟩
    case unOp =>
      obtain ⟨c, h1, h2⟩ := cun_once h
      exact ⟨c, h1, fun H' V' K' _ k => h2 (fun c => K' c H' V') k⟩
    case convert s d x =>
      obtain ⟨k, p, q⟩ := h
      split at q
      · rename_i he; exact ⟨_, q, fun H' V' K' _ r => ⟨_, p, by rw [he]; exact r⟩⟩
      · rename_i he
        obtain ⟨bs, a, b⟩ := q
        exact ⟨_, b, fun H' V' K' _ r => ⟨_, p, by rw [he]; exact ⟨bs, a, r⟩⟩⟩
      · rename_i he; exact ⟨_, q, fun H' V' K' _ r => ⟨_, p, by rw [he]; exact r⟩⟩
      · exact q.elim
    case fieldAddr s x f =>
      obtain ⟨o, g, n, p, q⟩ := h
      split at q
      · exact ⟨_, q, fun H' V' K' _ r => ⟨_, _, _, p, r⟩⟩
      · exact ⟨_, q, fun H' V' K' _ r => ⟨_, _, _, p, r⟩⟩
      · exact q.elim
    case field s x f =>
      obtain ⟨o, g, n, p, q⟩ := h
      split at q
      · obtain ⟨c, h1, h2⟩ := ld_once q
        exact ⟨c, h1, fun H' V' K' hl k => ⟨_, _, _, p, h2 (fun c => K' c H' V') k⟩⟩
      · exact q.elim
    case indexAddr =>
      obtain ⟨c, h1, h2⟩ := cidx_once h
      exact ⟨c, h1, fun H' V' K' _ k => h2 (fun c => K' c H' V') k⟩
    case index t x i =>
      obtain ⟨len, g, n, p, q⟩ := h
      split at q
      · obtain ⟨a, b, q⟩ := q
        obtain ⟨c, h1, h2⟩ := ld_once q
        exact ⟨c, h1, fun H' V' K' hl k => ⟨_, _, _, p, a, b, h2 (fun c => K' c H' V') k⟩⟩
      · exact q.elim
    case extract x i =>
      split at h
      · obtain ⟨a, b⟩ := h
        exact ⟨_, b, fun H' V' K' _ r => ⟨a, r⟩⟩
      · exact h.elim
    case build t parts =>
      obtain ⟨ps, zs, cs, a, b, c⟩ := h
      exact ⟨_, c, fun H' V' K' _ r => ⟨ps, zs, cs, a, b, r⟩⟩
    case call c =>
      split at h
      · rename_i hc; rw [hc] at hp; cases hp
      · obtain ⟨t, x, a, b, q⟩ := h
        obtain ⟨r, h1, h2⟩ := clen_once q
        exact ⟨r, h1, fun H' V' K' _ k => ⟨t, x, a, b, h2 (fun c => K' c H' V') k⟩⟩
      · rename_i hc; rw [hc] at hp; cases hp
      · exact h.elim
end
section
variable (P : Program) (n : Nat) (ops : List Oper) (fl : Nat → Bool) (S : List Nat)
/-- Whatever order is picked from here on. -/
def SAnyF (K : En → Hp → List Nat → Prop) : Nat → Array Bool → En → Hp → List Nat → Prop
  | 0, listed, E, H, V => Region.ready .any ops.toArray listed = [] ∧ K E H V
  | f + 1, listed, E, H, V => (Region.ready .any ops.toArray listed = [] → K E H V) ∧
    ∀ i ∈ Region.ready .any ops.toArray listed, ∀ o, ops[i]? = some o → cstepE P n ops o E H V (fun E' H' V' => rel S (fl i) H H' ∧ SAnyF K f (listed.setIfInBounds i true) E' H' V')
end

section
variable {P : Program} {n : Nat} {ops : List Oper} {fl : Nat → Bool} {S : List Nat}
/-- It leaves c, now and later. -/
def HldF (P : Program) (n : Nat) (ops : List Oper) (S : List Nat) (κ : Bool) (o : Oper) (c : CV) (E : En) (H : Hp) : Prop :=
  ∀ E2 H2 V2 K2, (∀ d ∈ o.looksAt ops.toArray, E2 d = E d) → (isLd o.op = true → rel S κ H H2) → K2 (putE o.dst c E2) H2 V2 → cstepE P n ops o E2 H2 V2 K2

theorem pure_stepF {κ : Bool} {o : Oper} {E : En} {H : Hp} {V : List Nat} {K : En → Hp → List Nat → Prop} (hp : pureOp o.op = true) (hk : pureOk (evE E) o.op = true) (hS : κ = true → inS S (evE E) o.op) (hs : cstepE P n ops o E H V K) :
    ∃ c, K (putE o.dst c E) H V ∧ HldF P n ops S κ o c E H := by
  unfold cstepE at hs
  obtain ⟨hd, hs⟩ := hs
  have go : cop P (evE E) H V (fun c H' V' => K (putE o.dst c E) H' V') o.op → ∃ c, K (putE o.dst c E) H V ∧ ∀ (E2 : En) (H2 : Hp) (V2 : List Nat) (K2 : En → Hp → List Nat → Prop), (∀ d ∈ o.looksAt ops.toArray, E2 d = E d) → (isLd o.op = true → rel S κ H H2) → K2 (putE o.dst c E2) H2 V2 → cop P (evE E2) H2 V2 (fun c H' V' => K2 (putE o.dst c E2) H' V') o.op := fun q => by
    obtain ⟨c, h1, h2⟩ := cop_onceF hp hk hS q
    refine ⟨c, h1, fun E2 H2 V2 K2 ha hl k => ?_⟩
    rw [cop_local (eval_agree ha)]
    exact h2 H2 V2 (fun c H' V' => K2 (putE o.dst c E2) H' V') hl k
  cases hg : o.guard with
  | none =>
    rw [hg] at hs
    obtain ⟨c, h1, h2⟩ := go hs
    refine ⟨c, h1, fun E2 H2 V2 K2 ha hl k => ?_⟩
    unfold cstepE
    rw [hg]
    exact ⟨hd, h2 E2 H2 V2 K2 ha hl k⟩
  | some jw =>
    obtain ⟨j, want⟩ := jw
    rw [hg] at hs
    dsimp only at hs
    cases hj : gtmp ops j with
    | none => rw [hj] at hs; exact hs.elim
    | some g =>
      rw [hj] at hs
      dsimp only at hs
      split at hs
      · rename_i b hb
        by_cases hbw : b = want
        · obtain ⟨c, h1, h2⟩ := go (hs.1 hbw)
          refine ⟨c, h1, fun E2 H2 V2 K2 ha hl k => ?_⟩
          unfold cstepE
          rw [hg]
          dsimp only
          rw [hj]
          dsimp only
          rw [guard_agree ha hg hj, hb]
          exact ⟨hd, fun _ => h2 E2 H2 V2 K2 ha hl k, fun e => absurd (hbw.symm.trans e) (by cases want <;> simp)⟩
        · have hb2 : b = !want := by cases b <;> cases want <;> simp_all
          refine ⟨.v undef, hs.2 hb2, fun E2 H2 V2 K2 ha hl k => ?_⟩
          unfold cstepE
          rw [hg]
          dsimp only
          rw [hj]
          dsimp only
          rw [guard_agree ha hg hj, hb]
          exact ⟨hd, fun e => absurd e hbw, fun _ => k⟩
      · rename_i vs hb
        refine ⟨.v undef, hs, fun E2 H2 V2 K2 ha hl k => ?_⟩
        unfold cstepE
        rw [hg]
        dsimp only
        rw [hj]
        dsimp only
        rw [guard_agree ha hg hj, hb]
        exact ⟨hd, k⟩
      · exact hs.elim

theorem SAnyF_first {κ : Bool} {K : En → Hp → List Nat → Prop} {i : Nat} {oi : Oper} {c : CV} (hi : ops[i]? = some oi) :
    ∀ (f : Nat) (listed : Array Bool) (E : En) (H : Hp) (V : List Nat),
      (∀ j oj, ops[j]? = some oj → j ≠ i → listed.getD j true = false → (∀ e ∈ oj.after, Region.binds .any e = true → e.on ≠ i) → oi.apart ops.toArray oj = true) →
      (isLd oi.op = true → κ = false → ∀ j oj, ops[j]? = some oj → j ≠ i → listed.getD j true = false → fl j = true → ∃ e ∈ oj.after, Region.binds .any e = true ∧ e.on = i) → i ∈ Region.ready .any ops.toArray listed → HldF P n ops S κ oi c E H →
      SAnyF P n ops fl S K f (listed.setIfInBounds i true) (putE oi.dst c E) H V → SAnyF P n ops fl S K (f + 1) listed E H V := by
  intro f
  induction f with
  | zero =>
    intro listed E H V _ _ hr hy h
    refine ⟨fun e => (by rw [e] at hr; cases hr), fun j hj o ho => ?_⟩
    by_cases hji : j = i
    · subst hji; rw [hi] at ho; cases ho
      exact hy _ _ _ _ (fun _ _ => rfl) (fun _ => rel.refl) ⟨rel.refl, h⟩
    · have := ready_mono hj hji
      rw [h.1] at this; cases this
  | succ f ih =>
    intro listed E H V hfree hst hr hy h
    refine ⟨fun e => (by rw [e] at hr; cases hr), fun j hj o ho => ?_⟩
    by_cases hji : j = i
    · subst hji; rw [hi] at ho; cases ho
      exact hy _ _ _ _ (fun _ _ => rfl) (fun _ => rel.refl) ⟨rel.refl, h⟩
    · have h1 := h.2 j (ready_mono hj hji) o ho
      obtain ⟨hjun, oj, hoj, hall⟩ := mem_ready.1 hj
      rw [List.getElem?_toArray, ho] at hoj; cases hoj
      have hnot : ∀ e ∈ o.after, Region.binds .any e = true → e.on ≠ i := fun e he hb heq => by
        have h1 := hall e he hb
        have h0 := (mem_ready.1 hr).1
        rw [heq] at h1
        rcases Nat.lt_or_ge i listed.size with h' | h'
        · simp [h'] at h0 h1; rw [h0] at h1; cases h1
        · simp [Array.getElem?_eq_none h'] at h1
      obtain ⟨p1, p2, p3⟩ := Oper.apart_spec (hfree j o ho hji hjun hnot)
      have hfree' : ∀ k ok, ops[k]? = some ok → k ≠ i → (listed.setIfInBounds j true).getD k true = false →
          (∀ e ∈ ok.after, Region.binds .any e = true → e.on ≠ i) → oi.apart ops.toArray ok = true := fun k ok hk hki hun hno => by
        refine hfree k ok hk hki ?_ hno
        by_cases hjk : j = k
        · subst hjk; exact hjun
        · rw [getD_set_ne true hjk] at hun; exact hun
      have hput : ∀ {d : Option Nat} {c : CV} {E : En} {t : Nat}, (d ≠ some t) → putE d c E t = E t := fun {d c E t} h => by
        cases d with
        | none => rfl
        | some d => simp only [putE]; rw [if_neg (fun e => h (by rw [e]))]
      refine cstepE_swap (E := putE oi.dst c E) (fun d hd => hput fun e => p1 d e hd) (fun c' H' V' ⟨q1, q2⟩ => ⟨q1, ?_⟩) h1
      rw [putE_comm p2] at q2
      rw [Array.setIfInBounds_comm _ _ (Ne.symm hji)] at q2
      have hst' : isLd oi.op = true → κ = false → ∀ k ok, ops[k]? = some ok → k ≠ i → (listed.setIfInBounds j true).getD k true = false → fl k = true → ∃ e ∈ ok.after, Region.binds .any e = true ∧ e.on = i := fun hl hκ k ok hk hki hun => by
        refine hst hl hκ k ok hk hki ?_
        by_cases hjk : j = k
        · subst hjk; exact hjun
        · rw [getD_set_ne true hjk] at hun; exact hun
      refine ih (listed.setIfInBounds j true) _ H' V' hfree' hst' (ready_mono hr (Ne.symm hji)) (fun E2 H2 V2 K2 ha hl k => hy E2 H2 V2 K2 (fun d hd => ?_) (fun hld => rel.trans ?_ (hl hld)) k) q2
      case refine_2 =>
        cases hfj : fl j with
        | false =>
          rw [hfj] at q1
          cases κ
          · exact q1
          · exact Kp.of q1
        | true =>
          rw [hfj] at q1
          cases κ with
          | true => exact q1
          | false =>
          obtain ⟨e, he, hb, hon⟩ := hst hld rfl j o ho hji hjun hfj
          exact absurd hon (hnot e he hb)
      rw [ha d hd]
      exact hput fun e => p3 d e hd

theorem SAnyF_sound {Q : Exit → Act → World → Prop} {K : En → Hp → List Nat → Prop} : ∀ (f : Nat) {listed : Array Bool} {E : En} {m : Gh} {w : World} {a : Act} {H : Hp} {V : List Nat},
    Inv m w H V → (∀ k, RelV m w V (E k) (a.tmps.getD k undef)) → a.tmps.size = n → SAnyF P n ops fl S K f listed E H V →
    (∀ E' H' V' a' m' w', K E' H' V' → Inv m' w' H' V' → (∀ k, RelV m' w' V' (E' k) (a'.tmps.getD k undef)) → a'.tmps.size = n → a'.defers = a.defers → Ext m w V m' w' V' → Q .normal a' w') → wpAny P .any ops.toArray Q f listed a w
  | 0, listed, E, m, w, a, H, V, hi, ht, hz, h, hK => ⟨h.1, hK _ _ _ _ _ _ h.2 hi ht hz rfl (Ext.refl m w V)⟩
  | f + 1, listed, E, m, w, a, H, V, hi, ht, hz, h, hK => by
    refine ⟨fun e => hK _ _ _ _ _ _ (h.1 e) hi ht hz rfl (Ext.refl m w V), fun i hr => ?_⟩
    obtain ⟨_, o, ho, _⟩ := mem_ready.1 hr
    rw [List.getElem?_toArray] at ho
    refine cstepE_sound ho hi ht hz (h.2 i hr o ho) fun E' H' V' a' m' w' k1 k2 k3 k4 k5 k6 => ?_
    exact SAnyF_sound f k2 k3 k4 k1.2 fun E2 H2 V2 a2 m2 w2 q1 q2 q3 q4 q5 q6 => hK _ _ _ _ _ _ q1 q2 q3 q4 (q5.trans k5) (k6.trans q6)

/-! ### One order -/
def flg (l : List (Nat × Fl)) (i : Nat) : Bool := l.contains (i, Fl.st)
/-- What stores comes after this load. -/
def ldOk (ops : List Oper) (l : List (Nat × Fl)) (i : Nat) (listed : Array Bool) : Bool :=
  l.all fun p => !(p.2 == Fl.st) || p.1 == i || listed.getD p.1 true || (match ops[p.1]? with | some o => o.after.any fun e => Region.binds .any e && e.on == i | none => true)
theorem ldOk_spec {l : List (Nat × Fl)} {i : Nat} {listed : Array Bool} (h : ldOk ops l i listed = true) : ∀ j oj, ops[j]? = some oj → j ≠ i → listed.getD j true = false → flg l j = true → ∃ e ∈ oj.after, Region.binds .any e = true ∧ e.on = i := fun j oj hj hne hun hf => by
  have h1 := List.all_eq_true.1 h (j, Fl.st) (by simpa [flg] using hf)
  simp only [beq_self_eq_true, Bool.not_true, Bool.false_or, hun, Bool.or_false, hj, Bool.or_eq_true, beq_iff_eq] at h1
  rcases h1 with h1 | h1
  · exact absurd h1 hne
  · obtain ⟨e, h1, h2⟩ := Array.any_eq_true'.1 h1
    rw [Bool.and_eq_true] at h2
    exact ⟨e, h1, h2.1, by simpa using h2.2⟩
def ordF (ops : List Oper) (l0 : List (Nat × Fl)) : List (Nat × Fl) → Array Bool → Bool
  | [], listed => (Region.ready .any ops.toArray listed).isEmpty
  | (i, b) :: r, listed =>
    flg l0 i == (b == Fl.st) &&
    ((match ops[i]? with
      | some o => (pureOp o.op && (Region.ready .any ops.toArray listed).contains i && Region.free .any ops.toArray listed i && (!isLd o.op || b == Fl.ld || ldOk ops l0 i listed)) || Region.ready .any ops.toArray listed == [i]
      | none => false) && ordF ops l0 r (listed.setIfInBounds i true))
/-- The operations in this order. -/
def crunF (P : Program) (n : Nat) (ops : List Oper) (S : List Nat) : List (Nat × Fl) → Tm → Hp → List Nat → (Tm → Hp → List Nat → Prop) → Prop
  | [], T, H, V, K => K T H V
  | (i, b) :: r, T, H, V, K =>
    match ops[i]? with
    | some o => pureOk (evT T) o.op = true ∧ (b = Fl.ld → inS S (evT T) o.op) ∧ crun P n ops [o] T H V fun T' H' V' => rel S (b == Fl.st) H H' ∧ crunF P n ops S r T' H' V' K
    | none => False

theorem crunF_any {S : List Nat} {l0 : List (Nat × Fl)} {K : Tm → Hp → List Nat → Prop} : ∀ (l : List (Nat × Fl)) (f : Nat) (listed : Array Bool) (T : Tm) (H : Hp) (V : List Nat), l.length = f → ordF ops l0 l listed = true → crunF P n ops S l T H V K →
    SAnyF P n ops (flg l0) S (fun E H V => ∃ T', tget T' = E ∧ K T' H V) f listed (tget T) H V
  | [], f, listed, T, H, V, hf, ho, h => by
    subst hf
    exact ⟨by simpa [ordF] using ho, T, rfl, h⟩
  | (i, b) :: r, f, listed, T, H, V, hf, ho, h => by
    subst hf
    rw [ordF, Bool.and_eq_true, Bool.and_eq_true] at ho
    rw [crunF] at h
    obtain ⟨hfb, ho, hrest⟩ := ho
    replace hfb : flg l0 i = (b == Fl.st) := by simpa using hfb
    cases hi : ops[i]? with
    | none => rw [hi] at h; exact h.elim
    | some o =>
      rw [hi] at h ho
      dsimp only at h ho
      obtain ⟨hk, hin, h⟩ := h
      have h1 := crun_one h
      rw [Bool.or_eq_true] at ho
      rcases ho with ho | ho
      · rw [Bool.and_eq_true, Bool.and_eq_true, Bool.and_eq_true] at ho
        obtain ⟨⟨⟨hp, hr⟩, hf⟩, hld⟩ := ho
        obtain ⟨c, ⟨T', e1, _, e3⟩, hh⟩ := pure_stepF (κ := b == Fl.ld) (S := S) hp (by rw [← evT_eq]; exact hk) (fun e => by rw [← evT_eq]; exact hin (by simpa using e)) h1
        have := crunF_any r r.length _ T' H V rfl hrest e3
        rw [e1] at this
        exact SAnyF_first hi r.length listed _ H V (fun j oj hj hne hun hno => Region.free_spec (by rw [List.getElem?_toArray]; exact hi) hf j oj (by rw [List.getElem?_toArray]; exact hj) hne hun hno) (fun hl hκ => ldOk_spec (by rw [hl, hκ] at hld; simpa using hld)) (by simpa using hr) hh this
      · have hr : Region.ready .any ops.toArray listed = [i] := by simpa using ho
        refine ⟨fun e => (by rw [hr] at e; cases e), fun j hj o' ho' => ?_⟩
        rw [hr] at hj
        obtain rfl : j = i := by simpa using hj
        rw [hi] at ho'; cases ho'
        refine cstepE_mono (fun E H' V' ⟨T', e1, e2, e3⟩ => ?_) h1
        subst e1
        exact ⟨by rw [hfb]; exact e2, crunF_any r r.length _ T' H' V' rfl hrest e3⟩

/-- A REGION WHOSE ORDER IS DRAWN: one order is enough. -/
theorem SWp.drawn0F {S : List Nat} {id nb nv : Nat} {Q : Exit → Tm → Hp → List Nat → Prop} {T : Tm} {H : Hp} {V : List Nat} (l : List (Nat × Fl)) (hm : P.follows .mixedOrders = true) (ho : ordF ops l l (Array.replicate ops.length false) = true) (hl : l.length = ops.length)
    (h : crunF P n ops S l T H V (Q .normal)) : SWp P n nb nv (.region id ops.toArray true) Q T H V := by
  intro D m w a m0 w0 V0 h1 h2 h3 hx hs
  refine wp_region_any hm ?_
  have hd : Inv m { w with drawn := w.drawn + 1 } H V ∧ Ext m w V m { w with drawn := w.drawn + 1 } V := by
    have he : Ext m w V m { w with drawn := w.drawn + 1 } V :=
      ⟨rfl, rfl, rfl, Nat.le_refl _, fun _ c _ _ h => ⟨c, h, rfl⟩, fun _ => Nat.le_refl _, fun _ _ _ => rfl, fun _ _ _ _ => rfl, fun _ _ h => h, fun _ _ h => .inl h, fun _ _ h => .inl h, fun _ v h => ⟨v, h, Nat.le_refl _, fun _ => ⟨rfl, fun _ _ => rfl⟩⟩⟩
    refine ⟨⟨hs.inv.boxlen, hs.inv.tiplen, hs.inv.limv, hs.inv.tips, hs.inv.boxes, fun b cs h => ?_⟩, he⟩
    obtain ⟨k, c, e, q1, q2, q3, q4, q5⟩ := hs.inv.alive b cs h
    exact ⟨k, c, e, q1, q2, q3, q4, relC_box he rfl q5⟩
  have := crunF_any l ops.length _ T H V hl ho h
  simp only [List.size_toArray]
  refine SAnyF_sound (fl := flg l) (S := S) (Q := fun e a' w' => ∃ T' H' V' m', Q e T' H' V' ∧ St D n m' w' a' T' H' V' ∧ Ext m0 w0 V0 m' w' V') ops.length hd.1 (fun k => RelV.mono hd.2 _ _ (hs.tm k)) hs.size this fun E' H' V' a' m' w' k1 k2 k3 k4 k5 k6 => ?_
  obtain ⟨T', e, hq⟩ := k1
  subst e
  exact ⟨T', H', V', m', hq, ⟨k2, k3, k4, by rw [k5]; exact hs.df⟩, (hx.trans hd.2).trans k6⟩
end
def inA (S : List Nat) : CV → Prop
  | .ptr b _ => b ∈ S
  | _ => True
def inSF (b : Fl) (S : List Nat) (ev : Operand → CV) (op : Op) : Prop := b = Fl.ld → inS S ev op
@[go_sem] theorem inSF_pl (S : List Nat) (ev : Operand → CV) (op : Op) : inSF .pl S ev op = True := eq_true fun h => by cases h
@[go_sem] theorem inSF_st (S : List Nat) (ev : Operand → CV) (op : Op) : inSF .st S ev op = True := eq_true fun h => by cases h
@[go_sem] theorem inSF_ld (S : List Nat) (ev : Operand → CV) (t : TypeId) (a : Operand) : inSF .ld S ev (.load t a) = inA S (ev a) := by
  refine propext ⟨fun h => ?_, fun h _ => ?_⟩
  · have := h rfl; simp only [inS] at this; unfold inA; split <;> simp_all
  · simp only [inS]; unfold inA at h; split <;> simp_all
@[go_sem] theorem inA_ptr (S : List Nat) (b o : Nat) : inA S (.ptr b o) = (b ∈ S) := rfl
@[go_sem] theorem inA_eptr (S : List Nat) (b : List CV) (o : Nat) : inA S (.eptr b o) = True := rfl
def relF (S : List Nat) (b : Fl) (H H' : Hp) : Prop := rel S (b == Fl.st) H H'
@[go_sem] theorem relF_pl (S : List Nat) (H H' : Hp) : relF S .pl H H' = (H <+: H') := rfl
@[go_sem] theorem relF_ld (S : List Nat) (H H' : Hp) : relF S .ld H H' = (H <+: H') := rfl
@[go_sem] theorem relF_st (S : List Nat) (H H' : Hp) : relF S .st H H' = Kp S H H' := rfl
@[go_sem] theorem Kp_nil (H H' : Hp) : Kp [] H H' = True := eq_true fun b hb => by cases hb
@[go_sem] theorem Kp_self (S : List Nat) (H : Hp) : Kp S H H = True := eq_true fun _ _ _ h => h
theorem Kp_set {S : List Nat} {H : Hp} {k : Nat} {x : Option (List CV)} (h : k ∉ S) : Kp S H (H.set k x) := fun b hb cs h2 => by
  rw [List.getElem?_set_ne (fun e => h (by rw [e]; exact hb))]; exact h2
/-- One order, over what simp is to look at. -/
def crunFL (P : Program) (n : Nat) (ds : List (Option Tmp)) (ops : List Oper) (S : List Nat) : List (Nat × Fl) → Tm → Hp → List Nat → (Tm → Hp → List Nat → Prop) → Prop
  | [], T, H, V, K => K T H V
  | (i, b) :: r, T, H, V, K => withO (ops[i]?) fun o => pureOk (evT T) o.op = true ∧ inSF b S (evT T) o.op ∧ crunL P n ds [o] T H V fun T' H' V' => relF S b H H' ∧ crunFL P n ds ops S r T' H' V' K
def crunFS (P : Program) (n : Nat) (ds : List (Option Tmp)) (ops : List Oper) (S : List Nat) (l : List (Nat × Fl)) (T : Tm) (H : Hp) (V : List Nat) (K : Tm → Hp → List Nat → Prop) : Prop := crunFL P n ds ops S l T H V K
theorem crunF_lite (P : Program) (n : Nat) (ops : List Oper) (S : List Nat) : ∀ (l : List (Nat × Fl)) (T : Tm) (H : Hp) (V : List Nat) (K : Tm → Hp → List Nat → Prop), crunF P n ops S l T H V K = crunFL P n (ops.map (·.dst)) ops S l T H V K
  | [], _, _, _, _ => rfl
  | (i, b) :: r, T, H, V, K => by
    rw [crunF, crunFL, withO_eq]
    cases ops[i]? with
    | none => simp
    | some o => simp [crun_lite, crunF_lite P n ops S r, inSF, relF]
section
variable {P : Program} {n : Nat} {ds : List (Option Tmp)} {ls : List Oper} {S : List Nat} {T T' : Tm} {H H' : Hp} {V V' : List Nat} {K : Tm → Hp → List Nat → Prop}
@[go_sem] theorem crunFS_eq (l : List (Nat × Fl)) : crunFS P n ds ls S l T H V K = crunFL P n ds ls S l T H V K := rfl
@[go_sem] theorem crunFL_nil : crunFL P n ds ls S [] T H V K = K T H V := rfl
/-- What follows an operation of one order. -/
def contF (b : Fl) (P : Program) (n : Nat) (ds : List (Option Tmp)) (ls : List Oper) (S : List Nat) (r : List (Nat × Fl)) (H : Hp) (K : Tm → Hp → List Nat → Prop) : Tm → Hp → List Nat → Prop := fun T' H' V' => relF S b H H' ∧ crunFL P n ds ls S r T' H' V' K
@[go_sem ↓] theorem contF_eq (b : Fl) (r : List (Nat × Fl)) : contF b P n ds ls S r H K T H' V = (relF S b H H' ∧ crunFL P n ds ls S r T H' V K) := id rfl
@[go_sem] theorem crunFL_cons (i : Nat) (b : Fl) (r : List (Nat × Fl)) : crunFL P n ds ls S ((i, b) :: r) T H V K = withO (ls[i]?) fun o => pureOk (evT T) o.op = true ∧ inSF b S (evT T) o.op ∧ crunL P n ds [o] T H V (contF b P n ds ls S r H K) := rfl
@[congr] theorem crunFL_congr {l : List (Nat × Fl)} (h1 : T = T') (h2 : H = H') (h3 : V = V') : crunFL P n ds ls S l T H V K = crunFL P n ds ls S l T' H' V' K := by subst h1 h2 h3; rfl
@[congr] theorem crunFS_congr {ds' : List (Option Tmp)} {l : List (Nat × Fl)} (h0 : ds = ds') (h1 : T = T') (h2 : H = H') (h3 : V = V') : crunFS P n ds ls S l T H V K = crunFS P n ds' ls S l T' H' V' K := by subst h0 h1 h2 h3; rfl
end
theorem SWp.drawnF {P : Program} {n id nb nv : Nat} {ops : List Oper} {Q : Exit → Tm → Hp → List Nat → Prop} {T : Tm} {H : Hp} {V : List Nat} (S : List Nat) (l : List (Nat × Fl)) (hm : P.follows .mixedOrders = true) (ho : ordF ops l l (Array.replicate ops.length false) = true) (hl : l.length = ops.length)
    (h : crunFS P n (ops.map (·.dst)) ops S l T H V (Q .normal)) : SWp P n nb nv (.region id ops.toArray true) Q T H V := SWp.drawn0F l hm ho hl (by rw [crunF_lite]; exact h)
end Go.Proofs.Ythakkopnoeinmaa
namespace Go.Proofs.Ythakkopnoeinmaa
variable {P : Program}
/-- What a function that may panic leaves. -/
def RtX (P : Program) (nb nv : Nat) (res : List ResultVar) (R : CV → Hp → List Nat → Prop) (E : List PanicEntry → Hp → List Nat → Prop) : Exit → Tm → Hp → List Nat → Prop
  | .ret, T, H, V => resK P res T H fun cs => Fin nb nv R (one cs) H V
  | .normal, T, H, V => resK P res T H fun cs => Fin nb nv R (one cs) H V
  | .panic ch, _, H, V => E ch H V
  | _, _, _, _ => False
/-- A deferred closure, where its frame panics: it recovers. -/
def CD (P : Program) (g : FuncId) (caps : List CV) (ch : List PanicEntry) (H : Hp) (V : List Nat) (K : Hp → List Nat → Prop) : Prop :=
  (∃ fn, P.funcs[g]? = some fn ∧ fn.body.isSome = true ∧ (fn.name == "runtime.NumGoroutine") = false) ∧
  ∀ (m : Gh) (w : World) (us : List Value), Inv m w H V → RelL m w V caps us →
    CallsD P g us.toArray (.panicking ch) w fun e u' w' => (∃ v, e = .returned v) ∧ settle u' = .returning ∧ ∃ m' H' V', K H' V' ∧ Inv m' w' H' V' ∧ Ext m w V m' w' V'
theorem CD.mono {g : FuncId} {caps : List CV} {ch : List PanicEntry} {H : Hp} {V : List Nat} {K K' : Hp → List Nat → Prop} (h : CD P g caps ch H V K) (hk : ∀ H V, K H V → K' H V) : CD P g caps ch H V K' :=
  ⟨h.1, fun m w us hi hu => (h.2 m w us hi hu).mono fun _ _ _ ⟨h1, h2, m', H', V', h3, h4⟩ => ⟨h1, h2, m', H', V', hk _ _ h3, h4⟩⟩
/-- What a function that recovers leaves. -/
def RtD (P : Program) (nb nv : Nat) (res : List ResultVar) (R : CV → Hp → List Nat → Prop) (g : FuncId) (caps : List CV) : Exit → Tm → Hp → List Nat → Prop
  | .ret, T, H, V => resK P res T H fun cs => Fin nb nv R (one cs) H V
  | .normal, T, H, V => resK P res T H fun cs => Fin nb nv R (one cs) H V
  | .panic ch, T, H, V => CD P g caps ch H V fun H' V' => resK P res T H' fun cs => Fin nb nv R (one cs) H' V'
  | _, _, _, _ => False
section
variable {nb nv : Nat} {T T' : Tm} {H H' : Hp} {V V' : List Nat} {res : List ResultVar} {R : CV → Hp → List Nat → Prop} {E : List PanicEntry → Hp → List Nat → Prop} {g : FuncId} {caps : List CV} {ch : List PanicEntry}
@[go_sem] theorem RtX_ret : RtX P nb nv res R E .ret T H V = resK P res T H fun cs => Fin nb nv R (one cs) H V := rfl
@[go_sem] theorem RtX_normal : RtX P nb nv res R E .normal T H V = resK P res T H fun cs => Fin nb nv R (one cs) H V := rfl
@[go_sem] theorem RtX_panic : RtX P nb nv res R E (.panic ch) T H V = E ch H V := rfl
@[congr] theorem RtX_congr {e : Exit} (h1 : T = T') (h2 : H = H') (h3 : V = V') : RtX P nb nv res R E e T H V = RtX P nb nv res R E e T' H' V' := by subst h1 h2 h3; rfl
@[go_sem] theorem RtD_ret : RtD P nb nv res R g caps .ret T H V = resK P res T H fun cs => Fin nb nv R (one cs) H V := rfl
@[go_sem] theorem RtD_normal : RtD P nb nv res R g caps .normal T H V = resK P res T H fun cs => Fin nb nv R (one cs) H V := rfl
@[go_sem] theorem RtD_panic : RtD P nb nv res R g caps (.panic ch) T H V = CD P g caps ch H V fun H' V' => resK P res T H' fun cs => Fin nb nv R (one cs) H' V' := rfl
@[congr] theorem RtD_congr {e : Exit} (h1 : T = T') (h2 : H = H') (h3 : V = V') : RtD P nb nv res R g caps e T H V = RtD P nb nv res R g caps e T' H' V' := by subst h1 h2 h3; rfl
@[congr] theorem CX_congr {f : FuncId} {args args' : List CV} {K : CV → Hp → List Nat → Prop} (h1 : args = args') (h2 : H = H') (h3 : V = V') : CX P f args H V K E = CX P f args' H' V' K E := by subst h1 h2 h3; rfl
@[congr] theorem CD_congr {caps' : List CV} {K : Hp → List Nat → Prop} (h1 : caps = caps') (h2 : H = H') (h3 : V = V') : CD P g caps ch H V K = CD P g caps' ch H' V' K := by subst h1 h2 h3; rfl
@[congr] theorem hcallx_congr {f f' : CV} {args args' : List CV} {K : CV → Hp → List Nat → Prop} (h1 : f = f') (h2 : args = args') (h3 : H = H') (h4 : V = V') : hcallx P H V K E f args = hcallx P H' V' K E f' args' := by subst h1 h2 h3 h4; rfl
end

@[go_sem ↓] theorem thn_panic {N : Tm → Hp → List Nat → Prop} {Q : Exit → Tm → Hp → List Nat → Prop} {ch : List PanicEntry} : thn N Q (.panic ch) = Q (.panic ch) := rfl
@[go_sem ↓] theorem blk_panic {id : Nat} {Q : Exit → Tm → Hp → List Nat → Prop} {ch : List PanicEntry} : blk id Q (.panic ch) = Q (.panic ch) := rfl
theorem SWp.condT {n nb nv : Nat} {c : Operand} {x y : Code} {Q : Exit → Tm → Hp → List Nat → Prop} {T : Tm} {H : Hp} {V : List Nat} (hc : evT T c = .v (.bool true)) (h : SWp P n nb nv x Q T H V) : SWp P n nb nv (.cond c x y) Q T H V := fun D m w a m0 w0 V0 h1 h2 h3 hx hs => by
  have := ev_rel hs.tm c
  rw [hc, RelV] at this
  exact wp_cond_split this (fun _ => h D m w a m0 w0 V0 h1 h2 h3 hx hs) (fun e => by cases e)
theorem SWp.condF {n nb nv : Nat} {c : Operand} {x y : Code} {Q : Exit → Tm → Hp → List Nat → Prop} {T : Tm} {H : Hp} {V : List Nat} (hc : evT T c = .v (.bool false)) (h : SWp P n nb nv y Q T H V) : SWp P n nb nv (.cond c x y) Q T H V := fun D m w a m0 w0 V0 h1 h2 h3 hx hs => by
  have := ev_rel hs.tm c
  rw [hc, RelV] at this
  exact wp_cond_split this (fun e => by cases e) (fun _ => h D m w a m0 w0 V0 h1 h2 h3 hx hs)

theorem st0 {n : Nat} {args : List CV} {us : List Value} {m : Gh} {w : World} {H : Hp} {V : List Nat} (hi : Inv m w H V) (hu : RelL m w V args us) (ha : args.length ≤ n) : St [] n m w { tmps := us.toArray ++ Array.replicate (n - us.toArray.size) undef, defers := [] } (args0 0 args) H V := by
  have hl := relL_length hu
  refine ⟨hi, fun k => ?_, by simp [hl]; omega, rfl⟩
  rw [args0_get]
  simp only [Nat.zero_le, if_true, Nat.sub_zero]
  cases hk : args[k]? with
  | none => rw [Option.getD_none, RelV]; trivial
  | some c =>
    obtain ⟨u, h1, h2⟩ := relL_get hu k c hk
    have : (us.toArray ++ Array.replicate (n - us.toArray.size) undef).getD k undef = u := by
      have hlt := (List.getElem?_eq_some_iff.1 h1).1
      simp only [Array.getD_eq_getD_getElem?]
      rw [Array.getElem?_append_left (by simpa using hlt)]
      simp [h1]
    rw [this]; exact h2

theorem fin_out {nb nv : Nat} {R : CV → Hp → List Nat → Prop} {rs : List ResultVar} {D : List Deferred} {n : Nat} {fn : Func} {a' : Act} {m m' : Gh} {w w' : World} {V V' : List Nat} {T' : Tm} {H' : Hp} (hrs : rs = fn.results.toList) (hb : m.box.length = nb) (hv : m.tip.length = nv) (hV : V.length = nv) (k2 : St D n m' w' a' T' H' V') (k3 : Ext m w V m' w' V')
    (hk : resK P rs T' H' (fun cs => Fin nb nv R (one cs) H' V')) : ∃ v, (results fn a'.tmps).run P w' = .ok v w' ∧ ∃ u m' r H' V', Ending.returned v = Ending.returned u ∧ R r H' V' ∧ Inv m' w' H' V' ∧ RelV m' w' V' r u ∧ Ext m w V m' w' V' := by
  subst hrs
  obtain ⟨cs, u, q1, q2, r', H2, V2, q3, q4⟩ := results_run k2.inv k2.tm hk
  refine ⟨u, q1, ?_⟩
  have hst2 : St [] 1 m' w' { tmps := #[u], defers := [] } [(0, one cs)] H' V' := by
    refine ⟨k2.inv, fun k => ?_, rfl, rfl⟩
    simp only [tget]
    by_cases hk : k = 0
    · subst hk; rw [if_pos rfl]; exact q2
    · rw [if_neg hk, RelV]; trivial
  obtain ⟨m2, s1, s2⟩ := q3 [] m' w' { tmps := #[u], defers := [] } m w V hb hv hV k3 hst2
  refine ⟨u, m2, r', H2, V2, rfl, q4, s1.inv, ?_, s2⟩
  have := s1.tm 0
  simpa [tget] using this

theorem CX.of_swp {f : FuncId} {fn : Func} {c : Code} {args : List CV} {H : Hp} {V : List Nat} {R : CV → Hp → List Nat → Prop} {E : List PanicEntry → Hp → List Nat → Prop} (hf : P.funcs[f]? = some fn) (hb : fn.body = some c) (hn : (fn.name == "runtime.NumGoroutine") = false) (ha : args.length ≤ fn.ntmps)
    (h : okL H.length V.length args → (∀ (b : Nat) cs, H[b]? = some (some cs) → okL H.length V.length cs) → SWp P fn.ntmps H.length V.length c (RtX P H.length V.length fn.results.toList R E) (args0 0 args) H V) : CX P f args H V R E := by
  refine ⟨⟨fn, hf, by rw [hb]; rfl, hn⟩, fun m w us hi hu => ?_⟩
  have hok : okL H.length V.length args := by rw [← hi.boxlen]; exact RelL.ok args us hu
  have hokH : ∀ (b : Nat) cs, H[b]? = some (some cs) → okL H.length V.length cs := fun b cs hbc => by
    obtain ⟨k, c, e, _, _, _, _, h5⟩ := hi.alive b cs hbc
    rw [← hi.boxlen]; exact RelC.ok k cs 0 h5
  refine calls_of_wp hf hb ?_
  refine wp_mono (h hok hokH [] m w _ m w V hi.boxlen hi.tiplen rfl (Ext.refl m w V) (st0 hi hu ha)) fun e a' w' ⟨T', H', V', m', k1, k2, k3⟩ => ?_
  have fin : resK P fn.results.toList T' H' (fun cs => Fin H.length V.length R (one cs) H' V') → bodyPost P fn (fun e w' => (∃ u m' r H' V', e = .returned u ∧ R r H' V' ∧ Inv m' w' H' V' ∧ RelV m' w' V' r u ∧ Ext m w V m' w' V') ∨
      (∃ ch m' H' V', e = .panicked ch ∧ E ch H' V' ∧ Inv m' w' H' V' ∧ Ext m w V m' w' V')) .ret a' w' := fun hk => by
    obtain ⟨v, q1, q2⟩ := fin_out (fn := fn) rfl hi.boxlen hi.tiplen rfl k2 k3 hk
    exact ⟨k2.df, v, q1, .inl q2⟩
  cases e with
  | normal => exact fin k1
  | ret => exact fin k1
  | panic ch => exact ⟨k2.df, .inr ⟨ch, m', H', V', rfl, k1, k2.inv, k3⟩⟩
  | _ => exact k1.elim

/-- The closure's code: recover; if something was recovered, c2. -/
theorem CD.of_swp {g : FuncId} {fn : Func} {i0 i1 a b c d : Nat} {tys : Array TypeId} {y0 y1 y2 y3 y4 y5 : TypeId} {p0 p1 p2 p3 : String} {e0 e1 e2 e3 : Array Edge} {c2 : Code} {caps : List CV} {u : TypeId} {pv : Value} {H : Hp} {V : List Nat} {K : Hp → List Nat → Prop}
    (hf : P.funcs[g]? = some fn) (hb : fn.body = some (.seq (.region i0 #[⟨some a, .call ⟨.builtin .recover, #[], tys⟩, y0, p0, e0, none⟩, ⟨some b, .assign (.tmp a), y1, p1, e1, none⟩] false)
      (.seq (.region i1 #[⟨some c, .move (.tmp b), y2, p2, e2, none⟩, ⟨some d, .binOp .neq y3 (.tmp c) (.const .nilIface) y4, y5, p3, e3, none⟩] false) (.cond (.tmp d) c2 .skip))))
    (hn : (fn.name == "runtime.NumGoroutine") = false) (hr : fn.results = #[]) (ha : caps.length ≤ fn.ntmps) (l1 : a < fn.ntmps) (l2 : b < fn.ntmps) (l3 : c < fn.ntmps) (l4 : d < fn.ntmps)
    (hcmp : ∀ (w : World) (A : Act), A.eval (.tmp c) = .iface u pv → (execOp A.eval ⟨some d, .binOp .neq y3 (.tmp c) (.const .nilIface) y4, y5, p3, e3, none⟩).run P w = .ok (.value (.bool true)) w)
    (h : SWp P fn.ntmps H.length V.length c2 (Rt P H.length V.length [] fun _ => K) (tput (some d) (.v (.bool true)) (tput (some c) (.v (.iface u pv)) (tput (some b) (.v (.iface u pv)) (tput (some a) (.v (.iface u pv)) (args0 0 caps))))) H V) : CD P g caps [{ v := .iface u pv, recovered := false }] H V K := by
  refine ⟨⟨fn, hf, by rw [hb]; rfl, hn⟩, fun m w us hi hu => ?_⟩
  refine callsD_of_wpS hf hb fun c₀ cs hm => ?_
  have s0 := st0 (n := fn.ntmps) hi hu ha
  generalize ({ tmps := us.toArray ++ Array.replicate (fn.ntmps - us.toArray.size) undef, defers := [] } : Act) = A at s0
  have hz := s0.size
  have hd := s0.df
  have s1 := s0.tm.put (d := some a) (c := .v (.iface u pv)) (u := .iface u pv) (by rw [RelV]) (by show a < A.tmps.size; rw [hz]; exact l1)
  have z1 : (A.put (some a) (.iface u pv)).tmps.size = fn.ntmps := by rw [put_size]; exact hz
  have g1 : (A.put (some a) (.iface u pv)).eval (.tmp a) = .iface u pv := by
    simp [Act.put, Act.eval, hz, l1]
  generalize hA1 : A.put (some a) (.iface u pv) = A1 at s1 z1 g1
  have s2 := s1.put (d := some b) (c := .v (.iface u pv)) (u := .iface u pv) (by rw [RelV]) (by show b < A1.tmps.size; rw [z1]; exact l2)
  have z2 : (A1.put (some b) (.iface u pv)).tmps.size = fn.ntmps := by rw [put_size]; exact z1
  have g2 : (A1.put (some b) (.iface u pv)).eval (.tmp b) = .iface u pv := by
    simp [Act.put, Act.eval, z1, l2]
  generalize hA2 : A1.put (some b) (.iface u pv) = A2 at s2 z2 g2
  have s3 := s2.put (d := some c) (c := .v (.iface u pv)) (u := .iface u pv) (by rw [RelV]) (by show c < A2.tmps.size; rw [z2]; exact l3)
  have z3 : (A2.put (some c) (.iface u pv)).tmps.size = fn.ntmps := by rw [put_size]; exact z2
  have g3 : (A2.put (some c) (.iface u pv)).eval (.tmp c) = .iface u pv := by
    simp [Act.put, Act.eval, z2, l3]
  generalize hA3 : A2.put (some c) (.iface u pv) = A3 at s3 z3 g3
  have s4 := s3.put (d := some d) (c := .v (.bool true)) (u := .bool true) (by rw [RelV]) (by show d < A3.tmps.size; rw [z3]; exact l4)
  have z4 : (A3.put (some d) (.bool true)).tmps.size = fn.ntmps := by rw [put_size]; exact z3
  have g4 : (A3.put (some d) (.bool true)).eval (.tmp d) = .bool true := by
    simp [Act.put, Act.eval, z3, l4]
  have d4 : (A3.put (some d) (.bool true)).defers = [] := by rw [put_defers, ← hA3, put_defers, ← hA2, put_defers, ← hA1, put_defers]; exact hd
  generalize hA4 : A3.put (some d) (.bool true) = A4 at s4 z4 g4 d4
  apply wpS_seq
  apply wpS_region
  have r0 : List.range 2 = [0, 1] := rfl
  simp only [List.size_toArray, List.length_cons, List.length_nil, Nat.zero_add, Nat.reduceAdd, r0]
  have x1 : (execOp A1.eval ⟨some b, .assign (.tmp a), y1, p1, e1, none⟩).run P w = .ok (.value (.iface u pv)) w := by
    simp [execOp, g1]
  have x2 : (execOp A2.eval ⟨some c, .move (.tmp b), y2, p2, e2, none⟩).run P w = .ok (.value (.iface u pv)) w := by
    simp [execOp, g2]
  have x3 := hcmp w A3 g3
  have x0 : (execOp A.eval ⟨some a, .call ⟨.builtin .recover, #[], tys⟩, y0, p0, e0, none⟩).run P w = .ok .recover w := by
    simp [go_sem]
  have hw : ∀ d op t p e y, Region.wanted ⟨d, op, t, p, e, none⟩ y = true := fun d op t p e y => by simp [Region.wanted]
  rw [wpOpsS]
  simp only [List.getElem?_toArray, List.getElem?_cons_zero, hw, if_true, x0, recoverD, hm, hA1]
  rw [wpOpsS]
  simp only [List.getElem?_toArray, List.getElem?_cons_succ, List.getElem?_cons_zero, hw, if_true, x1, Oper.upon, hA2]
  rw [wpOpsS]
  show Exit.thenS _ _ _ _ _ _
  unfold Exit.thenS
  dsimp only
  apply wpS_seq
  apply wpS_region
  simp only [List.size_toArray, List.length_cons, List.length_nil, Nat.zero_add, Nat.reduceAdd, r0]
  rw [wpOpsS]
  simp only [List.getElem?_toArray, List.getElem?_cons_zero, hw, if_true, x2, Oper.upon, hA3]
  rw [wpOpsS]
  simp only [List.getElem?_toArray, List.getElem?_cons_succ, List.getElem?_cons_zero, hw, if_true, x3, Oper.upon, hA4]
  rw [wpOpsS]
  show Exit.thenS _ _ _ _ _ _
  unfold Exit.thenS
  dsimp only
  refine wpS_cond (t := true) g4 ?_
  simp only [if_true]
  refine wpS_of_wp (wp_mono (h [] m w A4 m w V hi.boxlen hi.tiplen rfl (Ext.refl m w V) ⟨hi, s4, z4, d4⟩) fun e a' w' ⟨T', H', V', m', k1, k2, k3⟩ => ?_)
  have fin : resK P [] T' H' (fun cs => Fin H.length V.length (fun _ => K) (one cs) H' V') → bodyPostS P fn c₀ cs (fun e u' w' => (∃ v, e = Ending.returned v) ∧ settle u' = .returning ∧ ∃ m' H' V', K H' V' ∧ Inv m' w' H' V' ∧ Ext m w V m' w' V') .ret a' ({ c₀ with mode := .panicking [{ v := .iface u pv, recovered := true }] } :: cs) w' := fun hk => by
    obtain ⟨v, q1, u2, m2, r, H2, V2, _, q2, q3, _, q4⟩ := fin_out (fn := fn) (by rw [hr]) hi.boxlen hi.tiplen rfl k2 k3 hk
    exact ⟨k2.df, _, rfl, v, q1, ⟨_, rfl⟩, rfl, m2, H2, V2, q2, q3, q4⟩
  cases e with
  | normal => exact fin k1
  | ret => exact fin k1
  | _ => exact k1.elim

/-- A function that defers such a closure. -/
theorem CC.of_deferX {f : FuncId} {fn : Func} {c1 c2 : Code} {id : Nat} {pre : List Oper} {dd : Option Tmp} {ty : TypeId} {pos : String} {after : Array Edge} {fo : Operand} {tys : Array TypeId} {g k : Nat} {args : List CV} {H : Hp} {V : List Nat} {R : CV → Hp → List Nat → Prop}
    (hf : P.funcs[f]? = some fn) (hb : fn.body = some (.seq c1 (.seq (.region id (pre ++ [(⟨dd, .defer ⟨.value fo, #[], tys⟩, ty, pos, after, none⟩ : Oper)]).toArray false) c2))) (hn : (fn.name == "runtime.NumGoroutine") = false) (ha : args.length ≤ fn.ntmps) (hD : RetD P g k)
    (h : okL H.length V.length args → (∀ (b : Nat) cs, H[b]? = some (some cs) → okL H.length V.length cs) → SWp P fn.ntmps H.length V.length c1 (thn (fun T H' V' => crunS P fn.ntmps ((pre ++ [(⟨dd, .defer ⟨.value fo, #[], tys⟩, ty, pos, after, none⟩ : Oper)]).map (·.dst)) pre T H' V' fun T H' V' => dOk dd fn.ntmps ∧
      (∃ caps, evT T fo = .fn g caps ∧ caps.length = k ∧ SWp P fn.ntmps H'.length V'.length c2 (RtD P H.length V.length fn.results.toList R g caps) (tput dd (.v undef) T) H' V')) (fun _ _ _ _ => False)) (args0 0 args) H V) : CC P f args H V R := by
  refine ⟨⟨fn, hf, by rw [hb]; rfl, hn⟩, fun m w us hi hu => ?_⟩
  have hok : okL H.length V.length args := by rw [← hi.boxlen]; exact RelL.ok args us hu
  have hokH : ∀ (b : Nat) cs, H[b]? = some (some cs) → okL H.length V.length cs := fun b cs hbc => by
    obtain ⟨k, c, e, _, _, _, _, h5⟩ := hi.alive b cs hbc
    rw [← hi.boxlen]; exact RelC.ok k cs 0 h5
  refine calls_of_wp_defers hf hb ?_
  refine wp_seq (wp_mono (h hok hokH [] m w _ m w V hi.boxlen hi.tiplen rfl (Ext.refl m w V) (st0 hi hu ha)) fun e a1 w1 ⟨T1, H1, V1, m1, k1, s1, x1⟩ => ?_)
  cases e with
  | normal =>
    have k1 : crunS P fn.ntmps ((pre ++ [(⟨dd, .defer ⟨.value fo, #[], tys⟩, ty, pos, after, none⟩ : Oper)]).map (·.dst)) pre T1 H1 V1 _ := k1
    refine wp_seq (wp_region_list ?_)
    generalize hops : pre ++ [(⟨dd, .defer ⟨.value fo, #[], tys⟩, ty, pos, after, none⟩ : Oper)] = ops at k1 ⊢
    rw [crunS, ← crun_lite] at k1
    have e : ops.toArray.toList = pre ++ [(⟨dd, .defer ⟨.value fo, #[], tys⟩, ty, pos, after, none⟩ : Oper)] := by rw [hops]
    rw [e]
    refine crun_soundR pre s1 k1 fun T2 H2 V2 a2 w2 m2 ⟨hd, caps, hcap, hlen, hrest⟩ s2 x2 => ?_
    unfold wpList
    rw [if_pos (by simp [Region.wanted])]
    refine .inl ?_
    have ef : RelV m2 w2 V2 (evT T2 fo) (a2.eval fo) := ev_rel s2.tm fo
    rw [hcap, RelV] at ef
    obtain ⟨cus, eu, hr⟩ := ef
    have hrun : (execOp a2.eval ⟨dd, .defer ⟨.value fo, #[], tys⟩, ty, pos, after, none⟩).run P w2 = .ok (.defer { target := .fn (.func g) cus.toArray, args := #[] }) w2 := by
      simp [execOp, resolve, eu, Deferred.ofValue]
    unfold Oper.wp
    rw [hrun, Oper.upon_defer]
    unfold wpList
    have s3 : St [{ target := .fn (.func g) cus.toArray, args := #[] }] fn.ntmps m2 w2 (({ a2 with defers := { target := .fn (.func g) cus.toArray, args := #[] } :: a2.defers } : Act).put dd undef) (tput dd (.v undef) T2) H2 V2 := by
      have hp := s2.tm.put (c := .v undef) (u := undef) (d := dd) (by rw [RelV]) (by rw [s2.size]; exact hd)
      refine ⟨s2.inv, ?_, by rw [put_size]; exact s2.size, by rw [put_defers]; simp [s2.df]⟩
      intro j
      have := hp j
      cases dd <;> exact this
    have l1 := hi.boxlen
    have l2 := hi.tiplen
    refine wp_mono (hrest _ m2 w2 _ m2 w2 V2 s2.inv.boxlen s2.inv.tiplen rfl (Ext.refl _ _ _) s3) fun e a' w' ⟨T', H', V', m', k1, k2, k4⟩ => ?_
    have k3 := (x1.trans x2).trans k4
    have fin : ∀ {w1 : World} {m1 : Gh} {H1 : Hp} {V1 : List Nat}, St [] fn.ntmps m1 w1 { tmps := a'.tmps, defers := [] } T' H1 V1 → Ext m w V m1 w1 V1 → resK P fn.results.toList T' H1 (fun cs => Fin H.length V.length R (one cs) H1 V1) → Leaves P fn a'.tmps (fun e w' => ∃ u m' r H' V', e = .returned u ∧ R r H' V' ∧ Inv m' w' H' V' ∧ RelV m' w' V' r u ∧ Ext m w V m' w' V') [] .returning w1 := fun q2 q3 hk => by
      obtain ⟨v, z1, z2⟩ := fin_out (fn := fn) (a' := { tmps := a'.tmps, defers := [] }) rfl l1 l2 rfl q2 q3 hk
      refine ⟨v, z1, ?_⟩
      obtain ⟨u, m', r, H', V', e1, e2⟩ := z2
      cases e1
      exact ⟨_, m', r, H', V', rfl, e2⟩
    have s' : St [] fn.ntmps m' w' { tmps := a'.tmps, defers := [] } T' H' V' := ⟨k2.inv, k2.tm, k2.size, rfl⟩
    obtain ⟨⟨gn, g1, g2, g3⟩, hcd⟩ := hD
    have hb' : ¬ gn.body = none := by cases hbb : gn.body <;> simp_all
    have g3' : ¬ gn.name = "runtime.NumGoroutine" := by simpa using g3
    have ret : resK P fn.results.toList T' H' (fun cs => Fin H.length V.length R (one cs) H' V') → Leaves P fn a'.tmps (fun e w' => ∃ u m' r H' V', e = .returned u ∧ R r H' V' ∧ Inv m' w' H' V' ∧ RelV m' w' V' r u ∧ Ext m w V m' w' V') a'.defers .returning w' := fun hk => by
      rw [k2.df]
      refine leaves_cons (f := g) (args := cus.toArray) (by simp) (by simp [invoke, callFunc, g1, g3', hb']) ?_
      refine (hcd cus.toArray w' (by simp [relL_length hr, hlen])).mono ?_
      rintro e u' w'' ⟨⟨v, rfl⟩, rfl, rfl⟩
      exact fin s' k3 hk
    cases e with
    | normal => exact ret k1
    | ret => exact ret k1
    | panic ch =>
      have k1 : CD P g caps ch H' V' fun H' V' => resK P fn.results.toList T' H' fun cs => Fin H.length V.length R (one cs) H' V' := k1
      show Leaves P fn a'.tmps _ a'.defers (.panicking ch) w'
      rw [k2.df]
      refine leaves_cons (f := g) (args := cus.toArray) (by simp) (by simp [invoke, callFunc, g1, g3', hb']) ?_
      refine (k1.2 m' w' cus k2.inv (RelL.mono k4 _ _ hr)).mono ?_
      rintro e u' w'' ⟨⟨v, rfl⟩, hu', m3, H3, V3, q1, q2, q3⟩
      dsimp only
      rw [hu']
      exact fin ⟨q2, RelT.mono q3 s'.tm, s'.size, rfl⟩ (k3.trans q3) q1
    | _ => exact k1.elim
  | _ => exact k1.elim
end Go.Proofs.Ythakkopnoeinmaa
