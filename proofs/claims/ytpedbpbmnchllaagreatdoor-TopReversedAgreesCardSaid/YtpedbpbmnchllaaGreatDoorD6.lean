import Derived.Test.YtpedbpbmnchllaaGreatDoorD5
import Derived.Test.YtpedbpbmnchllaaGreatDoorD4
import Derived.Test.YtpedbpbmnchllaaGreatDoorD3
import Derived.ProofKit
import Derived.OpenShut
import Derived.Below
import Derived.Test.YtpedbpbmnchllaaGreatDoorRows
import Derived.LaidHandle
import Derived.MakeChecks
import Derived.Lib.LaidU8
set_option linter.unusedSimpArgs false
set_option linter.unusedVariables false
set_option linter.unusedSectionVars false
namespace Go.Proofs.YtpedbpbmnchllaaGreatDoor
open Go.Proofs
def CR (P : Program) (g : FuncId) (caps : List CV) (H : Hp) (V : List Nat) (K : Hp → List Nat → Prop) : Prop :=
  (∃ fn, P.funcs[g]? = some fn ∧ fn.body.isSome = true ∧ (fn.name == "runtime.NumGoroutine") = false) ∧
  ∀ (m : Gh) (w : World) (us : List Value), Inv m w H V → RelL m w V caps us →
    CallsD P g us.toArray .returning w fun e u' w' => (∃ v, e = .returned v) ∧ u' = .returning ∧ ∃ m' H' V', K H' V' ∧ Inv m' w' H' V' ∧ Ext m w V m' w' V'
theorem CR.mono {P : Program} {g : FuncId} {caps : List CV} {H : Hp} {V : List Nat} {K K' : Hp → List Nat → Prop} (h : CR P g caps H V K) (hk : ∀ H V, K H V → K' H V) : CR P g caps H V K' :=
  ⟨h.1, fun m w us hi hu => (h.2 m w us hi hu).mono fun _ _ _ ⟨h1, h2, m', H', V', h3, h4⟩ => ⟨h1, h2, m', H', V', hk _ _ h3, h4⟩⟩
theorem CR.of_swp {P : Program} {g : FuncId} {fn : Func} {c : Code} {caps : List CV} {H : Hp} {V : List Nat} {K : Hp → List Nat → Prop} (hf : P.funcs[g]? = some fn) (hb : fn.body = some c)
    (hn : (fn.name == "runtime.NumGoroutine") = false) (hr : fn.results = #[]) (ha : caps.length ≤ fn.ntmps)
    (h : SWp P fn.ntmps H.length V.length c (Rt P H.length V.length [] fun _ => K) (args0 0 caps) H V) : CR P g caps H V K := by
  refine ⟨⟨fn, hf, by rw [hb]; rfl, hn⟩, fun m w us hi hu => ?_⟩
  refine (callsD_of_wp (R := fun e w' => (∃ v, e = .returned v) ∧ ∃ m' H' V', K H' V' ∧ Inv m' w' H' V' ∧ Ext m w V m' w' V') hf hb ?_).mono fun e u' w' ⟨h1, h2, h3⟩ => ⟨h2, h1, h3⟩
  refine wp_mono (wpIn_wide.1 (h none _ m w _ m w V hi.boxlen hi.tiplen rfl (Ext.refl m w V) (st0 hi hu ha))) fun e a' w' ⟨T', H', V', m', k1, k2, k3⟩ => ?_
  have fin : resK P [] T' H' (fun cs => Fin H.length V.length (fun _ => K) (one cs) H' V') → bodyPost P fn (fun e w' => (∃ v, e = .returned v) ∧ ∃ m' H' V', K H' V' ∧ Inv m' w' H' V' ∧ Ext m w V m' w' V') .ret a' w' := fun hk => by
    obtain ⟨v, q1, u, m2, r, H2, V2, _, q2, q3, _, q4⟩ := fin_out (fn := fn) (by rw [hr]) hi.boxlen hi.tiplen rfl k2 k3 hk
    exact ⟨k2.df.eq rfl, v, q1, ⟨_, rfl⟩, m2, H2, V2, q2, q3, q4⟩
  cases e with
  | normal => exact fin k1
  | ret => exact fin k1
  | _ => exact k1.elim
def RtR (P : Program) (nb nv : Nat) (res : List ResultVar) (R : CV → Hp → List Nat → Prop) (g : FuncId) (caps : List CV) : Exit → Tm → Hp → List Nat → Prop
  | .ret, T, H, V => CR P g caps H V fun H' V' => resK P res T H' fun cs => Fin nb nv R (one cs) H' V'
  | .normal, T, H, V => CR P g caps H V fun H' V' => resK P res T H' fun cs => Fin nb nv R (one cs) H' V'
  | _, _, _, _ => False
section
variable {P : Program} {nb nv : Nat} {T T' : Tm} {H H' : Hp} {V V' : List Nat} {res : List ResultVar} {R : CV → Hp → List Nat → Prop} {g : FuncId} {caps : List CV}
@[go_sem] theorem RtR_ret : RtR P nb nv res R g caps .ret T H V = CR P g caps H V fun H' V' => resK P res T H' fun cs => Fin nb nv R (one cs) H' V' := rfl
@[go_sem] theorem RtR_normal : RtR P nb nv res R g caps .normal T H V = CR P g caps H V fun H' V' => resK P res T H' fun cs => Fin nb nv R (one cs) H' V' := rfl
end
theorem CC.of_defer2 {P : Program} {f : FuncId} {fn : Func} {c1 c2 : Code} {id id2 : Nat} {pre : List Oper} {dd dd2 : Option Tmp} {ty ty2 : TypeId} {pos pos2 : String} {after after2 : Array Edge} {fo fo2 ao : Operand} {tys tys2 : Array TypeId} {g r : Nat} {args : List CV} {H : Hp} {V : List Nat} {R : CV → Hp → List Nat → Prop}
    (hf : P.funcs[f]? = some fn) (hb : fn.body = some (.seq c1 (.seq (.region id (pre ++ [(⟨dd, .defer ⟨.value fo, #[], tys⟩, ty, pos, after, none⟩ : Oper)]).toArray false) (.seq (.region id2 #[(⟨dd2, .defer ⟨.value fo2, #[ao], tys2⟩, ty2, pos2, after2, none⟩ : Oper)] false) c2)))) (hn : (fn.name == "runtime.NumGoroutine") = false) (ha : args.length ≤ fn.ntmps) (hD : RetD P r 1)
    (h : okL H.length V.length args → (∀ (b : Nat) cs, H[b]? = some (some cs) → okL H.length V.length cs) → SWp P fn.ntmps H.length V.length c1 (thn (fun T H' V' => crunS P fn.ntmps ((pre ++ [(⟨dd, .defer ⟨.value fo, #[], tys⟩, ty, pos, after, none⟩ : Oper)]).map (·.dst)) pre T H' V' fun T H' V' => dOk dd fn.ntmps ∧ dOk dd2 fn.ntmps ∧
      (∃ caps, evT T fo = .fn g caps ∧ evT (tput dd (.v undef) T) fo2 = .fn r [] ∧ SWp P fn.ntmps H'.length V'.length c2 (RtR P H.length V.length fn.results.toList R g caps) (tput dd2 (.v undef) (tput dd (.v undef) T)) H' V')) (fun _ _ _ _ => False)) (args0 0 args) H V) : CC P f args H V R := by
  refine ⟨⟨fn, hf, by rw [hb]; rfl, hn⟩, fun m w us hi hu => ?_⟩
  have hok : okL H.length V.length args := by rw [← hi.boxlen]; exact RelL.ok args us hu
  have hokH : ∀ (b : Nat) cs, H[b]? = some (some cs) → okL H.length V.length cs := fun b cs hbc => by
    rw [← hi.boxlen]; exact (hi.live b cs hbc).ok
  refine calls_of_wp_defers hf hb ?_
  refine wp_seq (wp_mono (wpIn_wide.1 (h hok hokH none _ m w _ m w V hi.boxlen hi.tiplen rfl (Ext.refl m w V) (st0 hi hu ha))) fun e a1 w1 ⟨T1, H1, V1, m1, k1, s1, x1⟩ => ?_)
  cases e with
  | normal =>
    have k1 : crunS P fn.ntmps ((pre ++ [(⟨dd, .defer ⟨.value fo, #[], tys⟩, ty, pos, after, none⟩ : Oper)]).map (·.dst)) pre T1 H1 V1 _ := k1
    refine wp_seq ((wpIn_wide (n := 0)).1 (wpIn_region_list ?_))
    generalize hops : pre ++ [(⟨dd, .defer ⟨.value fo, #[], tys⟩, ty, pos, after, none⟩ : Oper)] = ops at k1 ⊢
    rw [crunS, ← crun_lite] at k1
    have e : ops.toArray.toList = pre ++ [(⟨dd, .defer ⟨.value fo, #[], tys⟩, ty, pos, after, none⟩ : Oper)] := by rw [hops]
    rw [e]
    refine crun_soundR (ro := none) pre s1 k1 fun T2 H2 V2 a2 w2 m2 ⟨hd, hd2, caps, hcap, hcap2, hrest⟩ s2 x2 => ?_
    unfold wpListIn
    rw [if_pos (by simp [Region.wanted])]
    have ef : RelV m2 w2 V2 (evT T2 fo) (a2.eval fo) := ev_rel s2.inv.glob s2.tm fo
    rw [hcap, RelV] at ef
    obtain ⟨cus, eu, hr⟩ := ef
    have hrun : (execOp a2.eval ⟨dd, .defer ⟨.value fo, #[], tys⟩, ty, pos, after, none⟩).run P w2 = .ok (.defer { target := .fn (.func g) cus.toArray, args := #[] }) w2 := by
      simp [execOp, resolve, eu, Deferred.ofValue]
    refine ⟨fun _ _ => trivial, ?_⟩
    rw [show (fen none).round = none from rfl, Oper.semAt_none, hrun, Oper.uponIn_defer]
    unfold wpListIn
    have s3 : St ⟨[{ target := .fn (.func g) cus.toArray, args := #[] }], w2.heap.size, true⟩ fn.ntmps m2 w2 (({ a2 with defers := { target := .fn (.func g) cus.toArray, args := #[] } :: a2.defers } : Act).put dd undef) (tput dd (.v undef) T2) H2 V2 := by
      have hp := s2.tm.put (c := .v undef) (u := undef) (d := dd) (by rw [RelV]) (by rw [s2.size]; exact hd)
      refine ⟨s2.inv, ?_, by rw [put_size]; exact s2.size, by rw [put_defers, s2.df.eq rfl]; exact DOk.own _ _⟩
      intro j
      have := hp j
      cases dd <;> exact this
    generalize ({ a2 with defers := { target := .fn (.func g) cus.toArray, args := #[] } :: a2.defers } : Act).put dd undef = a3 at s3
    refine wp_seq ((wpIn_wide (n := 0)).1 (wpIn_region_list ?_))
    rw [show (#[(⟨dd2, .defer ⟨.value fo2, #[ao], tys2⟩, ty2, pos2, after2, none⟩ : Oper)] : Array Oper).toList = [⟨dd2, .defer ⟨.value fo2, #[ao], tys2⟩, ty2, pos2, after2, none⟩] from rfl]
    unfold wpListIn
    rw [if_pos (by simp [Region.wanted])]
    have ef2 : RelV m2 w2 V2 (evT (tput dd (.v undef) T2) fo2) (a3.eval fo2) := ev_rel s3.inv.glob s3.tm fo2
    rw [hcap2, RelV] at ef2
    obtain ⟨cus2, eu2, hr2⟩ := ef2
    have hc2 : cus2 = [] := by
      have := relL_length hr2
      simpa using this
    subst hc2
    have hrun2 : (execOp a3.eval ⟨dd2, .defer ⟨.value fo2, #[ao], tys2⟩, ty2, pos2, after2, none⟩).run P w2 = .ok (.defer { target := .fn (.func r) #[], args := #[a3.eval ao] }) w2 := by
      simp [execOp, resolve, eu2, Deferred.ofValue]
    refine ⟨fun _ _ => trivial, ?_⟩
    rw [show Fence.wide.round = none from rfl, Oper.semAt_none, hrun2, Oper.uponIn_defer]
    unfold wpListIn
    have s4 : St ⟨[{ target := .fn (.func r) #[], args := #[a3.eval ao] }, { target := .fn (.func g) cus.toArray, args := #[] }], w2.heap.size, true⟩ fn.ntmps m2 w2 (({ a3 with defers := { target := .fn (.func r) #[], args := #[a3.eval ao] } :: a3.defers } : Act).put dd2 undef) (tput dd2 (.v undef) (tput dd (.v undef) T2)) H2 V2 := by
      have hp := s3.tm.put (c := .v undef) (u := undef) (d := dd2) (by rw [RelV]) (by rw [s3.size]; exact hd2)
      refine ⟨s3.inv, ?_, by rw [put_size]; exact s3.size, by rw [put_defers, s3.df.eq rfl]; exact DOk.own _ _⟩
      intro j
      have := hp j
      cases dd2 <;> exact this
    have l1 := hi.boxlen
    have l2 := hi.tiplen
    refine wp_mono (wpIn_wide.1 (hrest none _ m2 w2 _ m2 w2 V2 s2.inv.boxlen s2.inv.tiplen rfl (Ext.refl _ _ _) s4)) fun e a' w' ⟨T', H', V', m', k1, k2, k4⟩ => ?_
    have k3 := (x1.trans x2).trans k4
    have fin : ∀ {w1 : World} {m1 : Gh} {H1 : Hp} {V1 : List Nat}, St ⟨[], w1.heap.size, true⟩ fn.ntmps m1 w1 { tmps := a'.tmps, defers := [] } T' H1 V1 → Ext m w V m1 w1 V1 → resK P fn.results.toList T' H1 (fun cs => Fin H.length V.length R (one cs) H1 V1) → Leaves P fn a'.tmps (fun e w' => ∃ u m' r H' V', e = .returned u ∧ R r H' V' ∧ Inv m' w' H' V' ∧ RelV m' w' V' r u ∧ Ext m w V m' w' V') [] .returning w1 := fun q2 q3 hk => by
      obtain ⟨v, z1, z2⟩ := fin_out (fn := fn) (a' := { tmps := a'.tmps, defers := [] }) rfl l1 l2 rfl q2 q3 hk
      refine ⟨v, z1, ?_⟩
      obtain ⟨u, m', r, H', V', e1, e2⟩ := z2
      cases e1
      exact ⟨_, m', r, H', V', rfl, e2⟩
    have s' : St ⟨[], w'.heap.size, true⟩ fn.ntmps m' w' { tmps := a'.tmps, defers := [] } T' H' V' := ⟨k2.inv, k2.tm, k2.size, DOk.own _ _⟩
    obtain ⟨⟨gn, g1, g2, g3⟩, hcd⟩ := hD
    have hb' : ¬ gn.body = none := by cases hbb : gn.body <;> simp_all
    have g3' : ¬ gn.name = "runtime.NumGoroutine" := by simpa using g3
    have ret : CR P g caps H' V' (fun H' V' => resK P fn.results.toList T' H' fun cs => Fin H.length V.length R (one cs) H' V') → Leaves P fn a'.tmps (fun e w' => ∃ u m' r H' V', e = .returned u ∧ R r H' V' ∧ Inv m' w' H' V' ∧ RelV m' w' V' r u ∧ Ext m w V m' w' V') a'.defers .returning w' := fun hk => by
      obtain ⟨⟨fn2, q1, q2, q3⟩, hcr⟩ := hk
      have qb : ¬ fn2.body = none := by cases hbb : fn2.body <;> simp_all
      have q3' : ¬ fn2.name = "runtime.NumGoroutine" := by simpa using q3
      rw [k2.df.eq rfl]
      refine leaves_cons (f := r) (args := #[a3.eval ao]) (by simp) (by simp [invoke, callFunc, g1, g3', hb']) ?_
      refine (hcd #[a3.eval ao] w' rfl).mono ?_
      rintro e u' w'' ⟨⟨v, rfl⟩, rfl, rfl⟩
      refine leaves_cons (f := g) (args := cus.toArray) (by simp [settle]) (by simp [invoke, callFunc, q1, q3', qb]) ?_
      refine (hcr m' _ cus k2.inv (RelL.mono k4 _ _ hr)).mono ?_
      rintro e u' w3 ⟨⟨v, rfl⟩, rfl, m3, H3, V3, p1, p2, p3⟩
      exact fin ⟨p2, RelT.mono p3 s'.tm, s'.size, DOk.own _ _⟩ (k3.trans p3) p1
    cases e with
    | normal => exact ret k1
    | ret => exact ret k1
    | _ => exact k1.elim
  | _ => exact k1.elim
end Go.Proofs.YtpedbpbmnchllaaGreatDoor
namespace Go.Proofs.YtpedbpbmnchllaaGreatDoor
open Go.Proofs
theorem demand_cc (H : Hp) (V : List Nat) (e : Int) : CC Tryz.prog 33 [cb true, ci e] H V (fun _ H' V' => H = H' ∧ V = V') := by
  refine CC.of_swp Tryz.func33 rfl (by kernel_rfl) (by rw [Tryz.ntmps33]; exact len_le _ _ rfl) fun hok hokH => ?_
  clear hok
  refine SWp.seq (Wp.s ?_)
  simp -implicitDefEqProofs [go_sem, args0]
  refine Wp.s ?_
  simp -implicitDefEqProofs [go_sem]
  exact Fin.self ⟨rfl, rfl⟩
theorem fok_cc (H : Hp) (V : List Nat)  : CC Tryz.prog 32 [er 0] H V (fun _ H' V' => H = H' ∧ V = V') := by
  refine CC.of_swp Tryz.func32 rfl (by kernel_rfl) (by rw [Tryz.ntmps32]; exact len_le _ _ rfl) fun hok hokH => ?_
  clear hok
  refine Wp.s ?_
  simp -implicitDefEqProofs [go_sem, args0]
  refine CC.mono (demand_cc _ _ 0) ?_
  rintro _ _ _ ⟨rfl, rfl⟩
  simp -implicitDefEqProofs [go_sem]
  exact Fin.self ⟨rfl, rfl⟩
theorem fsite_cc (H : Hp) (V : List Nat) (n : Int) (h0 : 0 ≤ n) (h1 : n < 4) : CC Tryz.prog 34 [ci n] H V (Pu (cb true) H V) := by
  refine CC.of_swp Tryz.func34 rfl (by kernel_rfl) (by rw [Tryz.ntmps34]; exact len_le _ _ rfl) fun hok hokH => ?_
  clear hok
  refine SWp.seq (Wp.s ?_)
  simp -implicitDefEqProofs [go_sem, args0]
  refine SWp.seq (Wp.s ?_)
  simp -implicitDefEqProofs [go_sem, h0, h1]
  refine Wp.s ?_
  simp -implicitDefEqProofs [go_sem]
  exact Fin.bool rfl hokH (by simp) (by simp)
theorem retResc : RetD Tryz.prog 30 1 := ⟨⟨_, Tryz.func30, rfl, by kernel_rfl⟩, fun us w hs => by
  obtain ⟨a, rfl⟩ : ∃ a, us = #[a] := by
    rcases us with ⟨l⟩
    match l, hs with
    | [a], _ => exact ⟨a, rfl⟩
  refine callsD_of_wpS Tryz.func30 rfl fun c₀ cs hu => ?_
  apply wpS_seq
  apply wpS_region
  simp [wpOpsS, go_sem, recoverD, hu, Tryz.ntmps30, Exit.thenS]
  apply wpS_seq
  apply wpS_seq
  apply wpS_region
  simp [wpOpsS, go_sem, recoverD, hu, Tryz.ntmps30, Exit.thenS]
  refine wpS_cond (t := true) (by simp [Act.eval, Array.replicate]) ?_
  simp only [if_true]
  refine wpS_of_wp (wp_ret ?_)
  cases c₀
  simp_all [bodyPostS, Exit.thenS, results, Tryz.results30]⟩
theorem begin1_cr (H : Hp) (V : List Nat) (a b c : Nat) (ha : H[a]? = some (some [er 0])) : CR Tryz.prog 29 [.ptr a 0, .ptr b 0, .ptr c 0] H V (fun H' V' => H' = H ∧ V' = V) := by
  refine CR.of_swp Tryz.func29 rfl (by kernel_rfl) Tryz.results29 (by rw [Tryz.ntmps29]; exact len_le _ _ rfl) ?_
  refine SWp.seq (Wp.s ?_)
  simp -implicitDefEqProofs [go_sem, args0, hbx_of ha]
  refine Wp.s ?_
  simp -implicitDefEqProofs [go_sem]
  exact Fin.self ⟨rfl, rfl⟩
theorem round1_cr (H : Hp) (V : List Nat) (a b c : Nat) (ha : H[a]? = some (some [er 0])) : CR Tryz.prog 50 [.ptr a 0, .ptr b 0, .ptr c 0] H V (fun H' V' => H' = H ∧ V' = V) := by
  refine CR.of_swp Tryz.func50 rfl (by kernel_rfl) Tryz.results50 (by rw [Tryz.ntmps50]; exact len_le _ _ rfl) ?_
  refine SWp.seq (Wp.s ?_)
  simp -implicitDefEqProofs [go_sem, args0, hbx_of ha]
  refine Wp.s ?_
  simp -implicitDefEqProofs [go_sem]
  exact Fin.self ⟨rfl, rfl⟩
theorem finish1_cr (H : Hp) (V : List Nat) (a b : Nat) (ha : H[a]? = some (some [er 0])) : CR Tryz.prog 98 [.ptr a 0, .ptr b 0] H V (fun H' V' => H' = H ∧ V' = V) := by
  refine CR.of_swp Tryz.func98 rfl (by kernel_rfl) Tryz.results98 (by rw [Tryz.ntmps98]; exact len_le _ _ rfl) ?_
  refine SWp.seq (Wp.s ?_)
  simp -implicitDefEqProofs [go_sem, args0, hbx_of ha]
  refine Wp.s ?_
  simp -implicitDefEqProofs [go_sem]
  exact Fin.self ⟨rfl, rfl⟩
structure Prc where
  fr : Int
  to : Int
  st : Int
  ep : Int
  cy : Int
  dn : Bool
def prcC (p : Prc) : List CV := [ci 3, ci p.fr, ci p.to, ci p.st, ci p.ep, ci p.cy, cb p.dn, cb false]
@[go_sem, simp] theorem prcC_len (p : Prc) : (prcC p).length = 8 := rfl
@[go_sem, simp] theorem prcC_all (p : Prc) : allOne (prcC p) = true := rfl
@[go_sem, simp] theorem prcC_take (p : Prc) : (prcC p).take 8 = prcC p := rfl
@[go_sem, simp] theorem prcC_drop (p : Prc) : (prcC p).drop 8 = [] := rfl
@[go_sem, simp] theorem prcC_0 (p : Prc) (h : 0 < (prcC p).length) : (prcC p)[0] = ci 3 := rfl
@[go_sem, simp] theorem prcC_1 (p : Prc) (h : 1 < (prcC p).length) : (prcC p)[1] = ci p.fr := rfl
@[go_sem, simp] theorem prcC_2 (p : Prc) (h : 2 < (prcC p).length) : (prcC p)[2] = ci p.to := rfl
@[go_sem, simp] theorem prcC_3 (p : Prc) (h : 3 < (prcC p).length) : (prcC p)[3] = ci p.st := rfl
@[go_sem, simp] theorem prcC_4 (p : Prc) (h : 4 < (prcC p).length) : (prcC p)[4] = ci p.ep := rfl
@[go_sem, simp] theorem prcC_5 (p : Prc) (h : 5 < (prcC p).length) : (prcC p)[5] = ci p.cy := rfl
@[go_sem, simp] theorem prcC_6 (p : Prc) (h : 6 < (prcC p).length) : (prcC p)[6] = cb p.dn := rfl
@[go_sem, simp] theorem prcC_7 (p : Prc) (h : 7 < (prcC p).length) : (prcC p)[7] = cb false := rfl
@[go_sem] theorem okL_prcC (jb jv : Nat) (p : Prc) : okL jb jv (prcC p) = True := by simp [prcC, okL, okV]
structure PrcOk (p : Prc) : Prop where
  f0 : 0 ≤ p.fr
  f1 : p.fr < 4
  t0 : 0 ≤ p.to
  t1 : p.to < 4
  ne : ¬ p.fr = p.to
  s0 : 0 ≤ p.st
  s1 : p.st ≤ 4096
  e0 : 1 ≤ p.ep
  e1 : p.ep ≤ 1073741824
  c0 : 0 ≤ p.cy
  c1 : p.cy ≤ 1073741824
  dn : p.dn = false
theorem formed_cc (H : Hp) (V : List Nat) (p : Prc) (h : PrcOk p) : CC Tryz.prog 51 [.agg (prcC p)] H V (fun _ H' V' => H = H' ∧ V = V') := by
  refine CC.of_swp Tryz.func51 rfl (by kernel_rfl) (by rw [Tryz.ntmps51]; exact len_le _ _ rfl) fun hok hokH => ?_
  clear hok
  refine SWp.seq (Wp.s ?_)
  simp -implicitDefEqProofs [go_sem, args0]
  refine SWp.seq (Wp.s ?_)
  simp -implicitDefEqProofs [go_sem]
  refine CC.mono (demand_cc _ _ 1) ?_
  rintro _ _ _ ⟨rfl, rfl⟩
  simp -implicitDefEqProofs [go_sem]
  refine SWp.seq (Wp.s ?_)
  simp -implicitDefEqProofs [go_sem]
  refine CC.mono (fsite_cc _ _ p.fr h.f0 h.f1) ?_
  rintro _ _ _ ⟨rfl, rfl, rfl⟩
  simp -implicitDefEqProofs [go_sem]
  refine CC.mono (fsite_cc _ _ p.to h.t0 h.t1) ?_
  rintro _ _ _ ⟨rfl, rfl, rfl⟩
  simp -implicitDefEqProofs [go_sem, h.ne]
  refine CC.mono (demand_cc _ _ 2) ?_
  rintro _ _ _ ⟨rfl, rfl⟩
  simp -implicitDefEqProofs [go_sem]
  refine SWp.seq (Wp.s ?_)
  simp -implicitDefEqProofs [go_sem, h.s0, h.s1, h.e0, h.e1, h.c0, h.c1]
  refine CC.mono (demand_cc _ _ 2) ?_
  rintro _ _ _ ⟨rfl, rfl⟩
  simp -implicitDefEqProofs [go_sem]
  refine Wp.s ?_
  simp -implicitDefEqProofs [go_sem, h.dn]
  refine CC.mono (demand_cc _ _ 12) ?_
  rintro _ _ _ ⟨rfl, rfl⟩
  simp -implicitDefEqProofs [go_sem]
  refine Fin.cut (H.length) V.length ⟨rfl, rfl⟩ (Nat.le_refl _) (Nat.le_refl _) (by simp) (by simp) (.refl _) (by simp [go_sem]) hokH
end Go.Proofs.YtpedbpbmnchllaaGreatDoor
namespace Go.Proofs.YtpedbpbmnchllaaGreatDoor
open Go.Proofs
theorem fhead_cc (H : Hp) (V : List Nat) (l : List Spn) (k : Nat) (hk : k < l.length) (hl : l.length ≤ 1000) (h0 : l.length = k + 1) : CC Tryz.prog 35 [.sl .sh 3 (l.map spC)] H V (Pu (.tup [ci (l[k]).ep, ci (l[k]).hi]) H V) := by
  refine CC.of_swp Tryz.func35 rfl (by kernel_rfl) (by rw [Tryz.ntmps35]; exact len_le _ _ rfl) fun hok hokH => ?_
  clear hok
  have w1 : IntKind.i64.wrap ((l.length : Int) - 1) = (k : Int) := by rw [IntWalk.i64_in _ ⟨by omega, by omega⟩]; omega
  have hne : ¬ l.length = 0 := by omega
  have hne' : ¬ (l.length : Int) = 0 := by omega
  refine SWp.seq (Wp.s ?_)
  simp -implicitDefEqProofs [go_sem, args0]
  refine SWp.seq (SWp.seq (Wp.s ?_))
  simp -implicitDefEqProofs [go_sem, hne, hne']
  refine Wp.s ?_
  simp -implicitDefEqProofs [go_sem]
  refine SWp.seq (Wp.s ?_)
  simp -implicitDefEqProofs [go_sem, w1, hk]
  refine SWp.seq (SWp.drawnT [] [] (.s 0 .pl <| .s 1 .pl <| .s 2 .pl <| .s 3 .pl <| .s 4 .pl <| .s 5 .pl <| .n) (by kernel_rfl) (by kernel_rfl) ?_)
  simp -implicitDefEqProofs [go_sem]
  refine Wp.s ?_
  simp -implicitDefEqProofs [go_sem]
  exact Fin.pu (.refl _) (by simp [go_sem]) hokH (by simp) (by simp)
theorem rlast_cc (H : Hp) (V : List Nat) (l : List Spn) (k : Nat) (hk : k < l.length) (hl : l.length ≤ 1000) (h0 : l.length = k + 1) : CC Tryz.prog 37 [.sl .sh 3 (l.map spC)] H V (Pu (ci (l[k]).hi) H V) := by
  refine CC.of_swp Tryz.func37 rfl (by kernel_rfl) (by rw [Tryz.ntmps37]; exact len_le _ _ rfl) fun hok hokH => ?_
  clear hok
  have w1 : IntKind.i64.wrap ((l.length : Int) - 1) = (k : Int) := by rw [IntWalk.i64_in _ ⟨by omega, by omega⟩]; omega
  have hne : ¬ l.length = 0 := by omega
  have hne' : ¬ (l.length : Int) = 0 := by omega
  refine SWp.seq (Wp.s ?_)
  simp -implicitDefEqProofs [go_sem, args0]
  refine SWp.seq (SWp.seq (Wp.s ?_))
  simp -implicitDefEqProofs [go_sem, hne, hne']
  refine Wp.s ?_
  simp -implicitDefEqProofs [go_sem]
  refine SWp.seq (Wp.s ?_)
  simp -implicitDefEqProofs [go_sem, w1, hk]
  refine Wp.s ?_
  simp -implicitDefEqProofs [go_sem]
  exact Fin.pu (.refl _) (by simp [go_sem]) hokH (by simp) (by simp)
def linO (x : Nat) : List Spn := [⟨1, 1, x⟩]
def linC (y z : Nat) : List Spn := [⟨1, 1, y⟩, ⟨2, (y : Int) + 1, z⟩]
theorem linO_ok {x : Nat} (h : 1 ≤ x ∧ x ≤ 1000) : LinOk (linO x) := ⟨by simp [linO], fun i hi => by
  obtain rfl : i = 0 := by simpa [linO] using hi
  simp [linO, spAt, spZ, inD]; omega⟩
theorem linC_ok {y z : Nat} (h : 1 ≤ y ∧ y < z ∧ z ≤ 1000) : LinOk (linC y z) := ⟨by simp [linC], fun i hi => by
  have : i < 2 := by simpa [linC] using hi
  rcases (show i = 0 ∨ i = 1 by omega) with rfl | rfl
  · simp [linC, spAt, spZ, inD]; omega
  · simp [linC, spAt, spZ, inD]; omega⟩
theorem ancestor_cc (H : Hp) (V : List Nat) (x y z : Nat) (h1 : 1 ≤ y) (h2 : y ≤ x) (h3 : x ≤ 1000) (h4 : y < z) (h5 : z ≤ 1000) : CC Tryz.prog 36 [.sl .sh 3 ((linO x).map spC), .sl .sh 3 ((linC y z).map spC)] H V (Pu (.tup [ci y, ci 1]) H V) := by
  refine CC.of_swp Tryz.func36 rfl (by kernel_rfl) (by rw [Tryz.ntmps36]; exact len_le _ _ rfl) fun hok hokH => ?_
  clear hok
  have lO := linO_ok (x := x) ⟨by omega, h3⟩
  have lC := linC_ok (y := y) (z := z) ⟨h1, h4, h5⟩
  have nO : (linO x).length = 1 := rfl
  have nC : (linC y z).length = 2 := rfl
  have gO : ∀ (h : 0 < (linO x).length), (linO x)[0] = ⟨1, 1, x⟩ := fun _ => rfl
  have gC : ∀ (h : 0 < (linC y z).length), (linC y z)[0] = ⟨1, 1, y⟩ := fun _ => rfl
  generalize linO x = a at lO nO gO
  generalize linC y z = b at lC nC gC
  have hmin : min (x : Int) y = y := by omega
  have hm12 : min (1 : Int) 2 = 1 := by decide
  refine SWp.seq (Wp.s ?_)
  simp -implicitDefEqProofs [go_sem, args0]
  refine SWp.seq (SWp.seq (Wp.s ?_))
  simp -implicitDefEqProofs [go_sem]
  refine CC.mono (correct_cc _ _ a lO) ?_
  rintro _ _ _ ⟨rfl, rfl, rfl⟩
  simp -implicitDefEqProofs [go_sem]
  refine CC.mono (correct_cc _ _ b lC) ?_
  rintro _ _ _ ⟨rfl, rfl, rfl⟩
  simp -implicitDefEqProofs [go_sem]
  refine Wp.s ?_
  simp -implicitDefEqProofs [go_sem]
  refine SWp.seq (Wp.s ?_)
  simp -implicitDefEqProofs [go_sem]
  refine SWp.join (α := Unit) (fun _ => ([(6, ci y), (7, ci 1)], H, V)) (fun _ => True) ?_ ?_
  · refine SWp.seq (Wp.s ?_)
    simp -implicitDefEqProofs [go_sem]
    refine SWp.block ?_
    refine SWp.loop (α := Nat) (fun i => ([(0, .sl .sh 3 (a.map spC)), (1, .sl .sh 3 (b.map spC)), (6, ci (if i = 0 then 0 else (y : Int))), (7, ci (if i = 0 then 0 else 1)), (8, ci i)], H, V)) (fun i => i ≤ 1) (fun i => 1 - i) 0 (Nat.zero_le _) (Sh.forget (by simp [go_sem]) rfl rfl) ?_
    intro i hi
    dsimp only
    refine SWp.seq (SWp.seq (SWp.drawnT [] [] (.s 0 .pl <| .s 1 .pl <| .s 2 .pl <| .s 3 .pl <| .s 4 .pl <| .s 5 .pl <| .s 6 .pl <| .s 7 .pl <| .s 8 .pl <| .s 9 .pl <| .s 10 .pl <| .s 11 .pl <| .s 12 .pl <| .s 13 .pl <| .s 14 .pl <| .s 15 .pl <| .s 16 .pl <| .s 17 .pl <| .s 18 .pl <| .s 19 .pl <| .n) (by kernel_rfl) (by kernel_rfl) ?_))
    rcases (show i = 1 ∨ i = 0 by omega) with rfl | rfl
    · simp -implicitDefEqProofs [go_sem, nO, nC, hm12]
      refine Wp.s ?_
      simp -implicitDefEqProofs [go_sem]
      exact Sh.forget (by simp [go_sem]) rfl rfl
    · have h0 : 0 < a.length := by omega
      have h0' : 0 < b.length := by omega
      simp -implicitDefEqProofs [go_sem, nO, nC, gO h0, gC h0', h0, h0', hm12]
      refine Wp.s ?_
      simp -implicitDefEqProofs [go_sem]
      refine SWp.seq (SWp.block (SWp.seq (SWp.drawnT [] [] (.s 0 .pl <| .s 1 .pl <| .s 2 .pl <| .s 3 .pl <| .s 4 .pl <| .s 5 .pl <| .s 6 .pl <| .s 7 .pl <| .s 8 .pl <| .s 9 .pl <| .s 10 .pl <| .s 11 .pl <| .s 12 .pl <| .s 13 .pl <| .s 14 .pl <| .s 15 .pl <| .s 16 .pl <| .s 17 .pl <| .n) (by kernel_rfl) (by kernel_rfl) ?_)))
      simp -implicitDefEqProofs [go_sem, gO h0, gC h0', h0, h0', hmin]
      refine SWp.seq (SWp.drawnT [] [] (.s 0 .pl <| .s 1 .pl <| .s 2 .pl <| .s 3 .pl <| .s 4 .pl <| .s 5 .pl <| .s 6 .pl <| .s 7 .pl <| .s 8 .pl <| .s 9 .pl <| .s 10 .pl <| .n) (by kernel_rfl) (by kernel_rfl) ?_)
      by_cases hxy : x = y
      · simp -implicitDefEqProofs [go_sem, gO h0, gC h0', h0, h0', hxy]
        refine Wp.s ?_
        simp -implicitDefEqProofs [go_sem]
        refine Wp.s ?_
        simp -implicitDefEqProofs [go_sem]
        refine ⟨1, by omega, by omega, ?_⟩
        exact Sh.forget (by simp [go_sem, show IntKind.i64.wrap (1 : Int) = 1 from IntWalk.i64_in _ ⟨by omega, by omega⟩]) rfl rfl
      · have hxy' : ¬ (x : Int) = y := by omega
        simp -implicitDefEqProofs [go_sem, gO h0, gC h0', h0, h0', hxy, hxy']
        refine Wp.s ?_
        simp -implicitDefEqProofs [go_sem]
        exact Sh.forget (by simp [go_sem, show IntKind.i64.wrap (1 : Int) = 1 from IntWalk.i64_in _ ⟨by omega, by omega⟩]) rfl rfl
  rintro _ -
  dsimp only
  refine SWp.seq (Wp.s ?_)
  simp -implicitDefEqProofs [go_sem]
  refine Wp.s ?_
  simp -implicitDefEqProofs [go_sem]
  exact Fin.pu (.refl _) (by simp [go_sem]) hokH (by simp) (by simp)
theorem between_cc2 (H : Hp) (V : List Nat) (p q : Pt) (h : Pt2 p q) : CC Tryz.prog 31 [.agg (ptC p), .agg (ptC q)] H V (Pu (.tup [.sl .sh 1 ((mkd p q).map mxsE), er 0]) H V) := by
  refine CC.of_swp Tryz.func31 rfl (by kernel_rfl) (by rw [Tryz.ntmps31]; exact len_le _ _ rfl) fun hok hokH => ?_
  clear hok
  have hpf := h.hp.few
  refine SWp.seq (Wp.s ?_)
  simp -implicitDefEqProofs [go_sem, args0]
  refine SWp.join (α := Unit) (fun _ => ([(2, .ptr H.length 0), (3, .ptr (H.length + 1) 0)], H ++ [some (ptC p), some (ptC q)], V)) (fun _ => True) ?_ ?_
  · refine SWp.seq (Wp.s ?_)
    simp -implicitDefEqProofs [go_sem]
    refine SWp.block ?_
    refine SWp.loop (α := Nat) (fun i => ([(2, .ptr H.length 0), (3, .ptr (H.length + 1) 0), (11, .sl .sh 4 ([p, q].map ptC)), (12, ci 2), (13, ci i)], H ++ [some (ptC p), some (ptC q)], V)) (fun i => i ≤ 2) (fun i => 2 - i) 0 (Nat.zero_le _) (Sh.forget (by simp [go_sem]) rfl rfl) ?_
    intro i hi
    dsimp only
    have hl2 : [p, q].length = 2 := rfl
    have hpq : ∀ x ∈ [p, q], PtOk x := fun x hx => by
      rcases List.mem_cons.1 hx with rfl | hx
      · exact h.hp
      · obtain rfl := List.mem_singleton.1 hx; exact h.hq
    generalize [p, q] = l at hl2 hpq
    refine SWp.seq (Wp.s ?_)
    simp -implicitDefEqProofs [go_sem]
    refine SWp.seq (Wp.s ?_)
    simp -implicitDefEqProofs [go_sem]
    refine ⟨fun hil => ?_, fun hil => Sh.forget (by simp [go_sem]) rfl rfl⟩
    have hx := hpq l[i] (List.getElem_mem (by omega))
    refine SWp.seq (SWp.block (SWp.seq (Wp.s ?_)))
    simp -implicitDefEqProofs [go_sem, (show i < l.length by omega)]
    refine SWp.seq (Wp.s ?_)
    simp -implicitDefEqProofs [go_sem]
    refine CC.mono (ptCheck_cc _ _ l[i] hx) ?_
    rintro _ _ _ ⟨rfl, rfl, rfl⟩
    simp -implicitDefEqProofs [go_sem]
    refine SWp.seq (Wp.s ?_)
    simp -implicitDefEqProofs [go_sem]
    refine Wp.s ?_
    simp -implicitDefEqProofs [go_sem]
    refine Wp.s ?_
    simp -implicitDefEqProofs [go_sem]
    refine ⟨i + 1, by omega, by omega, ?_⟩
    refine Sh.trim (L := [some (ptC p), some (ptC q)]) ?_ (by simp [go_sem, okE_pts]) hokH (by simp [go_sem]) (by simp) (by simp) (by simp)
    simp [go_sem, wrap_succ (show i ≤ 1000000000 by omega)]
  rintro _ -
  dsimp only
  refine SWp.seq (SWp.seq (Wp.s ?_))
  simp -implicitDefEqProofs [go_sem]
  refine CC.mono (alike_cc _ _ .sh .sh p.im q.im hpf h.sz) ?_
  rintro _ _ _ ⟨rfl, rfl, rfl⟩
  simp -implicitDefEqProofs [go_sem]
  refine Wp.s ?_
  simp -implicitDefEqProofs [go_sem]
  refine SWp.seq (Wp.s ?_)
  simp -implicitDefEqProofs [go_sem]
  refine CC.mono (marked_cc _ _ p q h) ?_
  rintro _ _ _ ⟨rfl, rfl, rfl⟩
  simp -implicitDefEqProofs [go_sem]
  refine Wp.s ?_
  simp -implicitDefEqProofs [go_sem]
  exact Fin.pu (.tup (.cons (.refl _) (.cons (.refl _) .nil))) (by simp [go_sem, okE_exss]) hokH (by simp) (by simp)
end Go.Proofs.YtpedbpbmnchllaaGreatDoor
namespace Go.Proofs.YtpedbpbmnchllaaGreatDoor
open Go.Proofs
def ctE (v : Nat) (a : List Sec) (e : Nat × Nat) : Wr := ⟨v, e.1, (a.drop e.1).take e.2⟩
def ctV (v : Nat) (a : List Sec) (l : List (Nat × Nat)) : List Wr := l.map (ctE v a)
def ctW (im : Img) (L : List (List (Nat × Nat))) (n : Nat) : List Wr := (List.range n).flatMap fun v => ctV v (imAt im v) (L.getD v [])
theorem ctW_succ (im : Img) (L : List (List (Nat × Nat))) (n : Nat) : ctW im L (n + 1) = ctW im L n ++ ctV n (imAt im n) (L.getD n []) := by
  rw [ctW, List.range_succ, List.flatMap_append]; simp [ctW]
theorem ctV_take (v : Nat) (a : List Sec) (l : List (Nat × Nat)) (k : Nat) (h : k < l.length) : ctV v a (l.take (k + 1)) = ctV v a (l.take k) ++ [ctE v a l[k]] := by
  rw [List.take_succ_eq_append_getElem h, ctV, List.map_append]; rfl
theorem ctV_len (v : Nat) (a : List Sec) (l : List (Nat × Nat)) : (ctV v a l).length = l.length := by simp [ctV]
def mx1 (b : Bm) : List (Nat × Nat) := runsN (elsN b.n b.w)
def mxP (d : List Bm) : List (List (Nat × Nat)) := d.map mx1
theorem okE_wrs2 (jb jv : Nat) (a b : List Wr) : okE jb jv (a.map wrC ++ b.map wrC) = True := by rw [← List.map_append]; exact okE_wrs ..
theorem okE_wrs3 (jb jv : Nat) (a b : List Wr) (c : Wr) : okE jb jv (a.map wrC ++ (b.map wrC ++ [wrC c])) = True := by
  rw [show a.map wrC ++ (b.map wrC ++ [wrC c]) = (a ++ (b ++ [c])).map wrC by simp]; exact okE_wrs ..
theorem wrC_ctE (v : Nat) (a : List Sec) (e : Nat × Nat) : wrC (ctE v a e) = [ci (v : Int), ci (e.1 : Int), .sl .sh 8 (List.take e.2 (List.drop e.1 (a.map secC)))] := by
  rw [ctE, wrC, List.map_take, List.map_drop]
theorem mx1_len {b : Bm} (ha : BmOk b) : (mx1 b).length ≤ 63 := by
  have h1 := runsN_len (elsN b.n b.w)
  have h2 := elsN_len b.n b.w
  have := ha.hi
  rw [mx1]; omega
theorem mx1_bd {b : Bm} : ∀ e ∈ mx1 b, e.1 + e.2 ≤ b.n := runsN_bd fun x hx => (elsN_mem.1 hx).1
theorem ctW_len {im : Img} {L : List (List (Nat × Nat))} (h : ∀ l ∈ L, l.length ≤ 63) : ∀ n, (ctW im L n).length ≤ n * 63
  | 0 => by simp [ctW]
  | n + 1 => by
    have ih := ctW_len (im := im) h n
    rw [ctW_succ, List.length_append, ctV_len]
    have : (L.getD n []).length ≤ 63 := by
      rcases Nat.lt_or_ge n L.length with h1 | h1
      · rw [List.getD_eq_getElem?_getD, List.getElem?_eq_getElem h1]; exact h _ (List.getElem_mem h1)
      · rw [List.getD_eq_getElem?_getD, List.getElem?_eq_none h1]; simp
    omega
set_option maxRecDepth 8000 in
set_option maxHeartbeats 1600000 in
theorem fmarked_cc (H : Hp) (V : List Nat) (p : Pt) (hp : PtOk p) (hd : p.dirty.length ≤ 8) : CC Tryz.prog 53 [.agg (ptC p)] H V (Pu (.sl .sh 3 ((ctW p.im (mxP p.dirty) p.dirty.length).map wrC)) H V) := by
  refine CC.of_swp Tryz.func53 rfl (by kernel_rfl) (by rw [Tryz.ntmps53]; exact len_le _ _ rfl) fun hok hokH => ?_
  clear hok
  have hlen := hp.len
  have hml : ∀ l ∈ mxP p.dirty, l.length ≤ 63 := fun l hl => by
    obtain ⟨b, hb, rfl⟩ := List.mem_map.1 hl
    obtain ⟨i, hi, rfl⟩ := List.getElem_of_mem hb
    exact mx1_len (hp.dirty i hi (by omega)).1
  refine SWp.seq (Wp.s ?_)
  simp -implicitDefEqProofs [go_sem, args0]
  refine SWp.seq (Wp.s ?_)
  simp -implicitDefEqProofs [go_sem]
  refine SWp.join (α := Nat) (fun k => ([(3, .sl (.own V.length k) 3 ((ctW p.im (mxP p.dirty) p.dirty.length).map wrC))], H ++ [some (ptC p)], V ++ [k])) (fun _ => True) ?_ ?_
  · refine SWp.seq (Wp.s ?_)
    simp -implicitDefEqProofs [go_sem]
    refine SWp.block ?_
    refine SWp.loop (α := Nat × Nat) (fun u => ([(1, .ptr H.length 0), (3, .sl (.own V.length u.2) 3 ((ctW p.im (mxP p.dirty) u.1).map wrC)), (9, .sl .sh 2 (p.dirty.map bmC)), (10, ci p.dirty.length), (11, ci u.1)], H ++ [some (ptC p)], V ++ [u.2])) (fun u => u.1 ≤ p.dirty.length) (fun u => p.dirty.length - u.1) (0, 0) (Nat.zero_le _) (Sh.tokT (by simp [go_sem, ctW]) rfl rfl) ?_
    rintro ⟨v, k⟩ hv
    dsimp only at hv ⊢
    refine SWp.seq (Wp.s ?_)
    simp -implicitDefEqProofs [go_sem]
    refine SWp.seq (Wp.s ?_)
    simp -implicitDefEqProofs [go_sem]
    refine ⟨fun h => ?_, fun h => ?_⟩
    case refine_2 =>
      obtain rfl : v = p.dirty.length := by omega
      exact ⟨k, Sh.forget (by simp [go_sem]) rfl rfl⟩
    have hvi : v < p.im.length := by omega
    obtain ⟨hb, hbn⟩ := hp.dirty v h hvi
    have hts := ctW_succ p.im (mxP p.dirty) v
    rw [show (mxP p.dirty).getD v [] = mx1 p.dirty[v] by simp [mxP, List.getD_eq_getElem?_getD, h], show imAt p.im v = p.im[v] by rw [imAt, List.getD_eq_getElem?_getD, List.getElem?_eq_getElem hvi]; rfl] at hts
    have htl := ctW_len (im := p.im) hml v
    have hE1 := mx1_len hb
    have hE2 : ∀ e ∈ mx1 p.dirty[v], e.1 + e.2 ≤ p.im[v].length := fun e he => by
      have := mx1_bd e he
      omega
    have hpl : p.im[v].length ≤ 63 := by rw [← hbn]; exact hb.hi
    refine SWp.seq (SWp.block (SWp.seq (Wp.s ?_)))
    simp -implicitDefEqProofs [go_sem, h]
    refine SWp.seq (Wp.s ?_)
    simp -implicitDefEqProofs [go_sem]
    refine CC.mono (extents_cc _ _ p.dirty[v] hb) ?_
    rintro _ _ _ ⟨rfl, rfl, rfl⟩
    rw [show runsN (elsN p.dirty[v].n p.dirty[v].w) = mx1 p.dirty[v] from rfl]
    simp -implicitDefEqProofs [go_sem]
    generalize mx1 p.dirty[v] = E at hE1 hE2 hts ⊢
    generalize ctW p.im (mxP p.dirty) v = Q at hts htl ⊢
    refine SWp.block ?_
    refine SWp.loop (α := Nat × Nat) (fun u => ([(1, .ptr H.length 0), (3, .sl (.own V.length u.2) 3 ((Q ++ ctV v p.im[v] (E.take u.1)).map wrC)), (4, ci v), (9, .sl .sh 2 (p.dirty.map bmC)), (10, ci p.dirty.length), (11, ci v), (17, .sl .sh 2 (E.map exC)), (18, ci E.length), (19, ci u.1)], H ++ [some (ptC p), some (bmC p.dirty[v])], V ++ [u.2])) (fun u => u.1 ≤ E.length) (fun u => E.length - u.1) (0, k) (Nat.zero_le _) (Sh.forget (by simp [go_sem, ctV]) rfl rfl) ?_
    rintro ⟨e, k⟩ he
    dsimp only at he ⊢
    refine SWp.seq (Wp.s ?_)
    simp -implicitDefEqProofs [go_sem]
    refine SWp.seq (Wp.s ?_)
    simp -implicitDefEqProofs [go_sem]
    refine ⟨fun hel => ?_, fun hel => ?_⟩
    case refine_2 =>
      obtain rfl : e = E.length := by omega
      rw [List.take_of_length_le (Nat.le_refl _)]
      refine Wp.s ?_
      simp -implicitDefEqProofs [go_sem]
      refine ⟨v + 1, by omega, by omega, k, ?_⟩
      rw [hts]
      refine Sh.trim (L := [some (ptC p)]) ?_ (by simp [go_sem, okE_wrs, okE_bms, okE_wrs2]) hokH (by simp [go_sem]) (by simp) (by simp) (by simp)
      simp [go_sem, wrap_succ (show v ≤ 1000000000 by omega)]
    have e1 := hE2 E[e] (List.getElem_mem hel)
    refine SWp.seq (SWp.block (SWp.seq (Wp.s ?_)))
    simp -implicitDefEqProofs [go_sem, hel]
    refine SWp.drawnT [] [] (.s 0 .pl <| .s 1 .pl <| .s 2 .pl <| .s 3 .pl <| .s 4 .pl <| .s 5 .pl <| .s 6 .pl <| .s 7 .pl <| .s 8 .pl <| .s 9 .pl <| .s 10 .pl <| .s 11 .pl <| .s 12 .pl <| .s 13 .pl <| .s 14 .pl <| .s 15 .pl <| .s 16 .pl <| .s 17 .pl <| .s 18 .pl <| .s 19 .pl <| .s 20 .pl <| .s 21 .pl <| .n) (by kernel_rfl) (by kernel_rfl) ?_
    have w1 : IntKind.i64.wrap ((E[e].1 : Int) + E[e].2) = ((E[e].1 + E[e].2 : Nat) : Int) := by rw [IntWalk.i64_in _ ⟨by omega, by omega⟩]; omega
    rw [show exC E[e] = [ci (E[e].1 : Nat), ci (E[e].2 : Nat)] from rfl]
    have tn : ((E[e].1 : Int) + E[e].2).toNat = E[e].1 + E[e].2 := by omega
    have hct := ctV_take v p.im[v] E e hel
    have hcl : (ctV v p.im[v] (E.take e)).length ≤ 63 := by rw [ctV_len, List.length_take]; omega
    have hdl : ((p.im[v].drop E[e].1).take E[e].2).length ≤ 63 := by rw [List.length_take, List.length_drop]; omega
    simp -implicitDefEqProofs [go_sem, hvi, w1, tn]
    refine ⟨by omega, by omega, ?_⟩
    rw [← List.map_take, ← List.map_drop, List.drop_take, Nat.add_sub_cancel_left]
    refine CC.mono (vcloneSec_cc _ _ .sh ((p.im[v].drop E[e].1).take E[e].2) (by omega)) ?_
    rintro _ _ _ ⟨rfl, rfl, rfl⟩
    simp -implicitDefEqProofs [go_sem]
    refine ⟨by omega, ?_⟩
    refine Wp.s ?_
    simp -implicitDefEqProofs [go_sem]
    refine ⟨e + 1, by omega, by omega, k + 1, ?_⟩
    rw [hct]
    refine Sh.trim (L := [some (ptC p), some (bmC p.dirty[v])]) ?_ (by simp [go_sem, okE_wrs, okE_bms, okE_exs, okE_wrs3]) hokH (by simp [go_sem]) (by simp) (by simp) (by simp)
    simp [go_sem, wrap_succ (show e ≤ 1000000000 by omega), wrC_ctE]
  rintro k -
  dsimp only
  refine SWp.seq (Wp.s ?_)
  simp -implicitDefEqProofs [go_sem]
  refine Wp.s ?_
  simp -implicitDefEqProofs [go_sem]
  exact Fin.pu (.sh _ _ _) (by simp [go_sem, okE_wrs]) hokH (by simp) (by simp)
end Go.Proofs.YtpedbpbmnchllaaGreatDoor
namespace Go.Proofs.YtpedbpbmnchllaaGreatDoor
open Go.Proofs
structure Duo (p q : Pt) (x y z : Nat) : Prop where
  h : Pt2 p q
  pl : p.lin = linO x
  ql : q.lin = linC y z
  y1 : 1 ≤ y
  yx : y ≤ x
  x1 : x ≤ 1000
  yz : y < z
  z1 : z ≤ 1000
  ps : p.site = 0
  qs : q.site = 1
  dl : p.dirty.length ≤ 8
set_option maxRecDepth 8000 in
set_option maxHeartbeats 1600000 in
theorem begin_cc (H : Hp) (V : List Nat) (p q : Pt) (x y z : Nat) (h : Duo p q x y z) : CC Tryz.prog 7 [.agg (ptC p), .agg (ptC q), ci 3] H V (Pu (.tup [.agg (prcC ⟨1, 0, 0, 3, y, false⟩), .sl .sh 1 ((mkd p q).map mxsE), er 0]) H V) := by
  have hpl := h.pl
  have hql := h.ql
  have hps := h.ps
  have hqs := h.qs
  have lO := linO_ok (x := x) ⟨by have := h.y1; have := h.yx; omega, h.x1⟩
  have lC := linC_ok (y := y) (z := z) ⟨h.y1, h.yz, h.z1⟩
  refine CC.of_defer2 (pre := [_]) (g := 29) Tryz.func7 rfl (by kernel_rfl) (by rw [Tryz.ntmps7]; exact len_le _ _ rfl) retResc fun hok hokH => ?_
  clear hok
  refine Wp.s ?_
  simp -implicitDefEqProofs [go_sem, args0]
  refine SWp.seq (Wp.s ?_)
  simp -implicitDefEqProofs [go_sem]
  refine CC.mono (between_cc2 _ _ p q h.h) ?_
  rintro _ _ _ ⟨rfl, rfl, rfl⟩
  simp -implicitDefEqProofs [go_sem]
  refine SWp.seq (Wp.s ?_)
  simp -implicitDefEqProofs [go_sem]
  refine CC.mono (fok_cc _ _) ?_
  rintro _ _ _ ⟨rfl, rfl⟩
  simp -implicitDefEqProofs [go_sem]
  refine SWp.seq (Wp.s ?_)
  simp -implicitDefEqProofs [go_sem, hps, hqs]
  refine CC.mono (fsite_cc _ _ 0 (by decide) (by decide)) ?_
  rintro _ _ _ ⟨rfl, rfl, rfl⟩
  simp -implicitDefEqProofs [go_sem, hqs]
  refine CC.mono (fsite_cc _ _ 1 (by decide) (by decide)) ?_
  rintro _ _ _ ⟨rfl, rfl, rfl⟩
  simp -implicitDefEqProofs [go_sem]
  refine CC.mono (demand_cc _ _ 2) ?_
  rintro _ _ _ ⟨rfl, rfl⟩
  simp -implicitDefEqProofs [go_sem]
  refine SWp.seq (Wp.s ?_)
  simp -implicitDefEqProofs [go_sem, hps, hqs]
  refine CC.mono (demand_cc _ _ 1) ?_
  rintro _ _ _ ⟨rfl, rfl⟩
  simp -implicitDefEqProofs [go_sem]
  refine SWp.seq (Wp.s ?_)
  simp -implicitDefEqProofs [go_sem, hpl]
  refine CC.mono (fhead_cc _ _ (linO x) 0 (by simp [linO]) (by simp [linO]) rfl) ?_
  rintro _ _ _ ⟨rfl, rfl, rfl⟩
  simp -implicitDefEqProofs [go_sem]
  refine SWp.seq (Wp.s ?_)
  simp -implicitDefEqProofs [go_sem, hql]
  refine CC.mono (fhead_cc _ _ (linC y z) 1 (by simp [linC]) (by simp [linC]) rfl) ?_
  rintro _ _ _ ⟨rfl, rfl, rfl⟩
  simp -implicitDefEqProofs [go_sem]
  refine SWp.seq (Wp.s ?_)
  simp -implicitDefEqProofs [go_sem, linO, linC]
  refine CC.mono (demand_cc _ _ 13) ?_
  rintro _ _ _ ⟨rfl, rfl⟩
  simp -implicitDefEqProofs [go_sem]
  refine SWp.seq (Wp.s ?_)
  simp -implicitDefEqProofs [go_sem]
  refine CC.mono (demand_cc _ _ 2) ?_
  rintro _ _ _ ⟨rfl, rfl⟩
  simp -implicitDefEqProofs [go_sem]
  refine SWp.seq (Wp.s ?_)
  simp -implicitDefEqProofs [go_sem, hpl, hql]
  refine CC.mono (ancestor_cc _ _ x y z h.y1 h.yx h.x1 h.yz h.z1) ?_
  rintro _ _ _ ⟨rfl, rfl, rfl⟩
  simp -implicitDefEqProofs [go_sem]
  refine SWp.seq (SWp.drawnT [H.length + 3] [8, 9, 10] (.s 0 .pl <| .s 1 .pl <| .s 2 .pl <| .s 3 .pl <| .s 4 .pl <| .s 5 .pl <| .s 6 .pl <| .s 7 .ld <| .s 8 .st <| .s 9 .st <| .s 10 .st <| .n) (by kernel_rfl) (by kernel_rfl) ?_)
  simp -implicitDefEqProofs [go_sem, hps, hqs]
  refine ⟨Kp_one _ _ _ 3 rfl, ?_⟩
  refine Wp.s ?_
  simp -implicitDefEqProofs [go_sem]
  refine CR.mono (begin1_cr _ _ _ _ _ (hget _ _ 4)) ?_
  rintro _ _ ⟨rfl, rfl⟩
  simp -implicitDefEqProofs [go_sem]
  exact Fin.pu (.refl _) (by simp [go_sem, okE_exss]) hokH (by simp) (by simp)
end Go.Proofs.YtpedbpbmnchllaaGreatDoor
namespace Go.Proofs.YtpedbpbmnchllaaGreatDoor
open Go.Proofs
theorem okE_intc (jb jv : Nat) (l : List Int) (n : Int) : okE jb jv (l.map ic ++ [ic n]) = True := by
  rw [show l.map ic ++ [ic n] = (l ++ [n]).map ic by simp]; exact okE_ints ..
theorem mkd_small {p q : Pt} (h : Pt2 p q) : ∀ l ∈ mkd p q, l.length ≤ 63 := fun l hl => by
  obtain ⟨i, hi, rfl⟩ := List.getElem_of_mem hl
  have hml := mkd_len p q
  have hq := h.len
  rw [mkd_get p q i hi (by omega) (by omega)]
  exact mk1_len (h.n i (by omega) (by omega)).1
set_option maxRecDepth 8000 in
set_option maxHeartbeats 3200000 in
theorem rcycle_cc (H : Hp) (V : List Nat) (p q : Pt) (x y z : Nat) (num tm : Int) (h : Duo p q x y z) (h1 : (y : Int) < num) (h2 : (z : Int) ≤ num) (hc : chkC ⟨y, num, tm, [], ctW q.im (mkd p q) q.im.length⟩ (imgSz q.im) = 0) (hws : WrS (ctW q.im (mkd p q) q.im.length)) : CC Tryz.prog 8 [.agg (ptC p), .agg (ptC q), ci num, ci tm, .sl .sh 1 ([].map ic)] H V (Pu (.tup [.agg (cycC ⟨y, num, tm, [], ctW q.im (mkd p q) q.im.length⟩), er 0]) H V) := by
  refine CC.of_swp Tryz.func8 rfl (by kernel_rfl) (by rw [Tryz.ntmps8]; exact len_le _ _ rfl) fun hok hokH => ?_
  clear hok
  have hpl := h.pl
  have hql := h.ql
  have hq := h.h.hq
  have hlen := hq.len
  have hpq := h.h.len
  have hdl := h.dl
  have hml := mkd_len p q
  have hms := mkd_small h.h
  refine SWp.seq (Wp.s ?_)
  simp -implicitDefEqProofs [go_sem, args0]
  refine SWp.seq (Wp.s ?_)
  simp -implicitDefEqProofs [go_sem]
  refine CC.mono (between_cc2 _ _ p q h.h) ?_
  rintro _ _ _ ⟨rfl, rfl, rfl⟩
  simp -implicitDefEqProofs [go_sem]
  refine SWp.seq (SWp.seq (Wp.s ?_))
  simp -implicitDefEqProofs [go_sem]
  refine Wp.s ?_
  simp -implicitDefEqProofs [go_sem]
  refine SWp.seq (Wp.s ?_)
  simp -implicitDefEqProofs [go_sem, hpl, hql]
  refine CC.mono (ancestor_cc _ _ x y z h.y1 h.yx h.x1 h.yz h.z1) ?_
  rintro _ _ _ ⟨rfl, rfl, rfl⟩
  simp -implicitDefEqProofs [go_sem]
  refine SWp.seq (SWp.seq (Wp.s ?_))
  simp -implicitDefEqProofs [go_sem, show ¬ num ≤ (y : Int) by omega, hql]
  refine CC.mono (rlast_cc _ _ (linC y z) 1 (by simp [linC]) (by simp [linC]) rfl) ?_
  rintro _ _ _ ⟨rfl, rfl, rfl⟩
  rw [show (linC y z)[1]'(by simp [linC]) = ⟨2, (y : Int) + 1, z⟩ from rfl]
  simp -implicitDefEqProofs [go_sem, show ¬ num < (z : Int) by omega]
  refine Wp.s ?_
  simp -implicitDefEqProofs [go_sem]
  refine SWp.seq (Wp.s ?_)
  simp -implicitDefEqProofs [go_sem]
  refine CC.mono (vcloneInt_cc _ _ .sh [] (by simp)) ?_
  rintro _ _ _ ⟨rfl, rfl, rfl⟩
  simp -implicitDefEqProofs [go_sem]
  refine SWp.seq (Wp.s ?_)
  simp -implicitDefEqProofs [go_sem]
  refine SWp.join (α := Nat × Nat) (fun k => ([(5, .ptr H.length 0), (6, .ptr (H.length + 1) 0), (10, .ptr (H.length + 2) 0), (11, ci 0), (16, .ptr (H.length + 3) 0), (17, .sl (.own V.length k.1) 1 ((imgSz q.im).map ic))], H ++ [some (ptC p), some (ptC q), some [ci 0, ci 0, ci 0, .v (.slice none 0 0), .v (.slice none 0 0)], some [ci y, ci num, ci tm, .sl .sh 1 [], .sl (.own (V.length + 1) k.2) 3 ((ctW q.im (mkd p q) q.im.length).map wrC)]], V ++ [k.1, k.2])) (fun _ => True) ?_ ?_
  · refine SWp.seq (Wp.s ?_)
    simp -implicitDefEqProofs [go_sem]
    refine SWp.block ?_
    refine SWp.loop (α := Nat × Nat × Nat) (fun u => ([(5, .ptr H.length 0), (6, .ptr (H.length + 1) 0), (10, .ptr (H.length + 2) 0), (11, ci 0), (12, .sl .sh 1 ((mkd p q).map mxsE)), (16, .ptr (H.length + 3) 0), (17, .sl (.own V.length u.2.1) 1 ((imgSz (q.im.take u.1)).map ic)), (59, .sl .sh 1 (q.im.map imE)), (60, ci q.im.length), (61, ci u.1)], H ++ [some (ptC p), some (ptC q), some [ci 0, ci 0, ci 0, .v (.slice none 0 0), .v (.slice none 0 0)], some [ci y, ci num, ci tm, .sl .sh 1 [], .sl (.own (V.length + 1) u.2.2) 3 ((ctW q.im (mkd p q) u.1).map wrC)]], V ++ [u.2.1, u.2.2])) (fun u => u.1 ≤ q.im.length) (fun u => q.im.length - u.1) (0, 0, 0) (Nat.zero_le _) ?_ ?_
    · refine Gst.trans (Gst.tokT (T' := [(5, .ptr H.length 0), (6, .ptr (H.length + 1) 0), (10, .ptr (H.length + 2) 0), (11, ci 0), (12, .sl .sh 1 ((mkd p q).map mxsE)), (16, .ptr (H.length + 3) 0), (17, .sl (.own V.length 0) 1 ((imgSz (q.im.take 0)).map ic)), (59, .sl .sh 1 (q.im.map imE)), (60, ci q.im.length), (61, ci 0)]) (by simp [go_sem, imgSz])) ?_
      exact Sh.tokL (b := H.length + 3) (hget _ _ 3) (ds := [ci y, ci num, ci tm, .sl .sh 1 [], .sl (.own (V.length + 1) 0) 3 ((ctW q.im (mkd p q) 0).map wrC)]) (by simp [go_sem, ctW]) (by simp [CV.isObj]) (by simp [go_sem]) (by simp) (by simp)
    rintro ⟨v, k1, k2⟩ hv
    dsimp only at hv ⊢
    refine SWp.seq (Wp.s ?_)
    simp -implicitDefEqProofs [go_sem]
    refine SWp.seq (Wp.s ?_)
    simp -implicitDefEqProofs [go_sem]
    refine ⟨fun hvl => ?_, fun hvl => ?_⟩
    case refine_2 =>
      obtain rfl : v = q.im.length := by omega
      rw [List.take_length]
      exact ⟨k1, k2, Sh.forget (by simp [go_sem]) rfl rfl⟩
    have hvd : v < (mkd p q).length := by omega
    obtain ⟨hb, hb2, hbn⟩ := h.h.n v (by omega) (by omega)
    have hqn := (hq.dirty v (by omega) hvl).2
    have hts := ctW_succ q.im (mkd p q) v
    rw [show (mkd p q).getD v [] = (mkd p q)[v] by simp [List.getD_eq_getElem?_getD, hvd], show imAt q.im v = q.im[v] by rw [imAt, List.getD_eq_getElem?_getD, List.getElem?_eq_getElem hvl]; rfl] at hts
    have htl := ctW_len (im := q.im) hms v
    have hmg := mkd_get p q v hvd (by omega) (by omega)
    have hE1 : ((mkd p q)[v]).length ≤ 63 := by rw [hmg]; exact mk1_len hb
    have hE2 : ∀ e ∈ (mkd p q)[v], e.1 + e.2 ≤ q.im[v].length := fun e he => by
      rw [hmg] at he
      have := mk1_bd e he
      omega
    have hpl' : q.im[v].length ≤ 63 := by rw [← hqn]; exact hb2.hi
    have hsz : (imgSz (q.im.take (v + 1))).map ic = (imgSz (q.im.take v)).map ic ++ [ic (q.im[v].length : Int)] := by
      rw [List.take_succ_eq_append_getElem hvl, imgSz, List.map_append, List.map_append]; rfl
    have hsl : (imgSz (q.im.take v)).length = v := by rw [imgSz, List.length_map, List.length_take]; omega
    generalize imgSz (q.im.take v) = sz0 at hsz hsl ⊢
    refine SWp.seq (SWp.block (SWp.seq (Wp.s ?_)))
    simp -implicitDefEqProofs [go_sem, hvl]
    refine SWp.seq (Wp.s ?_)
    simp -implicitDefEqProofs [go_sem]
    refine ⟨by omega, ?_⟩
    refine SWp.seq (Wp.s ?_)
    simp -implicitDefEqProofs [go_sem, hvd]
    generalize (mkd p q)[v] = E at hE1 hE2 hts ⊢
    generalize ctW q.im (mkd p q) v = Q at hts htl ⊢
    refine SWp.block ?_
    refine SWp.loop (α := Nat × Nat) (fun u => ([(5, .ptr H.length 0), (6, .ptr (H.length + 1) 0), (10, .ptr (H.length + 2) 0), (11, ci 0), (12, .sl .sh 1 ((mkd p q).map mxsE)), (16, .ptr (H.length + 3) 0), (17, .sl (.own V.length (k1 + 1)) 1 (sz0.map ic ++ [ic (q.im[v].length : Int)])), (18, ci v), (19, secsV q.im[v]), (59, .sl .sh 1 (q.im.map imE)), (60, ci q.im.length), (61, ci v), (74, .sl .sh 2 (E.map exC)), (75, ci E.length), (76, ci u.1)], H ++ [some (ptC p), some (ptC q), some [ci 0, ci 0, ci 0, .v (.slice none 0 0), .v (.slice none 0 0)], some [ci y, ci num, ci tm, .sl .sh 1 [], .sl (.own (V.length + 1) u.2) 3 ((Q ++ ctV v q.im[v] (E.take u.1)).map wrC)]], V ++ [k1 + 1, u.2])) (fun u => u.1 ≤ E.length) (fun u => E.length - u.1) (0, k2) (Nat.zero_le _) (Sh.forget (by simp [go_sem, ic]) (by simp [ctV]) (by simp)) ?_
    rintro ⟨e, k2⟩ he
    dsimp only at he ⊢
    refine SWp.seq (Wp.s ?_)
    simp -implicitDefEqProofs [go_sem]
    refine SWp.seq (Wp.s ?_)
    simp -implicitDefEqProofs [go_sem]
    refine ⟨fun hel => ?_, fun hel => ?_⟩
    case refine_2 =>
      obtain rfl : e = E.length := by omega
      rw [List.take_of_length_le (Nat.le_refl _)]
      refine Wp.s ?_
      simp -implicitDefEqProofs [go_sem]
      refine ⟨v + 1, by omega, by omega, k1 + 1, k2, ?_⟩
      rw [hts, hsz]
      refine Sh.forget ?_ (by simp) rfl
      simp [go_sem, wrap_succ (show v ≤ 1000000000 by omega)]
    have e1 := hE2 E[e] (List.getElem_mem hel)
    refine SWp.seq (SWp.block (SWp.seq (Wp.s ?_)))
    simp -implicitDefEqProofs [go_sem, hel]
    refine SWp.drawnT [] [19] (.s 0 .pl <| .s 1 .pl <| .s 2 .pl <| .s 3 .pl <| .s 4 .pl <| .s 5 .pl <| .s 6 .pl <| .s 7 .pl <| .s 8 .pl <| .s 9 .pl <| .s 10 .pl <| .s 11 .pl <| .s 12 .pl <| .s 13 .pl <| .s 14 .pl <| .s 15 .pl <| .s 16 .pl <| .s 17 .pl <| .s 18 .pl <| .s 19 .st <| .n) (by kernel_rfl) (by kernel_rfl) ?_
    have w1 : IntKind.i64.wrap ((E[e].1 : Int) + E[e].2) = ((E[e].1 + E[e].2 : Nat) : Int) := by rw [IntWalk.i64_in _ ⟨by omega, by omega⟩]; omega
    rw [show exC E[e] = [ci (E[e].1 : Nat), ci (E[e].2 : Nat)] from rfl]
    have tn : ((E[e].1 : Int) + E[e].2).toNat = E[e].1 + E[e].2 := by omega
    have hct := ctV_take v q.im[v] E e hel
    have hcl : (ctV v q.im[v] (E.take e)).length ≤ 63 := by rw [ctV_len, List.length_take]; omega
    have hdl : ((q.im[v].drop E[e].1).take E[e].2).length ≤ 63 := by rw [List.length_take, List.length_drop]; omega
    simp -implicitDefEqProofs [go_sem, w1, tn]
    refine ⟨by omega, by omega, ?_⟩
    rw [← List.map_take, ← List.map_drop, List.drop_take, Nat.add_sub_cancel_left]
    refine CC.mono (vcloneSec_cc _ _ .sh ((q.im[v].drop E[e].1).take E[e].2) (by omega)) ?_
    rintro _ _ _ ⟨rfl, rfl, rfl⟩
    simp -implicitDefEqProofs [go_sem]
    refine ⟨by omega, ?_⟩
    refine Wp.s ?_
    simp -implicitDefEqProofs [go_sem]
    refine ⟨e + 1, by omega, by omega, k2 + 1, ?_⟩
    rw [hct]
    refine Sh.trim (L := [some (ptC p), some (ptC q), some [ci 0, ci 0, ci 0, .v (.slice none 0 0), .v (.slice none 0 0)], some [ci y, ci num, ci tm, .sl .sh 1 [], .sl (.own (V.length + 1) (k2 + 1)) 3 (Q.map wrC ++ (ctV v q.im[v] (E.take e) ++ [ctE v q.im[v] E[e]]).map wrC)]]) ?_ (by simp [go_sem, okE_wrs, okE_exs, okE_exss, okE_ims, okE_wrs3, secsV, okE_secs, okE_intc]) hokH (by simp [go_sem, okL, okV, okE_wrs3]) (by simp) (by simp [wrC_ctE]) (by simp)
    simp [go_sem, wrap_succ (show e ≤ 1000000000 by omega), wrC_ctE]
  rintro ⟨k1, k2⟩ -
  dsimp only
  refine SWp.seq (SWp.seq (Wp.s ?_))
  simp -implicitDefEqProofs [go_sem]
  refine CC.le (.cons (.agg (.cons (.refl _) (.cons (.refl _) (.cons (.refl _) (.cons (.refl _) (.cons (.sh _ _ _) .nil)))))) (.cons (.sh _ _ _) .nil)) ?_
  rw [show [CV.v (.int .i64 (y : Int)), .v (.int .i64 num), .v (.int .i64 tm), .sl .sh 1 [], .sl .sh 3 ((ctW q.im (mkd p q) q.im.length).map wrC)] = cycC ⟨y, num, tm, [], ctW q.im (mkd p q) q.im.length⟩ from rfl]
  have hqf := hq.few
  have hcl := ctW_len (im := q.im) hms q.im.length
  refine CC.mono (cCheck_cc _ _ .sh ⟨y, num, tm, [], ctW q.im (mkd p q) q.im.length⟩ (imgSz q.im) (by show (ctW q.im (mkd p q) q.im.length).length ≤ _; omega) hws (by rw [imgSz, List.length_map]; omega) (by simp)) ?_
  rintro _ _ _ ⟨rfl, rfl, rfl⟩
  rw [hc]
  simp -implicitDefEqProofs [go_sem]
  refine SWp.seq (Wp.s ?_)
  simp -implicitDefEqProofs [go_sem]
  refine Wp.s ?_
  simp -implicitDefEqProofs [go_sem]
  refine SWp.seq (Wp.s ?_)
  simp -implicitDefEqProofs [go_sem]
  refine Wp.s ?_
  simp -implicitDefEqProofs [go_sem]
  refine Fin.pu (.tup (.cons (.agg (.cons (.refl _) (.cons (.refl _) (.cons (.refl _) (.cons (.refl _) (.cons (.sh _ _ _) .nil)))))) (.cons (.refl _) .nil))) ?_ hokH (by simp) (by simp)
  simp [go_sem, cycC, okL, okV, okE_wrs]
end Go.Proofs.YtpedbpbmnchllaaGreatDoor
namespace Go.Proofs.YtpedbpbmnchllaaGreatDoor
open Go.Proofs
@[go_sem, simp] theorem cycC_drop (c : Cyc) : (cycC c).drop 5 = [] := rfl
set_option maxRecDepth 8000 in
set_option maxHeartbeats 3200000 in
theorem round_cc (H : Hp) (V : List Nat) (p : Prc) (q : Pt) (y z : Nat) (num tm : Int) (hp : PrcOk p) (hq : PtOk q) (hd : q.dirty.length ≤ 8) (hst : p.st = 0) (hsite : q.site = p.fr) (hql : q.lin = linC y z) (h1 : p.cy < num) (h2 : (z : Int) ≤ num)
    (hc : chkC ⟨p.cy, num, tm, [], ctW q.im (mxP q.dirty) q.dirty.length⟩ (imgSz q.im) = 0) (hws : WrS (ctW q.im (mxP q.dirty) q.dirty.length)) :
    CC Tryz.prog 11 [.agg (prcC p), .agg (ptC q), ci num, ci tm] H V (Pu (.tup [.agg (prcC ⟨p.fr, p.to, 1, p.ep, num, false⟩), .agg (cycC ⟨p.cy, num, tm, [], ctW q.im (mxP q.dirty) q.dirty.length⟩), er 0]) H V) := by
  have hqf := hq.few
  have hlen := hq.len
  have hdn := hp.dn
  have hml : ∀ l ∈ mxP q.dirty, l.length ≤ 63 := fun l hl => by
    obtain ⟨b, hb, rfl⟩ := List.mem_map.1 hl
    obtain ⟨i, hi, rfl⟩ := List.getElem_of_mem hb
    exact mx1_len (hq.dirty i hi (by omega)).1
  have hcl := ctW_len (im := q.im) hml q.dirty.length
  refine CC.of_defer2 (pre := [_]) (g := 50) Tryz.func11 rfl (by kernel_rfl) (by rw [Tryz.ntmps11]; exact len_le _ _ rfl) retResc fun hok hokH => ?_
  clear hok
  refine Wp.s ?_
  simp -implicitDefEqProofs [go_sem, args0]
  refine SWp.seq (Wp.s ?_)
  simp -implicitDefEqProofs [go_sem]
  refine SWp.seq (Wp.s ?_)
  simp -implicitDefEqProofs [go_sem]
  refine CC.mono (formed_cc _ _ p hp) ?_
  rintro _ _ _ ⟨rfl, rfl⟩
  simp -implicitDefEqProofs [go_sem]
  refine SWp.seq (Wp.s ?_)
  simp -implicitDefEqProofs [go_sem]
  refine CC.mono (ptCheck_cc _ _ q hq) ?_
  rintro _ _ _ ⟨rfl, rfl, rfl⟩
  simp -implicitDefEqProofs [go_sem]
  refine CC.mono (fok_cc _ _) ?_
  rintro _ _ _ ⟨rfl, rfl⟩
  simp -implicitDefEqProofs [go_sem]
  refine SWp.seq (Wp.s ?_)
  simp -implicitDefEqProofs [go_sem, hsite]
  refine CC.mono (demand_cc _ _ 1) ?_
  rintro _ _ _ ⟨rfl, rfl⟩
  simp -implicitDefEqProofs [go_sem]
  refine SWp.seq (Wp.s ?_)
  simp -implicitDefEqProofs [go_sem, hdn]
  refine CC.mono (demand_cc _ _ 12) ?_
  rintro _ _ _ ⟨rfl, rfl⟩
  simp -implicitDefEqProofs [go_sem]
  refine SWp.seq (Wp.s ?_)
  simp -implicitDefEqProofs [go_sem, hst]
  refine CC.mono (demand_cc _ _ 11) ?_
  rintro _ _ _ ⟨rfl, rfl⟩
  simp -implicitDefEqProofs [go_sem]
  refine SWp.seq (Wp.s ?_)
  simp -implicitDefEqProofs [go_sem, hql]
  refine CC.mono (fhead_cc _ _ (linC y z) 1 (by simp [linC]) (by simp [linC]) rfl) ?_
  rintro _ _ _ ⟨rfl, rfl, rfl⟩
  rw [show (linC y z)[1]'(by simp [linC]) = ⟨2, (y : Int) + 1, z⟩ from rfl]
  simp -implicitDefEqProofs [go_sem]
  refine SWp.seq (Wp.s ?_)
  simp -implicitDefEqProofs [go_sem, h1, h2]
  refine CC.mono (demand_cc _ _ 2) ?_
  rintro _ _ _ ⟨rfl, rfl⟩
  simp -implicitDefEqProofs [go_sem]
  refine SWp.seq (SWp.drawnT [] [8] (.s 0 .pl <| .s 1 .pl <| .s 2 .pl <| .s 3 .pl <| .s 4 .pl <| .s 5 .pl <| .s 6 .pl <| .s 7 .pl <| .s 8 .st <| .n) (by kernel_rfl) (by kernel_rfl) ?_)
  simp -implicitDefEqProofs [go_sem]
  refine CC.mono (fmarked_cc _ _ q hq hd) ?_
  rintro _ _ _ ⟨rfl, rfl, rfl⟩
  simp -implicitDefEqProofs [go_sem]
  refine SWp.seq (Wp.s ?_)
  simp -implicitDefEqProofs [go_sem]
  refine SWp.join (α := Nat) (fun k => ([(2, ci num), (8, .ptr (H.length + 2) 0), (9, .ptr (H.length + 3) 0), (10, .ptr (H.length + 4) 0), (11, .ptr (H.length + 5) 0), (14, .sl (.own V.length k) 1 ((imgSz q.im).map ic))], H ++ [some (prcC p), some (ptC q), some [ci 0, ci 0, ci 0, ci 0, ci 0, ci 0, cb false, cb false], some [ci p.cy, ci num, ci tm, .v (.slice none 0 0), .sl .sh 3 ((ctW q.im (mxP q.dirty) q.dirty.length).map wrC)], some [ci 0], some (prcC p)], V ++ [k])) (fun _ => True) ?_ ?_
  · refine SWp.seq (Wp.s ?_)
    simp -implicitDefEqProofs [go_sem]
    refine SWp.block ?_
    refine SWp.loop (α := Nat × Nat) (fun u => ([(2, ci num), (8, .ptr (H.length + 2) 0), (9, .ptr (H.length + 3) 0), (10, .ptr (H.length + 4) 0), (11, .ptr (H.length + 5) 0), (14, .sl (.own V.length u.2) 1 ((imgSz (q.im.take u.1)).map ic)), (68, .sl .sh 1 (q.im.map imE)), (69, ci q.im.length), (70, ci u.1)], H ++ [some (prcC p), some (ptC q), some [ci 0, ci 0, ci 0, ci 0, ci 0, ci 0, cb false, cb false], some [ci p.cy, ci num, ci tm, .v (.slice none 0 0), .sl .sh 3 ((ctW q.im (mxP q.dirty) q.dirty.length).map wrC)], some [ci 0], some (prcC p)], V ++ [u.2])) (fun u => u.1 ≤ q.im.length) (fun u => q.im.length - u.1) (0, 0) (Nat.zero_le _) (Sh.tokT (by simp [go_sem, imgSz]) rfl rfl) ?_
    rintro ⟨i, k⟩ hi
    dsimp only at hi ⊢
    refine SWp.seq (Wp.s ?_)
    simp -implicitDefEqProofs [go_sem]
    refine SWp.seq (Wp.s ?_)
    simp -implicitDefEqProofs [go_sem]
    refine ⟨fun h => ?_, fun h => ?_⟩
    case refine_2 =>
      obtain rfl : i = q.im.length := by omega
      rw [List.take_length]
      exact ⟨k, Sh.forget (by simp [go_sem]) rfl rfl⟩
    have hsl : (imgSz (q.im.take i)).length = i := by rw [imgSz, List.length_map, List.length_take]; omega
    have hsz : (imgSz (q.im.take (i + 1))).map ic = (imgSz (q.im.take i)).map ic ++ [ic (q.im[i].length : Int)] := by
      rw [List.take_succ_eq_append_getElem h, imgSz, List.map_append, List.map_append]; rfl
    refine SWp.seq (SWp.block (SWp.seq (Wp.s ?_)))
    simp -implicitDefEqProofs [go_sem, h]
    refine Wp.s ?_
    simp -implicitDefEqProofs [go_sem]
    refine ⟨by omega, Wp.s ?_⟩
    simp -implicitDefEqProofs [go_sem, wrap_succ (show i ≤ 1000000000 by omega)]
    refine ⟨i + 1, by omega, by omega, k + 1, ?_⟩
    rw [hsz]
    exact Sh.forget (by simp [go_sem, ic]) rfl (by simp)
  rintro k -
  dsimp only
  refine SWp.seq (Wp.s ?_)
  simp -implicitDefEqProofs [go_sem]
  refine CC.le (.cons (.agg (.cons (.refl _) (.cons (.refl _) (.cons (.refl _) (.cons (.nil 1 (by decide)) (.cons (.refl _) .nil)))))) (.cons (.sh _ _ _) .nil)) ?_
  rw [show [CV.v (.int .i64 p.cy), .v (.int .i64 num), .v (.int .i64 tm), .sl .sh 1 [], .sl .sh 3 ((ctW q.im (mxP q.dirty) q.dirty.length).map wrC)] = cycC ⟨p.cy, num, tm, [], ctW q.im (mxP q.dirty) q.dirty.length⟩ from rfl]
  refine CC.mono (cCheck_cc _ _ .sh ⟨p.cy, num, tm, [], ctW q.im (mxP q.dirty) q.dirty.length⟩ (imgSz q.im) (by show (ctW q.im (mxP q.dirty) q.dirty.length).length ≤ _; omega) hws (by rw [imgSz, List.length_map]; omega) (by simp)) ?_
  rintro _ _ _ ⟨rfl, rfl, rfl⟩
  rw [hc]
  simp -implicitDefEqProofs [go_sem]
  refine CC.mono (fok_cc _ _) ?_
  rintro _ _ _ ⟨rfl, rfl⟩
  simp -implicitDefEqProofs [go_sem]
  refine SWp.seq (Wp.s ?_)
  simp -implicitDefEqProofs [go_sem, hst, prcC]
  refine SWp.seq (Wp.s ?_)
  simp -implicitDefEqProofs [go_sem]
  refine SWp.seq (SWp.drawnT [H.length + 3] [3, 4, 5] (.s 0 .pl <| .s 1 .pl <| .s 2 .ld <| .s 3 .st <| .s 4 .st <| .s 5 .st <| .n) (by kernel_rfl) (by kernel_rfl) ?_)
  simp -implicitDefEqProofs [go_sem]
  refine ⟨Kp_one _ _ _ 3 rfl, ?_⟩
  refine Wp.s ?_
  simp -implicitDefEqProofs [go_sem]
  refine CR.mono (round1_cr _ _ _ _ _ (hget _ _ 4)) ?_
  rintro _ _ ⟨rfl, rfl⟩
  have w1 : IntKind.i64.wrap (1 : Int) = 1 := IntWalk.i64_in _ ⟨by omega, by omega⟩
  simp -implicitDefEqProofs [go_sem, hdn, w1]
  refine Fin.pu (.tup (.cons (.refl _) (.cons (.agg (.cons (.refl _) (.cons (.refl _) (.cons (.refl _) (.cons (.nil 1 (by decide)) (.cons (.refl _) .nil)))))) (.cons (.refl _) .nil)))) ?_ hokH (by simp) (by simp)
  simp [go_sem, cycC, okL, okV, okE_wrs]
end Go.Proofs.YtpedbpbmnchllaaGreatDoor
namespace Go.Proofs.YtpedbpbmnchllaaGreatDoor
open Go.Proofs
def frE (n : Nat) (l : List (Nat × Nat)) : Bm := l.foldl (fun b e => setB b e.1 e.2) ⟨n, 0⟩
theorem frE_snoc (n : Nat) (l : List (Nat × Nat)) (e : Nat × Nat) : frE n (l ++ [e]) = setB (frE n l) e.1 e.2 := by simp [frE]
theorem frE_n (n : Nat) (l : List (Nat × Nat)) : (frE n l).n = n := by
  induction l using snoc_ind with
  | h0 => rfl
  | h1 l e ih => rw [frE_snoc]; exact ih
theorem frE_ok {n : Nat} (h1 : 1 ≤ n) (h2 : n ≤ 63) {l : List (Nat × Nat)} (h : ∀ e ∈ l, e.1 + e.2 ≤ n) : BmOk (frE n l) := by
  induction l using snoc_ind with
  | h0 => exact ⟨h1, h2, Nat.two_pow_pos n⟩
  | h1 l e ih => rw [frE_snoc]; exact setB_ok (ih fun x hx => h x (by simp [hx])) (by rw [frE_n]; exact h e (by simp))
set_option maxRecDepth 8000 in
theorem fromEx_cc (H : Hp) (V : List Nat) (n : Nat) (l : List (Nat × Nat)) (h1 : 1 ≤ n) (h2 : n ≤ 63) (h : ∀ e ∈ l, e.1 + e.2 ≤ n) (hl : l.length ≤ 1000) : CC Tryz.prog 44 [ci n, .sl .sh 2 (l.map exC)] H V (Pu (.tup [.agg (bmC (frE n l)), er 0]) H V) := by
  refine CC.of_swp Tryz.func44 rfl (by kernel_rfl) (by rw [Tryz.ntmps44]; exact len_le _ _ rfl) fun hok hokH => ?_
  clear hok
  refine SWp.seq (Wp.s ?_)
  simp -implicitDefEqProofs [go_sem, args0]
  refine SWp.seq (Wp.s ?_)
  simp -implicitDefEqProofs [go_sem]
  refine CC.mono (bmNew_cc _ _ n h1 h2) ?_
  rintro _ _ _ ⟨rfl, rfl, rfl⟩
  simp -implicitDefEqProofs [go_sem]
  refine SWp.seq (SWp.seq (Wp.s ?_))
  simp -implicitDefEqProofs [go_sem]
  refine Wp.s ?_
  simp -implicitDefEqProofs [go_sem]
  refine SWp.join (α := Unit) (fun _ => ([(4, .ptr H.length 0), (6, .ptr (H.length + 1) 0)], H ++ [some [ci 0, .v (.slice none 0 0)], some (bmC (frE n l))], V)) (fun _ => True) ?_ ?_
  · refine SWp.seq (Wp.s ?_)
    simp -implicitDefEqProofs [go_sem]
    refine SWp.block ?_
    refine SWp.loop (α := Nat) (fun i => ([(4, .ptr H.length 0), (6, .ptr (H.length + 1) 0), (19, .sl .sh 2 (l.map exC)), (20, ci l.length), (21, ci i)], H ++ [some [ci 0, .v (.slice none 0 0)], some (bmC (frE n (l.take i)))], V)) (fun i => i ≤ l.length) (fun i => l.length - i) 0 (Nat.zero_le _) (Sh.forget (by simp [go_sem]) (by simp [frE]) rfl) ?_
    intro i hi
    dsimp only
    refine SWp.seq (Wp.s ?_)
    simp -implicitDefEqProofs [go_sem]
    refine SWp.seq (Wp.s ?_)
    simp -implicitDefEqProofs [go_sem]
    refine ⟨fun hil => ?_, fun hil => ?_⟩
    case refine_2 =>
      obtain rfl : i = l.length := by omega
      rw [List.take_length]
      exact Sh.forget (by simp [go_sem]) rfl rfl
    have he := h l[i] (List.getElem_mem hil)
    have hok := frE_ok h1 h2 (l := l.take i) fun e he => h e (List.mem_of_mem_take he)
    have hn := frE_n n (l.take i)
    have hts : frE n (l.take (i + 1)) = setB (frE n (l.take i)) l[i].1 l[i].2 := by rw [List.take_succ_eq_append_getElem hil, frE_snoc]
    generalize frE n (l.take i) = b at hok hn hts ⊢
    refine SWp.seq (SWp.block (SWp.seq (Wp.s ?_)))
    simp -implicitDefEqProofs [go_sem, hil]
    refine SWp.seq (Wp.s ?_)
    simp -implicitDefEqProofs [go_sem]
    rw [show exC l[i] = [ci (l[i].1 : Nat), ci (l[i].2 : Nat)] from rfl]
    refine CC.mono (bmSet_cc _ _ b l[i].1 l[i].2 hok (by omega)) ?_
    rintro _ _ _ ⟨rfl, rfl, rfl⟩
    simp -implicitDefEqProofs [go_sem]
    refine SWp.seq (Wp.s ?_)
    simp -implicitDefEqProofs [go_sem]
    refine Wp.s ?_
    simp -implicitDefEqProofs [go_sem]
    refine Wp.s ?_
    simp -implicitDefEqProofs [go_sem]
    refine ⟨i + 1, by omega, by omega, ?_⟩
    rw [hts]
    refine Sh.trim (L := [some [ci 0, .v (.slice none 0 0)], some (bmC (setB b l[i].1 l[i].2))]) ?_ (by simp [go_sem, okE_exs]) hokH (by simp [go_sem, okL, okV]) (by simp) (by simp) (by simp)
    simp [go_sem, wrap_succ (show i ≤ 1000000000 by omega)]
  rintro _ -
  dsimp only
  refine SWp.seq (Wp.s ?_)
  simp -implicitDefEqProofs [go_sem]
  refine Wp.s ?_
  simp -implicitDefEqProofs [go_sem]
  exact Fin.pu (.refl _) (by simp [go_sem]) hokH (by simp) (by simp)
end Go.Proofs.YtpedbpbmnchllaaGreatDoor
namespace Go.Proofs.YtpedbpbmnchllaaGreatDoor
open Go.Proofs
theorem okE_bmt (jb jv : Nat) (l : List Bm) (i : Nat) (b : Bm) : okE jb jv (List.take i (l.map bmC) ++ [bmC b]) = True := by
  rw [← List.map_take, show (l.take i).map bmC ++ [bmC b] = (l.take i ++ [b]).map bmC by simp]; exact eq_true (okE_bms ..)
theorem okE_exss1 (jb jv : Nat) (l : List (List (Nat × Nat))) (b : List (Nat × Nat)) : okE jb jv (l.map mxsE ++ [mxsE b]) = True := by
  rw [show l.map mxsE ++ [mxsE b] = (l ++ [b]).map mxsE by simp]; exact eq_true (okE_exss ..)
theorem turn2_cc (H : Hp) (V : List Nat) (v : Int) (b : Bm) : CC Tryz.prog 47 [ci v, .agg (bmC b)] H V (Pu (.agg (bmC b)) H V) := by
  refine CC.of_swp Tryz.func47 rfl (by kernel_rfl) (by rw [Tryz.ntmps47]; exact len_le _ _ rfl) fun hok hokH => ?_
  clear hok
  refine SWp.seq (Wp.s ?_)
  simp -implicitDefEqProofs [go_sem, args0]
  refine SWp.seq (SWp.drawnT [] [6] (.s 0 .pl <| .s 1 .pl <| .s 2 .pl <| .s 3 .pl <| .s 4 .pl <| .s 5 .pl <| .s 6 .st <| .n) (by kernel_rfl) (by kernel_rfl) ?_)
  simp -implicitDefEqProofs [go_sem]
  refine CC.mono (cloneW_cc _ _ b.w) ?_
  rintro _ _ _ ⟨rfl, rfl, rfl⟩
  simp -implicitDefEqProofs [go_sem]
  refine Wp.s ?_
  simp -implicitDefEqProofs [go_sem]
  refine Fin.frozY (b := H.length + 2) (cs := [wv b.w]) (r1 := .agg [ci b.n, .bsl (H.length + 2) 0 1 1]) (r2 := .agg (bmC b)) ⟨rfl, rfl, rfl⟩ (.refl _) (hget _ _ 2) (.agg (.cons (.refl _) (.cons (.bsl 0 1 1 (by simp)) .nil))) (by omega) (by simp [go_sem]) hokH (by simp) (by simp)
theorem volumesB_cc (H : Hp) (V : List Nat) (l : List Bm) (hl : l.length ≤ 1000) : CC Tryz.prog 46 [.sl .sh 2 (l.map bmC), .fn 47 []] H V (Pu (.sl .sh 2 (l.map bmC)) H V) := by
  refine CC.of_swp Tryz.func46 rfl (by kernel_rfl) (by rw [Tryz.ntmps46]; exact len_le _ _ rfl) fun hok hokH => ?_
  clear hok
  refine SWp.seq (Wp.s ?_)
  simp -implicitDefEqProofs [go_sem, args0]
  refine SWp.seq (Wp.s ?_)
  simp -implicitDefEqProofs [go_sem]
  refine SWp.join (α := Nat) (fun k => ([(5, .sl (.own V.length k) 2 (l.map bmC))], H, V ++ [k])) (fun _ => True) ?_ ?_
  · refine SWp.seq (Wp.s ?_)
    simp -implicitDefEqProofs [go_sem]
    refine SWp.block ?_
    refine SWp.loop (α := Nat × Nat) (fun u => ([(1, .fn 47 []), (5, .sl (.own V.length u.2) 2 ((l.take u.1).map bmC)), (8, .sl .sh 2 (l.map bmC)), (9, ci l.length), (10, ci u.1)], H, V ++ [u.2])) (fun u => u.1 ≤ l.length) (fun u => l.length - u.1) (0, 0) (Nat.zero_le _) (Sh.tokT (by simp [go_sem]) rfl rfl) ?_
    rintro ⟨i, k⟩ hi
    dsimp only at hi ⊢
    refine SWp.seq (Wp.s ?_)
    simp -implicitDefEqProofs [go_sem]
    refine SWp.seq (Wp.s ?_)
    simp -implicitDefEqProofs [go_sem]
    refine ⟨fun h => ?_, fun h => ?_⟩
    case refine_2 =>
      obtain rfl : i = l.length := by omega
      rw [List.take_of_length_le (by simp)]
      exact ⟨k, Sh.forget (by simp [go_sem]) rfl rfl⟩
    have htk : List.take (i + 1) (l.map bmC) = List.take i (l.map bmC) ++ [bmC l[i]] := by rw [List.take_succ_eq_append_getElem (by simpa using h), List.getElem_map]
    refine SWp.seq (SWp.block (SWp.seq (Wp.s ?_)))
    simp -implicitDefEqProofs [go_sem, h]
    refine Wp.s ?_
    simp -implicitDefEqProofs [go_sem]
    refine CC.mono (turn2_cc _ _ i l[i]) ?_
    rintro _ _ _ ⟨rfl, rfl, rfl⟩
    simp -implicitDefEqProofs [go_sem]
    refine ⟨by omega, ?_⟩
    refine Wp.s ?_
    simp -implicitDefEqProofs [go_sem]
    refine ⟨i + 1, by omega, by omega, k + 1, ?_⟩
    rw [htk]
    refine Sh.trim0 ?_ (by simp [go_sem, okE_bms, okE_bmt]) hokH (by simp) (by simp) (by simp)
    simp [go_sem, wrap_succ (show i ≤ 1000000000 by omega)]
  rintro k -
  dsimp only
  refine SWp.seq (Wp.s ?_)
  simp -implicitDefEqProofs [go_sem]
  refine Wp.s ?_
  simp -implicitDefEqProofs [go_sem]
  exact Fin.pu (.sh _ _ _) (by simp [go_sem, okE_bms]) hokH (by simp) (by simp)
theorem undo1_cc (H : Hp) (V : List Nat) (v : Int) (b : Bm) (hb : BmOk b) : CC Tryz.prog 109 [ci v, .agg (bmC b)] H V (Pu (.sl .sh 2 ((mx1 b).map exC)) H V) := by
  refine CC.of_swp Tryz.func109 rfl (by kernel_rfl) (by rw [Tryz.ntmps109]; exact len_le _ _ rfl) fun hok hokH => ?_
  clear hok
  refine SWp.seq (Wp.s ?_)
  simp -implicitDefEqProofs [go_sem, args0]
  refine SWp.seq (Wp.s ?_)
  simp -implicitDefEqProofs [go_sem]
  refine CC.mono (extents_cc _ _ b hb) ?_
  rintro _ _ _ ⟨rfl, rfl, rfl⟩
  simp -implicitDefEqProofs [go_sem]
  refine Wp.s ?_
  simp -implicitDefEqProofs [go_sem]
  exact Fin.pu (.refl _) (by simp [go_sem, mx1, okE_exs]) hokH (by simp) (by simp)
theorem volumesX_cc (H : Hp) (V : List Nat) (l : List Bm) (hl : l.length ≤ 1000) (hb : ∀ b ∈ l, BmOk b) : CC Tryz.prog 108 [.sl .sh 2 (l.map bmC), .fn 109 []] H V (Pu (.sl .sh 1 ((mxP l).map mxsE)) H V) := by
  refine CC.of_swp Tryz.func108 rfl (by kernel_rfl) (by rw [Tryz.ntmps108]; exact len_le _ _ rfl) fun hok hokH => ?_
  clear hok
  refine SWp.seq (Wp.s ?_)
  simp -implicitDefEqProofs [go_sem, args0]
  refine SWp.seq (Wp.s ?_)
  simp -implicitDefEqProofs [go_sem]
  refine SWp.join (α := Nat) (fun k => ([(5, .sl (.own V.length k) 1 ((mxP l).map mxsE))], H, V ++ [k])) (fun _ => True) ?_ ?_
  · refine SWp.seq (Wp.s ?_)
    simp -implicitDefEqProofs [go_sem]
    refine SWp.block ?_
    refine SWp.loop (α := Nat × Nat) (fun u => ([(1, .fn 109 []), (5, .sl (.own V.length u.2) 1 ((mxP (l.take u.1)).map mxsE)), (8, .sl .sh 2 (l.map bmC)), (9, ci l.length), (10, ci u.1)], H, V ++ [u.2])) (fun u => u.1 ≤ l.length) (fun u => l.length - u.1) (0, 0) (Nat.zero_le _) (Sh.tokT (by simp [go_sem, mxP]) rfl rfl) ?_
    rintro ⟨i, k⟩ hi
    dsimp only at hi ⊢
    refine SWp.seq (Wp.s ?_)
    simp -implicitDefEqProofs [go_sem]
    refine SWp.seq (Wp.s ?_)
    simp -implicitDefEqProofs [go_sem]
    refine ⟨fun h => ?_, fun h => ?_⟩
    case refine_2 =>
      obtain rfl : i = l.length := by omega
      rw [List.take_length]
      exact ⟨k, Sh.forget (by simp [go_sem]) rfl rfl⟩
    have htk : (mxP (l.take (i + 1))).map mxsE = (mxP (l.take i)).map mxsE ++ [mxsE (mx1 l[i])] := by rw [List.take_succ_eq_append_getElem h, mxP, List.map_append, List.map_append]; rfl
    have hln : (mxP (l.take i)).length = i := by rw [mxP, List.length_map, List.length_take]; omega
    refine SWp.seq (SWp.block (SWp.seq (Wp.s ?_)))
    simp -implicitDefEqProofs [go_sem, h]
    refine Wp.s ?_
    simp -implicitDefEqProofs [go_sem]
    refine CC.mono (undo1_cc _ _ i l[i] (hb _ (List.getElem_mem h))) ?_
    rintro _ _ _ ⟨rfl, rfl, rfl⟩
    simp -implicitDefEqProofs [go_sem]
    refine ⟨by omega, ?_⟩
    refine Wp.s ?_
    simp -implicitDefEqProofs [go_sem]
    refine ⟨i + 1, by omega, by omega, k + 1, ?_⟩
    rw [htk]
    refine Sh.trim0 ?_ (by simp [go_sem, okE_bms, okE_exss1]) hokH (by simp) (by simp) (by simp)
    simp [go_sem, wrap_succ (show i ≤ 1000000000 by omega), mxsE]
  rintro k -
  dsimp only
  refine SWp.seq (Wp.s ?_)
  simp -implicitDefEqProofs [go_sem]
  refine Wp.s ?_
  simp -implicitDefEqProofs [go_sem]
  exact Fin.pu (.sh _ _ _) (by simp [go_sem, okE_exss]) hokH (by simp) (by simp)
theorem turn1_cc (H : Hp) (V : List Nat) (p : Pee) (b : Nat) (s : Int) (hb : H[b]? = some (some [ci s])) : CC Tryz.prog 43 [.agg (prC p), .ptr b 0] H V (Pu (cb (decide ((p.site : Int) = s))) H V) := by
  refine CC.of_swp Tryz.func43 rfl (by kernel_rfl) (by rw [Tryz.ntmps43]; exact len_le _ _ rfl) fun hok hokH => ?_
  clear hok
  have hbl := lt_of_box hb
  have hb2 : (H ++ [some (prC p)])[b]? = some (some [ci s]) := by rw [List.getElem?_append_left hbl]; exact hb
  refine SWp.seq (Wp.s ?_)
  simp -implicitDefEqProofs [go_sem, args0]
  refine SWp.seq (Wp.s ?_)
  simp -implicitDefEqProofs [go_sem, hbx_of hb2]
  refine Wp.s ?_
  simp -implicitDefEqProofs [go_sem]
  exact Fin.bool rfl hokH (by simp) (by simp)
theorem indexP_cc (H : Hp) (V : List Nat) (l : List Pee) (b i : Nat) (s : Int) (hb : H[b]? = some (some [ci s])) (hi : i < l.length) (hs : (l[i].site : Int) = s) (hn : ∀ j (h : j < l.length), j < i → ¬ (l[j].site : Int) = s) (hl : l.length ≤ 1000) : CC Tryz.prog 42 [.sl .sh 3 (l.map prC), .fn 43 [.ptr b 0]] H V (Pu (ci i) H V) := by
  refine CC.of_swp Tryz.func42 rfl (by kernel_rfl) (by rw [Tryz.ntmps42]; exact len_le _ _ rfl) fun hok hokH => ?_
  clear hok
  refine SWp.seq (Wp.s ?_)
  simp -implicitDefEqProofs [go_sem, args0]
  refine SWp.seq ?_
  refine SWp.seq (Wp.s ?_)
  simp -implicitDefEqProofs [go_sem]
  refine SWp.block ?_
  refine SWp.loop (α := Nat) (fun k => ([(0, .sl .sh 3 (l.map prC)), (1, .fn 43 [.ptr b 0]), (6, .sl .sh 3 (l.map prC)), (7, ci l.length), (8, ci k)], H, V)) (fun k => k ≤ i) (fun k => i + 1 - k) 0 (Nat.zero_le _) (Sh.forget (by simp [go_sem]) rfl rfl) ?_
  intro k hk
  dsimp only
  refine SWp.seq (Wp.s ?_)
  simp -implicitDefEqProofs [go_sem]
  refine SWp.seq (Wp.s ?_)
  simp -implicitDefEqProofs [go_sem]
  refine ⟨fun h => ?_, fun h => by omega⟩
  refine SWp.seq (SWp.block (SWp.seq (Wp.s ?_)))
  simp -implicitDefEqProofs [go_sem, h]
  refine SWp.seq (Wp.s ?_)
  simp -implicitDefEqProofs [go_sem, h]
  refine CC.mono (turn1_cc _ _ l[k] b s hb) ?_
  rintro _ _ _ ⟨rfl, rfl, rfl⟩
  simp -implicitDefEqProofs [go_sem]
  by_cases hki : k = i
  · subst hki
    rw [show decide ((l[k].site : Int) = s) = true from decide_eq_true hs]
    refine Wp.s ?_
    simp -implicitDefEqProofs [go_sem]
    exact Fin.pu (.refl _) (by simp [go_sem]) hokH (by simp) (by simp)
  · have hne := hn k h (by omega)
    rw [show decide ((l[k].site : Int) = s) = false from decide_eq_false hne]
    refine Wp.s ?_
    simp -implicitDefEqProofs [go_sem]
    refine Wp.s ?_
    simp -implicitDefEqProofs [go_sem]
    refine ⟨k + 1, by omega, by omega, Sh.forget ?_ rfl rfl⟩
    simp [go_sem, wrap_succ (show k ≤ 1000000000 by omega)]
end Go.Proofs.YtpedbpbmnchllaaGreatDoor
namespace Go.Proofs.YtpedbpbmnchllaaGreatDoor
open Go.Proofs
def tnD (z : List Nat) (X : List (List (Nat × Nat))) (d : List Bm) : List Bm := (List.range z.length).map fun v => orB (frE (z.getD v 0) (X.getD v [])) (d.getD v ⟨1, 0⟩)
theorem tnD_len (z : List Nat) (X : List (List (Nat × Nat))) (d : List Bm) : (tnD z X d).length = z.length := by simp [tnD]
theorem tnD_get (z : List Nat) (X : List (List (Nat × Nat))) (d : List Bm) (v : Nat) (h : v < (tnD z X d).length) (h1 : v < z.length) (h2 : v < X.length) (h3 : v < d.length) : (tnD z X d)[v] = orB (frE z[v] X[v]) d[v] := by
  simp [tnD, List.getD_eq_getElem?_getD, h1, h2, h3]
structure ExOk (z : List Nat) (X : List (List (Nat × Nat))) : Prop where
  len : X.length = z.length
  few : ∀ l ∈ X, l.length ≤ 63
  ok : ∀ v (h : v < X.length) (h2 : v < z.length), ∀ e ∈ X[v], e.1 + e.2 ≤ z[v]
def tnT (t : Trk) (i : Nat) (c : Int) (X : List (List (Nat × Nat))) : Trk := ⟨t.z, t.peers.mapIdx fun j p => if j = i then ⟨p.site, c, tnD t.z X p.dirty⟩ else p⟩
theorem okE_prt (jb jv : Nat) (l : List Pee) (i : Nat) (b : Pee) : okE jb jv (List.take i (l.map prC) ++ [prC b]) = True := by
  rw [← List.map_take, show (l.take i).map prC ++ [prC b] = (l.take i ++ [b]).map prC by simp]; exact eq_true (okE_prs ..)
set_option maxRecDepth 8000 in
set_option maxHeartbeats 3200000 in
theorem turn_cc (H : Hp) (V : List Nat) (t : Trk) (i : Nat) (c : Int) (X : List (List (Nat × Nat))) (ht : TrkOk t) (hi : i < t.peers.length) (c0 : 0 ≤ c) (c1 : c ≤ 1073741824) (hX : ExOk t.z X) : CC Tryz.prog 9 [.agg (trkC t), ci t.peers[i].site, ci c, .sl .sh 1 (X.map mxsE)] H V (Pu (.tup [.agg (trkC (tnT t i c X)), er 0]) H V) := by
  refine CC.of_swp Tryz.func9 rfl (by kernel_rfl) (by rw [Tryz.ntmps9]; exact len_le _ _ rfl) fun hok hokH => ?_
  clear hok
  have hz := ht.z
  have hz8 := hz.few
  have hp4 := ht.few
  refine SWp.seq (Wp.s ?_)
  simp -implicitDefEqProofs [go_sem, args0]
  refine SWp.scope ?_
  refine SWp.seq (Wp.s ?_)
  simp -implicitDefEqProofs [go_sem]
  refine CC.mono (tkCheck_cc _ _ t ht) ?_
  rintro _ _ _ ⟨rfl, rfl, rfl⟩
  simp -implicitDefEqProofs [go_sem]
  refine SWp.seq (Wp.s ?_)
  simp -implicitDefEqProofs [go_sem]
  refine CC.mono (indexP_cc _ _ t.peers (H.length + 1) i t.peers[i].site (hget _ _ 1) hi rfl (fun j hj hji => ?_) (by omega)) ?_
  · have := (ht.incP).lt i j (by simpa using hi) hji
    simp at this; omega
  rintro _ _ _ ⟨rfl, rfl, rfl⟩
  simp -implicitDefEqProofs [go_sem]
  refine SWp.seq (Wp.s ?_)
  simp -implicitDefEqProofs [go_sem]
  refine SWp.seq (Wp.s ?_)
  simp -implicitDefEqProofs [go_sem]
  refine CC.mono (vcloneInt_cc _ _ .sh (zI t.z) (by rw [zI_len]; omega)) ?_
  rintro _ _ _ ⟨rfl, rfl, rfl⟩
  simp -implicitDefEqProofs [go_sem]
  have hxl := hX.len
  refine SWp.seq (SWp.block ?_)
  refine SWp.seq (Wp.s ?_)
  simp -implicitDefEqProofs [go_sem]
  refine Wp.s ?_
  simp -implicitDefEqProofs [go_sem, show ¬ (i : Int) < 0 by omega, show ¬ c < 0 by omega, show ¬ (1073741824 : Int) < c by omega, zI_len, hxl]
  have hpi := ht.ok _ (List.getElem_mem hi)
  have hdl := hpi.dirty.len
  have htl := tnD_len t.z X t.peers[i].dirty
  generalize hD : tnD t.z X t.peers[i].dirty = D at htl
  refine SWp.join (α := Nat) (fun k => ([(2, ci c), (4, .ptr H.length 0), (5, .ptr (H.length + 1) 0), (8, .ptr (H.length + 2) 0), (11, ci i), (12, .sl .sh 2 (D.map bmC)), (13, .ptr (H.length + 3) 0)], H ++ [some (trkC t), some [ci t.peers[i].site], some [.v (.slice none 0 0), .v (.slice none 0 0)], some [.sl .sh 1 ((zI t.z).map ic), .v (.slice none 0 0)]], V ++ [k])) (fun _ => True) ?_ ?_
  · refine SWp.seq (Wp.s ?_)
    simp -implicitDefEqProofs [go_sem]
    refine SWp.block ?_
    refine SWp.loop (α := Nat × Nat) (fun u => ([(2, ci c), (3, .sl .sh 1 (X.map mxsE)), (4, .ptr H.length 0), (5, .ptr (H.length + 1) 0), (8, .ptr (H.length + 2) 0), (11, ci i), (12, .sl (.own V.length u.2) 2 ((D.take u.1).map bmC)), (13, .ptr (H.length + 3) 0), (51, .sl .sh 1 ((zI t.z).map ic)), (52, ci t.z.length), (53, ci u.1)], H ++ [some (trkC t), some [ci t.peers[i].site], some [.v (.slice none 0 0), .v (.slice none 0 0)], some [.sl .sh 1 ((zI t.z).map ic), .v (.slice none 0 0)]], V ++ [u.2])) (fun u => u.1 ≤ t.z.length) (fun u => t.z.length - u.1) (0, 0) (Nat.zero_le _) (Sh.tokT (by simp [go_sem, zI_len]) rfl rfl) ?_
    rintro ⟨v, k⟩ hv
    dsimp only at hv ⊢
    refine SWp.seq (Wp.s ?_)
    simp -implicitDefEqProofs [go_sem]
    refine SWp.seq (Wp.s ?_)
    simp -implicitDefEqProofs [go_sem]
    refine ⟨fun h => ?_, fun h => ?_⟩
    case refine_2 =>
      obtain rfl : v = t.z.length := by omega
      rw [List.take_of_length_le (by simp; omega)]
      exact ⟨k, Sh.forget (by simp [go_sem]) rfl rfl⟩
    obtain ⟨z1, z2⟩ := hz.ok _ (List.getElem_mem h)
    have hvX : v < X.length := by omega
    have hvd : v < t.peers[i].dirty.length := by omega
    have hE1 := hX.few _ (List.getElem_mem hvX)
    have hE2 := hX.ok v hvX h
    obtain ⟨b1, b2⟩ := hpi.dirty.ok v hvd h
    have hg := tnD_get t.z X t.peers[i].dirty v (by rw [hD]; omega) h hvX hvd
    have hvD : v < D.length := by omega
    simp only [hD] at hg
    have htk : List.take (v + 1) (D.map bmC) = List.take v (D.map bmC) ++ [bmC (orB (frE t.z[v] X[v]) t.peers[i].dirty[v])] := by rw [List.take_succ_eq_append_getElem (by simpa using hvD), List.getElem_map, hg]
    have hok := frE_ok z1 z2 hE2
    have hn := frE_n t.z[v] X[v]
    have hzv : (zI t.z)[v]'(by rw [zI_len]; exact h) = ((t.z[v] : Nat) : Int) := zI_get _ _ _
    refine SWp.seq (SWp.block (SWp.seq (Wp.s ?_)))
    simp -implicitDefEqProofs [go_sem, h, zI_len, hzv]
    refine SWp.seq (Wp.s ?_)
    simp -implicitDefEqProofs [go_sem, hvX]
    refine CC.mono (fromEx_cc _ _ t.z[v] X[v] z1 z2 hE2 (by omega)) ?_
    rintro _ _ _ ⟨rfl, rfl, rfl⟩
    simp -implicitDefEqProofs [go_sem]
    generalize hB : frE t.z[v] X[v] = B at hok hn htk ⊢
    refine SWp.seq (SWp.seq (Wp.s ?_))
    simp -implicitDefEqProofs [go_sem]
    refine Wp.s ?_
    simp -implicitDefEqProofs [go_sem]
    refine SWp.drawnT [] [14] (.s 0 .pl <| .s 1 .pl <| .s 2 .pl <| .s 3 .pl <| .s 4 .pl <| .s 5 .pl <| .s 6 .pl <| .s 7 .pl <| .s 8 .pl <| .s 9 .pl <| .s 10 .pl <| .s 11 .pl <| .s 12 .pl <| .s 13 .pl <| .s 14 .st <| .s 15 .pl <| .n) (by kernel_rfl) (by kernel_rfl) ?_
    simp -implicitDefEqProofs [go_sem, hi, hvd]
    refine CC.mono (bmOr_cc _ _ B t.peers[i].dirty[v] hok b1 (by rw [hn, b2])) ?_
    rintro _ _ _ ⟨rfl, rfl, rfl⟩
    simp -implicitDefEqProofs [go_sem]
    refine SWp.seq (SWp.seq (Wp.s ?_))
    simp -implicitDefEqProofs [go_sem]
    refine SWp.seq (Wp.s ?_)
    simp -implicitDefEqProofs [go_sem]
    refine Wp.s ?_
    simp -implicitDefEqProofs [go_sem]
    refine Wp.s ?_
    simp -implicitDefEqProofs [go_sem]
    refine ⟨by omega, ?_⟩
    refine Wp.s ?_
    simp -implicitDefEqProofs [go_sem]
    refine ⟨v + 1, by omega, by omega, k + 1, ?_⟩
    rw [htk]
    refine Sh.trim (L := [some (trkC t), some [ci t.peers[i].site], some [.v (.slice none 0 0), .v (.slice none 0 0)], some [.sl .sh 1 ((zI t.z).map ic), .v (.slice none 0 0)]]) ?_ (by simp [go_sem, okE_bmt, okE_exss, okE_ints]) hokH (by simp [go_sem, okL, okV, okE_ints]) (by simp) (by simp) (by simp)
    simp [go_sem, wrap_succ (show v ≤ 1000000000 by omega)]
  rintro k -
  dsimp only
  obtain ⟨P', hP'⟩ : ∃ P', P' = (tnT t i c X).peers := ⟨_, rfl⟩
  have hPl : P'.length = t.peers.length := by rw [hP', tnT, List.length_mapIdx]
  have hPg : ∀ j (h : j < t.peers.length) (h2 : j < P'.length), P'[j] = if j = i then ⟨t.peers[j].site, c, tnD t.z X t.peers[j].dirty⟩ else t.peers[j] := fun j h h2 => by subst hP'; simp [tnT]
  refine SWp.join (α := Nat × Nat) (fun u => ([(8, .ptr (H.length + 2) 0), (13, .ptr (H.length + 3) 0)], H ++ [some (trkC t), some [ci t.peers[i].site], some [.v (.slice none 0 0), .v (.slice none 0 0)], some [.sl .sh 1 ((zI t.z).map ic), .sl (.own (V.length + 1) u.2) 3 (P'.map prC)]], V ++ [u.1, u.2])) (fun _ => True) ?_ ?_
  · refine SWp.seq (Wp.s ?_)
    simp -implicitDefEqProofs [go_sem]
    refine SWp.block ?_
    refine SWp.loop (α := Nat × Nat) (fun u => ([(2, ci c), (4, .ptr H.length 0), (5, .ptr (H.length + 1) 0), (8, .ptr (H.length + 2) 0), (11, ci i), (12, .sl .sh 2 (D.map bmC)), (13, .ptr (H.length + 3) 0), (92, .sl .sh 3 (t.peers.map prC)), (93, ci t.peers.length), (94, ci u.1)], H ++ [some (trkC t), some [ci t.peers[i].site], some [.v (.slice none 0 0), .v (.slice none 0 0)], some [.sl .sh 1 ((zI t.z).map ic), .sl (.own (V.length + 1) u.2) 3 ((P'.take u.1).map prC)]], V ++ [k, u.2])) (fun u => u.1 ≤ t.peers.length) (fun u => t.peers.length - u.1) (0, 0) (Nat.zero_le _) ?_ ?_
    · exact Sh.tokL (b := H.length + 3) (hget _ _ 3) (ds := [.sl .sh 1 ((zI t.z).map ic), .sl (.own (V.length + 1) 0) 3 ((P'.take 0).map prC)]) (by simp [go_sem]) (by simp [CV.isObj]) (by simp [go_sem]) (by simp) (by simp)
    rintro ⟨j, k2⟩ hj
    dsimp only at hj ⊢
    refine SWp.seq (Wp.s ?_)
    simp -implicitDefEqProofs [go_sem]
    refine SWp.seq (Wp.s ?_)
    simp -implicitDefEqProofs [go_sem]
    refine ⟨fun h => ?_, fun h => ?_⟩
    case refine_2 =>
      obtain rfl : j = t.peers.length := by omega
      rw [List.take_of_length_le (by simp; omega)]
      exact ⟨k, k2, Sh.forget (by simp [go_sem]) rfl rfl⟩
    have htk : List.take (j + 1) (P'.map prC) = List.take j (P'.map prC) ++ [prC (P'[j]'(by omega))] := by rw [List.take_succ_eq_append_getElem (by simp; omega), List.getElem_map]
    have hg := hPg j h (by omega)
    refine SWp.seq (SWp.block (SWp.seq (Wp.s ?_)))
    simp -implicitDefEqProofs [go_sem, h]
    refine SWp.seq (SWp.seq (Wp.s ?_))
    by_cases hji : j = i
    · subst hji
      rw [if_pos rfl, hD] at hg
      simp -implicitDefEqProofs [go_sem]
      refine Wp.s ?_
      simp -implicitDefEqProofs [go_sem]
      refine Wp.s ?_
      simp -implicitDefEqProofs [go_sem]
      refine ⟨by omega, ?_⟩
      refine Wp.s ?_
      simp -implicitDefEqProofs [go_sem]
      refine ⟨j + 1, by omega, by omega, k2 + 1, ?_⟩
      rw [htk, hg]
      refine Sh.trim (L := [some (trkC t), some [ci t.peers[j].site], some [.v (.slice none 0 0), .v (.slice none 0 0)], some [.sl .sh 1 ((zI t.z).map ic), .sl (.own (V.length + 1) (k2 + 1)) 3 (List.take j (P'.map prC) ++ [prC ⟨t.peers[j].site, c, D⟩])]]) ?_ (by simp [go_sem, okE_bms, okE_prs, okE_ints]) hokH (by simp [go_sem, okL, okV, okE_ints, okE_prt]) (by simp) (by simp [prC]) (by simp)
      simp [go_sem, wrap_succ (show j ≤ 1000000000 by omega)]
    · have hji' : ¬ (j : Int) = i := by omega
      rw [if_neg hji] at hg
      simp -implicitDefEqProofs [go_sem, hji, hji']
      refine Wp.s ?_
      simp -implicitDefEqProofs [go_sem]
      have hdj := (ht.ok _ (List.getElem_mem h)).dirty.len
      refine CC.mono (volumesB_cc _ _ t.peers[j].dirty (by omega)) ?_
      rintro _ _ _ ⟨rfl, rfl, rfl⟩
      simp -implicitDefEqProofs [go_sem]
      refine Wp.s ?_
      simp -implicitDefEqProofs [go_sem]
      refine ⟨by omega, ?_⟩
      refine Wp.s ?_
      simp -implicitDefEqProofs [go_sem]
      refine ⟨j + 1, by omega, by omega, k2 + 1, ?_⟩
      rw [htk, hg]
      refine Sh.trim (L := [some (trkC t), some [ci t.peers[i].site], some [.v (.slice none 0 0), .v (.slice none 0 0)], some [.sl .sh 1 ((zI t.z).map ic), .sl (.own (V.length + 1) (k2 + 1)) 3 (List.take j (P'.map prC) ++ [prC t.peers[j]])]]) ?_ (by simp [go_sem, okE_bms, okE_prs, okE_ints]) hokH (by simp [go_sem, okL, okV, okE_ints, okE_prt]) (by simp) (by simp [prC]) (by simp)
      simp [go_sem, wrap_succ (show j ≤ 1000000000 by omega)]
  rintro ⟨k1, k2⟩ -
  dsimp only
  refine SWp.seq (Wp.s ?_)
  simp -implicitDefEqProofs [go_sem]
  rw [show trkC (tnT t i c X) = [.sl .sh 1 ((zI t.z).map ic), .sl .sh 3 (P'.map prC)] by rw [hP']; rfl]
  exact Fin.pu (.tup (.cons (.agg (.cons (.refl _) (.cons (.sh _ _ _) .nil))) (.cons (.refl _) .nil))) (by simp [go_sem, okL, okV, okE_ints, okE_prs]) hokH (by simp) (by simp)
end Go.Proofs.YtpedbpbmnchllaaGreatDoor
namespace Go.Proofs.YtpedbpbmnchllaaGreatDoor
open Go.Proofs
end Go.Proofs.YtpedbpbmnchllaaGreatDoor
namespace Go.Proofs.YtpedbpbmnchllaaGreatDoor
open Go.Proofs
def mW (d : List Bm) (ws : List Wr) : List Bm := ws.foldl (fun d w => mkW d w.volume.toNat w.start.toNat w.data.length) d
theorem mW_snoc (d : List Bm) (ws : List Wr) (w : Wr) : mW d (ws ++ [w]) = mkW (mW d ws) w.volume.toNat w.start.toNat w.data.length := by simp [mW]
structure WOk (z : List Nat) (w : Wr) : Prop where
  v0 : 0 ≤ w.volume
  s0 : 0 ≤ w.start
  v1 : w.volume.toNat < z.length
  d0 : 0 < w.data.length
  s1 : ∀ h : w.volume.toNat < z.length, w.start.toNat + w.data.length ≤ z[w.volume.toNat]
def tkW (z ss : List Nat) (c : Int) (ws : List Wr) : Trk := ⟨z, ss.map fun s => ⟨s, c, mW (cleanB z) ws⟩⟩
theorem tkW_nil (z ss : List Nat) (c : Int) : tkW z ss c [] = newT z ss c := rfl
theorem tkW_snoc (z ss : List Nat) (c : Int) (ws : List Wr) (w : Wr) : tkW z ss c (ws ++ [w]) = tMk (tkW z ss c ws) w.volume.toNat w.start.toNat w.data.length := by
  simp [tkW, tMk, mW_snoc, pMk]
theorem tkW_ok {z ss : List Nat} {c : Int} {ws : List Wr} (hz : SzOkN z) (hs : SitesOk ss) (c0 : 0 ≤ c) (c1 : c ≤ 1073741824) (h : ∀ w ∈ ws, WOk z w) : TrkOk (tkW z ss c ws) := by
  induction ws using snoc_ind with
  | h0 => rw [tkW_nil]; exact newT_ok hz hs c0 c1
  | h1 l w ih =>
    rw [tkW_snoc]
    have hw := h w (by simp)
    exact tMk_ok (ih fun x hx => h x (by simp [hx])) hw.v1 (hw.s1 hw.v1)
end Go.Proofs.YtpedbpbmnchllaaGreatDoor
namespace Go.Proofs.YtpedbpbmnchllaaGreatDoor
open Go.Proofs
theorem flatMap_congr' {α β : Type} {f g : α → List β} : ∀ {l : List α}, (∀ x ∈ l, f x = g x) → l.flatMap f = l.flatMap g
  | [], _ => rfl
  | x :: l, h => by rw [List.flatMap_cons, List.flatMap_cons, h x (by simp), flatMap_congr' fun y hy => h y (by simp [hy])]
theorem sum_le_sum' {α : Type} {f g : α → Nat} : ∀ {l : List α}, (∀ x ∈ l, f x ≤ g x) → (l.map f).sum ≤ (l.map g).sum
  | [], _ => Nat.le_refl _
  | x :: l, h => by
    rw [List.map_cons, List.map_cons, List.sum_cons, List.sum_cons]
    exact Nat.add_le_add (h x (by simp)) (sum_le_sum' fun y hy => h y (by simp [hy]))
theorem filter_len_le {α : Type} {l : List α} {p q : α → Bool} (h : ∀ x ∈ l, p x = true → q x = true) : (l.filter p).length ≤ (l.filter q).length := by
  rw [filter_sub l p q h]; exact List.length_filter_le ..
def Gap (l : List (Nat × Nat)) : Prop := l.Pairwise fun a b => a.1 + a.2 < b.1
theorem exStep_gap {l : List (Nat × Nat)} {x : Nat} (h : Gap l) (hx : ∀ e ∈ l, e.1 + e.2 ≤ x) : Gap (exStep l x) := by
  rcases List.eq_nil_or_concat l with rfl | ⟨l0, e, rfl⟩
  · rw [exStep_nil]; exact List.pairwise_singleton ..
  · rw [List.concat_eq_append] at *
    rw [exStep_snoc]
    obtain ⟨h1, h2, h3⟩ := List.pairwise_append.1 h
    split
    · exact List.pairwise_append.2 ⟨h1, List.pairwise_singleton .., fun a ha b hb => by
        obtain rfl := List.mem_singleton.1 hb
        exact h3 a ha e (by simp)⟩
    · rename_i ne
      refine List.pairwise_append.2 ⟨h, List.pairwise_singleton .., fun a ha b hb => ?_⟩
      obtain rfl := List.mem_singleton.1 hb
      have h4 := hx e (by simp)
      rcases List.mem_append.1 ha with ha | ha
      · have := h3 a ha e (by simp)
        dsimp only; omega
      · obtain rfl := List.mem_singleton.1 ha
        dsimp only; omega
theorem exStep_posE {l : List (Nat × Nat)} {x : Nat} (h : ∀ e ∈ l, 0 < e.2) : ∀ e ∈ exStep l x, 0 < e.2 := by
  intro e he
  rcases List.eq_nil_or_concat l with rfl | ⟨l0, a, rfl⟩
  · rw [exStep_nil] at he; simp at he; subst he; exact Nat.one_pos
  · rw [List.concat_eq_append] at *
    rw [exStep_snoc] at he
    split at he
    · rcases List.mem_append.1 he with he | he
      · exact h e (by simp [he])
      · obtain rfl := List.mem_singleton.1 he
        exact Nat.succ_pos _
    · rcases List.mem_append.1 he with he | he
      · exact h e he
      · obtain rfl := List.mem_singleton.1 he
        exact Nat.one_pos
theorem runsN_gap {xs : List Nat} (h : xs.Pairwise (· < ·)) : Gap (runsN xs) := by
  induction xs using snoc_ind with
  | h0 => exact List.Pairwise.nil
  | h1 xs x ih =>
    obtain ⟨h1, h2, h3⟩ := List.pairwise_append.1 h
    rw [runsN_snoc]
    exact exStep_gap (ih h1) (runsN_bd fun y hy => h3 y hy x (by simp))
theorem runsN_posE (xs : List Nat) : ∀ e ∈ runsN xs, 0 < e.2 := by
  induction xs using snoc_ind with
  | h0 => intro e he; simp [runsN] at he
  | h1 xs x ih => rw [runsN_snoc]; exact exStep_posE ih
theorem elsN_lt (n w : Nat) : (elsN n w).Pairwise (· < ·) := List.Pairwise.filter _ List.pairwise_lt_range
structure CtOk (P : Img) (L : List (List (Nat × Nat))) (n : Nat) : Prop where
  len : n ≤ P.length
  pos : ∀ v, v < n → ∀ e ∈ L.getD v [], 0 < e.2 ∧ e.1 + e.2 ≤ (imAt P v).length
  gap : ∀ v, v < n → Gap (L.getD v [])
theorem ctE_len {v : Nat} {a : List Sec} {e : Nat × Nat} (h : e.1 + e.2 ≤ a.length) : (ctE v a e).data.length = e.2 := by
  show ((a.drop e.1).take e.2).length = e.2
  rw [List.length_take, List.length_drop]; omega
theorem ctE_le (v : Nat) (a : List Sec) (e : Nat × Nat) : (ctE v a e).data.length ≤ e.2 := by
  show ((a.drop e.1).take e.2).length ≤ e.2
  rw [List.length_take]; exact Nat.min_le_left ..
theorem ctV_badO {v : Nat} {a : List Sec} {l : List (Nat × Nat)} (h : Gap l) : (ctV v a l).Pairwise fun x w => badO x w = false := by
  refine List.pairwise_map.2 (h.imp fun {x w} hx => ?_)
  have := ctE_le v a x
  rw [badO]
  have h1 : ¬ (ctE v a w).volume < (ctE v a x).volume := by show ¬ (v : Int) < v; omega
  have h2 : ¬ (ctE v a w).start ≤ (ctE v a x).start + (ctE v a x).data.length := by show ¬ (w.1 : Int) ≤ (x.1 : Int) + (ctE v a x).data.length; omega
  simp [h1, h2]
theorem ctW_mem {P : Img} {L : List (List (Nat × Nat))} {n : Nat} {w : Wr} (h : w ∈ ctW P L n) : ∃ v, v < n ∧ ∃ e, e ∈ L.getD v [] ∧ w = ctE v (imAt P v) e := by
  obtain ⟨v, hv, hw⟩ := List.mem_flatMap.1 h
  obtain ⟨e, he, rfl⟩ := List.mem_map.1 hw
  exact ⟨v, List.mem_range.1 hv, e, he, rfl⟩
theorem ctW_badO {P : Img} {L : List (List (Nat × Nat))} : ∀ n, (∀ v, v < n → Gap (L.getD v [])) → (ctW P L n).Pairwise fun x w => badO x w = false
  | 0, _ => by simp [ctW]
  | n + 1, h => by
    rw [ctW_succ]
    refine List.pairwise_append.2 ⟨ctW_badO n fun v hv => h v (by omega), ctV_badO (h n (by omega)), fun x hx w hw => ?_⟩
    obtain ⟨v, hv, e, _, rfl⟩ := ctW_mem hx
    obtain ⟨e', _, rfl⟩ := List.mem_map.1 hw
    rw [badO]
    have h1 : ¬ (ctE n (imAt P n) e').volume < (ctE v (imAt P v) e).volume := by show ¬ (n : Int) < v; omega
    have h2 : ¬ (ctE n (imAt P n) e').volume = (ctE v (imAt P v) e).volume := by show ¬ (n : Int) = v; omega
    simp [h1, h2]
theorem chkW_0 {f : Wr → Nat} : ∀ (l : List Wr) (o : Option Wr), (∀ w ∈ l, f w = 0) → (l.Pairwise fun x w => badO x w = false) → (∀ x, o = some x → ∀ w ∈ l, badO x w = false) → chkW f o l = 0
  | [], o, _, _, _ => by cases o <;> rfl
  | w :: l, o, h1, h2, h3 => by
    have hw := h1 w (by simp)
    obtain ⟨h4, h5⟩ := List.pairwise_cons.1 h2
    have ih := chkW_0 l (some w) (fun x hx => h1 x (by simp [hx])) h5 (fun x e y hy => by cases e; exact h4 y hy)
    cases o with
    | none => rw [chkW, if_neg (by simp [hw]), ih]
    | some x => rw [chkW, if_neg (by simp [hw]), if_neg (by simp [h3 x rfl w (by simp)]), ih]
theorem CtOk.wri {P : Img} {L : List (List (Nat × Nat))} {n : Nat} (h : CtOk P L n) : ∀ w ∈ ctW P L n, WrI P w := fun w hw => by
  obtain ⟨v, hv, e, he, rfl⟩ := ctW_mem hw
  obtain ⟨e1, e2⟩ := h.pos v hv e he
  have hdl := ctE_len (v := v) e2
  have hni : v < P.length := by have := h.len; omega
  refine ⟨?_, fun j hj => ?_⟩
  · have hg : (imgSz P).getD v 0 = ((imAt P v).length : Int) := by
      rw [imAt, imgSz, List.getD_eq_getElem?_getD, List.getD_eq_getElem?_getD, List.getElem?_map, List.getElem?_eq_getElem hni]; rfl
    have a1 : (ctE v (imAt P v) e).volume = (v : Int) := rfl
    have a2 : (ctE v (imAt P v) e).start = (e.1 : Int) := rfl
    rw [fitsS, a1, a2, hdl, imgSz, List.length_map, ← imgSz, Int.toNat_natCast, hg, if_neg (by omega), if_neg (by omega), if_neg (by omega)]
  · rw [hdl] at hj
    show ((imAt P v).drop e.1 |>.take e.2).getD j sec0 = (imAt P v).getD (e.1 + j) sec0
    simp [List.getD_eq_getElem?_getD, List.getElem?_take, List.getElem?_drop, hj]
theorem CtOk.chk {P : Img} {L : List (List (Nat × Nat))} {n : Nat} (h : CtOk P L n) (hz : sizesE (imgSz P) = 0) {base num tm : Int} (b0 : 0 ≤ base) (b1 : base < num) (b2 : num ≤ 1073741824) (t : inB tm 0 1073741824 = true) : chkC ⟨base, num, tm, [], ctW P L n⟩ (imgSz P) = 0 := by
  rw [chkC, if_neg (by simp [hz]), if_neg (by dsimp only; omega), if_neg (by simp [t]), if_neg (show ¬ posE [] 0 ≠ 0 by decide), wsE, if_neg (by simp [hz])]
  exact chkW_0 _ _ (fun w hw => (h.wri w hw).1) (ctW_badO n h.gap) (fun x e => by cases e)
theorem CtOk.wrs {P : Img} {L : List (List (Nat × Nat))} {n : Nat} (h : CtOk P L n) (hs : ∀ v ∈ P, v.length ≤ 63) : ∀ w ∈ ctW P L n, w.data.length ≤ 63 := fun w hw => by
  obtain ⟨n, hvn, hnk, hd0, s, hpn, hpl⟩ := fitsI_0 (h.wri w hw).1
  have := hs _ (List.getElem_mem hnk)
  omega
theorem ctV_pos {v : Nat} {a : List Sec} : ∀ (l : List (Nat × Nat)), (∀ e ∈ l, e.1 + e.2 ≤ a.length) → posS (ctV v a l) = (l.flatMap fun e => List.range' e.1 e.2).map fun i => (v, i)
  | [], _ => rfl
  | e :: l, h => by
    have ih := ctV_pos (v := v) l fun x hx => h x (by simp [hx])
    rw [show ctV v a (e :: l) = ctE v a e :: ctV v a l from rfl, show posS (ctE v a e :: ctV v a l) = posW (ctE v a e) ++ posS (ctV v a l) from rfl, ih, List.flatMap_cons, List.map_append]
    congr 1
    rw [posW, ctE_len (h e (by simp))]
    rfl
theorem CtOk.pos_eq {P : Img} {L : List (List (Nat × Nat))} : ∀ {n : Nat}, CtOk P L n → posS (ctW P L n) = (List.range n).flatMap fun v => ((L.getD v []).flatMap fun e => List.range' e.1 e.2).map fun i => (v, i)
  | 0, _ => by simp [ctW, posS]
  | n + 1, h => by
    rw [ctW_succ, posS_app, CtOk.pos_eq (n := n) ⟨by have := h.len; omega, fun v hv => h.pos v (by omega), fun v hv => h.gap v (by omega)⟩, ctV_pos _ fun e he => (h.pos n (by omega) e he).2, List.range_succ, List.flatMap_append]
    simp
theorem Pt2.ct {p q : Pt} (h : Pt2 p q) : CtOk q.im (mkd p q) q.im.length := by
  have hl : p.dirty.length = q.im.length := by rw [h.len, h.hq.len]
  refine ⟨Nat.le_refl _, fun v hv e he => ?_, fun v hv => ?_⟩
  · rw [mkd_getD p q v (by omega)] at he
    refine ⟨runsN_posE _ e he, ?_⟩
    rw [← imAt_len h.sz v, ← h.dirtyN v (by omega)]
    exact runsN_bd (fun x hx => mkL_lt hx) e he
  · rw [mkd_getD p q v (by omega)]
    exact runsN_gap (elsN_lt _ _)
theorem ct_pos {p q : Pt} (h : Pt2 p q) : posS (ctW q.im (mkd p q) q.im.length) = (List.range q.im.length).flatMap fun v => (mkL p q v).map fun i => (v, i) := by
  have hl : p.dirty.length = q.im.length := by rw [h.len, h.hq.len]
  rw [h.ct.pos_eq]
  refine flatMap_congr' fun v hv => ?_
  rw [mkd_getD p q v (by have := List.mem_range.1 hv; omega), runsN_flat]
theorem ct_apply {p q : Pt} (h : Pt2 p q) (hc : CovP p q) : apR p.im (ctW q.im (mkd p q) q.im.length) = (q.im, 0, 0) := by
  have hI := h.ct.wri
  have hz : imgSz p.im = imgSz q.im := by rw [sz_imgSz h.sz, sz_imgSz rfl]
  obtain ⟨a, b⟩ := apA_at (ctW q.im (mkd p q) q.im.length) p.im h.sz hI
  rw [apR, hz, h.hq.im, if_neg (by simp), apI_A _ _ _ fun w hw => by rw [hz]; exact (hI w hw).1]
  rw [img_at_ext a fun v i => ?_]
  rw [b]
  split
  · rfl
  · rename_i hn
    rcases Classical.em (atI p.im v i = atI q.im v i) with e | e
    · exact e
    · exfalso
      refine hn ?_
      rw [ct_pos h, List.mem_flatMap]
      have := trT_mem h hc v i e
      rw [trT_pos p q _ (Nat.le_refl _), List.mem_flatMap] at this
      obtain ⟨u, hu, hm⟩ := this
      obtain ⟨j, hj, e⟩ := List.mem_map.1 hm
      have hl : p.dirty.length = q.im.length := by rw [h.len, h.hq.len]
      exact ⟨u, by rw [← hl]; exact hu, List.mem_map.2 ⟨j, (List.mem_filter.1 hj).1, e⟩⟩
theorem ct_apC {p q : Pt} (h : Pt2 p q) (hc : CovP p q) {base num tm : Int} (b0 : 0 ≤ base) (b1 : base < num) (b2 : num ≤ 1073741824) (t : inB tm 0 1073741824 = true) : apC p.im ⟨base, num, tm, [], ctW q.im (mkd p q) q.im.length⟩ = (q.im, 0) := by
  have hz : imgSz p.im = imgSz q.im := by rw [sz_imgSz h.sz, sz_imgSz rfl]
  rw [apC, hz, if_neg (by simp [h.hq.im]), if_neg (by simp [h.ct.chk h.hq.im b0 b1 b2 t]), ct_apply h hc]
theorem ct_sec {p q : Pt} (h : Pt2 p q) (hc : CovP p q) : dfI p.im q.im p.im.length ≤ secN (ctW q.im (mkd p q) q.im.length) := by
  have hl : p.dirty.length = q.im.length := by rw [h.len, h.hq.len]
  have hpl : p.im.length = q.im.length := by rw [← h.hp.len, hl]
  rw [secN_pos, ct_pos h, hpl, dfI, List.length_flatMap]
  refine sum_le_sum' fun v hv => ?_
  have hv' := List.mem_range.1 hv
  rw [List.length_map, dfV, dfK, ← h.dirtyN v (by omega), mkL, elsN]
  refine filter_len_le fun i _ hi => ?_
  cases ht : ((p.dirty.getD v ⟨1, 0⟩).w ||| (q.dirty.getD v ⟨1, 0⟩).w).testBit i
  · have := hc v i ht
    simp [atI] at this
    simp [this] at hi
  · rfl
end Go.Proofs.YtpedbpbmnchllaaGreatDoor
namespace Go.Proofs.YtpedbpbmnchllaaGreatDoor
open Go.Proofs
theorem mkW_bit {d : List Bm} {v s c : Nat} (hv : v < d.length) (u i : Nat) : ((mkW d v s c).getD u ⟨1, 0⟩).w.testBit i = ((d.getD u ⟨1, 0⟩).w.testBit i || (decide (u = v) && decide (s ≤ i) && decide (i < s + c))) := by
  rw [mkW, List.getD_eq_getElem?_getD]
  by_cases h : v = u
  · subst h
    rw [List.getElem?_set_self hv, Option.getD_some]
    simp only [setB]
    rw [Nat.testBit_or, maskN_bit]
    simp
  · rw [List.getElem?_set_ne h, ← List.getD_eq_getElem?_getD]
    simp [show ¬ u = v from fun e => h e.symm]
end Go.Proofs.YtpedbpbmnchllaaGreatDoor
namespace Go.Proofs.YtpedbpbmnchllaaGreatDoor
open Go.Proofs
theorem frE_bit (n : Nat) (l : List (Nat × Nat)) (i : Nat) : (frE n l).w.testBit i = true ↔ i ∈ l.flatMap fun e => List.range' e.1 e.2 := by
  induction l using snoc_ind with
  | h0 => simp [frE]
  | h1 l e ih =>
    rw [frE_snoc, setB]
    show ((frE n l).w ||| maskN e.1 (e.1 + e.2)).testBit i = true ↔ _
    rw [Nat.testBit_or, maskN_bit, Bool.or_eq_true, ih, List.flatMap_append, List.mem_append]
    simp [List.mem_range'_1]
theorem fr_runs (n w d : Nat) : elsN n ((frE n (runsN (elsN n w))).w ||| d) = elsN n (w ||| d) := by
  refine List.filter_congr fun i hi => ?_
  have hi := List.mem_range.1 hi
  rw [Nat.testBit_or, Nat.testBit_or]
  congr 1
  have := frE_bit n (runsN (elsN n w)) i
  rw [runsN_flat, elsN_mem] at this
  rw [Bool.eq_iff_iff, this]
  exact ⟨fun h => h.2, fun h => ⟨hi, h⟩⟩
theorem mxP_tn {z : List Nat} {X : List (List (Nat × Nat))} {p q : Pt} (hz : z.length = p.dirty.length) (hn : ∀ v, v < z.length → z.getD v 0 = (p.dirty.getD v ⟨1, 0⟩).n)
    (hX : ∀ v, v < z.length → ∃ u, X.getD v [] = runsN (elsN (z.getD v 0) u) ∧ u ||| (q.dirty.getD v ⟨1, 0⟩).w = (p.dirty.getD v ⟨1, 0⟩).w ||| (q.dirty.getD v ⟨1, 0⟩).w) : mxP (tnD z X q.dirty) = mkd p q := by
  rw [mxP, tnD, List.map_map, mkd, hz]
  refine List.map_congr_left fun v hv => ?_
  have hv := List.mem_range.1 hv
  obtain ⟨u, h1, h2⟩ := hX v (by omega)
  show runsN (elsN (frE (z.getD v 0) (X.getD v [])).n ((frE (z.getD v 0) (X.getD v [])).w ||| (q.dirty.getD v ⟨1, 0⟩).w)) = mk1 (p.dirty.getD v ⟨1, 0⟩) (q.dirty.getD v ⟨1, 0⟩)
  rw [frE_n, h1, fr_runs, h2, hn v (by omega), mk1]
theorem tnD_ok {z : List Nat} {X : List (List (Nat × Nat))} {d : List Bm} (hz : SzOkN z) (hX : ExOk z X) (hd : DirtyOk z d) : DirtyOk z (tnD z X d) := ⟨tnD_len z X d, fun v h h2 => by
  have hl := hd.len
  have hx := hX.len
  have hv1 : v < X.length := by omega
  have hv2 : v < d.length := by omega
  obtain ⟨a, b⟩ := hd.ok v hv2 h2
  obtain ⟨c, e⟩ := hz.ok _ (List.getElem_mem h2)
  rw [tnD_get z X d v h h2 hv1 hv2]
  have hn := frE_n z[v] X[v]
  have hf := frE_ok c e (hX.ok v hv1 h2)
  refine ⟨orB_ok hf a (by rw [hn, b]), ?_⟩
  show (frE z[v] X[v]).n = z[v]
  exact hn⟩
theorem tnT_ok {t : Trk} {i : Nat} {c : Int} {X : List (List (Nat × Nat))} (ht : TrkOk t) (c0 : 0 ≤ c) (c1 : c ≤ 1073741824) (hX : ExOk t.z X) : TrkOk (tnT t i c X) where
  z := ht.z
  few := by show (t.peers.mapIdx _).length ≤ 4; rw [List.length_mapIdx]; exact ht.few
  ok := fun p hp => by
    obtain ⟨j, hj, rfl⟩ := List.getElem_of_mem hp
    have hj' : j < t.peers.length := by simpa [tnT] using hj
    have hpj := ht.ok _ (List.getElem_mem hj')
    simp only [tnT, List.getElem_mapIdx]
    split
    · exact ⟨hpj.site, c0, c1, tnD_ok ht.z hX hpj.dirty⟩
    · exact hpj
  inc := fun j hj => by
    have hj' : j + 1 < t.peers.length := by simpa [tnT] using hj
    have := ht.inc j hj'
    simp only [tnT, List.getElem_mapIdx]
    split <;> split <;> exact this
theorem fit_WOk {z : List Nat} {w : Wr} (h : fitsS (zI z) w = 0) : WOk z w := by
  have hz := zI_len z
  unfold fitsS at h
  split at h
  · cases h
  · rename_i h1
    split at h
    · cases h
    · rename_i h2
      split at h
      · cases h
      · rename_i h3
        have hv : w.volume.toNat < z.length := by omega
        have hg : (zI z).getD w.volume.toNat 0 = (z[w.volume.toNat] : Int) := by
          rw [List.getD_eq_getElem?_getD, List.getElem?_eq_getElem (by omega), Option.getD_some, zI_get]
        rw [hg] at h3
        exact ⟨by omega, by omega, hv, by omega, fun _ => by omega⟩
theorem mW_ok {z : List Nat} {ws : List Wr} (hz : SzOkN z) (h : ∀ w ∈ ws, WOk z w) : DirtyOk z (mW (cleanB z) ws) := by
  induction ws using snoc_ind with
  | h0 => exact cleanB_ok hz
  | h1 ws w ih =>
    rw [mW_snoc]
    have hw := h w (by simp)
    exact mkW_ok (ih fun x hx => h x (by simp [hx])) hw.v1 (hw.s1 hw.v1)
theorem apA_snoc (k : Img) (ws : List Wr) (w : Wr) : apA k (ws ++ [w]) = ap1 (apA k ws) w := by simp [apA]
theorem apA_sz {k : Img} {z : List Nat} (hk : k.map List.length = z) {ws : List Wr} (h : ∀ w ∈ ws, fitsS (zI z) w = 0) : (apA k ws).map List.length = z := by
  induction ws using snoc_ind with
  | h0 => exact hk
  | h1 ws w ih =>
    have ih := ih fun x hx => h x (by simp [hx])
    rw [apA_snoc, ap1_sz (by rw [sz_imgSz ih]; exact h w (by simp)), ih]
theorem Cov.stepW {b k : Img} {d : List Bm} {w : Wr} (hf : fitsS (imgSz k) w = 0) (hv : w.volume.toNat < d.length) (h : Cov b d k) : Cov b (mkW d w.volume.toNat w.start.toNat w.data.length) (ap1 k w) := fun v i hi => by
  rw [mkW_bit hv, Bool.or_eq_false_iff] at hi
  rw [ap1_at hf, if_neg, h v i hi.1]
  intro hm
  rw [posW, List.mem_map] at hm
  obtain ⟨j, hj, e⟩ := hm
  rw [Prod.mk.injEq] at e
  rw [List.mem_range'_1] at hj
  obtain ⟨e1, e2⟩ := e
  have h2 := hi.2
  rw [← e1, ← e2] at h2
  simp at h2
  omega
theorem Cov.all {b : Img} {z : List Nat} (hz : SzOkN z) (hb : b.map List.length = z) {ws : List Wr} (h : ∀ w ∈ ws, fitsS (zI z) w = 0) : Cov b (mW (cleanB z) ws) (apA b ws) := by
  induction ws using snoc_ind with
  | h0 => exact fun _ _ _ => rfl
  | h1 ws w ih =>
    have h1 : ∀ w ∈ ws, fitsS (zI z) w = 0 := fun x hx => h x (by simp [hx])
    rw [mW_snoc, apA_snoc]
    refine (ih h1).stepW (by rw [sz_imgSz (apA_sz hb h1)]; exact h w (by simp)) ?_
    rw [(mW_ok hz fun x hx => fit_WOk (h1 x hx)).len]
    exact (fit_WOk (h w (by simp))).v1
end Go.Proofs.YtpedbpbmnchllaaGreatDoor
namespace Go.Proofs.YtpedbpbmnchllaaGreatDoor
open Go.Proofs
def wlE (ws : List Wr) : List CV := [.sl .sh 3 (ws.map wrC)]
@[go_sem, simp] theorem wlE_len (l : List Wr) : (wlE l).length = 1 := rfl
@[go_sem, simp] theorem wlE_all (l : List Wr) : allOne (wlE l) = true := rfl
@[go_sem, simp] theorem wlE_0 (l : List Wr) (h : 0 < (wlE l).length) : (wlE l)[0] = .sl .sh 3 (l.map wrC) := rfl
end Go.Proofs.YtpedbpbmnchllaaGreatDoor
namespace Go.Proofs.YtpedbpbmnchllaaGreatDoor
open Go.Proofs
theorem PtOk.of {site : Int} {lin : List Spn} {d : List Bm} {im : Img} {z : List Nat} (hz : SzOkN z) (hd : DirtyOk z d) (hi : im.map List.length = z) (hs : inD site 0 = true) (hl : LinOk lin) : PtOk ⟨site, lin, d, im⟩ where
  site := hs
  lin := hl
  im := by show sizesE (imgSz im) = 0; rw [sz_imgSz hi]; exact hz.sizes
  len := by show d.length = im.length; rw [hd.len, ← hi, List.length_map]
  dirty := fun v h h2 => by
    subst hi
    obtain ⟨a, b⟩ := hd.ok v h (by rw [List.length_map]; exact h2)
    refine ⟨a, ?_⟩
    show d[v].n = im[v].length
    rw [b, List.getElem_map]
  few := by
    show im.length ≤ 1000
    have := hz.few
    rw [← hi, List.length_map] at this
    omega
end Go.Proofs.YtpedbpbmnchllaaGreatDoor
namespace Go.Proofs.YtpedbpbmnchllaaGreatDoor
open Go.Proofs
theorem DirtyOk.getN {z : List Nat} {d : List Bm} (h : DirtyOk z d) (v : Nat) (hv : v < z.length) : z.getD v 0 = (d.getD v ⟨1, 0⟩).n := by
  have hl := h.len
  have hv2 : v < d.length := by omega
  rw [List.getD_eq_getElem?_getD, List.getD_eq_getElem?_getD, List.getElem?_eq_getElem hv, List.getElem?_eq_getElem hv2, Option.getD_some, Option.getD_some, (h.ok v hv2 hv).2]
end Go.Proofs.YtpedbpbmnchllaaGreatDoor
namespace Go.Proofs.YtpedbpbmnchllaaGreatDoor
open Go.Proofs
end Go.Proofs.YtpedbpbmnchllaaGreatDoor
namespace Go.Proofs.YtpedbpbmnchllaaGreatDoor
open Go.Proofs
end Go.Proofs.YtpedbpbmnchllaaGreatDoor
namespace Go.Proofs.YtpedbpbmnchllaaGreatDoor
open Go.Proofs
end Go.Proofs.YtpedbpbmnchllaaGreatDoor
namespace Go.Proofs.YtpedbpbmnchllaaGreatDoor
open Go.Proofs
end Go.Proofs.YtpedbpbmnchllaaGreatDoor
namespace Go.Proofs.YtpedbpbmnchllaaGreatDoor
open Go.RowKit

def gh0 (w : World) : Gh where
  lim k := match w.heap[k]? with
    | some (.cells c _ _) => c.size
    | _ => 0
  box := []
  tip := []

theorem gh0_inv (w : World) (hg : Glob (gh0 w) w) : Inv (gh0 w) w [] [] where
  glob := hg
  boxlen := rfl
  tiplen := rfl
  limv k h := by
    simp only [gh0] at h ⊢
    split at h
    · rename_i c e fr hc
      exact ⟨c, e, fr, hc, by simp⟩
    · omega
  tips := by intro t k h; simp [gh0] at h
  boxes := by intro b k h; simp [gh0] at h
  uniq := by intro b b' k cs cs' h; simp at h
  live := by intro b cs h; simp at h

theorem gh0_lim {w : World} {k o : Nat} {u : Value} (h : w.cell? ⟨k, o, none⟩ = some u) : o < (gh0 w).lim k := by
  simp only [World.cell?] at h
  simp only [gh0]
  split at h
  · rename_i c e fr hc
    simp only [hc]
    simp at h
    obtain ⟨h, _⟩ := Array.getElem?_eq_some_iff.1 h
    exact h
  · cases h

theorem law_calls {P : Program} {f : FuncId} {args : Array Value} {W : World} {cs : List CV} {R : CV → Hp → List Nat → Prop} (hglob : Glob (gh0 W) W) (hrel : RelL (gh0 W) W [] cs args.toList) (h : CC P f cs [] [] R)
    (hR : ∀ r H V, R r H V → r = .v (.bool true)) : Calls P f args W fun e W' => e = .returned (.bool true) ∧ Below W.heap.size W W' := by
  have := h.2 (gh0 W) W args.toList (gh0_inv W hglob) hrel
  rw [Array.toArray_toList] at this
  refine this.mono ?_
  rintro e w' ⟨u, m', r, H', V', rfl, hr, _, hu, hx⟩
  obtain rfl := hR _ _ _ hr
  rw [RelV] at hu
  subst hu
  exact ⟨rfl, hx.os, hx.tape, hx.output, hx.size, fun k hk => hx.same k hk (by simp [gh0]) (by simp [gh0])⟩

def Opens (P : Program) (t : TypeId) (S : List CV → Prop) : Prop :=
  ∀ (H : Type) (enc : TypeId × Value → H) (w : World) (base : Nat) (spare : Nat → Bool) (held : Bool) (fuel : Nat) (us : List Value) (x : DataW H × List MemPlace),
    DataW.trod enc P w base spare held fuel t us = some x → ∃ cs, S cs ∧ RelL (gh0 w) w [] cs us ∧ ∀ u ∈ us, u.oneCell' = true

theorem relL_one {m : Gh} {w : World} {V : List Nat} {c : CV} {u : Value} (h : RelV m w V c u) : RelL m w V [c] [u] := by
  rw [RelL]; exact ⟨u, [], rfl, h, by rw [RelL]⟩

theorem relL_one' {m : Gh} {w : World} {V : List Nat} {c : CV} {u : Value} (h : RelL m w V [c] [u]) : RelV m w V c u := by
  rw [RelL] at h; obtain ⟨_, _, h1, h2, _⟩ := h; cases h1; exact h2

theorem relL_nil {m : Gh} {w : World} {V : List Nat} : RelL m w V [] [] := by rw [RelL]
theorem relL_mk2 {m : Gh} {w : World} {V : List Nat} {c : CV} {u : Value} {cs : List CV} {us : List Value} (h : RelV m w V c u) (h2 : RelL m w V cs us) : RelL m w V (c :: cs) (u :: us) := by
  rw [RelL]; exact ⟨u, us, rfl, h, h2⟩
variable {P : Program} {t e : TypeId}
theorem Opens.int {k : IntKind} (ht : P.underlying t = some (.int k)) : Opens P t fun cs => ∃ n, cs = [.v (.int k n)] ∧ (Lit.int k n).wf = true := by
  intro H enc w base spare held fuel us x h
  obtain ⟨n, rfl, _, hw⟩ := DataW.trod_int ht h
  exact ⟨_, ⟨n, rfl, hw⟩, relL_one (by rw [RelV]), by simp [Value.oneCell']⟩

theorem cells_get {w : World} {base : Nat} {a : Addr} {n : Nat} {us : List Value} (h : w.cells? base a n = some us) : us.length = n ∧ ∀ j, j < n → w.cell? (a.add j) = us[j]? := by
  unfold World.cells? at h
  split at h
  · exact ⟨by simpa using mapM_some_length h, fun j hj => mapM_some_get h j j (by simp [hj])⟩
  · cases h

theorem add_none {a : Addr} (ha : a.spot = none) (i : Nat) : a.add i = ⟨a.block, a.off + i, none⟩ := by
  cases a with
  | mk b o s =>
    simp only at ha
    subst ha
    unfold Addr.add
    split <;> simp_all

theorem Opens.slice {sz : Nat} {S : List CV → Prop} (ht : P.underlying t = some (.slice e)) (hs : P.cellsOf e = sz) (h0 : 0 < sz) (he : Opens P e S) :
    Opens P t fun cs => ∃ xs, cs = [.sl .sh sz xs] ∧ xs.length ≤ maxLen ∧ ∀ x ∈ xs, S x := by
  intro H enc w base spare held fuel us x h
  rcases DataW.trod_slice ht h with ⟨rfl, _⟩ | ⟨a, len, cap, elems, rest, n, _, rfl, rfl, hb, hl, hm, hlen, hel, hsp, hns⟩
  · refine ⟨_, ⟨[], rfl, by simp, by simp⟩, relL_one ?_, by simp [Value.oneCell']⟩
    rw [RelV]
    exact ⟨none, 0, rfl, by simp, trivial, h0, .inl rfl⟩
  · have key : ∀ i, i < len → ∃ (cs : List CV) (vs : List Value), S cs ∧ RelL (gh0 w) w [] cs vs ∧ (∀ u ∈ vs, u.oneCell' = true) ∧ vs.length = sz ∧ ∀ j, j < sz → w.cell? ((a.add (i * sz)).add j) = vs[j]? := by
      intro i hi
      have h1 := hel i hi
      rw [List.getElem?_eq_getElem (by omega)] at h1
      obtain ⟨vs, h2, h3⟩ := Option.bind_eq_some_iff.1 h1
      obtain ⟨cs, h4, h5, h6⟩ := he _ enc w base spare held n vs _ h3
      rw [hs] at h2
      obtain ⟨h7, h8⟩ := cells_get h2
      exact ⟨cs, vs, h4, h5, h6, h7, h8⟩
    by_cases hz : len = 0
    · subst hz
      refine ⟨_, ⟨[], rfl, by simp, by simp⟩, relL_one ?_, by simp [Value.oneCell']⟩
      rw [RelV]
      exact ⟨some a, cap, rfl, by simp, trivial, h0, .inl rfl⟩
    · have hsp : a.spot = none := by
        obtain ⟨cs, vs, _, _, _, h7, h8⟩ := key 0 (by omega)
        have h9 := h8 0 h0
        rw [List.getElem?_eq_getElem (by omega)] at h9
        have : (a.add (0 * sz)).add 0 = a := by simp [Addr.add]
        rw [this] at h9
        simp only [World.cell?] at h9
        split at h9
        · split at h9
          · cases h9
          · rename_i h; simpa using h
        · cases h9
      let g : Nat → List CV := fun i => if h : i < len then Classical.choose (key i h) else []
      have hg : ∀ i (h : i < len), ∃ (vs : List Value), S (g i) ∧ RelL (gh0 w) w [] (g i) vs ∧ (∀ u ∈ vs, u.oneCell' = true) ∧ vs.length = sz ∧ ∀ j, j < sz → w.cell? ((a.add (i * sz)).add j) = vs[j]? := by
        intro i h
        have := Classical.choose_spec (key i h)
        simp only [g, h, dif_pos]
        exact this
      have cell : ∀ i j, i < len → j < sz → ∃ u, w.cell? ⟨a.block, a.off + i * sz + j, none⟩ = some u := by
        intro i j hi hj
        obtain ⟨vs, _, _, _, h7, h8⟩ := hg i hi
        have h9 := h8 j hj
        rw [List.getElem?_eq_getElem (by omega), add_none hsp, add_none rfl] at h9
        exact ⟨_, h9⟩
      refine ⟨_, ⟨(List.range len).map g, rfl, by simp; omega, ?_⟩, relL_one ?_, by simp [Value.oneCell']⟩
      · intro x hx
        obtain ⟨i, hi, rfl⟩ := List.mem_map.1 hx
        obtain ⟨_, h4, _⟩ := hg i (by simpa using hi)
        exact h4
      · rw [RelV]
        refine ⟨some a, cap, by simp, by simp; omega, trivial, h0, .inr ⟨a.block, a.off, by cases a; simp_all, ?_, relE_mk fun j c hc => ?_⟩⟩
        · obtain ⟨u, hu⟩ := cell (len - 1) (sz - 1) (by omega) (by omega)
          have := gh0_lim hu
          simp only [List.length_map, List.length_range]
          have h1 : len * sz = (len - 1) * sz + sz := by
            rw [← Nat.succ_mul]; congr 1; omega
          omega
        · simp only [List.getElem?_map, Option.map_eq_some_iff] at hc
          obtain ⟨i, hi, rfl⟩ := hc
          obtain ⟨hi', hi⟩ := List.getElem?_eq_some_iff.1 hi
          simp at hi hi'
          subst hi
          obtain ⟨vs, h4, h5, h6, h7, h8⟩ := hg j hi'
          have hl := relL_length h5
          refine ⟨by omega, relC_mk fun q c hc => ?_⟩
          obtain ⟨u, hu, hv⟩ := relL_get h5 q c hc
          have hq : q < sz := by
            have := (List.getElem?_eq_some_iff.1 hc).1
            omega
          have h9 := h8 q hq
          rw [hu, add_none hsp, add_none rfl] at h9
          exact ⟨u, h9, hv, h6 u (List.mem_of_getElem? hu)⟩

def OpensF (P : Program) (N : Nat) (fs : List Field) (o : Nat) (S : List CV → Prop) : Prop :=
  ∀ (H : Type) (enc : TypeId × Value → H) (w : World) (base : Nat) (spare : Nat → Bool) (held : Bool) (fuel : Nat) (us : List Value), us.length = N →
    (∀ f ∈ fs, ∃ x, DataW.trod enc P w base spare held fuel f.type ((us.drop f.offset).take (P.cellsOf f.type)) = some x) →
    ∃ cs, S cs ∧ RelL (gh0 w) w [] cs (us.drop o) ∧ ∀ u ∈ us.drop o, u.oneCell' = true

theorem OpensF.nil {N : Nat} : OpensF P N [] N fun cs => cs = [] := by
  intro H enc w base spare held fuel us hl h
  subst hl
  exact ⟨_, rfl, by rw [List.drop_length, RelL], by simp⟩

theorem OpensF.cons {N : Nat} {f : Field} {fs : List Field} {o n : Nat} {S S' : List CV → Prop} (ho : f.offset = o) (hn : P.cellsOf f.type = n) (h1 : Opens P f.type S) (h2 : OpensF P N fs (o + n) S') :
    OpensF P N (f :: fs) o fun cs => ∃ a b, cs = a ++ b ∧ S a ∧ S' b := by
  intro H enc w base spare held fuel us hl h
  obtain ⟨x, hx⟩ := h f (by simp)
  rw [ho, hn] at hx
  obtain ⟨a, ha, ra, oa⟩ := h1 _ enc w base spare held fuel _ _ hx
  obtain ⟨b, hb, rb, ob⟩ := h2 _ enc w base spare held fuel us hl fun g hg => h g (List.mem_cons_of_mem _ hg)
  have hd : us.drop o = (us.drop o).take n ++ us.drop (o + n) := by
    rw [← List.drop_drop, List.take_append_drop]
  refine ⟨_, ⟨a, b, rfl, ha, hb⟩, ?_, ?_⟩
  · rw [hd]; exact relL_append ra rb
  · rw [hd]
    intro u hu
    rcases List.mem_append.1 hu with h | h
    · exact oa u h
    · exact ob u h

theorem Opens.struct {fs : Array Field} {S : List CV → Prop} (ht : P.underlying t = some (.struct fs)) {N : Nat} (hN : P.cellsOf t = N) (h : OpensF P N fs.toList 0 S) : Opens P t S := by
  intro H enc w base spare held fuel us x hx
  obtain ⟨xs, n, _, _, hl, hl2, hf⟩ := DataW.trod_struct ht hx
  obtain ⟨cs, h1, h2, h3⟩ := h _ enc w base spare held n us (by omega) (by
    intro f hf'
    obtain ⟨i, hi⟩ := List.getElem?_of_mem hf'
    have := hf i f (by simpa using hi)
    have hi' : i < fs.size := by
      have := (List.getElem?_eq_some_iff.1 hi).1
      simpa using this
    rw [this, List.getElem?_eq_getElem (by omega)]
    exact ⟨_, rfl⟩)
  exact ⟨cs, h1, by simpa using h2, by simpa using h3⟩

theorem Opens.array {n sz : Nat} {S : List CV → Prop} (ht : P.underlying t = some (.array n e)) (hs : P.cellsOf e = sz) (hN : P.cellsOf t = n * sz) (he : Opens P e S) :
    Opens P t fun cs => ∃ xs : List (List CV), cs = xs.flatten ∧ xs.length = n ∧ ∀ x ∈ xs, S x := by
  intro H enc w base spare held fuel us x hx
  obtain ⟨xs, m, _, _, hl, hl2, hf⟩ := DataW.trod_array ht hx
  rw [hN] at hl
  rw [hs] at hf
  have key : ∀ q, q ≤ n → ∃ ys : List (List CV), ys.length = q ∧ (∀ x ∈ ys, S x) ∧ RelL (gh0 w) w [] ys.flatten (us.drop ((n - q) * sz)) ∧ ∀ u ∈ us.drop ((n - q) * sz), u.oneCell' = true := by
    intro q
    induction q with
    | zero =>
      intro _
      refine ⟨[], rfl, by simp, ?_, ?_⟩
      · rw [Nat.sub_zero, List.drop_of_length_le (by omega), List.flatten_nil, RelL]
      · rw [Nat.sub_zero, List.drop_of_length_le (by omega)]; simp
    | succ q ih =>
      intro hq
      obtain ⟨ys, h1, h2, h3, h4⟩ := ih (by omega)
      have hx := hf (n - (q + 1)) (by omega)
      rw [List.getElem?_eq_getElem (by omega)] at hx
      obtain ⟨a, ha, ra, oa⟩ := he _ enc w base spare held m _ _ hx
      have hd : us.drop ((n - (q + 1)) * sz) = (us.drop ((n - (q + 1)) * sz)).take sz ++ us.drop ((n - q) * sz) := by
        have : (n - q) * sz = (n - (q + 1)) * sz + sz := by
          rw [← Nat.succ_mul]; congr 1; omega
        rw [this, ← List.drop_drop, List.take_append_drop]
      refine ⟨a :: ys, by simp [h1], by simpa using ⟨ha, h2⟩, ?_, ?_⟩
      · rw [hd, List.flatten_cons]; exact relL_append ra h3
      · rw [hd]
        intro u hu
        rcases List.mem_append.1 hu with h | h
        · exact oa u h
        · exact h4 u h
  obtain ⟨ys, h1, h2, h3, h4⟩ := key n (Nat.le_refl _)
  rw [Nat.sub_self, Nat.zero_mul, List.drop_zero] at h3 h4
  exact ⟨_, ⟨ys, rfl, h1, h2⟩, h3, h4⟩

theorem Opens.mono {S S' : List CV → Prop} (h : Opens P t S) (hs : ∀ cs, S cs → S' cs) : Opens P t S' := by
  intro H enc w base spare held fuel us x hx
  obtain ⟨cs, h1, h2, h3⟩ := h _ enc w base spare held fuel us x hx
  exact ⟨cs, hs cs h1, h2, h3⟩

variable {H : Type} {enc : TypeId × Value → H} {w : World} {base : Nat} {spare : Nat → Bool} {held : Bool}
theorem Opens.arg {S : List CV → Prop} (h : Opens P t S) {v : Value} {d : DataW H} {p : List MemPlace} (hv : v.cells.toList = [v]) (hd : DataW.Trod enc P w base spare held t v d p) :
    ∃ c, S [c] ∧ RelV (gh0 w) w [] c v := by
  obtain ⟨fuel, hf⟩ := hd
  rw [hv] at hf
  obtain ⟨cs, h1, h2, _⟩ := h _ enc w base spare held fuel _ _ hf
  have := relL_length h2
  match cs, this with
  | [c], _ => exact ⟨c, h1, relL_one' h2⟩
theorem Opens.args {S : List CV → Prop} (h : Opens P t S) {us : Array Value} {d : DataW H} {p : List MemPlace} (hd : DataW.Trod enc P w base spare held t (.agg us) d p) :
    ∃ cs, S cs ∧ RelV (gh0 w) w [] (.agg cs) (.agg us) := by
  obtain ⟨fuel, hf⟩ := hd
  obtain ⟨cs, h1, h2, _⟩ := h _ enc w base spare held fuel _ _ hf
  refine ⟨cs, h1, ?_⟩
  rw [RelV]
  refine ⟨us.toList, by simp, ?_⟩
  simpa [Value.cells] using h2

theorem trodAll_below (hl : laidOutB P = true) {W W' : World} (hb : Below W.heap.size W W') : ∀ {ts : List TypeId} {vs : List Value} {ds : List (DataW H)} {p : List MemPlace},
    (ts.all fun t => P.readableRec t && decide (t < P.types.size)) = true → DataW.TrodAll enc P W 0 (fun _ => true) true ts vs ds p → DataW.TrodAll enc P W' 0 (fun b => decide (b < W.heap.size)) true ts vs ds p
  | [], [], [], p, _, h => h
  | t :: ts, v :: vs, d :: ds, p, ht, h => by
    obtain ⟨p, q, h1, h2, rfl⟩ := h
    simp only [List.all_cons, Bool.and_eq_true, decide_eq_true_eq] at ht
    refine ⟨p, q, Below.trod hl ht.1.1 ht.1.2 h1 hb ?_, trodAll_below hl hb ht.2 h2, rfl⟩
    obtain ⟨m, hm⟩ := h1
    exact DataW.trod_lt m _ _ _ hm
  | [], [], _ :: _, _, _, h => h.elim
  | [], _ :: _, _, _, _, h => h.elim
  | _ :: _, [], _, _, _, h => h.elim
  | _ :: _, _ :: _, [], _, _, h => h.elim
end Go.Proofs.YtpedbpbmnchllaaGreatDoor
namespace Go.Proofs.YtpedbpbmnchllaaGreatDoor
open Go.Proofs
theorem exMapF {α : Type} {f : α → List CV} : ∀ {xs : List (List CV)}, (∀ x ∈ xs, ∃ a, x = f a) → ∃ ys : List α, xs = ys.map f
  | [], _ => ⟨[], rfl⟩
  | x :: xs, h => by
    obtain ⟨a, rfl⟩ := h x (by simp)
    obtain ⟨ys, rfl⟩ := exMapF fun y hy => h y (List.mem_cons_of_mem _ hy)
    exact ⟨a :: ys, rfl⟩
theorem opens_int : Opens Tryz.prog 3 fun cs => ∃ n, cs = ic n :=
  (Opens.int Tryz.underlying3).mono fun _ ⟨n, h, _⟩ => ⟨n, h⟩
theorem opens_u8 : Opens Tryz.prog 5 fun cs => ∃ b, cs = u8 b :=
  (Opens.int Tryz.underlying5).mono fun _ ⟨n, h, hw⟩ => ⟨byt n, by
    simp only [Lit.wf, Bool.and_eq_true, decide_eq_true_eq] at hw
    have h1 : 0 ≤ n := hw.1
    have h2 : n ≤ 255 := hw.2
    rw [h, u8, byt_toNat, Int.emod_eq_of_lt h1 (by omega)]⟩
theorem opens_sl {t e sz : Nat} {α : Type} {f : α → List CV} (ht : Tryz.prog.underlying t = some (.slice e)) (hs : Tryz.prog.cellsOf e = sz) (h0 : 0 < sz) (he : Opens Tryz.prog e fun cs => ∃ a, cs = f a) :
    Opens Tryz.prog t fun cs => ∃ l : List α, cs = [.sl .sh sz (l.map f)] ∧ l.length ≤ maxLen :=
  (Opens.slice ht hs h0 he).mono fun _ ⟨xs, h, hl, hx⟩ => by
    obtain ⟨ys, rfl⟩ := exMapF hx
    exact ⟨ys, h, by simpa using hl⟩
theorem flat_u8' : ∀ l : List UInt8, (l.map u8).flatten = l.map fun b => CV.v (.int .u8 (b.toNat : Int))
  | [] => rfl
  | b :: l => by rw [List.map_cons, List.flatten_cons]; exact congrArg (_ :: ·) (flat_u8' l)
theorem opens_sec : Opens Tryz.prog 99 fun cs => ∃ s : Sec, cs = secC s :=
  (Opens.array (sz := 1) Tryz.underlying99 (by kernel_rfl) (by kernel_rfl) opens_u8).mono fun cs ⟨xs, h, hl, hx⟩ => by
    obtain ⟨l, rfl⟩ := exMapF hx
    refine ⟨⟨l, by simpa using hl⟩, ?_⟩
    rw [h]; exact flat_u8' l
theorem opens_secs : Opens Tryz.prog 93 fun cs => ∃ l : List Sec, cs = [.sl .sh 8 (l.map secC)] ∧ l.length ≤ maxLen := opens_sl Tryz.underlying93 (by kernel_rfl) (by decide) opens_sec
end Go.Proofs.YtpedbpbmnchllaaGreatDoor
namespace Go.Proofs.YtpedbpbmnchllaaGreatDoor
open Go.Proofs
theorem okWide_array {P : Program} {w : World} {r : Reach} {base t n e : Nat} {v : Value} (ht : P.underlying t = some (.array n e)) (h : Value.okWide P w r base t v) : ∃ cs, v = .agg cs ∧ cs.size = P.cellsOf t := by
  simp only [Value.okWide, ht] at h
  obtain ⟨cs, h1, h2, _⟩ := h
  exact ⟨cs, h1, h2⟩
theorem glob_of_laid {W : World} (h : laidMetH Tryz.prog [("math/bits.deBruijn64tab", Go.Proofs.YtpedbpbmnchllaaGreatDoor.Rows.laid_math_bits_deBruijn64tab)] W) : Glob (gh0 W) W := by
  rw [MakeChecks.laidMetH_plain _ _ _ (by kernel_rfl)] at h
  obtain ⟨g, t, cs, fuel, p, hg, hty, hvar, hd⟩ := Lib.laidMet.reads h (.head _)
  obtain rfl := Option.some.inj ((show Tryz.prog.globalNamed "math/bits.deBruijn64tab" = some 0 by kernel_rfl).symm.trans hg)
  obtain rfl := Option.some.inj ((show (Tryz.prog.globals[0]?).map (·.type) = some 218 by kernel_rfl).symm.trans hty)
  have hcs := Lib.cells_of_tab (k := .u8) (zs := dbT.map fun (n : Nat) => (n : Int)) Tryz.underlying218 Tryz.underlying5 (by kernel_rfl) (by kernel_rfl) hd
  have key : ∀ (j n : Nat), dbT[j]? = some n → W.cell? ⟨0, j, none⟩ = some (.int .u8 (n : Int)) := fun j n hj => by
    rw [World.var?_cell hg hvar j, ← Array.getElem?_toList, hcs]
    simp [hj]
  intro g ns hgt
  match g, hgt with
  | 0, hgt =>
    obtain rfl := Option.some.inj hgt
    have := gh0_lim (key 63 6 rfl)
    exact ⟨by rw [dbT_len]; omega, key⟩
end Go.Proofs.YtpedbpbmnchllaaGreatDoor
namespace Go.Proofs.YtpedbpbmnchllaaGreatDoor
open Go.Proofs
theorem opens_wrB : Opens Tryz.prog 101 fun cs => ∃ x : {x : Wr // x.data.length ≤ 9223372036854775807}, cs = wrC x.1 :=
  (Opens.struct Tryz.underlying101 (N := 3) (by kernel_rfl) (.cons rfl (n := 1) (by kernel_rfl) opens_int (.cons rfl (n := 1) (by kernel_rfl) opens_int (.cons rfl (n := 1) (by kernel_rfl) opens_secs .nil)))).mono fun cs h => by
    obtain ⟨_, _, rfl, ⟨a, rfl⟩, _, _, rfl, ⟨b, rfl⟩, _, _, rfl, ⟨c, rfl, hc⟩, rfl⟩ := h
    exact ⟨⟨⟨a, b, c⟩, Nat.le_trans hc (by decide)⟩, rfl⟩
def WlB (l : List Wr) : Prop := l.length ≤ 9223372036854775807 ∧ ∀ w ∈ l, w.data.length ≤ 9223372036854775807
theorem opens_wrsB : Opens Tryz.prog 24 fun cs => ∃ l : {l : List Wr // WlB l}, cs = wlE l.1 :=
  (opens_sl (sz := 3) Tryz.underlying24 (by kernel_rfl) (by decide) opens_wrB).mono fun cs ⟨l, h, hl⟩ => by
    refine ⟨⟨l.map (·.1), by rw [List.length_map]; exact Nat.le_trans hl (by decide), fun w hw => ?_⟩, ?_⟩
    · obtain ⟨x, _, rfl⟩ := List.mem_map.1 hw
      exact x.2
    · rw [h, wlE, List.map_map]; rfl
def a2C (a b : List Wr) : List CV := [.sl .sh 3 (a.map wrC), .sl .sh 3 (b.map wrC)]
theorem opens_a2 : Opens Tryz.prog 60 fun cs => ∃ x : List Wr × List Wr, cs = a2C x.1 x.2 ∧ WlB x.1 ∧ WlB x.2 :=
  (Opens.array (sz := 1) Tryz.underlying60 (by kernel_rfl) (by kernel_rfl) opens_wrsB).mono fun cs ⟨xs, h, hl, hx⟩ => by
    obtain ⟨l, rfl⟩ := exMapF hx
    match l, hl with
    | [a, b], _ => exact ⟨(a.1, b.1), by rw [h]; rfl, a.2, b.2⟩
end Go.Proofs.YtpedbpbmnchllaaGreatDoor
namespace Go.Proofs.YtpedbpbmnchllaaGreatDoor
open Go.Proofs
theorem w63 {n : Nat} (h : n ≤ 63) : IntKind.i64.wrap ((n : Int) + 63) = (n : Int) + 63 := IntWalk.i64_in _ ⟨by omega, by omega⟩
theorem q63 {n : Nat} (h1 : 1 ≤ n) (h : n ≤ 63) : ((n : Int) + 63).tdiv 64 = 1 := by rw [Int.tdiv_eq_ediv_of_nonneg (by omega)]; omega
theorem t64 {n : Nat} (h : n < 64) : ((n : Int)).tmod 64 = n := by rw [Int.tmod_eq_emod_of_nonneg (by omega)]; omega
theorem d64 {n : Nat} (h : n < 64) : ((n : Int)).tdiv 64 = 0 := by rw [Int.tdiv_eq_ediv_of_nonneg (by omega)]; omega
theorem rbNew_cc (H : Hp) (V : List Nat) (n : Nat) (h1 : 1 ≤ n) (h2 : n ≤ 63) : CC Tryz.prog 105 [ci n] H V (Pu (.tup [.agg (bmC ⟨n, 0⟩), er 0]) H V) := by
  refine CC.of_swp Tryz.func105 rfl (by kernel_rfl) (by rw [Tryz.ntmps105]; exact len_le _ _ rfl) fun hok hokH => ?_
  clear hok
  refine SWp.seq (Wp.s ?_)
  simp -implicitDefEqProofs [go_sem, args0]
  refine SWp.seq (SWp.seq (Wp.s ?_))
  simp -implicitDefEqProofs [go_sem, show ¬ (n : Int) < 0 by omega, show ¬ (4096 : Int) < n by omega]
  refine Wp.s ?_
  simp -implicitDefEqProofs [go_sem]
  refine SWp.seq (Wp.s ?_)
  simp -implicitDefEqProofs [go_sem, w63 h2, q63 h1 h2, show IntKind.i64.wrap (1 : Int) = 1 from rfl]
  refine Wp.s ?_
  simp -implicitDefEqProofs [go_sem]
  refine Fin.frozY (b := H.length + 1) (cs := [wv 0]) (r1 := .tup [.agg [ci n, .bsl (H.length + 1) 0 1 1], er 0]) (r2 := .tup [.agg (bmC ⟨n, 0⟩), er 0]) ⟨rfl, rfl, rfl⟩ ?_ (hget _ _ 1) ?_ (by omega) (by simp [go_sem]) hokH (by simp) (by simp)
  · exact .refl _
  · exact .tup (.cons (.agg (.cons (.refl _) (.cons (.bsl 0 1 1 (by simp)) .nil))) (.cons (.refl _) .nil))
theorem rbCopy_cc (H : Hp) (V : List Nat) (b : Bm) : CC Tryz.prog 103 [.agg (bmC b)] H V (fun r H' V' => r = .agg [ci b.n, .bsa (H.length + 2) 1 1] ∧ H' = H ++ [some (bmC b), some [ci b.n, .bsa (H.length + 2) 1 1], some [wv b.w]] ∧ V = V') := by
  refine CC.of_swp Tryz.func103 rfl (by kernel_rfl) (by rw [Tryz.ntmps103]; exact len_le _ _ rfl) fun hok hokH => ?_
  clear hok
  refine SWp.seq (Wp.s ?_)
  simp -implicitDefEqProofs [go_sem, args0]
  refine SWp.seq (SWp.drawnB [] [7] [] (.s 0 .pl <| .s 1 .pl <| .s 2 .pl <| .s 3 .pl <| .s 4 .pl <| .b 5 <| .s 6 .pl <| .s 7 .st <| .n) (by kernel_rfl) (by kernel_rfl) ?_)
  simp -implicitDefEqProofs [go_sem]
  refine appB.mkT slTy108 slTy108 (by decide) (by simp) (by simp) ?_
  simp -implicitDefEqProofs [go_sem]
  refine Wp.s ?_
  simp -implicitDefEqProofs [go_sem]
  refine Fin.cut (H.length + 3) V.length ⟨rfl, rfl, rfl⟩ (by omega) (Nat.le_refl _) (List.take_of_length_le (by simp)) (List.take_of_length_le (Nat.le_refl _)) (.refl _) (by simp [go_sem, okL, okV]) ?_
  intro b' cs hb
  rw [List.getElem?_append] at hb
  split at hb
  · exact okL_mono (by omega) (Nat.le_refl _) (hokH b' cs hb)
  · exact okH_get (i := H.length + 3) (j := V.length) (L := [some (bmC b), some [ci b.n, .bsa (H.length + 2) 1 1], some [wv b.w]]) (by simp [go_sem, okL, okV, wv]) _ _ hb
theorem rbBit_cc (H : Hp) (V : List Nat) (b : Bm) (i : Nat) (hb : BmOk b) (h : i < 64) : CC Tryz.prog 151 [.agg (bmC b), ci i] H V (Pu (cb (b.w.testBit i)) H V) := by
  refine CC.of_swp Tryz.func151 rfl (by kernel_rfl) (by rw [Tryz.ntmps151]; exact len_le _ _ rfl) fun hok hokH => ?_
  clear hok
  have s1 : shr .u64 (b.w : Int) (i : Int) = ((b.w >>> i : Nat) : Int) := shr64 _ _ (by omega)
  have s2 : bitop .and .u64 ((b.w >>> i : Nat) : Int) 1 = ((b.w >>> i &&& 1 : Nat) : Int) := and64 (Nat.lt_of_le_of_lt (Nat.shiftRight_le _ _) hb.lt64) (by decide)
  have gb := get_bit b.w i
  generalize b.w >>> i = z at s1 s2 gb
  generalize z &&& 1 = y at s2 gb
  have w0 : IntKind.i64.wrap (0 : Int) = 0 := rfl
  have w3 : IntKind.u64.wrap (i : Int) = i := wrap64 (by omega)
  refine SWp.seq (Wp.s ?_)
  simp -implicitDefEqProofs [go_sem, args0]
  refine SWp.seq (Wp.s ?_)
  simp -implicitDefEqProofs [go_sem, t64 h, d64 h, w0, w3, wv_eq, s1, s2]
  refine Wp.s ?_
  simp -implicitDefEqProofs [go_sem]
  exact Fin.bool (by rw [← gb]) hokH (by simp) (by simp)
theorem rbFits_cc (H : Hp) (V : List Nat) (s c n : Nat) (h : s + c ≤ n) (hn : n ≤ 63) : CC Tryz.prog 146 [.agg [ci s, ci c], ci n] H V (Pu (cb true) H V) := by
  refine CC.of_swp Tryz.func146 rfl (by kernel_rfl) (by rw [Tryz.ntmps146]; exact len_le _ _ rfl) fun hok hokH => ?_
  clear hok
  refine SWp.seq (Wp.s ?_)
  simp -implicitDefEqProofs [go_sem, args0]
  have w1 : IntKind.i64.wrap ((n : Int) - s) = (n : Int) - s := IntWalk.i64_in _ ⟨by omega, by omega⟩
  refine SWp.seq (Wp.s ?_)
  simp -implicitDefEqProofs [go_sem, show (0 : Int) ≤ s by omega, show (0 : Int) ≤ c by omega, show (s : Int) ≤ n by omega, show s ≤ n by omega, w1, show (c : Int) ≤ (n : Int) - s by omega]
  refine Wp.s ?_
  simp -implicitDefEqProofs [go_sem]
  exact Fin.bool rfl hokH (by simp) (by simp)
theorem rbCheck_cc (H : Hp) (V : List Nat) (b : Bm) (hb : BmOk b) : CC Tryz.prog 145 [.agg (bmC b)] H V (Pu (er 0) H V) := by
  refine CC.of_swp Tryz.func145 rfl (by kernel_rfl) (by rw [Tryz.ntmps145]; exact len_le _ _ rfl) fun hok hokH => ?_
  clear hok
  have b1 := hb.lo
  have b2 := hb.hi
  refine SWp.seq (Wp.s ?_)
  simp -implicitDefEqProofs [go_sem, args0]
  refine SWp.seq (SWp.seq (Wp.s ?_))
  simp -implicitDefEqProofs [go_sem, show ¬ (b.n : Int) < 0 by omega, show ¬ (4096 : Int) < b.n by omega, w63 b2, q63 b1 b2, show IntKind.i64.wrap (1 : Int) = 1 from rfl]
  refine Wp.s ?_
  simp -implicitDefEqProofs [go_sem]
  refine SWp.join (α := Unit) (fun _ => ([], H, V)) (fun _ => True) ?_ ?_
  · refine SWp.seq (Wp.s ?_)
    simp -implicitDefEqProofs [go_sem]
    refine SWp.block ?_
    refine SWp.loop (α := Nat) (fun i => ([(1, .ptr H.length 0), (3, ci i)], H ++ [some (bmC b)], V)) (fun i => b.n ≤ i ∧ i ≤ 64) (fun i => 64 - i) b.n ⟨Nat.le_refl _, by omega⟩ (Sh.forget (by simp [go_sem]) rfl rfl) ?_
    rintro i ⟨hi, hi2⟩
    dsimp only
    refine SWp.seq (SWp.seq (Wp.s ?_))
    simp -implicitDefEqProofs [go_sem, show IntKind.i64.wrap (64 : Int) = 64 from rfl]
    refine Wp.s ?_
    simp -implicitDefEqProofs [go_sem]
    refine ⟨fun h => ?_, fun h => Sh.trim0 (by simp [go_sem]) (by simp [go_sem]) hokH (Nat.le_refl _) (by simp) (by simp)⟩
    refine SWp.seq (SWp.block (SWp.seq (Wp.s ?_)))
    simp -implicitDefEqProofs [go_sem]
    refine CC.mono (rbBit_cc _ _ b i hb (by omega)) ?_
    rintro _ _ _ ⟨rfl, rfl, rfl⟩
    rw [Nat.testBit_lt_two_pow (Nat.lt_of_lt_of_le hb.lt (Nat.pow_le_pow_right (by decide) hi))]
    simp -implicitDefEqProofs [go_sem]
    refine Wp.s ?_
    simp -implicitDefEqProofs [go_sem]
    refine Wp.s ?_
    simp -implicitDefEqProofs [go_sem]
    refine ⟨i + 1, ⟨by omega, by omega⟩, by omega, Sh.forget ?_ rfl rfl⟩
    simp [go_sem, wrap_succ (show i ≤ 1000000000 by omega)]
  rintro _ -
  dsimp only
  refine SWp.seq (Wp.s ?_)
  simp -implicitDefEqProofs [go_sem]
  refine Wp.s ?_
  simp -implicitDefEqProofs [go_sem]
  exact Fin.er rfl hokH (by simp) (by simp)
theorem mask_step {w s i : Nat} (h : s ≤ i) : w ||| maskN s i ||| 2 ^ i = w ||| maskN s (i + 1) := by
  refine Nat.eq_of_testBit_eq fun j => ?_
  rw [Nat.testBit_or, Nat.testBit_or, Nat.testBit_or, maskN_bit, maskN_bit, Nat.testBit_two_pow, Bool.or_assoc]
  congr 1
  by_cases h1 : i = j
  · subst h1; simp [h]
  · by_cases h2 : s ≤ j <;> simp [h1, h2]
    omega
theorem maskN_self (s : Nat) : maskN s s = 0 := by rw [maskN, Nat.sub_self]; simp
set_option maxRecDepth 8000 in
theorem rbChange_cc (H : Hp) (V : List Nat) (b : Bm) (s c : Nat) (hb : BmOk b) (h : s + c ≤ b.n) : CC Tryz.prog 134 [.agg (bmC b), .agg [ci s, ci c], cb true] H V (Pu (.tup [.agg (bmC (setB b s c)), er 0]) H V) := by
  refine CC.of_swp Tryz.func134 rfl (by kernel_rfl) (by rw [Tryz.ntmps134]; exact len_le _ _ rfl) fun hok hokH => ?_
  clear hok
  have b1 := hb.lo
  have b2 := hb.hi
  have wsc : IntKind.i64.wrap ((s : Int) + c) = ((s + c : Nat) : Int) := by rw [IntWalk.i64_in _ ⟨by omega, by omega⟩]; omega
  refine SWp.seq (Wp.s ?_)
  simp -implicitDefEqProofs [go_sem, args0]
  refine SWp.seq (SWp.seq (Wp.s ?_))
  simp -implicitDefEqProofs [go_sem]
  refine CC.mono (rbCheck_cc _ _ b hb) ?_
  rintro _ _ _ ⟨rfl, rfl, rfl⟩
  simp -implicitDefEqProofs [go_sem]
  refine Wp.s ?_
  simp -implicitDefEqProofs [go_sem]
  refine SWp.seq (SWp.seq (Wp.s ?_))
  simp -implicitDefEqProofs [go_sem]
  refine CC.mono (rbFits_cc _ _ s c b.n h b2) ?_
  rintro _ _ _ ⟨rfl, rfl, rfl⟩
  simp -implicitDefEqProofs [go_sem]
  refine Wp.s ?_
  simp -implicitDefEqProofs [go_sem]
  refine SWp.seq (Wp.s ?_)
  simp -implicitDefEqProofs [go_sem]
  refine CC.mono (rbCopy_cc _ _ b) ?_
  rintro _ _ _ ⟨rfl, rfl, rfl⟩
  simp -implicitDefEqProofs [go_sem]
  have hp : ∀ i, i < 64 → 1 * 2 ^ i < 18446744073709551616 := fun i hi => by
    rw [Nat.one_mul]; exact Nat.pow_lt_pow_right (a := 2) (n := 64) (by decide) hi
  refine SWp.join (α := Unit) (fun _ => ([(6, .ptr (H.length + 2) 0), (8, .ptr (H.length + 6) 0)], H ++ [some (bmC b), some [ci s, ci c], some [ci 0, .v (.slice none 0 0)], some (bmC b), some [ci b.n, .bsa (H.length + 5) 1 1], some [wv (b.w ||| maskN s (s + c))], some [ci b.n, .bsa (H.length + 5) 1 1]], V)) (fun _ => True) ?_ ?_
  · refine SWp.seq (Wp.s ?_)
    simp -implicitDefEqProofs [go_sem]
    refine SWp.block ?_
    refine SWp.loop (α := Nat) (fun i => ([(2, cb true), (4, .ptr (H.length + 1) 0), (6, .ptr (H.length + 2) 0), (8, .ptr (H.length + 6) 0), (9, ci i)], H ++ [some (bmC b), some [ci s, ci c], some [ci 0, .v (.slice none 0 0)], some (bmC b), some [ci b.n, .bsa (H.length + 5) 1 1], some [wv (b.w ||| maskN s i)], some [ci b.n, .bsa (H.length + 5) 1 1]], V)) (fun i => s ≤ i ∧ i ≤ s + c) (fun i => s + c - i) s ⟨Nat.le_refl _, by omega⟩ (Sh.forget (by simp [go_sem]) (by simp [maskN_self]) rfl) ?_
    rintro i ⟨hi, hi2⟩
    dsimp only
    have hm := mask_step (w := b.w) hi
    have hwl : b.w ||| maskN s i < 18446744073709551616 := pow_lt64 (k := 63) (Nat.or_lt_two_pow (Nat.lt_of_lt_of_le hb.lt (Nat.pow_le_pow_right (by decide) b2)) (Nat.lt_of_lt_of_le (maskN_lt s i) (Nat.pow_le_pow_right (by decide) (by omega)))) (by decide)
    obtain ⟨y, hy⟩ : ∃ y, y = b.w ||| maskN s i := ⟨_, rfl⟩
    rw [← hy] at hm hwl ⊢
    refine SWp.seq (SWp.seq (Wp.s ?_))
    simp -implicitDefEqProofs [go_sem, wsc]
    refine Wp.s ?_
    simp -implicitDefEqProofs [go_sem]
    refine ⟨fun h2 => ?_, fun h2 => ?_⟩
    case refine_2 =>
      obtain rfl : i = s + c := by omega
      rw [hy]
      exact Sh.forget (by simp [go_sem]) rfl rfl
    refine SWp.seq (SWp.block (SWp.seq (Wp.s ?_)))
    simp -implicitDefEqProofs [go_sem]
    have hi64 : i < 64 := by omega
    have w0 : IntKind.i64.wrap (0 : Int) = 0 := rfl
    have w3 : IntKind.u64.wrap (i : Int) = i := wrap64 (by omega)
    have s1 : shl .u64 (1 : Int) (i : Int) = ((2 ^ i : Nat) : Int) := by
      have := shl64 1 i (by omega) (hp i hi64)
      rwa [Nat.one_mul] at this
    have s2 : bitop .or .u64 (y : Int) ((2 ^ i : Nat) : Int) = ((y ||| 2 ^ i : Nat) : Int) := or64 hwl (by have := hp i hi64; rwa [Nat.one_mul] at this)
    rw [hm] at s2
    generalize 2 ^ i = z at s1 s2
    refine SWp.condT rfl ?_
    refine SWp.drawnT [H.length + 6] [16] (.s 0 .pl <| .s 1 .ld <| .s 2 .pl <| .s 3 .pl <| .s 4 .pl <| .s 5 .pl <| .s 6 .pl <| .s 7 .pl <| .s 8 .pl <| .s 9 .pl <| .s 10 .pl <| .s 11 .pl <| .s 12 .pl <| .s 13 .pl <| .s 14 .pl <| .s 15 .pl <| .s 16 .st <| .n) (by kernel_rfl) (by kernel_rfl) ?_
    simp -implicitDefEqProofs [go_sem, t64 hi64, d64 hi64, w0, w3, wv_eq, s1, s2]
    refine ⟨Kp_one _ _ _ 6 rfl, ?_⟩
    refine Wp.s ?_
    simp -implicitDefEqProofs [go_sem]
    refine ⟨i + 1, ⟨by omega, by omega⟩, by omega, Sh.forget ?_ rfl rfl⟩
    simp [go_sem, wrap_succ (show i ≤ 1000000000 by omega)]
  rintro _ -
  dsimp only
  refine SWp.seq (Wp.s ?_)
  simp -implicitDefEqProofs [go_sem]
  refine Wp.s ?_
  simp -implicitDefEqProofs [go_sem]
  refine Fin.frozY (b := H.length + 5) (cs := [wv (b.w ||| maskN s (s + c))]) (r1 := .tup [.agg [ci b.n, .bsl (H.length + 5) 0 1 1], er 0]) (r2 := .tup [.agg (bmC (setB b s c)), er 0]) ⟨rfl, rfl, rfl⟩ (.tup (.cons (.agg (.cons (.refl _) (.cons (.bsa _ _ _) .nil))) (.cons (.refl _) .nil))) (hget _ _ 5) (.tup (.cons (.agg (.cons (.refl _) (.cons (.bsl 0 1 1 (by simp)) .nil))) (.cons (.refl _) .nil))) (by omega) (by simp [go_sem]) hokH (by simp) (by simp)
theorem rbSet_cc (H : Hp) (V : List Nat) (b : Bm) (s c : Nat) (hb : BmOk b) (h : s + c ≤ b.n) : CC Tryz.prog 104 [.agg (bmC b), .agg [ci s, ci c]] H V (Pu (.tup [.agg (bmC (setB b s c)), er 0]) H V) := by
  refine CC.of_swp Tryz.func104 rfl (by kernel_rfl) (by rw [Tryz.ntmps104]; exact len_le _ _ rfl) fun hok hokH => ?_
  clear hok
  refine SWp.seq (Wp.s ?_)
  simp -implicitDefEqProofs [go_sem, args0]
  refine SWp.seq (Wp.s ?_)
  simp -implicitDefEqProofs [go_sem]
  refine CC.mono (rbChange_cc _ _ b s c hb h) ?_
  rintro _ _ _ ⟨rfl, rfl, rfl⟩
  simp -implicitDefEqProofs [go_sem]
  refine Wp.s ?_
  simp -implicitDefEqProofs [go_sem]
  exact Fin.pu (.refl _) (by simp [go_sem]) hokH (by simp) (by simp)
theorem okE_bms1 (jb jv : Nat) (l : List Bm) (b : Bm) : okE jb jv (l.map bmC ++ [bmC b]) = True := by
  rw [show l.map bmC ++ [bmC b] = (l ++ [b]).map bmC by simp]; exact eq_true (okE_bms ..)
theorem rbCopyP_cc (H : Hp) (V : List Nat) (b : Bm) : CC Tryz.prog 103 [.agg (bmC b)] H V (Pu (.agg (bmC b)) H V) := by
  refine CC.of_swp Tryz.func103 rfl (by kernel_rfl) (by rw [Tryz.ntmps103]; exact len_le _ _ rfl) fun hok hokH => ?_
  clear hok
  refine SWp.seq (Wp.s ?_)
  simp -implicitDefEqProofs [go_sem, args0]
  refine SWp.seq (SWp.drawnB [] [7] [] (.s 0 .pl <| .s 1 .pl <| .s 2 .pl <| .s 3 .pl <| .s 4 .pl <| .b 5 <| .s 6 .pl <| .s 7 .st <| .n) (by kernel_rfl) (by kernel_rfl) ?_)
  simp -implicitDefEqProofs [go_sem]
  refine appB.mkT slTy108 slTy108 (by decide) (by simp) (by simp) ?_
  simp -implicitDefEqProofs [go_sem]
  refine Wp.s ?_
  simp -implicitDefEqProofs [go_sem]
  refine Fin.frozY (b := H.length + 2) (cs := [wv b.w]) (r1 := .agg [ci b.n, .bsl (H.length + 2) 0 1 1]) (r2 := .agg (bmC b)) ⟨rfl, rfl, rfl⟩ (.agg (.cons (.refl _) (.cons (.bsa _ _ _) .nil))) (hget _ _ 2) (.agg (.cons (.refl _) (.cons (.bsl 0 1 1 (by simp)) .nil))) (by omega) (by simp [go_sem]) hokH (by simp) (by simp)
theorem clean43_cc (H : Hp) (V : List Nat) (z : List Nat) (hz : SzOkN z) : CC Tryz.prog 66 [.sl .sh 1 ((zI z).map ic)] H V (Pu (.sl .sh 2 ((cleanB z).map bmC)) H V) := by
  refine CC.of_swp Tryz.func66 rfl (by kernel_rfl) (by rw [Tryz.ntmps66]; exact len_le _ _ rfl) fun hok hokH => ?_
  clear hok
  have hz8 := hz.few
  refine SWp.seq (Wp.s ?_)
  simp -implicitDefEqProofs [go_sem, args0]
  refine SWp.seq (Wp.s ?_)
  simp -implicitDefEqProofs [go_sem]
  refine SWp.join (α := Nat) (fun k => ([(3, .sl (.own V.length k) 2 ((cleanB z).map bmC))], H, V ++ [k])) (fun _ => True) ?_ ?_
  · refine SWp.seq (Wp.s ?_)
    simp -implicitDefEqProofs [go_sem]
    refine SWp.block ?_
    refine SWp.loop (α := Nat × Nat) (fun u => ([(0, .sl .sh 1 ((zI z).map ic)), (3, .sl (.own V.length u.2) 2 ((cleanB (z.take u.1)).map bmC)), (4, ci u.1)], H, V ++ [u.2])) (fun u => u.1 ≤ z.length) (fun u => z.length - u.1) (0, 0) (Nat.zero_le _) (Sh.tokT (by simp [go_sem, cleanB]) rfl rfl) ?_
    rintro ⟨i, k⟩ hi
    dsimp only at hi ⊢
    refine SWp.seq (SWp.seq (Wp.s ?_))
    simp -implicitDefEqProofs [go_sem, zI_len]
    refine Wp.s ?_
    simp -implicitDefEqProofs [go_sem]
    refine ⟨fun h => ?_, fun h => ?_⟩
    case refine_2 =>
      obtain rfl : i = z.length := by omega
      rw [List.take_length]
      exact ⟨k, Sh.forget (by simp [go_sem]) rfl rfl⟩
    obtain ⟨z1, z2⟩ := hz.ok _ (List.getElem_mem h)
    have htk : (cleanB (z.take (i + 1))).map bmC = (cleanB (z.take i)).map bmC ++ [bmC ⟨z[i], 0⟩] := by rw [List.take_succ_eq_append_getElem h, cleanB, List.map_append, List.map_append]; rfl
    have hln : (cleanB (z.take i)).length = i := by rw [cleanB, List.length_map, List.length_take]; omega
    have hzv : (zI z)[i]'(by rw [zI_len]; exact h) = ((z[i] : Nat) : Int) := zI_get _ _ _
    refine SWp.seq (SWp.block (SWp.seq (Wp.s ?_)))
    simp -implicitDefEqProofs [go_sem, zI_len, h, hzv]
    refine CC.mono (rbNew_cc _ _ z[i] z1 z2) ?_
    rintro _ _ _ ⟨rfl, rfl, rfl⟩
    simp -implicitDefEqProofs [go_sem]
    refine Wp.s ?_
    simp -implicitDefEqProofs [go_sem]
    refine ⟨by omega, ?_⟩
    refine Wp.s ?_
    simp -implicitDefEqProofs [go_sem]
    refine ⟨i + 1, by omega, by omega, k + 1, ?_⟩
    rw [htk]
    refine Sh.trim0 ?_ (by simp [go_sem, okE_ints, okE_bms1]) hokH (by simp) (by simp) (by simp)
    simp [go_sem, wrap_succ (show i ≤ 1000000000 by omega)]
  rintro k -
  dsimp only
  refine SWp.seq (Wp.s ?_)
  simp -implicitDefEqProofs [go_sem]
  refine Wp.s ?_
  simp -implicitDefEqProofs [go_sem]
  exact Fin.pu (.sh _ _ _) (by simp [go_sem, okE_bms]) hokH (by simp) (by simp)
end Go.Proofs.YtpedbpbmnchllaaGreatDoor
namespace Go.Proofs.YtpedbpbmnchllaaGreatDoor
open Go.Proofs
theorem mW_okD {z : List Nat} {d : List Bm} {ws : List Wr} (hd : DirtyOk z d) (h : ∀ w ∈ ws, WOk z w) : DirtyOk z (mW d ws) := by
  induction ws using snoc_ind with
  | h0 => exact hd
  | h1 ws w ih =>
    rw [mW_snoc]
    have hw := h w (by simp)
    exact mkW_ok (ih fun x hx => h x (by simp [hx])) hw.v1 (hw.s1 hw.v1)
set_option maxRecDepth 8000 in
set_option maxHeartbeats 1600000 in
theorem mark43_cc (H : Hp) (V : List Nat) (l : List Bm) (ws : List Wr) (z : List Nat) (hz : SzOkN z) (hd : DirtyOk z l) (hw : ∀ w ∈ ws, WOk z w) (hl : ws.length ≤ 1000) : CC Tryz.prog 65 [.sl .sh 2 (l.map bmC), .sl .sh 3 (ws.map wrC)] H V (Pu (.sl .sh 2 ((mW l ws).map bmC)) H V) := by
  refine CC.of_swp Tryz.func65 rfl (by kernel_rfl) (by rw [Tryz.ntmps65]; exact len_le _ _ rfl) fun hok hokH => ?_
  clear hok
  have hz8 := hz.few
  have hz1 := hz.lo
  have hll := hd.len
  refine SWp.seq (Wp.s ?_)
  simp -implicitDefEqProofs [go_sem, args0]
  refine SWp.seq (Wp.s ?_)
  simp -implicitDefEqProofs [go_sem]
  refine SWp.join (α := CV × Hp) (fun x => ([(1, .sl .sh 3 (ws.map wrC)), (5, x.1)], H ++ x.2, V)) (fun x => OwA H.length l x.1 x.2) ?_ ?_
  · refine SWp.seq (Wp.s ?_)
    simp -implicitDefEqProofs [go_sem]
    refine SWp.block ?_
    refine SWp.loop (α := Nat × CV × Hp) (fun x => ([(0, .sl .sh 2 (l.map bmC)), (1, .sl .sh 3 (ws.map wrC)), (5, x.2.1), (6, ci x.1)], H ++ x.2.2, V)) (fun x => x.1 ≤ l.length ∧ OwA H.length (l.take x.1) x.2.1 x.2.2) (fun x => l.length - x.1) (0, .v (.slice none 0 0), []) ⟨Nat.zero_le _, .inl ⟨rfl, rfl⟩⟩ (Sh.forget (by simp [go_sem]) (by simp) rfl) ?_
    rintro ⟨i, cv, W⟩ ⟨hi, hc⟩
    dsimp only at hi hc ⊢
    refine SWp.seq (SWp.seq (Wp.s ?_))
    simp -implicitDefEqProofs [go_sem]
    refine Wp.s ?_
    simp -implicitDefEqProofs [go_sem]
    refine ⟨fun h => ?_, fun h => ?_⟩
    case refine_2 =>
      rw [List.take_of_length_le (by omega)] at hc
      exact ⟨cv, W, hc, Sh.forget (by simp [go_sem]) rfl rfl⟩
    have htk := List.take_succ_eq_append_getElem h
    rcases hc with ⟨rfl, hln⟩ | ⟨j, hne, rfl, hj⟩
    · refine SWp.seq (SWp.block (SWp.opx (pre := [_, _, _, _, _, _, _]) (post := [_]) rfl (by intro c e; cases e) ?_))
      simp -implicitDefEqProofs [go_sem, h]
      refine CC.mono (rbCopyP_cc _ _ l[i]) ?_
      rintro _ _ _ ⟨rfl, rfl, rfl⟩
      simp -implicitDefEqProofs [go_sem]
      refine ⟨_, _, _, appboxN (sz := 2) (tk := .ti) (ys := [bmC l[i]]) slTy30 slTy30 (by decide) rfl rfl (by simp) (by simp), ?_⟩
      simp -implicitDefEqProofs [go_sem]
      refine Wp.s ?_
      simp -implicitDefEqProofs [go_sem]
      refine ⟨i + 1, _, W ++ [some (bmC l[i])], ⟨by omega, .inr ⟨W.length, ?_, rfl, ?_⟩⟩, by omega, Sh.forget ?_ ?_ rfl⟩
      · rw [htk]; exact List.append_ne_nil_of_right_ne_nil _ (by simp)
      · rw [htk, hln, List.nil_append, List.getElem?_append_right (by omega), Nat.sub_self]; simp [bmF]
      · have hone : (l.take (i + 1)).length = 1 := by rw [htk, hln]; rfl
        simp only [hone]
        simp [go_sem, wrap_succ (show i ≤ 1000000000 by omega)]
      · simp
    · have hjl := (List.getElem?_eq_some_iff.1 hj).1
      have hj3 : (H ++ W)[H.length + j]? = some (some (bmF (l.take i))) := by rw [hget]; exact hj
      have hbl := bmF_len (l.take i)
      rw [List.length_take] at hbl
      refine SWp.seq (SWp.block (Wp.s ?_))
      simp -implicitDefEqProofs [go_sem, h]
      refine CC.mono (rbCopyP_cc _ _ l[i]) ?_
      rintro _ _ _ ⟨rfl, rfl, rfl⟩
      simp -implicitDefEqProofs [go_sem, hbx_of hj, hbx_of hj3, hbl]
      refine ⟨by omega, ?_⟩
      refine Wp.s ?_
      simp -implicitDefEqProofs [go_sem]
      refine ⟨i + 1, _, W.set j none ++ [some (bmF (l.take (i + 1)))], ⟨by omega, .inr ⟨W.length, ?_, rfl, ?_⟩⟩, by omega, Sh.forget ?_ ?_ rfl⟩
      · rw [htk]; exact List.append_ne_nil_of_right_ne_nil _ (by simp)
      · rw [List.getElem?_append_right (by simp)]; simp
      · simp only [htk, List.length_append, List.length_singleton, List.length_take]
        simp [go_sem, wrap_succ (show i ≤ 1000000000 by omega)]
      · rw [htk, bmF_snoc]
  rintro ⟨cv, W⟩ hc
  dsimp only at hc ⊢
  rcases hc with ⟨-, hln⟩ | ⟨j, hne, rfl, hj⟩
  · rw [hln] at hll; simp at hll; omega
  refine SWp.join (α := Hp) (fun W => ([(5, .bsa (H.length + j) l.length 2)], H ++ W, V)) (fun W => W[j]? = some (some (bmF (mW l ws)))) ?_ ?_
  · refine SWp.seq (Wp.s ?_)
    simp -implicitDefEqProofs [go_sem]
    refine SWp.block ?_
    refine SWp.loop (α := Nat × Hp) (fun x => ([(1, .sl .sh 3 (ws.map wrC)), (5, .bsa (H.length + j) l.length 2), (7, ci x.1)], H ++ x.2, V)) (fun x => x.1 ≤ ws.length ∧ x.2[j]? = some (some (bmF (mW l (ws.take x.1))))) (fun x => ws.length - x.1) (0, W) ⟨Nat.zero_le _, by simpa [mW] using hj⟩ (Sh.forget (by simp [go_sem]) rfl rfl) ?_
    rintro ⟨k, W⟩ ⟨hk, hj⟩
    dsimp only at hk hj ⊢
    refine SWp.seq (SWp.seq (Wp.s ?_))
    simp -implicitDefEqProofs [go_sem]
    refine Wp.s ?_
    simp -implicitDefEqProofs [go_sem]
    refine ⟨fun h => ?_, fun h => ?_⟩
    case refine_2 =>
      rw [List.take_of_length_le (by omega)] at hj
      exact ⟨W, hj, Sh.forget (by simp [go_sem]) rfl rfl⟩
    have hwk := hw _ (List.getElem_mem h)
    have hD := mW_okD (ws := ws.take k) hd fun w hx => hw w (List.mem_of_mem_take hx)
    have hts : mW l (ws.take (k + 1)) = mkW (mW l (ws.take k)) ws[k].volume.toNat ws[k].start.toNat ws[k].data.length := by rw [List.take_succ_eq_append_getElem h, mW_snoc]
    generalize mW l (ws.take k) = D at hj hD hts
    obtain ⟨v, hv⟩ := Int.eq_ofNat_of_zero_le hwk.v0
    obtain ⟨s, hs⟩ := Int.eq_ofNat_of_zero_le hwk.s0
    have hwv := hwk.v1
    have hwd := hwk.d0
    have hws := hwk.s1
    rw [hv, hs, Int.toNat_natCast, Int.toNat_natCast] at hts
    rw [hv, Int.toNat_natCast] at hwv
    simp only [hv, hs, Int.toNat_natCast] at hws
    have hws := hws hwv
    have hDl := hD.len
    have hvD : v < D.length := by omega
    obtain ⟨b1, b2⟩ := hD.ok v hvD hwv
    have hwr : wrC ws[k] = [ci v, ci s, .sl .sh 8 (ws[k].data.map secC)] := by rw [wrC, hv, hs]
    have hdl := bmF_len D
    have hld := bmF_ld D v hvD
    have hg : D.getD v ⟨1, 0⟩ = D[v] := by rw [List.getD_eq_getElem?_getD, List.getElem?_eq_getElem hvD]; rfl
    have hst := bmF_set D v (setB D[v] s ws[k].data.length) hvD
    have hjl := (List.getElem?_eq_some_iff.1 hj).1
    have hj3 : (H ++ W)[H.length + j]? = some (some (bmF D)) := by rw [hget]; exact hj
    have hj4 : ∀ x : Hp, (W ++ x)[j]? = some (some (bmF D)) := fun x => by rw [List.getElem?_append_left hjl]; exact hj
    have hlD : l.length = D.length := by omega
    rw [hlD]
    refine SWp.seq (SWp.block (SWp.seq (Wp.s ?_)))
    simp -implicitDefEqProofs [go_sem, h, hwr]
    refine (SWp.drawnT [] [19] (.s 0 .pl <| .s 1 .pl <| .s 2 .pl <| .s 3 .pl <| .s 4 .pl <| .s 5 .pl <| .s 6 .pl <| .s 7 .pl <| .s 8 .pl <| .s 9 .pl <| .s 10 .pl <| .s 11 .pl <| .s 12 .pl <| .s 13 .pl <| .c 14 <| .s 15 .pl <| .s 16 .pl <| .s 17 .pl <| .s 18 .pl <| .s 19 .st <| .n) (by kernel_rfl) (by kernel_rfl) ?_)
    simp -implicitDefEqProofs [go_sem, h, hwr, hvD, hld, hdl, hbx_of (hj4 _), hbx_of hj3]
    refine ⟨by omega, .tup [.agg (bmC (setB D[v] s ws[k].data.length)), er 0], fun H V => rbSet_cc H V D[v] s ws[k].data.length b1 (by rw [b2]; exact hws), ?_⟩
    simp -implicitDefEqProofs [go_sem, hvD, hdl, hbx_of (hj4 _), hbx_of hj3]
    refine ⟨by omega, ?_⟩
    refine Wp.s ?_
    simp -implicitDefEqProofs [go_sem]
    have hmk : mkW D v s ws[k].data.length = D.set v (setB D[v] s ws[k].data.length) := by rw [mkW, hg]
    refine ⟨k + 1, (W ++ [some [ci v, ci s, .sl .sh 8 (ws[k].data.map secC)]]).set j (some (bmF (mkW D v s ws[k].data.length))), ⟨by omega, ?_⟩, by omega, Sh.forget ?_ ?_ rfl⟩
    · rw [hts]; exact List.getElem?_set_self (by simp; omega)
    · simp [go_sem, wrap_succ (show k ≤ 1000000000 by omega)]
    · rw [hst, hmk]
  rintro W hj
  dsimp only
  have hD := mW_okD hd hw
  have hDl := hD.len
  generalize mW l ws = D at hj hDl
  refine SWp.seq (Wp.s ?_)
  simp -implicitDefEqProofs [go_sem]
  refine Wp.s ?_
  simp -implicitDefEqProofs [go_sem]
  refine Fin.frozY (b := H.length + j) (cs := bmF D) (r1 := .bsl (H.length + j) 0 D.length 2) (r2 := .sl .sh 2 (D.map bmC)) ⟨rfl, rfl, rfl⟩ (by rw [show l.length = D.length by omega]; exact .bsa _ _ _) (by rw [hget]; exact hj) ?_ (by omega) (by simp [go_sem, okE_bms]) hokH (by simp) (by simp)
  have := Fy.bsl (b := H.length + j) (cs := bmF D) 0 D.length 2 (by rw [bmF_len]; omega)
  rw [List.drop_zero, chunks_bmF] at this
  exact this
end Go.Proofs.YtpedbpbmnchllaaGreatDoor
namespace Go.Proofs.YtpedbpbmnchllaaGreatDoor
open Go.Proofs
def szU (l : Img) (i : Nat) : List (List CV) := ((imgSz l).take i).map ic
theorem szU_len (l : Img) (i : Nat) (h : i ≤ l.length) : (szU l i).length = i := by rw [szU, List.length_map, List.length_take, imgSz_len]; omega
@[go_sem] theorem szU_0 (l : Img) : szU l 0 = [] := rfl
theorem szU_s {l : Img} {i : Nat} (h : i < l.length) : szU l (i + 1) = szU l i ++ [ic (l[i].length : Int)] := by
  rw [szU, List.take_succ_eq_append_getElem (by rw [imgSz_len]; exact h), List.map_append]; simp [szU, imgSz]
theorem rSizesOf_cc (H : Hp) (V : List Nat) (tk : Tk) (l : Img) (hl : l.length ≤ 1000000000) : CC Tryz.prog 62 [.sl tk 1 (l.map imE)] H V (Pu (.sl .sh 1 ((imgSz l).map ic)) H V) := by
  refine CC.of_swp Tryz.func62 rfl (by kernel_rfl) (by rw [Tryz.ntmps62]; exact len_le _ _ rfl) fun hok hokH => ?_
  clear hok
  refine SWp.seq (Wp.s ?_)
  simp -implicitDefEqProofs [go_sem, args0]
  refine SWp.seq (Wp.s ?_)
  simp -implicitDefEqProofs [go_sem]
  refine SWp.join (α := Unit) (fun _ => ([(3, .sl (.own V.length l.length) 1 ((imgSz l).map ic))], H, V ++ [l.length])) (fun _ => True) ?_ ?_
  · refine SWp.seq (Wp.s ?_)
    simp -implicitDefEqProofs [go_sem]
    refine SWp.block ?_
    refine SWp.loop (α := Nat) (fun i => ([(0, .sl tk 1 (l.map imE)), (3, .sl (.own V.length i) 1 (szU l i)), (4, ci i)], H, V ++ [i])) (fun i => i ≤ l.length) (fun i => l.length - i) 0 (Nat.zero_le _) (Sh.tokT (by simp [go_sem]) rfl rfl) ?_
    intro i hi
    dsimp only
    refine SWp.seq (SWp.seq (Wp.s ?_))
    simp -implicitDefEqProofs [go_sem]
    refine Wp.s ?_
    simp -implicitDefEqProofs [go_sem]
    refine ⟨fun h => ?_, fun h => ?_⟩
    case refine_2 =>
      obtain rfl : i = l.length := by omega
      exact Sh.forget (by simp [go_sem, szU, List.take_of_length_le]) rfl rfl
    refine SWp.seq (SWp.block (Wp.s ?_))
    simp -implicitDefEqProofs [go_sem, h, szU_len l i hi]
    refine ⟨by omega, ?_⟩
    have w5 : IntKind.i64.wrap ((i : Int) + 1) = (i : Int) + 1 := IntWalk.i64_in _ ⟨by omega, by omega⟩
    refine Wp.s ?_
    simp -implicitDefEqProofs [go_sem, w5]
    exact ⟨i + 1, by omega, by omega, Sh.forget (by simp [go_sem, szU_s h, ic]) rfl (by simp)⟩
  rintro _ -
  dsimp only
  refine SWp.seq (Wp.s ?_)
  simp -implicitDefEqProofs [go_sem]
  refine Wp.s ?_
  simp -implicitDefEqProofs [go_sem]
  exact Fin.pu (.sh _ _ _) (by simp [go_sem, okE_ints]) hokH (by simp) (by simp)
theorem rImChk_cc (H : Hp) (V : List Nat) (tk : Tk) (l : Img) (hl : l.length ≤ 1000000000) : CC Tryz.prog 101 [.sl tk 1 (l.map imE)] H V (Pu (er (sizesE (imgSz l))) H V) := by
  refine CC.of_swp Tryz.func101 rfl (by kernel_rfl) (by rw [Tryz.ntmps101]; exact len_le _ _ rfl) fun hok hokH => ?_
  clear hok
  refine SWp.seq (Wp.s ?_)
  simp -implicitDefEqProofs [go_sem, args0]
  refine SWp.seq (Wp.s ?_)
  simp -implicitDefEqProofs [go_sem]
  refine CC.mono (rSizesOf_cc _ _ tk l hl) ?_
  rintro _ _ _ ⟨rfl, rfl, rfl⟩
  simp -implicitDefEqProofs [go_sem]
  refine CC.mono (refSizes_cc _ _ .sh (imgSz l) (by rw [imgSz_len]; omega)) ?_
  rintro _ _ _ ⟨rfl, rfl, rfl⟩
  simp -implicitDefEqProofs [go_sem]
  refine Wp.s ?_
  simp -implicitDefEqProofs [go_sem]
  exact Fin.er rfl hokH (by simp) (by simp)
theorem rFits_cc (H : Hp) (V : List Nat) (tk : Tk) (l : Img) (w : Wr) (hl : l.length ≤ 1000000000) (hw : w.data.length ≤ 1000000000) : CC Tryz.prog 100 [.sl tk 1 (l.map imE), .agg (wrC w)] H V (Pu (er (fitsI l w)) H V) := by
  refine CC.of_swp Tryz.func100 rfl (by kernel_rfl) (by rw [Tryz.ntmps100]; exact len_le _ _ rfl) fun hok hokH => ?_
  clear hok
  refine SWp.seq (Wp.s ?_)
  simp -implicitDefEqProofs [go_sem, args0]
  refine SWp.seq (SWp.seq (Wp.s ?_))
  simp -implicitDefEqProofs [go_sem]
  refine CC.mono (rImChk_cc _ _ tk l hl) ?_
  rintro _ _ _ ⟨rfl, rfl, rfl⟩
  simp -implicitDefEqProofs [go_sem]
  refine SWp.seq (Wp.s ?_)
  by_cases h0 : sizesE (imgSz l) = 0
  case neg =>
    simp -implicitDefEqProofs [go_sem, h0]
    refine Wp.s ?_
    simp -implicitDefEqProofs [go_sem]
    exact Fin.er (by rw [fitsI, if_pos h0]) hokH (by simp) (by simp)
  simp -implicitDefEqProofs [go_sem, h0]
  refine Wp.s ?_
  simp -implicitDefEqProofs [go_sem]
  refine SWp.seq (SWp.drawnT [] [] (.s 0 .pl <| .s 2 .pl <| .s 1 .pl <| .s 3 .pl <| .s 4 .pl <| .n) (by kernel_rfl) (by kernel_rfl) ?_)
  simp -implicitDefEqProofs [go_sem]
  refine CC.mono (rSizesOf_cc _ _ tk l hl) ?_
  rintro _ _ _ ⟨rfl, rfl, rfl⟩
  simp -implicitDefEqProofs [go_sem]
  refine CC.mono (refFits_cc _ _ .sh (imgSz l) w (by rw [imgSz_len]; omega) (fun n hn => (sizesE_0 h0).2.2 n hn) hw) ?_
  rintro _ _ _ ⟨rfl, rfl, rfl⟩
  simp -implicitDefEqProofs [go_sem]
  refine Wp.s ?_
  simp -implicitDefEqProofs [go_sem]
  exact Fin.er (by rw [fitsI, if_neg (by simp [h0])]) hokH (by simp) (by simp)
end Go.Proofs.YtpedbpbmnchllaaGreatDoor
namespace Go.Proofs.YtpedbpbmnchllaaGreatDoor
open Go.Proofs
end Go.Proofs.YtpedbpbmnchllaaGreatDoor
namespace Go.Proofs.YtpedbpbmnchllaaGreatDoor
open Go.Proofs
def dfN (a b : List Sec) (n : Nat) : List Nat := (List.range n).filter fun i => decide (¬ a.getD i sec0 = b.getD i sec0)
theorem dfN_eq {a b : List Sec} {n : Nat} (h : a.getD n sec0 = b.getD n sec0) : dfN a b (n + 1) = dfN a b n := by
  rw [dfN, List.range_succ, List.filter_append, List.filter_cons_of_neg (by simp only [h]; decide)]; simp [dfN]
theorem dfN_ne {a b : List Sec} {n : Nat} (h : ¬ a.getD n sec0 = b.getD n sec0) : dfN a b (n + 1) = dfN a b n ++ [n] := by
  rw [dfN, List.range_succ, List.filter_append, ← dfN]
  congr 1
  exact List.filter_eq_self.2 fun x hx => by obtain rfl := List.mem_singleton.1 hx; exact decide_eq_true h
theorem dfN_lt {a b : List Sec} {n : Nat} : ∀ x ∈ dfN a b n, x < n := fun x hx => List.mem_range.1 (List.mem_filter.1 hx).1
theorem dfN_len (a b : List Sec) (n : Nat) : (dfN a b n).length ≤ n := by
  have := List.length_filter_le (fun i => decide (¬ a.getD i sec0 = b.getD i sec0)) (List.range n)
  rwa [List.length_range] at this
theorem imDif_cc (H : Hp) (V : List Nat) (a b : List Sec) : CC Tryz.prog 138 [secsV a, secsV b] H V (fun r H' V' => r = .fn 150 [.ptr H.length 0, .ptr (H.length + 1) 0] ∧ H' = H ++ [some [secsV a], some [secsV b]] ∧ V = V') := by
  refine CC.of_swp Tryz.func138 rfl (by kernel_rfl) (by rw [Tryz.ntmps138]; exact len_le _ _ rfl) fun hok hokH => ?_
  refine SWp.seq (Wp.s ?_)
  simp -implicitDefEqProofs [go_sem, args0]
  refine Wp.s ?_
  simp -implicitDefEqProofs [go_sem]
  refine Fin.cut (H.length + 2) V.length ⟨rfl, rfl, rfl⟩ (by omega) (Nat.le_refl _) (List.take_of_length_le (by simp)) (List.take_of_length_le (Nat.le_refl _)) (.refl _) (by simp [go_sem]) ?_
  intro b' cs hb
  rw [List.getElem?_append] at hb
  split at hb
  · exact okL_mono (by omega) (Nat.le_refl _) (hokH b' cs hb)
  · exact okH_get (i := H.length + 2) (j := V.length) (L := [some [secsV a], some [secsV b]]) (by simp [go_sem, secsV, okL, okV, okTk, okE_secs]) _ _ hb
theorem imDif1_cc (H : Hp) (V : List Nat) (L b1 b2 : Nat) (a b : List Sec) (hab : a.length = b.length) (hl : a.length ≤ 4096) (I : Nat → Hp → List Nat → Prop) (h0 : I 0 H V)
    (hI : ∀ i H V, I i H V → H[b1]? = some (some [secsV a]) ∧ H[b2]? = some (some [secsV b]))
    (hs : ∀ i, i < a.length → a.getD i sec0 = b.getD i sec0 → ∀ H V, I i H V → I (i + 1) H V)
    (hy : ∀ i, i < a.length → ¬ a.getD i sec0 = b.getD i sec0 → ∀ H V, I i H V → YC Tryz.prog L [ci i] H V (fun r H' V' => r = .v (.bool true) ∧ I (i + 1) H' V')) :
    CC Tryz.prog 150 [.yl L, .ptr b1 0, .ptr b2 0] H V (fun _ H' V' => I a.length H' V') := by
  refine CC.of_swp Tryz.func150 rfl (by kernel_rfl) (by rw [Tryz.ntmps150]; exact len_le _ _ rfl) fun hok hokH => ?_
  clear hok
  obtain ⟨g1, g2⟩ := hI _ _ _ h0
  refine SWp.seq (Wp.s ?_)
  simp -implicitDefEqProofs [go_sem, args0, hbx_of g1]
  refine SWp.block ?_
  refine SWp.loop (α := Nat × Hp × List Nat) (fun x => ([(0, .yl L), (1, .ptr b1 0), (2, .ptr b2 0), (6, ci a.length), (7, ci x.1)], x.2.1, x.2.2)) (fun x => x.1 ≤ a.length ∧ I x.1 x.2.1 x.2.2) (fun x => a.length - x.1) (0, H, V) ⟨by omega, h0⟩ (Sh.forget (by simp [go_sem]) rfl rfl) ?_
  rintro ⟨i, H1, V1⟩ ⟨hi, hi1⟩
  dsimp only at hi hi1 ⊢
  obtain ⟨g1, g2⟩ := hI _ _ _ hi1
  refine SWp.seq (Wp.s ?_)
  simp -implicitDefEqProofs [go_sem]
  refine SWp.seq (Wp.s ?_)
  simp -implicitDefEqProofs [go_sem]
  refine ⟨fun h => ?_, fun h => ?_⟩
  case refine_2 =>
    obtain rfl : i = a.length := by omega
    exact Fin.self hi1
  have h2 : i < b.length := by omega
  have ea : a.getD i sec0 = a[i] := by rw [List.getD_eq_getElem?_getD, List.getElem?_eq_getElem h]; rfl
  have eb : b.getD i sec0 = b[i] := by rw [List.getD_eq_getElem?_getD, List.getElem?_eq_getElem h2]; rfl
  refine SWp.seq (SWp.block (SWp.seq (Wp.s ?_)))
  simp -implicitDefEqProofs [go_sem]
  refine SWp.seq (SWp.drawnT [b1, b2] [12] (.s 0 .ld <| .s 1 .pl <| .s 2 .pl <| .s 3 .ld <| .s 4 .ld <| .s 5 .pl <| .s 6 .pl <| .s 7 .ld <| .s 8 .pl <| .s 9 .pl <| .s 10 .pl <| .s 11 .pl <| .s 12 .st <| .s 13 .pl <| .s 14 .pl <| .n) (by kernel_rfl) (by kernel_rfl) ?_)
  simp -implicitDefEqProofs [go_sem, hbx_of g1, hbx_of g2, h, h2]
  refine ⟨_, flatSec, fits_secW _, fits_secW _, fun he => ?_, fun he => ?_⟩
  · refine YC.mono (hy i h (fun e => he (by rw [← ea, ← eb, e])) _ _ hi1) ?_
    rintro _ H2 V2 ⟨rfl, hi2⟩
    obtain ⟨k1, k2⟩ := hI _ _ _ hi2
    simp -implicitDefEqProofs [go_sem]
    refine ⟨Kp.keep fun b hb => ?_, ?_⟩
    · rcases List.mem_cons.1 hb with rfl | hb
      · rw [g1, k1]
      · obtain rfl : b = b2 := by simpa using hb
        rw [g2, k2]
    refine Wp.s ?_
    simp -implicitDefEqProofs [go_sem]
    refine Wp.s ?_
    simp -implicitDefEqProofs [go_sem]
    refine ⟨i + 1, H2, V2, ⟨by omega, hi2⟩, by omega, Sh.forget ?_ rfl rfl⟩
    simp [go_sem, wrap_succ (show i ≤ 1000000000 by omega)]
  · have hi2 := hs i h (by rw [ea, eb]; exact secC_inj he) _ _ hi1
    refine Wp.s ?_
    simp -implicitDefEqProofs [go_sem]
    refine Wp.s ?_
    simp -implicitDefEqProofs [go_sem]
    refine ⟨i + 1, H1, V1, ⟨by omega, hi2⟩, by omega, Sh.forget ?_ rfl rfl⟩
    simp [go_sem, wrap_succ (show i ≤ 1000000000 by omega)]
end Go.Proofs.YtpedbpbmnchllaaGreatDoor
