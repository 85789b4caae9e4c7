import Derived.Test.YthakkopnoeinmaaA5
import Derived.Test.YthakkopnoeinmaaA24
import Derived.Test.YthakkopnoeinmaaA13
set_option linter.unusedSimpArgs false
set_option linter.unusedVariables false
namespace Go.Proofs.Ythakkopnoeinmaa
variable {P : Program}
/-- An operation that leaves c, with the boxes and tokens behind it. -/
def OpX (P : Program) (o : Oper) (ev : Operand → CV) (H : Hp) (V : List Nat) (c : CV) (H' : Hp) (V' : List Nat) : Prop :=
  ∀ (m : Gh) (w : World) (a : Act), Inv m w H V → (∀ x, RelV m w V (ev x) (a.eval x)) →
    ∃ u w' m', (execOp a.eval o).run P w = .ok (.value u) w' ∧ Inv m' w' H' V' ∧ RelV m' w' V' c u ∧ Ext m w V m' w' V'
section
variable {n nb nv id : Nat} {Q : Exit → Tm → Hp → List Nat → Prop} {T : Tm} {H : Hp} {V : List Nat}
/-- A region with such an operation. -/
theorem SWp.opx {pre post : List Oper} {o : Oper} (hg : o.guard = none)
    (h : crunS P n ((pre ++ o :: post).map (·.dst)) pre T H V fun T H V => dOk o.dst n ∧ ∃ c H' V', OpX P o (evT T) H V c H' V' ∧ contL P n ((pre ++ o :: post).map (·.dst)) o.dst post T (Q .normal) c H' V') :
    SWp P n nb nv (.region id (pre ++ o :: post).toArray false) Q T H V := by
  intro D m w a m0 w0 V0 h1 h2 h3 hx hs
  generalize hops : pre ++ o :: post = ops at h ⊢
  rw [crunS, ← crun_lite] at h
  refine wp_region_list ?_
  have e : ops.toArray.toList = pre ++ (o :: post) := by rw [hops]
  rw [e]
  refine crun_soundR (P := P) (Q := fun e a' w' => ∃ T' H' V' m', Q e T' H' V' ∧ St D n m' w' a' T' H' V' ∧ Ext m0 w0 V0 m' w' V') pre hs h fun T1 H1 V1 a1 w1 m1 ⟨hd, c, H', V', hk, hq⟩ s1 x1 => ?_
  unfold wpList
  rw [if_pos (by simp [Region.wanted, hg])]
  refine .inl ?_
  obtain ⟨u, w', m', q1, q2, q3, q4⟩ := hk m1 w1 a1 s1.inv (fun x => ev_rel s1.tm x)
  unfold Oper.wp
  rw [q1]
  have hq : crunL P n (ops.map (·.dst)) post (tput o.dst c T1) H' V' (Q .normal) := hq
  rw [← crun_lite] at hq
  have hst : St D n m' w' (a1.put o.dst u) (tput o.dst c T1) H' V' := ⟨q2, (RelT.mono q4 s1.tm).put q3 (by rw [s1.size]; exact hd), by rw [put_size]; exact s1.size, by rw [put_defers]; exact s1.df⟩
  exact crun_sound (P := P) (Q := fun e a' w' => ∃ T' H' V' m', Q e T' H' V' ∧ St D n m' w' a' T' H' V' ∧ Ext m0 w0 V0 m' w' V') post hst hq fun T' H' V' a' w' m' k1 k2 k3 => ⟨T', H', V', m', k1, k2, (hx.trans x1).trans (q4.trans k3)⟩
end
/-- A new box, of which only the beginning matters. -/
theorem step_boxP {m : Gh} {w w' : World} {H : List (Option (List CV))} {V : List Nat} {us : Array Value} {vs : List Value} {e : TypeId} {cs : List CV} (hvs : vs.length ≤ us.size) (hpre : ∀ j, j < vs.length → us[j]? = vs[j]?) (hi : Inv m w H V) (hp : Pushed w w' (.cells us e)) (hc : RelL m w V cs vs) (h1 : ∀ u ∈ vs, u.oneCell' = true) :
    let m' : Gh := { m with box := m.box ++ [w.heap.size] }
    Inv m' w' (H ++ [some cs]) V ∧ Ext m w V m' w' V := by
  intro m'
  have hmb : ∀ b : Nat, m'.box[b]? = if b = m.box.length then some w.heap.size else m.box[b]? := fun b => by
    show (m.box ++ [w.heap.size])[b]? = _
    rw [List.getElem?_append]
    by_cases h : b < m.box.length
    · rw [if_pos h, if_neg (by omega)]
    · rw [if_neg h]
      by_cases h' : b = m.box.length
      · subst h'; simp
      · rw [if_neg h', List.getElem?_eq_none (by simp; omega), List.getElem?_eq_none (by omega)]
  have hx : Ext m w V m' w' V := by
    refine ⟨hp.os, hp.tape, hp.output, by rw [hp.size]; omega, fun k c e fr h => ⟨c, hp.some h, rfl⟩, fun k => Nat.le_refl _, fun k o ho => ?_, fun k hk _ _ => hp.old hk, fun b k h => ?_, fun b k h => ?_, fun _ _ h => .inl h,
      fun t v h => ⟨v, h, Nat.le_refl _, fun _ => ⟨rfl, fun k hk => rfl⟩⟩⟩
    · refine hp.cell ?_
      rcases Nat.lt_or_ge k w.heap.size with h | h
      · exact h
      · rw [hi.lim_new h] at ho; omega
    · have := (List.getElem?_eq_some_iff.1 h).1
      rw [hmb, if_neg (by omega)]; exact h
    · rw [hmb] at h
      split at h
      · simp at h; exact .inr (by omega)
      · exact .inl h
  refine ⟨⟨by simp [m', hi.boxlen], hi.tiplen, fun k hk => ?_, fun t k h => ?_, fun b k h => ?_, fun b c h => ?_⟩, hx⟩
  · obtain ⟨c, e', fr, h1, h2⟩ := hi.limv k hk
    exact ⟨c, e', fr, hp.some h1, h2⟩
  · obtain ⟨⟨c, e', h1⟩, h2, h3⟩ := hi.tips t k h
    refine ⟨⟨c, e', hp.some h1⟩, fun b hb => ?_, h3⟩
    rw [hmb] at hb
    split at hb
    · simp at hb; have := hi.tip_lt h; omega
    · exact h2 b hb
  · rw [hmb] at h
    split at h
    · rename_i hb
      simp at h
      refine ⟨by rw [hp.size]; omega, fun b' h' => ?_⟩
      rw [hmb] at h'
      split at h'
      · omega
      · have := (hi.boxes b' k h').1; omega
    · obtain ⟨h1, h2⟩ := hi.boxes b k h
      refine ⟨by rw [hp.size]; omega, fun b' h' => ?_⟩
      rw [hmb] at h'
      split at h'
      · simp at h'; omega
      · exact h2 b' h'
  · by_cases hb : b = H.length
    · subst hb
      simp at h; subst h
      refine ⟨w.heap.size, us, e, by rw [hmb, if_pos hi.boxlen.symm], hp.new, by have := relL_length hc; omega, hi.lim_new (Nat.le_refl _), relC_mk fun j c hj => ?_⟩
      obtain ⟨u, q1, q2⟩ := relL_get hc j c hj
      refine ⟨u, ?_, RelV.mono hx _ _ q2, h1 u (List.mem_of_getElem? q1)⟩
      rw [cell_of_row w' _ _ us e (0, 0) hp.new, Nat.zero_add, hpre j (List.getElem?_eq_some_iff.1 q1).1]
      exact q1
    · rw [List.getElem?_append] at h
      split at h
      · obtain ⟨k, c', e', h1, h2, h3, h4, h5⟩ := hi.alive b c h
        have hk := (Array.getElem?_eq_some_iff.1 h2).1
        exact ⟨k, c', e', by rw [hmb, if_neg (by rw [hi.boxlen]; omega)]; exact h1, hp.some h2, h3, h4, relC_box hx (hp.old hk) h5⟩
      · rw [List.getElem?_eq_none (by simp; omega)] at h; cases h
/-- Appended to a tight slice or to nothing: the new block is a box. -/
theorem appbox {d : Option Tmp} {t tx ty : TypeId} {pos : String} {after : Array Edge} {x y : Operand} {ev : Operand → CV} {H : Hp} {V : List Nat} {sz szx : Nat} {e ex : TypeId} {tk : Tk} {ys : List (List CV)} (ht : slTy P t = some (e, sz)) (htx : slTy P tx = some (ex, szx))
    (hx : ev x = .sl .ti sz []) (hy : ev y = .sl tk sz ys) (hn : ys ≠ []) (hl : ys.length ≤ 1099511627776) :
    OpX P ⟨d, .call ⟨.builtin .append, #[x, y], #[t, tx]⟩, ty, pos, after, none⟩ ev H V (.bsl H.length 0 ys.length sz) (H ++ [some ys.flatten]) V := by
  intro m w a hi hev
  obtain ⟨i, z, hu, hinf, hsz, hpos, hb0, hb1, hz, hzs⟩ := slTy_some ht
  obtain ⟨ys', news, hK, hsrc, hnews, hlen⟩ := csrc_run (K := fun q => q = ys) htx hpos hi (hev y) (by rw [hy]; exact ⟨rfl, rfl⟩)
  subst hK
  subst hsz
  have hnl := hsrc.newsLen
  have hxr := hev x
  rw [hx, RelV] at hxr
  obtain ⟨base, cap, hxe, hcap, htk, _, _⟩ := hxr
  have hc0 : cap = 0 := htk
  subst hc0
  have hy0 : 0 < ys'.length := List.length_pos_iff.2 hn
  have ho : (Builtin.firstCells i.size 0 (.slice base 0 0)).run P w.drew = .ok (#[] : Array Value) w.drew := by
    cases base with
    | none => exact run_firstCells_none w.drew i.size 0 0 0
    | some a => exact run_firstCells_some w.drew i.size 0 a 0 0 [] (by simp) (by simp)
  have hfit : (0 + ys'.length) * i.bytes ≤ 140737488355328 := by
    have := Nat.mul_le_mul (show 0 + ys'.length ≤ 1099511627776 by omega) hb1
    omega
  have hg : 0 < 0 + ys'.length := by omega
  have hrun := run_append_grow_src (P := P) w t tx ty e i z hu hinf hz base 0 0 [] ho (a.eval y) ys'.length news hsrc hg (by omega) (growslice_fits hg hfit)
  have hp := Pushed.drewAlloc w (.cells (([] ++ news).toArray ++ Builtin.zeroCells z.cells (grownCap w (0 + ys'.length) 0 e - (0 + ys'.length))) e)
  have hcapg := grownCap_ge w (0 + ys'.length) 0 e
  obtain ⟨s1, s2⟩ := step_boxP (vs := news) (by simp) (fun j hj => by rw [Array.getElem?_append_left (by simpa using hj)]; simp) hi hp hnews hsrc.one
  refine ⟨Value.slice (some ⟨w.heap.size, 0, none⟩) (0 + ys'.length) (grownCap w (0 + ys'.length) 0 e), _, _, ?_, s1, ?_, s2⟩
  · simp [execOp, resolve, invoke, builtin, hxe, hrun]
  · rw [RelV]
    refine ⟨some ⟨w.heap.size, 0, none⟩, grownCap w (0 + ys'.length) 0 e, w.heap.size, congrArg (fun q => Value.slice (some ⟨w.heap.size, 0, none⟩) q _) (Nat.zero_add _), Nat.le_trans (by omega) hcapg, hpos, ?_, .inr rfl⟩
    show (m.box ++ [w.heap.size])[H.length]? = _
    rw [← hi.boxlen]; simp
theorem maxX {d : Option Tmp} {ty : TypeId} {pos : String} {after : Array Edge} {tys : Array TypeId} {x y : Operand} {ev : Operand → CV} {H : Hp} {V : List Nat} {k : IntKind} {a b : Int} (hx : ev x = .v (.int k a)) (hy : ev y = .v (.int k b)) :
    OpX P ⟨d, .call ⟨.builtin .max, #[x, y], tys⟩, ty, pos, after, none⟩ ev H V (.v (.int k (max a b))) H V := by
  intro m w A hi hev
  have h1 := hev x
  have h2 := hev y
  rw [hx, RelV] at h1
  rw [hy, RelV] at h2
  refine ⟨.int k (max a b), w, m, ?_, hi, by rw [RelV], Ext.refl _ _ _⟩
  generalize A.eval = ρ at h1 h2 ⊢
  have e : (if b > a then b else a) = max a b := by
    rw [Int.max_def]; split <;> split <;> omega
  simp [execOp, resolve, invoke, builtin, h1, h2, Builtin.max_, Builtin.max2, go_sem]
  simpa using e
end Go.Proofs.Ythakkopnoeinmaa
namespace Go.Proofs.Ythakkopnoeinmaa
/-! ### Errors that the sum detects -/
theorem bit1_zero {x : Reg} (h : bit1 x = 0#32) : x = 0#32 := by
  unfold bit1 at h
  by_cases hl : x.getLsbD 0 = true
  · rw [if_pos hl] at h
    have h1 : x >>> 1 = poly := by
      have := congrArg (· ^^^ poly) h
      simp only [BitVec.xor_assoc, BitVec.xor_self, BitVec.xor_zero, BitVec.zero_xor] at this
      exact this
    have h2 := congrArg (fun r : Reg => r.getLsbD 31) h1
    simp only [BitVec.getLsbD_ushiftRight] at h2
    rw [BitVec.getLsbD_of_ge _ _ (by omega)] at h2
    exact absurd h2 (by decide)
  · rw [if_neg hl] at h
    apply BitVec.eq_of_getLsbD_eq
    intro i hi
    rw [BitVec.getLsbD_zero]
    cases i with
    | zero => simpa using hl
    | succ j =>
      have h2 := congrArg (fun r : Reg => r.getLsbD j) h
      simp only [BitVec.getLsbD_ushiftRight, BitVec.getLsbD_zero] at h2
      rw [Nat.add_comm]; exact h2
theorem bits_zero : ∀ (n : Nat) {x : Reg}, bits n x = 0#32 → x = 0#32
  | 0, _, h => h
  | n + 1, _, h => bit1_zero (bits_zero n h)
theorem xor_zero_eq {a b : Reg} (h : a ^^^ b = 0#32) : a = b := by
  have := congrArg (· ^^^ b) h
  simpa [BitVec.xor_assoc] using this
theorem bits_inj {n : Nat} {a b : Reg} (h : bits n a = bits n b) : a = b := by
  refine xor_zero_eq (bits_zero n ?_)
  rw [bits_xor, h, BitVec.xor_self]
theorem regB_inj {r r' : Reg} {b : UInt8} (h : regB r b = regB r' b) : r = r' := by
  have := bits_inj h
  have := congrArg (· ^^^ BitVec.ofNat 32 b.toNat) this
  simpa [BitVec.xor_assoc] using this
theorem regB_byte {r : Reg} {b c : UInt8} (h : regB r b = regB r c) : b = c := by
  have h1 := bits_inj h
  have h2 := congrArg (r ^^^ ·) h1
  simp only [← BitVec.xor_assoc, BitVec.xor_self, BitVec.zero_xor] at h2
  have h3 := congrArg BitVec.toNat h2
  rw [BitVec.toNat_ofNat, BitVec.toNat_ofNat] at h3
  have hb := b.toNat_lt
  have hc := c.toNat_lt
  apply UInt8.toNat_inj.1
  omega
theorem crcR_inj : ∀ (l : List UInt8) {r r' : Reg}, crcR r l = crcR r' l → r = r'
  | [], _, _, h => h
  | _ :: l, _, _, h => regB_inj (crcR_inj l h)
theorem crcR_set : ∀ (l : List UInt8) (r : Reg) (i : Nat) (c : UInt8) (hi : i < l.length), crcR r (l.set i c) = crcR r l → c = l[i]
  | [], _, _, _, hi, _ => by simp at hi
  | _ :: l, _, 0, _, _, h => regB_byte (crcR_inj l h)
  | b :: l, r, i + 1, c, hi, h => crcR_set l (regB r b) i c (by simpa using hi) h
theorem crc_set {l : List UInt8} {i : Nat} {c : UInt8} (hi : i < l.length) (h : crc (l.set i c) = crc l) : c = l[i] := by
  unfold crc at h
  refine crcR_set l (~~~0#32) i c hi ?_
  have := congrArg (~~~ ·) h
  simpa using this
theorem crc4_inj {l m : List UInt8} (h : crc4 l = crc4 m) : crc l = crc m := by
  unfold crc4 at h
  simp only [List.cons.injEq, and_true] at h
  obtain ⟨h1, h2, h3, h4⟩ := h
  have e : ∀ n k : Nat, byt (n : Int) = byt (k : Int) → n % 256 = k % 256 := fun n k h => by
    have := congrArg (fun b : UInt8 => (b.toNat : Int)) h
    simp only [byt_toNat] at this
    omega
  have e1 := e _ _ h1
  have e2 := e _ _ h2
  have e3 := e _ _ h3
  have e4 := e _ _ h4
  have l1 := (crc l).isLt
  have l2 := (crc m).isLt
  apply BitVec.eq_of_toNat_eq
  omega
theorem detect {l : List UInt8} {i : Nat} {c : UInt8} (hl : l.length ≤ 65532) (hi : i < (sealed l).length) (hc : c ≠ (sealed l)[i]) : openP ((sealed l).set i c) = .error 9 := by
  have hn : (sealed l).length = l.length + 4 := sealed_len l
  unfold openP
  rw [if_neg (by rw [List.length_set]; omega), if_neg (by rw [List.length_set]; omega), if_neg]
  rw [List.length_set, hn, Nat.add_sub_cancel]
  intro h
  by_cases h1 : i < l.length
  · have e1 : ((sealed l).set i c) = l.set i c ++ crc4 l := by rw [sealed, List.set_append_left _ _ h1]
    rw [e1] at h
    have e2 : (l.set i c ++ crc4 l).take l.length = l.set i c := by
      rw [List.take_append, List.take_of_length_le (by simp)]; simp
    rw [e2, sealed] at h
    have h2 := List.append_cancel_left h
    have h3 := crc_set h1 (crc4_inj h2)
    refine hc ?_
    rw [h3]
    simp [sealed, h1]
  · have e1 : ((sealed l).set i c).take l.length = l := by
      rw [List.take_set_of_le (by omega), sealed, List.take_left]
    rw [e1] at h
    refine hc ?_
    have h2 := congrArg (fun q : List UInt8 => q[i]?) h
    simp only [List.getElem?_set_self hi] at h2
    rw [List.getElem?_eq_getElem hi] at h2
    exact (Option.some.inj h2).symm
theorem decPk_detect {p : Pk} {i : Nat} {c : UInt8} (hl : (encP p).length ≤ 65536) (hi : i < (encP p).length) (hc : c ≠ (encP p)[i]) : decPk ((encP p).set i c) = .error 9 := by
  have : (encP p).length = (bodyP p).length + 4 := sealed_len _
  unfold decPk encP
  rw [detect (by omega) hi hc]
theorem decMs_detect {m : Ms} {i : Nat} {c : UInt8} (hl : (encM m).length ≤ 65536) (hi : i < (encM m).length) (hc : c ≠ (encM m)[i]) : decMs ((encM m).set i c) = .error 9 := by
  have : (encM m).length = (bodyM m).length + 4 := sealed_len _
  unfold decMs encM
  rw [detect (by omega) hi hc]
theorem decPk_short {p : Pk} (h : checkP p = 0) (hs : p.sel.length ≤ 3000) (q : Pk) : decPk ((encP p).take ((encP p).length - 1)) ≠ .ok q := by
  intro hq
  obtain ⟨h1, h2, _, h4⟩ := decPk_ok hq
  have hn : (encP p).length = (bodyP p).length + 4 := sealed_len _
  have hm : (encP q).length = (bodyP q).length + 4 := sealed_len _
  have hlen := congrArg List.length h1
  rw [List.length_take, hm] at hlen
  have hb : (bodyP p).take (bodyP q).length = bodyP q := by
    have := congrArg (List.take (bodyP q).length) h1
    rw [List.take_take, Nat.min_eq_left (by omega), encP, sealed, List.take_append_of_le_length (by omega), encP, sealed, List.take_left] at this
    exact this
  have hk := checkP_ok h
  have hk2 := checkP_ok h2
  have r1 := pPk_rt hk (by omega) []
  have r2 := pPk_rt hk2 h4 ((bodyP p).drop (bodyP q).length)
  have e : bodyP q ++ (bodyP p).drop (bodyP q).length = bodyP p := by
    conv => lhs; lhs; rw [← hb]
    exact List.take_append_drop _ _
  rw [e] at r2
  rw [List.append_nil, r2] at r1
  have := congrArg (fun z : Except Nat (Pk × List UInt8) => match z with | .ok (_, r) => r.length | .error _ => 0) r1
  simp at this
  omega
end Go.Proofs.Ythakkopnoeinmaa
namespace Go.Proofs.Ythakkopnoeinmaa
open Go.Proofs
/-- Bytes, one cell each. -/
def fb (l : List UInt8) : List CV := l.map fun b => CV.v (.int .u8 (b.toNat : Int))
theorem fb_flat : ∀ l : List UInt8, (bs l).flatten = fb l
  | [] => rfl
  | b :: l => by rw [bs, List.map_cons, List.flatten_cons]; exact congrArg (_ :: ·) (fb_flat l)
@[go_sem, simp] theorem fb_len (l : List UInt8) : (fb l).length = l.length := by rw [fb, List.length_map]
@[go_sem] theorem fb_get (l : List UInt8) (i : Nat) (h : i < (fb l).length) : (fb l)[i] = CV.v (.int .u8 ((l[i]'(by simpa using h)).toNat : Int)) := by simp [fb]
theorem fb_set (l : List UInt8) (i : Nat) (c : UInt8) (h : i < l.length) : (fb l).take i ++ CV.v (.int .u8 (c.toNat : Int)) :: (fb l).drop (i + 1) = fb (l.set i c) := by
  rw [List.set_eq_take_append_cons_drop, if_pos h]
  simp [fb]
theorem fb_chunks : ∀ l : List UInt8, chunks 1 l.length (fb l) = bs l
  | [] => rfl
  | b :: l => by
    rw [List.length_cons, chunks]
    exact congrArg (_ :: ·) (fb_chunks l)
@[go_sem] theorem okL_fb (i j : Nat) : ∀ l : List UInt8, okL i j (fb l) = True
  | [] => by rw [fb, List.map_nil, okL]
  | b :: l => by rw [fb, List.map_cons, okL, okV]; exact (true_and _).trans (okL_fb i j l)
theorem clone_box_cc (H : Hp) (V : List Nat) (tk : Tk) (l : List UInt8) (h0 : l ≠ []) (hx : l.length ≤ 1000000000) : CC Try.prog 31 [.sl tk 1 (bs l)] H V (fun r H' V' => r = .bsl H.length 0 l.length 1 ∧ H' = H ++ [some (fb l)] ∧ V = V') := by
  have hne : bs l ≠ [] := fun e => h0 (by simpa [bs] using e)
  refine CC.of_swp Try.func31 rfl (by kernel_rfl) (by rw [Try.ntmps31]; exact len_le _ _ rfl) fun hok hokH => ?_
  clear hok
  refine SWp.seq (Wp.s ?_)
  simp -implicitDefEqProofs [go_sem, args0]
  refine SWp.seq (Wp.s ?_)
  simp -implicitDefEqProofs [go_sem]
  refine ⟨SWp.seq (SWp.opx (pre := [_, _]) (post := [_]) rfl ?_), fun e => absurd e hne⟩
  simp -implicitDefEqProofs [go_sem]
  refine ⟨_, _, _, appbox (sz := 1) (tk := tk) (ys := bs l) slTy23 slTy23 rfl rfl hne (by rw [bs_len]; omega), ?_⟩
  rw [fb_flat, bs_len]
  refine Wp.s ?_
  simp -implicitDefEqProofs [go_sem]
  exact Fin.self ⟨rfl, rfl, rfl⟩
theorem xor8u (a b : UInt8) : bitop .xor .u8 (a.toNat : Int) (b.toNat : Int) = ((a ^^^ b).toNat : Int) := by
  have e : ∀ x : UInt8, BitVec.ofInt 8 (x.toNat : Int) = x.toBitVec := fun x => by
    rw [BitVec.ofInt_natCast]
    apply BitVec.eq_of_toNat_eq
    rw [BitVec.toNat_ofNat]
    exact Nat.mod_eq_of_lt x.toNat_lt
  show IntKind.u8.wrap ((BitVec.ofInt 8 (a.toNat : Int) ^^^ BitVec.ofInt 8 (b.toNat : Int)).toNat : Int) = _
  rw [e, e, IntKind.wrap_u8]
  have := (a ^^^ b).toNat_lt
  have h2 : (a.toBitVec ^^^ b.toBitVec).toNat = (a ^^^ b).toNat := rfl
  rw [h2]; omega
theorem xor_ne {a b : UInt8} (h : b ≠ 0) : a ^^^ b ≠ a := fun e => h (by
  have := congrArg (a ^^^ ·) e
  simpa [← UInt8.xor_assoc] using this)
def byU (a : UInt8) : UInt8 := if a = 0 then 1 else a
theorem byU_ne (a : UInt8) : byU a ≠ 0 := by
  unfold byU; split
  · decide
  · assumption
theorem byU_max (a : UInt8) : max (a.toNat : Int) 1 = ((byU a).toNat : Int) := by
  unfold byU
  split
  · rename_i h; subst h; rfl
  · rename_i h
    have : a.toNat ≠ 0 := fun e => h (UInt8.toNat_inj.1 e)
    rw [Int.max_def]; split <;> omega
theorem tmod_nat (a n : Nat) : ((a : Int)).tmod (n : Int) = ((a % n : Nat) : Int) := by
  rw [Int.tmod_eq_emod_of_nonneg (by omega)]; rfl
end Go.Proofs.Ythakkopnoeinmaa
namespace Go.Proofs.Ythakkopnoeinmaa
open Go.Proofs
theorem take_box3 (H : Hp) (x y z : Option (List CV)) (L : Hp) : (H ++ x :: y :: z :: L).take (H.length + 3) = H ++ [x, y, z] := by
  rw [List.take_append, List.take_of_length_le (by omega)]; simp
theorem hokH3 {H : Hp} {V : List Nat} {p : Pk} {m : Ms} {a b : Int} (hokH : ∀ (b : Nat) cs, H[b]? = some (some cs) → okL H.length V.length cs) : ∀ (q : Nat) ds, (H ++ [some (pkC p), some (msC m), some [.v (.int .u8 a), .v (.int .u8 b)]])[q]? = some (some ds) → okL (H.length + 3) V.length ds := fun q ds h => by
  rcases Nat.lt_or_ge q H.length with hb | hb
  · rw [List.getElem?_append_left hb] at h; exact okL_mono (by omega) (Nat.le_refl _) (hokH q ds h)
  · rw [List.getElem?_append_right hb] at h
    match hq : q - H.length with
    | 0 => rw [hq] at h; simp at h; subst h; simp [go_sem]
    | 1 => rw [hq] at h; simp at h; subst h; simp [go_sem]
    | 2 => rw [hq] at h; simp at h; subst h; simp [go_sem]
    | n + 3 => rw [hq] at h; simp at h
set_option maxRecDepth 10000 in
theorem PacketDetects_cc (H : Hp) (V : List Nat) (p : Pk) (m : Ms) (a0 a1 : UInt8) : CC Try.prog 9 [.agg (pkC p), .agg (msC m), .agg [.v (.int .u8 (a0.toNat : Int)), .v (.int .u8 (a1.toNat : Int))]] H V (Pu (cb true) H V) := by
  refine CC.of_swp Try.func9 rfl (by kernel_rfl) (by rw [Try.ntmps9]; exact len_le _ _ rfl) fun hok hokH => ?_
  clear hok
  refine SWp.seq (Wp.s ?_)
  simp -implicitDefEqProofs [go_sem, args0]
  refine SWp.seq (Wp.s ?_)
  by_cases h1 : 300 < p.payload.length
  · simp -implicitDefEqProofs [go_sem, show (300 : Int) < p.payload.length by omega]
    refine CC.mono (awake_cc _ _) ?_
    rintro _ _ _ ⟨rfl, rfl, rfl⟩
    simp -implicitDefEqProofs [go_sem]
    exact Fin.bool rfl hokH (by simp) (by simp)

  by_cases h2 : 40 < p.sel.length
  · simp -implicitDefEqProofs [go_sem, show ¬ (300 : Int) < p.payload.length by omega, show (40 : Int) < p.sel.length by omega]
    refine CC.mono (awake_cc _ _) ?_
    rintro _ _ _ ⟨rfl, rfl, rfl⟩
    simp -implicitDefEqProofs [go_sem]
    exact Fin.bool rfl hokH (by simp) (by simp)

  by_cases h3 : 40 < m.values.length
  · simp -implicitDefEqProofs [go_sem, show ¬ (300 : Int) < p.payload.length by omega, show ¬ (40 : Int) < p.sel.length by omega, show (40 : Int) < m.values.length by omega]
    refine CC.mono (awake_cc _ _) ?_
    rintro _ _ _ ⟨rfl, rfl, rfl⟩
    simp -implicitDefEqProofs [go_sem]
    exact Fin.bool rfl hokH (by simp) (by simp)

  by_cases h4 : 300 < m.body.length
  · simp -implicitDefEqProofs [go_sem, show ¬ (300 : Int) < p.payload.length by omega, show ¬ (40 : Int) < p.sel.length by omega, show ¬ (40 : Int) < m.values.length by omega, show (300 : Int) < m.body.length by omega]
    refine CC.mono (awake_cc _ _) ?_
    rintro _ _ _ ⟨rfl, rfl, rfl⟩
    simp -implicitDefEqProofs [go_sem]
    exact Fin.bool rfl hokH (by simp) (by simp)

  simp -implicitDefEqProofs [go_sem, show ¬ (300 : Int) < p.payload.length by omega, show ¬ (40 : Int) < p.sel.length by omega, show ¬ (40 : Int) < m.values.length by omega, show ¬ (300 : Int) < m.body.length by omega]
  refine SWp.seq (SWp.opx (pre := [_, _]) (post := [_]) rfl ?_)
  simp -implicitDefEqProofs [go_sem]
  refine ⟨_, _, _, maxX rfl rfl, ?_⟩
  rw [byU_max]
  generalize hby : byU a1 = by_
  have hby0 : by_ ≠ 0 := hby ▸ byU_ne a1
  refine SWp.join (α := Unit) (fun _ => ([(4, .ptr (H.length + 1) 0), (5, .ptr (H.length + 2) 0), (7, .v (.int .u8 (by_.toNat : Int)))], H ++ [some (pkC p), some (msC m), some [.v (.int .u8 (a0.toNat : Int)), .v (.int .u8 (a1.toNat : Int))]], V)) (fun _ => True) ?_ ?_
  · refine SWp.seq (Wp.s ?_)
    simp -implicitDefEqProofs [go_sem]
    refine CC.mono (Encode_cc _ _ p (by omega)) ?_
    rintro _ _ _ ⟨rfl, rfl, rfl⟩
    by_cases hp : checkP p = 0
    case neg =>
      rw [encV_ne hp]
      simp -implicitDefEqProofs [go_sem]
      refine SWp.seq (Wp.s ?_)
      simp -implicitDefEqProofs [go_sem, hp]
      refine SWp.condF (by simp [go_sem, hp]) (Wp.s ?_)
      simp -implicitDefEqProofs [go_sem]
      exact Sh.forget (by simp [go_sem]) rfl rfl
    rw [hp, encV_0]
    have hbl := bodyP_len p
    simp -implicitDefEqProofs [go_sem]
    refine SWp.seq (Wp.s ?_)
    simp -implicitDefEqProofs [go_sem]
    refine SWp.condT (by simp [go_sem]) ?_
    have hn4 : (encP p).length = (bodyP p).length + 4 := sealed_len _
    have hB0 : encP p ≠ [] := fun e => by rw [e] at hn4; simp at hn4
    have hmod : a0.toNat % (encP p).length < (encP p).length := Nat.mod_lt _ (by omega)
    refine SWp.seq (Wp.s ?_)
    simp -implicitDefEqProofs [go_sem, show ¬ ((encP p).length : Int) < 4 by omega]
    refine SWp.seq (Wp.s ?_)
    simp -implicitDefEqProofs [go_sem]
    refine CC.mono (clone_box_cc _ _ _ _ hB0 (by omega)) ?_
    rintro _ _ _ ⟨rfl, rfl, rfl⟩
    simp -implicitDefEqProofs [go_sem]
    obtain ⟨j, hj, hjn⟩ : ∃ j : Nat, (a0.toNat : Int).tmod ((encP p).length : Int) = (j : Int) ∧ j < (encP p).length := ⟨_, tmod_nat _ _, hmod⟩
    obtain ⟨c, hc, hcn⟩ : ∃ c : UInt8, bitop .xor .u8 (((encP p)[j].toNat : Nat) : Int) (by_.toNat : Int) = (c.toNat : Int) ∧ c ≠ (encP p)[j] := ⟨_, xor8u _ _, xor_ne hby0⟩
    have hdet := decPk_detect (i := j) (c := c) (by omega) hjn hcn
    have hxl : ((encP p).set j c).length = (encP p).length := List.length_set
    refine SWp.seq (Wp.s ?_)
    simp -implicitDefEqProofs [go_sem, byte_wrap, hj, hjn, hB0, hc]
    rw [fb_set _ _ _ hjn]
    generalize (encP p).set j c = x at hdet hxl
    have hfy : FyL (H.length + 3) (fb x) [.bsl (H.length + 3) 0 (encP p).length 1] [.sl .sh 1 (bs x)] := by
      rw [← fb_chunks x, ← hxl]
      exact .cons (.bsl 0 _ 1 (by simp)) .nil
    refine ⟨by omega, ?_⟩
    refine SWp.seq (Wp.s ?_)
    simp -implicitDefEqProofs [go_sem]
    refine CC.mono (CC.let_go [.sl .sh 1 (bs x)] (H.length + 3) (fb x) (by rw [at_len_add]; rfl) hfy (DecPk_cc _ _ _ _ (by omega))) ?_
    rintro _ _ _ ⟨rfl, rfl, rfl⟩
    rw [hdet]
    simp -implicitDefEqProofs [go_sem, dvPk, pkZ]
    refine SWp.seq (Wp.s ?_)
    have hw1 : IntKind.i64.wrap (((encP p).length : Int) - 1) = ((encP p).length : Int) - 1 := IntWalk.i64_in _ ⟨by omega, by omega⟩
    have hn1 : (((encP p).length : Int) - 1).toNat = (encP p).length - 1 := by omega
    simp -implicitDefEqProofs [go_sem, hw1, hn1, show (1 : Int) ≤ (encP p).length by omega, show ((encP p).length : Int) - 1 ≤ (encP p).length by omega, show (0 : Int) ≤ ((encP p).length : Int) - 1 by omega]
    refine CC.mono (DecPk_cc _ _ _ _ (by rw [List.length_take]; omega)) ?_
    rintro _ _ _ ⟨rfl, rfl, rfl⟩
    have hsh := decPk_short hp (by omega)
    rcases hq : decPk ((encP p).take ((encP p).length - 1)) with k | q
    case ok => exact absurd hq (hsh q)
    have hk := decPk_ne0 hq
    simp -implicitDefEqProofs [go_sem, dvPk, pkZ]
    refine SWp.seq (Wp.s ?_)
    simp -implicitDefEqProofs [go_sem, hk]
    refine Wp.s ?_
    simp -implicitDefEqProofs [go_sem]
    exact Sh.cut (H.length + 3) V.length (by simp [go_sem]) (by omega) (Nat.le_refl _) (TOk.all (by simp [go_sem])) (hokH3 hokH) (take_box3 _ _ _ _ _) List.take_length


  · rintro _ -
    dsimp only
    refine SWp.join (α := Unit) (fun _ => ([], H ++ [some (pkC p), some (msC m), some [.v (.int .u8 (a0.toNat : Int)), .v (.int .u8 (a1.toNat : Int))]], V)) (fun _ => True) ?_ ?_
    · refine SWp.seq (Wp.s ?_)
      simp -implicitDefEqProofs [go_sem]
      refine CC.mono (EncodeMessage_cc _ _ m (by omega) (by omega)) ?_
      rintro _ _ _ ⟨rfl, rfl, rfl⟩
      by_cases hm : errM m = 0
      case neg =>
        rw [encV_ne hm]
        simp -implicitDefEqProofs [go_sem]
        refine SWp.seq (Wp.s ?_)
        simp -implicitDefEqProofs [go_sem, hm]
        refine SWp.condF (by simp [go_sem, hm]) (Wp.s ?_)
        simp -implicitDefEqProofs [go_sem]
        exact Sh.forget (by simp [go_sem]) rfl rfl
      rw [hm, encV_0]
      obtain ⟨hm1, hm2⟩ := errM_ok hm
      simp -implicitDefEqProofs [go_sem]
      refine SWp.seq (Wp.s ?_)
      simp -implicitDefEqProofs [go_sem]
      refine SWp.condT (by simp [go_sem]) ?_
      have hn4 : (encM m).length = (bodyM m).length + 4 := sealed_len _
      have hB0 : encM m ≠ [] := fun e => by rw [e] at hn4; simp at hn4
      have hmod : a0.toNat % (encM m).length < (encM m).length := Nat.mod_lt _ (by omega)
      refine SWp.seq (Wp.s ?_)
      simp -implicitDefEqProofs [go_sem, show ¬ ((encM m).length : Int) < 4 by omega]
      refine SWp.seq (Wp.s ?_)
      simp -implicitDefEqProofs [go_sem]
      refine CC.mono (clone_box_cc _ _ _ _ hB0 (by omega)) ?_
      rintro _ _ _ ⟨rfl, rfl, rfl⟩
      simp -implicitDefEqProofs [go_sem]
      obtain ⟨j, hj, hjn⟩ : ∃ j : Nat, (a0.toNat : Int).tmod ((encM m).length : Int) = (j : Int) ∧ j < (encM m).length := ⟨_, tmod_nat _ _, hmod⟩
      obtain ⟨c, hc, hcn⟩ : ∃ c : UInt8, bitop .xor .u8 (((encM m)[j].toNat : Nat) : Int) (by_.toNat : Int) = (c.toNat : Int) ∧ c ≠ (encM m)[j] := ⟨_, xor8u _ _, xor_ne hby0⟩
      have hdet := decMs_detect (i := j) (c := c) (by omega) hjn hcn
      have hxl : ((encM m).set j c).length = (encM m).length := List.length_set
      refine SWp.seq (Wp.s ?_)
      simp -implicitDefEqProofs [go_sem, byte_wrap, hj, hjn, hB0, hc]
      rw [fb_set _ _ _ hjn]
      generalize (encM m).set j c = x at hdet hxl
      have hfy : FyL (H.length + 3) (fb x) [.bsl (H.length + 3) 0 (encM m).length 1] [.sl .sh 1 (bs x)] := by
        rw [← fb_chunks x, ← hxl]
        exact .cons (.bsl 0 _ 1 (by simp)) .nil
      refine ⟨by omega, ?_⟩
      refine SWp.seq (Wp.s ?_)
      simp -implicitDefEqProofs [go_sem]
      refine CC.mono (CC.let_go [.sl .sh 1 (bs x)] (H.length + 3) (fb x) (by rw [at_len_add]; rfl) hfy (DecMs_cc _ _ _ _ (by omega))) ?_
      rintro _ _ _ ⟨rfl, rfl, rfl⟩
      rw [hdet]
      simp -implicitDefEqProofs [go_sem, dvMs, msZ]
      refine SWp.seq (Wp.s ?_)
      simp -implicitDefEqProofs [go_sem]
      refine Wp.s ?_
      simp -implicitDefEqProofs [go_sem]
      exact Sh.cut (H.length + 3) V.length (by simp [go_sem]) (by omega) (Nat.le_refl _) (TOk.all (by simp [go_sem])) (hokH3 hokH) (take_box3 _ _ _ _ _) List.take_length


    · rintro _ -
      dsimp only
      refine Wp.s ?_
      simp -implicitDefEqProofs [go_sem]
      refine CC.mono (awake_cc _ _) ?_
      rintro _ _ _ ⟨rfl, rfl, rfl⟩
      simp -implicitDefEqProofs [go_sem]
      exact Fin.bool rfl hokH (by simp) (by simp)

end Go.Proofs.Ythakkopnoeinmaa
namespace Go.Proofs.Ythakkopnoeinmaa
open Go.Proofs Go.ChangeShapes Go.WideShapes Go.ChangeAt Go.RowKit
theorem okWide_array {P : Program} {w : World} {r : Reach} {base : Nat} {t e : TypeId} {n : Nat} {v : Value} (ht : P.underlying t = some (.array n e)) (h : Value.okWide P w r base t v) : ∃ cs, v = .agg cs := by
  simp only [Value.okWide, ht] at h
  obtain ⟨cs, h1, _⟩ := h
  exact ⟨cs, h1⟩
end Go.Proofs.Ythakkopnoeinmaa
