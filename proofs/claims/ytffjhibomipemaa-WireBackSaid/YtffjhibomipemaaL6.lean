/-
  A PROGRAM LOGIC, PART 6: every operation runs as PART 3 says.
-/
import Derived.Test.YtffjhibomipemaaL5
namespace Go.Proofs.Ytffjhibomipemaa

section
variable {P : Program}

theorem wp_val {o : Oper} {a : Act} {w w' : World} {u : Value} {Kw : Act → World → Prop} {Q : Exit → Act → World → Prop} (hr : (execOp a.eval o).run P w = .ok (.value u) w') (h : Kw (a.put o.dst u) w') : o.wp P a w Kw Q := by
  unfold Oper.wp; rw [hr]; exact h
theorem wp_none {o : Oper} {a : Act} {w w' : World} {Kw : Act → World → Prop} {Q : Exit → Act → World → Prop} (hr : (execOp a.eval o).run P w = .ok .skip w') (h : Kw (a.put o.dst undef) w') : o.wp P a w Kw Q := by
  unfold Oper.wp; rw [hr]; exact h

variable {m : Gh} {w : World} {H : Hp} {V : List Nat}

theorem relL_map {ev : Operand → CV} {ρ : Operand → Value} (hev : ∀ x, RelV m w V (ev x) (ρ x)) : ∀ (l : List Operand), RelL m w V (l.map ev) (l.map ρ)
  | [] => by rw [List.map_nil, RelL]; rfl
  | x :: l => by rw [List.map_cons, RelL]; exact ⟨ρ x, l.map ρ, rfl, hev x, relL_map hev l⟩

theorem relL_vals : ∀ (zs : List Value), RelL m w V (zs.map CV.v) zs
  | [] => by rw [List.map_nil, RelL]
  | z :: zs => by rw [List.map_cons, RelL]; exact ⟨z, zs, rfl, by rw [RelV], relL_vals zs⟩

theorem zcTy_some {t : TypeId} {zs : List Value} (h : zcTy P t = some zs) : ∃ i z, P.info? t = some i ∧ i.zero = some z ∧ z.cells.toList = zs ∧ ∀ u ∈ zs, u.oneCell' = true := by
  unfold zcTy at h
  cases hi : P.info? t with
  | none => simp [hi] at h
  | some i =>
    cases hz : i.zero with
    | none => simp [hi, hz] at h
    | some z =>
      simp only [hi, hz, Option.bind_some, Option.ite_none_right_eq_some, Option.some.injEq] at h
      obtain ⟨h1, rfl⟩ := h
      exact ⟨i, z, rfl, hz, rfl, fun u hu => List.all_eq_true.1 h1 u hu⟩

/-- The values of integers of these kinds. -/
theorem fits_vals : ∀ {ks : List IntKind} {cs : List CV} {us : List Value}, fits ks cs → RelL m w V cs us → ∃ zs : List Int, zs.length = ks.length ∧ us = (ks.zip zs).map (fun p => Value.int p.1 p.2) ∧ cs = (ks.zip zs).map (fun p => CV.v (.int p.1 p.2))
  | [], cs, us, h, hr => by
    simp only [fits] at h; subst h
    rw [RelL] at hr; subst hr
    exact ⟨[], rfl, rfl, rfl⟩
  | k :: ks, cs, us, h, hr => by
    simp only [fits] at h
    obtain ⟨z, r, rfl, h⟩ := h
    rw [RelL] at hr
    obtain ⟨u, us', rfl, h1, h2⟩ := hr
    rw [RelV] at h1; subst h1
    obtain ⟨zs, g1, g2, g3⟩ := fits_vals h h2
    exact ⟨z :: zs, by simp [g1], by simp [g2], by simp [g3]⟩

theorem zip_inj : ∀ {ks : List IntKind} {zs zs' : List Int}, zs.length = ks.length → zs'.length = ks.length → (ks.zip zs).map (fun p => CV.v (.int p.1 p.2)) = (ks.zip zs').map (fun p => CV.v (.int p.1 p.2)) → zs = zs'
  | [], zs, zs', h, h', _ => by rw [List.length_eq_zero_iff.1 h, List.length_eq_zero_iff.1 h']
  | k :: ks, zs, zs', h, h', he => by
    cases zs with
    | nil => simp at h
    | cons z zs =>
      cases zs' with
      | nil => simp at h'
      | cons z' zs' =>
        simp only [List.zip_cons_cons, List.map_cons, List.cons.injEq, CV.v.injEq, Value.int.injEq, true_and] at he
        rw [he.1, zip_inj (by simpa using h) (by simpa using h') he.2]

theorem eqNeq_run {op : BinOp} {t : TypeId} {u u' : Value} {b : Bool} {K : CV → Prop} (h1 : binOp .eql t u u' = (Op.equal t u u').bind fun b => .pure (.bool b)) (h2 : binOp .neq t u u' = (Op.equal t u u').bind fun b => .pure (.bool !b))
    (he : (Op.equal t u u').run P w = .ok b w) (h : eqNeq op b K) : ∃ x, (binOp op t u u').run P w = .ok x w ∧ K (.v x) := by
  cases op <;> simp only [eqNeq] at h
  case eql => exact ⟨.bool b, by rw [h1, Sem.run_bind', he]; rfl, h⟩
  case neq => exact ⟨.bool !b, by rw [h2, Sem.run_bind', he]; rfl, h⟩

theorem eqGuard_plain (op : BinOp) (t : TypeId) (x y : Operand) (u u' : Value) (h1 : ∀ cs, u ≠ .agg cs) (h2 : u ≠ .nilIface) : (eqGuard op t x y u u').run P w = .ok () w := by
  unfold eqGuard
  cases op <;> (try simp) <;> cases u <;> first | rfl | (exact absurd rfl (h1 _)) | (exact absurd rfl h2) | (cases u' <;> rfl)

theorem equal_bool {t : TypeId} (h : P.underlying t = some .bool) (a b : Bool) : (Op.equal t (.bool a) (.bool b)).run P w = .ok (a == b) w := by
  have : ∀ d, (Op.equalIn (d + 1) t (.bool a) (.bool b)).run P w = .ok (a == b) w := fun d => by simp [Op.equalIn, run_underlying h]
  exact this 9999
theorem equal_nil {t e : TypeId} (h : P.underlying t = some (.slice e)) (base : Option Addr) (n c : Nat) : (Op.equal t (.slice base n c) (.slice none 0 0)).run P w = .ok base.isNone w := by
  have : ∀ d, (Op.equalIn (d + 1) t (.slice base n c) (.slice none 0 0)).run P w = .ok base.isNone w := fun d => by cases base <;> simp [Op.equalIn, run_underlying h]
  exact this 9999

theorem cbin_run {op : BinOp} {t : TypeId} {x y : CV} {ox oy : Operand} {u u' : Value} (hx : RelV m w V x u) (hy : RelV m w V y u') {K : CV → Prop} (h : cbin P op t x y K) :
    ∃ c r, ((do eqGuard op t ox oy u u'; binOp op t u u' : Sem Value)).run P w = .ok r w ∧ RelV m w V c r ∧ K c := by
  have fin : (∃ r, (binOp op t u u').run P w = .ok r w ∧ K (.v r)) → (eqGuard op t ox oy u u').run P w = .ok () w → ∃ c r, ((do eqGuard op t ox oy u u'; binOp op t u u' : Sem Value)).run P w = .ok r w ∧ RelV m w V c r ∧ K c :=
    fun ⟨r, h1, h2⟩ hg => ⟨.v r, r, by simp [hg, h1], by rw [RelV], h2⟩
  unfold cbin at h
  split at h
  · rw [RelV] at hx; rw [RelV] at hy; subst hx hy
    exact fin (ibin_run h.1 h.2) (eqGuard_plain _ _ _ _ _ _ (by simp) (by simp))
  · rw [RelV] at hx; rw [RelV] at hy; subst hx hy
    refine fin (eqNeq_run rfl rfl ?_ h.2) (eqGuard_plain _ _ _ _ _ _ (by simp) (by simp))
    exact equal_bool h.1 _ _
  · rw [RelV] at hx; rw [RelV] at hy; subst hx hy
    refine fin ?_ (eqGuard_plain _ _ _ _ _ _ (by simp) (by simp))
    cases op <;> simp only [eqNeq] at h
    case eql => exact ⟨_, by simp only [binOp, Op.stringOp]; rfl, h⟩
    case neq => exact ⟨_, by simp only [binOp, Op.stringOp]; rfl, h⟩
  · rename_i tk sz xs
    rw [RelV] at hx; rw [RelV] at hy
    obtain ⟨base, cap, rfl, h1, h2, h3, h4⟩ := hx
    subst hy
    obtain ⟨e, sz', ht⟩ := sl1 h.1
    obtain ⟨_, _, hu, _⟩ := slTy_some ht
    refine fin (eqNeq_run (b := base.isNone) rfl rfl ?_ (h.2 _ fun hb => ?_)) (eqGuard_plain _ _ _ _ _ _ (by simp) (by simp))
    · exact equal_nil hu _ _ _
    · rcases h4 with h4 | ⟨k, o, rfl, _⟩
      · exact h4
      · simp at hb
  · rw [RelV] at hx; rw [RelV] at hy
    subst hx hy
    obtain ⟨e, sz', ht⟩ := sl1 h.1
    obtain ⟨_, _, hu, _⟩ := slTy_some ht
    refine fin (eqNeq_run (b := true) rfl rfl ?_ h.2) (eqGuard_plain _ _ _ _ _ _ (by simp) (by simp))
    exact equal_nil hu _ _ _
  · obtain ⟨ks, hf, h1, h2, h3⟩ := h
    rw [RelV] at hx; rw [RelV] at hy
    obtain ⟨us, rfl, hx⟩ := hx
    obtain ⟨us', rfl, hy⟩ := hy
    obtain ⟨zs, a1, rfl, rfl⟩ := fits_vals h1 hx
    obtain ⟨zs', b1, rfl, rfl⟩ := fits_vals h2 hy
    refine fin (eqNeq_run (b := decide (zs = zs')) rfl rfl (hf.2 w zs zs' a1 b1) (h3 _ ?_)) ?_
    · rw [decide_eq_true_iff]
      exact ⟨fun e => by rw [e], fun e => zip_inj a1 b1 e⟩
    · unfold eqGuard
      cases op <;> simp [hf.1]
  · exact h.elim

theorem cun_run {op : UnOp} {x : CV} {u : Value} (hx : RelV m w V x u) {K : CV → Prop} (h : cun op x K) : ∃ c r, (Op.unary op u).run P w = .ok r w ∧ RelV m w V c r ∧ K c := by
  unfold cun at h
  split at h
  · rw [RelV] at hx; subst hx; exact ⟨_, _, by simp only [Op.unary]; rfl, by rw [RelV], h⟩
  · rw [RelV] at hx; subst hx; exact ⟨_, _, by simp only [Op.unary, Op.intArith]; rfl, by rw [RelV], h⟩
  · exact h.elim

theorem cidx_run {t : TypeId} {x i : CV} {u ui : Value} (hx : RelV m w V x u) (hy : RelV m w V i ui) {K : CV → Prop} (h : cidx P t x i K) :
    ∃ c r, (Instr.indexAt t u ui).run P w = .ok r w ∧ RelV m w V c r ∧ K c := by
  unfold cidx at h
  split at h
  · rename_i tk sz xs ik n
    obtain ⟨ht, h0, hlt, hK⟩ := h
    obtain ⟨e, ht⟩ := sl2 ht
    rw [RelV] at hx; rw [RelV] at hy
    subst hy
    obtain ⟨base, cap, rfl, h1, h2, h3, h4⟩ := hx
    rcases h4 with rfl | ⟨k, o, rfl, h5, h6⟩
    · simp at hlt
    · obtain ⟨g1, g2⟩ := relE_get h6 _ _ (List.getElem?_eq_getElem hlt)
      refine ⟨_, _, indexAt_sl ht k o _ cap ik n h0 (by omega), ?_, hK⟩
      rw [RelV]
      refine ⟨k, o + n.toNat * sz, by simp, ?_, g2⟩
      rw [g1]
      have : (n.toNat + 1) * sz ≤ xs.length * sz := Nat.mul_le_mul_right _ hlt
      rw [Nat.succ_mul] at this
      omega
  · rename_i b o n' sz ik n
    obtain ⟨ht, h0, hlt, hK⟩ := h
    obtain ⟨e, ht⟩ := sl2 ht
    rw [RelV] at hx; rw [RelV] at hy
    subst hy
    obtain ⟨base, cap, k, rfl, h1, h2, hk, h3⟩ := hx
    rcases h3 with rfl | rfl
    · omega
    · exact ⟨_, _, indexAt_sl ht k o _ cap ik n h0 hlt, by rw [RelV]; exact ⟨k, hk, rfl⟩, hK⟩
  · rename_i b o ik n
    obtain ⟨len, g, sz, ht, h0, hlt, hK⟩ := h
    rw [RelV] at hx; rw [RelV] at hy
    subst hy
    obtain ⟨k, hk, rfl⟩ := hx
    exact ⟨_, _, indexAt_ar ht k o ik n h0 hlt, by rw [RelV]; exact ⟨k, hk, rfl⟩, hK⟩
  · rename_i cs o ik n
    obtain ⟨len, g, sz, ht, h0, hlt, hK⟩ := h
    rw [RelV] at hx; rw [RelV] at hy
    subst hy
    obtain ⟨k, a, rfl, h1, h2⟩ := hx
    exact ⟨_, _, indexAt_ar ht k (a + o) ik n h0 hlt, by rw [RelV]; exact ⟨k, a, by rw [Nat.add_assoc], h1, h2⟩, hK⟩
  · exact h.elim
end
end Go.Proofs.Ytffjhibomipemaa
