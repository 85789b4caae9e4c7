/-
  A PROGRAM LOGIC, PART 4: the operations run as PART 3 says: loads, addresses, arithmetic.
-/
import Derived.Test.YtffjhibomipemaaL3
namespace Go.Proofs.Ytffjhibomipemaa

theorem addr_add (k o j : Nat) : (⟨k, o, none⟩ : Addr).add j = ⟨k, o + j, none⟩ := by unfold Addr.add; split <;> simp_all

section
variable {P : Program} {m : Gh} {w : World} {V : List Nat}

/-- The values that stand in related cells. -/
theorem relC_vals {k : Nat} : ∀ {cs : List CV} {o : Nat}, RelC m w V k cs o → ∃ us : List Value, RelL m w V cs us ∧ (∀ (j : Nat) u, us[j]? = some u → w.cell? ⟨k, o + j, none⟩ = some u) ∧ ∀ u ∈ us, u.oneCell' = true
  | [], _, _ => ⟨[], by rw [RelL], by simp, by simp⟩
  | c :: cs, o, h => by
    rw [RelC] at h
    obtain ⟨⟨u, h1, h2, h3⟩, h4⟩ := h
    obtain ⟨us, g1, g2, g3⟩ := relC_vals h4
    refine ⟨u :: us, by rw [RelL]; exact ⟨u, us, rfl, h2, g1⟩, fun j x hx => ?_, fun x hx => ?_⟩
    · cases j with
      | zero => simp at hx; subst hx; exact h1
      | succ j => rw [← g2 j x (by simpa using hx)]; congr 2; omega
    · rcases List.mem_cons.1 hx with rfl | hx
      · exact h3
      · exact g3 x hx

theorem relC_drop {k : Nat} {cs : List CV} {a : Nat} (h : RelC m w V k cs a) (o : Nat) : RelC m w V k (cs.drop o) (a + o) :=
  relC_mk fun j c hc => by
    rw [List.getElem?_drop] at hc
    rw [Nat.add_assoc]
    exact relC_get h _ c hc
theorem relC_take {k : Nat} {cs : List CV} {a : Nat} (h : RelC m w V k cs a) (n : Nat) : RelC m w V k (cs.take n) a :=
  relC_mk fun j c hc => by
    rw [List.getElem?_take] at hc
    split at hc
    · exact relC_get h _ c hc
    · cases hc
theorem relE_drop {k sz : Nat} {es : List (List CV)} {a : Nat} (h : RelE m w V k sz es a) (o : Nat) : RelE m w V k sz (es.drop o) (a + o * sz) :=
  relE_mk fun j c hc => by
    rw [List.getElem?_drop] at hc
    have := relE_get h _ c hc
    rwa [Nat.add_mul, ← Nat.add_assoc] at this
theorem relE_take {k sz : Nat} {es : List (List CV)} {a : Nat} (h : RelE m w V k sz es a) (n : Nat) : RelE m w V k sz (es.take n) a :=
  relE_mk fun j c hc => by
    rw [List.getElem?_take] at hc
    split at hc
    · exact relE_get h _ c hc
    · cases hc
theorem relC_append {k : Nat} {cs ds : List CV} {a : Nat} (h : RelC m w V k cs a) (h' : RelC m w V k ds (a + cs.length)) : RelC m w V k (cs ++ ds) a :=
  relC_mk fun j c hc => by
    rw [List.getElem?_append] at hc
    split at hc
    · exact relC_get h _ c hc
    · obtain ⟨u, h1, h2⟩ := relC_get h' _ c hc
      exact ⟨u, by rw [← h1]; congr 2; omega, h2⟩
/-- The elements' cells, one behind the other. -/
theorem relE_flat {k sz : Nat} : ∀ {es : List (List CV)} {a : Nat}, RelE m w V k sz es a → RelC m w V k es.flatten a ∧ es.flatten.length = es.length * sz
  | [], _, _ => ⟨by rw [List.flatten_nil, RelC]; trivial, by simp⟩
  | e :: es, a, h => by
    rw [RelE] at h
    obtain ⟨h1, h2, h3⟩ := h
    obtain ⟨g1, g2⟩ := relE_flat h3
    rw [List.flatten_cons]
    exact ⟨relC_append h2 (by rw [h1]; exact g1), by simp [g2, h1, Nat.succ_mul, Nat.add_comm]⟩
theorem relL_drop {cs : List CV} {us : List Value} (h : RelL m w V cs us) (n : Nat) : RelL m w V (cs.drop n) (us.drop n) := by
  have hl := relL_length h
  refine relL_mk (by simp [hl]) fun j c u hc hu => ?_
  rw [List.getElem?_drop] at hc hu
  obtain ⟨x, h1, h2⟩ := relL_get h _ c hc
  rw [h1] at hu; cases hu; exact h2
theorem relL_take {cs : List CV} {us : List Value} (h : RelL m w V cs us) (n : Nat) : RelL m w V (cs.take n) (us.take n) := by
  have hl := relL_length h
  refine relL_mk (by simp [hl]) fun j c u hc hu => ?_
  rw [List.getElem?_take] at hc hu
  split at hc
  · rename_i hj
    rw [if_pos hj] at hu
    obtain ⟨x, h1, h2⟩ := relL_get h _ c hc
    rw [h1] at hu; cases hu; exact h2
  · cases hc

theorem ldTy_some {t : TypeId} {g : Bool} {n : Nat} (h : ldTy P t = some (g, n)) : ∃ d i, P.underlying t = some d ∧ P.info? t = some i ∧ i.size = n ∧ (match d with | .struct _ | .array _ _ => true | _ => false) = g := by
  unfold ldTy at h
  split at h
  · rename_i d hd
    cases hi : P.info? t with
    | none => simp [hi] at h
    | some i => simp [hi] at h; exact ⟨d, i, hd, rfl, h.2, h.1⟩
  · cases h

theorem isAgg_run {t : TypeId} {g : Bool} {n : Nat} (h : ldTy P t = some (g, n)) (w : World) : (isAgg t).run P w = .ok g w := by
  obtain ⟨d, i, hd, _, _, hg⟩ := ldTy_some h
  unfold isAgg
  rw [Sem.run_bind, run_underlying hd w]
  cases d <;> simp_all
theorem sizeOf_run {t : TypeId} {g : Bool} {n : Nat} (h : ldTy P t = some (g, n)) (w : World) : (sizeOf t).run P w = .ok n w := by
  obtain ⟨d, i, _, hi, hs, _⟩ := ldTy_some h
  simp [sizeOf, typeInfo, hi, hs]

theorem ld_run {t : TypeId} {g : Bool} {n : Nat} (ht : ldTy P t = some (g, n)) {k a o : Nat} {cs : List CV} {K : CV → Prop} (hc : RelC m w V k cs a) (h : ld g n cs o K) :
    ∃ c u, (loadVar t ⟨k, a + o, none⟩).run P w = .ok u w ∧ RelV m w V c u ∧ K c := by
  cases g with
  | true =>
    obtain ⟨h1, h2⟩ := h
    obtain ⟨us, g1, g2, g3⟩ := relC_vals (relC_take (relC_drop hc o) n)
    have hl : us.length = n := by rw [relL_length g1]; simp; omega
    refine ⟨_, .agg us.toArray, ?_, ?_, h2⟩
    · have := run_loadCells_list (P := P) w ⟨k, a + o, none⟩ us (fun j v hv => by rw [addr_add]; exact g2 j v hv)
      rw [hl] at this
      simp [loadVar, isAgg_run ht, sizeOf_run ht, this]
    · rw [RelV]; exact ⟨us, rfl, g1⟩
  | false =>
    obtain ⟨h1, h2⟩ := h
    obtain ⟨u, g1, g2, _⟩ := relC_get hc o cs[o] (List.getElem?_eq_getElem h1)
    exact ⟨_, u, by simp [loadVar, isAgg_run ht, load, Sem.run, g1], g2, h2⟩

theorem part_run {t : TypeId} {g : Bool} {n : Nat} (ht : ldTy P t = some (g, n)) {o : Nat} {cs : List CV} {us : List Value} {K : CV → Prop} (hc : RelL m w V cs us) (h : ld g n cs o K) :
    ∃ c u, (part t us.toArray o).run P w = .ok u w ∧ RelV m w V c u ∧ K c := by
  have hl := relL_length hc
  cases g with
  | true =>
    obtain ⟨h1, h2⟩ := h
    refine ⟨_, .agg (us.toArray.extract o (o + n)), by simp [part, isAgg_run ht, sizeOf_run ht], ?_, h2⟩
    rw [RelV]
    exact ⟨(us.drop o).take n, by simp [List.extract], relL_take (relL_drop hc o) n⟩
  | false =>
    obtain ⟨h1, h2⟩ := h
    obtain ⟨u, g1, g2⟩ := relL_get hc o cs[o] (List.getElem?_eq_getElem h1)
    exact ⟨_, u, by simp [part, isAgg_run ht, g1], g2, h2⟩

theorem fdTy_some {s : TypeId} {f o : Nat} {g : Bool} {n : Nat} (h : fdTy P s f = some (o, g, n)) : ∃ fs fd, P.underlying s = some (.struct fs) ∧ fs[f]? = some fd ∧ fd.offset = o ∧ ldTy P fd.type = some (g, n) ∧ n ≠ 0 := by
  unfold fdTy at h
  split at h
  · rename_i fs hs
    cases hf : fs[f]? with
    | none => simp [hf] at h
    | some fd =>
      rcases hl : ldTy P fd.type with _ | ⟨x1, x2⟩
      · simp [hf, hl] at h
      · simp [hf, hl] at h
        obtain ⟨h0, h1, rfl, rfl⟩ := h
        exact ⟨fs, fd, hs, hf, h1, hl, h0⟩
  · cases h

theorem fieldAt_run {s : TypeId} {f o : Nat} {g : Bool} {n : Nat} (h : fdTy P s f = some (o, g, n)) (k a : Nat) : (Instr.fieldAt s (.pointer (some ⟨k, a, none⟩)) f).run P w = .ok (.pointer (some ⟨k, a + o, none⟩)) w := by
  obtain ⟨fs, fd, h1, h2, h3, h4, h5⟩ := fdTy_some h
  simp [Instr.fieldAt, run_underlying h1, h2, Instr.sureAddr, fieldPlace, sizeOf_run h4, h5, addr_add, h3]

theorem field_run {s : TypeId} {f o : Nat} {g : Bool} {n : Nat} (h : fdTy P s f = some (o, g, n)) {cs : List CV} {us : List Value} {K : CV → Prop} (hc : RelL m w V cs us) (hl : ld g n cs o K) :
    ∃ c u, (Instr.field s (.agg us.toArray) f).run P w = .ok u w ∧ RelV m w V c u ∧ K c := by
  obtain ⟨fs, fd, h1, h2, h3, h4, h5⟩ := fdTy_some h
  obtain ⟨c, u, g1, g2, g3⟩ := part_run (P := P) h4 hc hl
  exact ⟨c, u, by simp [Instr.field, run_underlying h1, h2, asAgg, h3, g1], g2, g3⟩

theorem arTy_some {t : TypeId} {len : Nat} {g : Bool} {n : Nat} (h : arTy P t = some (len, g, n)) : ∃ e, P.underlying t = some (.array len e) ∧ ldTy P e = some (g, n) ∧ n ≠ 0 ∧ 1 < len := by
  unfold arTy at h
  split at h
  · rename_i l e hs
    rcases hl : ldTy P e with _ | ⟨x1, x2⟩
    · simp [hl] at h
    · simp [hl] at h
      obtain ⟨⟨h0, h0'⟩, rfl, rfl, rfl⟩ := h
      exact ⟨e, hs, hl, h0, h0'⟩
  · cases h

theorem slTy_some {t e : TypeId} {sz : Nat} (h : slTy P t = some (e, sz)) : ∃ i z, P.underlying t = some (.slice e) ∧ P.info? e = some i ∧ i.size = sz ∧ 0 < sz ∧ 0 < i.bytes ∧ i.bytes ≤ 128 ∧ i.zero = some z ∧ z.cells.size = sz := by
  unfold slTy at h
  split at h
  · rename_i e' hs
    cases hi : P.info? e' with
    | none => simp [hi] at h
    | some i =>
      cases hz : i.zero with
      | none => simp [hi, hz] at h
      | some z =>
        simp [hi, hz] at h
        obtain ⟨⟨⟨⟨h1, h2⟩, h3⟩, h4⟩, rfl, rfl⟩ := h
        exact ⟨i, z, hs, hi, rfl, h1, h2, h3, hz, h4⟩
  · cases h

theorem slSize_run {t e : TypeId} {sz : Nat} (h : slTy P t = some (e, sz)) (w : World) : (sizeOf e).run P w = .ok sz w := by
  obtain ⟨i, z, _, hi, hs, _⟩ := slTy_some h
  simp [sizeOf, typeInfo, hi, hs]

theorem sl2 {t : TypeId} {sz : Nat} (h : (slTy P t).map (·.2) = some sz) : ∃ e, slTy P t = some (e, sz) := by
  cases hs : slTy P t with
  | none => simp [hs] at h
  | some x => simp [hs] at h; exact ⟨x.1, by rw [← h]⟩
theorem sl1 {t : TypeId} (h : (slTy P t).isSome = true) : ∃ e sz, slTy P t = some (e, sz) := by
  obtain ⟨x, hx⟩ := Option.isSome_iff_exists.1 h
  exact ⟨x.1, x.2, hx⟩

/-- An index into a slice, at an address. -/
theorem indexAt_sl {t e : TypeId} {sz : Nat} (h : slTy P t = some (e, sz)) (k a len cap : Nat) (ik : IntKind) (i : Int) (h0 : 0 ≤ i) (h1 : i < len) :
    (Instr.indexAt t (.slice (some ⟨k, a, none⟩) len cap) (.int ik i)).run P w = .ok (.pointer (some ⟨k, a + i.toNat * sz, none⟩)) w := by
  obtain ⟨_, _, hu, _⟩ := slTy_some h
  simp [Instr.indexAt, asIntOf, run_underlying hu, h0, h1, slSize_run h, addr_add]
theorem indexAt_ar {t : TypeId} {len : Nat} {g : Bool} {n : Nat} (h : arTy P t = some (len, g, n)) (k a : Nat) (ik : IntKind) (i : Int) (h0 : 0 ≤ i) (h1 : i < len) :
    (Instr.indexAt t (.pointer (some ⟨k, a, none⟩)) (.int ik i)).run P w = .ok (.pointer (some ⟨k, a + i.toNat * n, none⟩)) w := by
  obtain ⟨e, hu, hl, _⟩ := arTy_some h
  simp [Instr.indexAt, asIntOf, run_underlying hu, h0, h1, Instr.sureAddr, sizeOf_run hl, addr_add]

/-- Arithmetic on integers. -/
theorem ibin_run {op : BinOp} {t : TypeId} {k k' : IntKind} {a b : Int} {K : CV → Prop} (hk : sameK op k k') (h : ibin op k a b K) :
    ∃ x, (binOp op t (.int k a) (.int k' b)).run P w = .ok x w ∧ K (.v x) := by
  cases op <;> simp only [sameK] at hk <;> (try subst hk) <;> simp only [ibin] at h
  case add => exact ⟨_, by simp [binOp, Op.intArith], h⟩
  case sub => exact ⟨_, by simp [binOp, Op.intArith], h⟩
  case mul => exact ⟨_, by simp [binOp, Op.intArith], h⟩
  case quo => exact ⟨_, by simp [binOp, Op.intDiv, h.1], h.2⟩
  case rem => exact ⟨_, by simp [binOp, Op.intDiv, h.1], h.2⟩
  case and => exact ⟨_, by simp only [binOp, Op.intBits]; simp; rfl, h⟩
  case or => exact ⟨_, by simp only [binOp, Op.intBits]; simp; rfl, h⟩
  case xor => exact ⟨_, by simp only [binOp, Op.intBits]; simp; rfl, h⟩
  case andNot => exact ⟨_, by simp only [binOp, ne_eq, not_true_eq_false, ↓reduceIte, Op.intBits]; rfl, h⟩
  case shl => exact ⟨_, by have : ¬ b < 0 := by omega
                           simp [binOp, Op.shift, this, Go.Proofs.Ytffjhibomipemaa.shl], h.2⟩
  case shr => exact ⟨_, by have : ¬ b < 0 := by omega
                           simp [binOp, Op.shift, this, Go.Proofs.Ytffjhibomipemaa.shr], h.2⟩
  case eql => exact ⟨.bool (decide (a = b)), by simp [binOp, Op.intCmp]; rfl, h⟩
  case neq => exact ⟨.bool (!decide (a = b)), by simp [binOp, Op.intCmp, bne]; rfl, h⟩
  case lss => exact ⟨_, by simp [binOp, Op.intCmp], h⟩
  case leq => exact ⟨_, by simp [binOp, Op.intCmp], h⟩
  case gtr => exact ⟨_, by simp [binOp, Op.intCmp], h⟩
  case geq => exact ⟨_, by simp [binOp, Op.intCmp], h⟩

end
end Go.Proofs.Ytffjhibomipemaa
