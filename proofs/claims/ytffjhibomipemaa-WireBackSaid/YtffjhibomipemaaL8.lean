/-
  A PROGRAM LOGIC, PART 8: composite literals, make, calls; all operations together.
-/
import Derived.Test.YtffjhibomipemaaL7
namespace Go.Proofs.Ytffjhibomipemaa

section
variable {P : Program} {m : Gh} {w : World} {H : Hp} {V : List Nat}

theorem foldl_splice (off : Nat) : ∀ (vs : List Value) (k : Nat) (cells : Array Value), off + k + vs.length ≤ cells.size →
    ((vs.zipIdx k).foldl (fun (cs : Array Value) p => cs.setIfInBounds (off + p.2) p.1) cells).toList = cells.toList.take (off + k) ++ vs ++ cells.toList.drop (off + k + vs.length)
  | [], k, cells, _ => by simp
  | v :: vs, k, cells, h => by
    simp only [List.length_cons] at h
    rw [List.zipIdx_cons, List.foldl_cons, foldl_splice off vs (k + 1) _ (by simp; omega)]
    have := list_seg_step cells.toList (off + k) v vs (by simp; omega)
    simpa [Array.toList_setIfInBounds, Nat.add_assoc] using this

theorem fill_run {ps : List (Nat × Nat)} {place : Nat → Option (Nat × Nat)} (hp : ∀ i x, ps[i]? = some x → place i = some x) : ∀ (parts : List (Nat × CV)) (vparts : List (Nat × Value)) (cs : List CV) (cells : Array Value) (cs' : List CV),
    cfill ps cs parts = some cs' → RelL m w V cs cells.toList → vparts.length = parts.length → (∀ (j : Nat) p, parts[j]? = some p → ∃ v, vparts[j]? = some (p.1, v) ∧ RelV m w V p.2 v) →
    ∃ cells', Instr.fill place cells vparts = some cells' ∧ RelL m w V cs' cells'.toList
  | [], vparts, cs, cells, cs', h, hr, hl, _ => by
    simp only [cfill] at h; cases h
    have hv : vparts = [] := List.length_eq_zero_iff.1 (by simpa using hl)
    subst hv
    exact ⟨cells, rfl, hr⟩
  | (i, v) :: parts, vparts, cs, cells, cs', h, hr, hl, hv => by
    cases vparts with
    | nil => simp at hl
    | cons q vparts =>
      obtain ⟨u, h1, h2⟩ := hv 0 (i, v) rfl
      simp at h1; subst h1
      simp only [cfill] at h
      cases hps : ps[i]? with
      | none => simp [hps] at h
      | some x =>
        obtain ⟨o, n⟩ := x
        simp only [hps] at h
        split at h
        · rename_i hc
          obtain ⟨c1, c2, c3⟩ := hc
          have hrc := RelV.cells h2 c3
          have hlc := relL_length hrc
          have hls := relL_length hr
          simp only [Array.length_toList] at hlc hls
          have hfold := foldl_splice o u.cells.toList 0 cells (by simp; omega)
          have harr : (u.cells.zipIdx.foldl (fun (cs : Array Value) (p : Value × Nat) => cs.setIfInBounds (o + p.2) p.1) cells).toList = cells.toList.take o ++ u.cells.toList ++ cells.toList.drop (o + n) := by
            rw [← Array.foldl_toList, Array.toList_zipIdx, hfold]
            simp only [Nat.add_zero, Array.length_toList, hlc, c1]
          obtain ⟨cells', g1, g2⟩ := fill_run hp parts vparts _ (u.cells.zipIdx.foldl (fun (cs : Array Value) (p : Value × Nat) => cs.setIfInBounds (o + p.2) p.1) cells) cs' h
            (by rw [harr]; exact relL_append (relL_append (relL_take hr o) hrc) (relL_drop hr (o + n))) (by simpa using hl) (fun j p hj => hv (j + 1) p (by simpa using hj))
          refine ⟨cells', ?_, g2⟩
          simp only [Instr.fill, hp i _ hps]
          rw [if_neg (by simp; omega)]
          exact g1
        · cases h

theorem cfill_all {sz : Nat} : ∀ (es : List (Nat × CV)) (k n : Nat) (A : List CV), A.length = k * sz → es.map (·.1) = List.range' k n → (∀ p ∈ es, p.2.cells.length = sz ∧ allOne p.2.cells = true) →
    cfill ((List.range (k + n)).map fun i => (i * sz, sz)) (A ++ List.replicate (n * sz) .any) es = some (A ++ (es.map (·.2.cells)).flatten)
  | [], k, n, A, hA, hm, _ => by
    have : n = 0 := by cases n with
      | zero => rfl
      | succ n => simp [List.range'_succ] at hm
    subst this
    simp [cfill]
  | (i, v) :: es, k, n, A, hA, hm, he => by
    cases n with
    | zero => simp at hm
    | succ n =>
      simp only [List.map_cons, List.range'_succ, List.cons.injEq] at hm
      obtain ⟨rfl, hm⟩ := hm
      have hv := he (i, v) (by simp)
      have hget : ((List.range (i + (n + 1))).map fun j => (j * sz, sz))[i]? = some (i * sz, sz) := by simp
      simp only [cfill, hget]
      rw [if_pos ⟨hv.1, by simp [hA, Nat.succ_mul], hv.2⟩]
      have ih := cfill_all es (i + 1) n (A ++ v.cells) (by simp [hA, hv.1, Nat.succ_mul]) hm (fun p hp => he p (by simp [hp]))
      rw [show i + 1 + n = i + (n + 1) from by omega] at ih
      have e : (A ++ List.replicate ((n + 1) * sz) CV.any).take (i * sz) ++ v.cells ++ (A ++ List.replicate ((n + 1) * sz) CV.any).drop (i * sz + sz) = A ++ v.cells ++ List.replicate (n * sz) CV.any := by
        rw [List.take_append_of_le_length (by omega), List.take_of_length_le (by omega)]
        congr 1
        rw [List.drop_append, List.drop_of_length_le (by omega)]
        simp [hA, Nat.succ_mul]
      rw [e, ih]
      simp

theorem places_run {g : Field → Sem (Nat × Nat)} (hg : ∀ (f : Field) n, szOf P f.type = some n → (g f).run P w = .ok (f.offset, n) w) : ∀ (fs : List Field) (ps : List (Nat × Nat)), (fs.mapM fun f => (szOf P f.type).map fun n => (f.offset, n)) = some ps →
    (fs.mapM g).run P w = .ok ps w
  | [], ps, h => by simp at h; subst h; simp
  | f :: fs, ps, h => by
    rw [List.mapM_cons] at h
    cases hs : szOf P f.type with
    | none => simp [hs] at h
    | some n =>
      cases hr : (fs.mapM fun f => (szOf P f.type).map fun n => (f.offset, n)) with
      | none => simp [hs, hr] at h
      | some qs =>
        simp [hs, hr] at h; subst h
        have ih := places_run hg fs qs hr
        rw [List.mapM_cons]
        simp only [Sem.run_bind, hg f n hs, Result.andThen_ok, ih, Sem.run_pure]

theorem szOf_run {t : TypeId} {n : Nat} (h : szOf P t = some n) : (sizeOf t).run P w = .ok n w := by
  unfold szOf at h
  cases hi : P.info? t with
  | none => simp [hi] at h
  | some i => simp [hi] at h; simp [sizeOf, typeInfo, hi, h]

theorem build_run {t : TypeId} {ps : List (Nat × Nat)} {zs : List Value} (hb : bdTy P t = some (ps, zs)) {cs : List CV} {parts : Array (Nat × Operand)} {ev : Operand → CV} {ρ : Operand → Value} (hev : ∀ x, RelV m w V (ev x) (ρ x))
    (h : cfill ps (zs.map CV.v) (parts.toList.map fun p => (p.1, ev p.2)) = some cs) :
    ∃ u, (Instr.build t (parts.map fun (i, x) => (i, ρ x))).run P w = .ok u w ∧ RelV m w V (.agg cs) u := by
  have parts_ok : ∀ (j : Nat) p, (parts.toList.map fun p => (p.1, ev p.2))[j]? = some p → ∃ v, (parts.toList.map fun p => (p.1, ρ p.2))[j]? = some (p.1, v) ∧ RelV m w V p.2 v := fun j p hp => by
    rw [List.getElem?_map] at hp ⊢
    cases hq : parts.toList[j]? with
    | none => simp [hq] at hp
    | some q => rw [hq] at hp; simp at hp; subst hp; exact ⟨ρ q.2, by simp, hev q.2⟩
  have zrun : ∀ {zs}, zcTy P t = some zs → ∃ z, (zeroValue t).run P w = .ok z w ∧ z.cells.toList = zs := fun hz => by
    obtain ⟨i, z, h1, h2, h3, _⟩ := zcTy_some hz
    exact ⟨z, by simp [zeroValue, typeInfo, h1, h2], h3⟩
  unfold bdTy at hb
  split at hb
  · rename_i fs hs
    cases hp : (fs.toList.mapM fun f => (szOf P f.type).map fun n => (f.offset, n)) with
    | none => simp [hp] at hb
    | some qs =>
      cases hz : zcTy P t with
      | none => simp [hp, hz] at hb
      | some zs' =>
        simp [hp, hz] at hb
        obtain ⟨rfl, rfl⟩ := hb
        obtain ⟨z, z1, z2⟩ := zrun hz
        obtain ⟨cells', g1, g2⟩ := fill_run (m := m) (w := w) (V := V) (ps := qs) (place := (qs.toArray[·]?)) (fun i x hx => by simpa using hx) _ (parts.toList.map fun p => (p.1, ρ p.2)) _ z.cells cs h (by rw [z2]; exact relL_vals _) (by simp) parts_ok
        refine ⟨.agg cells', ?_, by rw [RelV]; exact ⟨cells'.toList, by simp, g2⟩⟩
        have hpl : (fs.mapM (m := Sem) fun f => do pure (f.offset, ← sizeOf f.type)).run P w = .ok qs.toArray w := by
          rw [Array.mapM_eq_mapM_toList, Sem.run_map, places_run (fun f n hn => by simp [szOf_run hn]) fs.toList qs hp]; rfl
        simp only [Instr.build, Sem.run_bind, z1, Result.andThen_ok, run_underlying hs, hpl, Array.toList_map]
        rw [g1]; rfl
  · rename_i n e hs
    cases hk : szOf P e with
    | none => simp [hk] at hb
    | some k =>
      cases hz : zcTy P t with
      | none => simp [hk, hz] at hb
      | some zs' =>
        simp [hk, hz] at hb
        obtain ⟨rfl, rfl⟩ := hb
        obtain ⟨z, z1, z2⟩ := zrun hz
        obtain ⟨cells', g1, g2⟩ := fill_run (m := m) (w := w) (V := V) (place := fun i => some (i * k, k)) (fun i x hx => by
          rw [List.getElem?_map] at hx
          cases hr : (List.range n)[i]? with
          | none => simp [hr] at hx
          | some y => rw [hr] at hx; simp at hx; have := List.getElem?_eq_some_iff.1 hr; simp at this; rw [← hx, this.2]) _ (parts.toList.map fun p => (p.1, ρ p.2)) _ z.cells cs h (by rw [z2]; exact relL_vals _) (by simp) parts_ok
        refine ⟨.agg cells', ?_, by rw [RelV]; exact ⟨cells'.toList, by simp, g2⟩⟩
        have hsz : (sizeOf e).run P w = .ok k w := szOf_run hk
        simp only [Instr.build, Sem.run_bind, z1, Result.andThen_ok, run_underlying hs, hsz, Array.toList_map]
        rw [g1]; rfl
  · cases hb

theorem buildSlice_run (hi : Inv m w H V) {t e : TypeId} {sz len : Nat} (ht : slTy P t = some (e, sz)) {parts : Array (Nat × Operand)} {ev : Operand → CV} {ρ : Operand → Value} (hev : ∀ x, RelV m w V (ev x) (ρ x))
    (h1 : parts.toList.map (·.1) = List.range len) (h2 : (parts.toList.all fun p => (ev p.2).cells.length == sz && allOne (ev p.2).cells) = true) (h3 : len * sz ≤ 1048576) :
    ∃ u w' m', (Instr.buildSlice t len (parts.map fun (i, x) => (i, ρ x))).run P w = .ok u w' ∧ Inv m' w' H V ∧ RelV m' w' V (.sl .ti sz (parts.toList.map fun p => (ev p.2).cells)) u ∧ Ext m w V m' w' V := by
  obtain ⟨i, z, hu, hinf, hsz, hpos, hb0, hb1, hz, hzs⟩ := slTy_some ht
  have parts_ok : ∀ (j : Nat) p, (parts.toList.map fun p => (p.1, ev p.2))[j]? = some p → ∃ v, (parts.toList.map fun p => (p.1, ρ p.2))[j]? = some (p.1, v) ∧ RelV m w V p.2 v := fun j p hp => by
    rw [List.getElem?_map] at hp ⊢
    cases hq : parts.toList[j]? with
    | none => simp [hq] at hp
    | some q => rw [hq] at hp; simp at hp; subst hp; exact ⟨ρ q.2, by simp, hev q.2⟩
  have h2' : ∀ p ∈ (parts.toList.map fun p => (p.1, ev p.2)), p.2.cells.length = sz ∧ allOne p.2.cells = true := fun p hp => by
    obtain ⟨q, hq, rfl⟩ := List.mem_map.1 hp
    have := List.all_eq_true.1 h2 q hq
    simpa using this
  have hlen : parts.toList.length = len := by have := congrArg List.length h1; simpa using this
  have hcf := cfill_all (sz := sz) (parts.toList.map fun p => (p.1, ev p.2)) 0 len [] (by simp) (by rw [List.map_map, ← List.range_eq_range', ← h1]; rfl) h2'
  simp only [Nat.zero_add, List.nil_append] at hcf
  obtain ⟨zc, hz0⟩ : ∃ zc : Array Value, zc = if len * sz = 0 then #[] else z.cells := ⟨_, rfl⟩
  obtain ⟨cells', g1, g2⟩ := fill_run (m := m) (w := w) (V := V) (place := fun i => some (i * sz, sz)) (fun i x hx => by
      rw [List.getElem?_map] at hx
      cases hr : (List.range len)[i]? with
      | none => simp [hr] at hx
      | some y => rw [hr] at hx; simp at hx; have := List.getElem?_eq_some_iff.1 hr; simp at this; rw [← hx, this.2]) _ (parts.toList.map fun p => (p.1, ρ p.2)) _
    ((Array.range (len * sz)).map (zc[· % zc.size]!)) _ hcf (relL_mk (by simp) fun j c u hc _ => by
      have hm := List.mem_of_getElem? hc
      rw [List.eq_of_mem_replicate hm, RelV]; trivial) (by simp) parts_ok
  rw [List.map_map] at g2
  have hfl : ((fun (x : Nat × CV) => x.2.cells) ∘ fun p : Nat × Operand => (p.1, ev p.2)) = fun p => (ev p.2).cells := rfl
  rw [hfl] at g2
  have hes : ∀ (j : Nat) x, (parts.toList.map fun p => (ev p.2).cells)[j]? = some x → x.length = sz ∧ allOne x = true := fun j x hx => by
    obtain ⟨q, hq, rfl⟩ := List.mem_map.1 (List.mem_of_getElem? hx)
    have := List.all_eq_true.1 h2 q hq
    simpa using this
  have hone : allOne (parts.toList.map fun p => (ev p.2).cells).flatten = true := by
    unfold allOne
    rw [List.all_eq_true]
    intro c hc
    obtain ⟨x, hx, hcx⟩ := List.mem_flatten.1 hc
    obtain ⟨j, hj⟩ := List.getElem?_of_mem hx
    exact List.all_eq_true.1 (hes j x hj).2 c hcx
  have hflen : (parts.toList.map fun p => (ev p.2).cells).flatten.length = len * sz := by
    have : ∀ (l : List (List CV)), (∀ x ∈ l, x.length = sz) → l.flatten.length = l.length * sz := fun l => by
      induction l with
      | nil => simp
      | cons a l ih => intro hl; simp [hl a (by simp), ih (fun x hx => hl x (by simp [hx])), Nat.succ_mul, Nat.add_comm]
    rw [this _ (fun x hx => by obtain ⟨j, hj⟩ := List.getElem?_of_mem hx; exact (hes j x hj).1)]
    simp [hlen]
  have hsize : cells'.size = len * sz := by have := relL_length g2; rw [hflen] at this; simpa using this
  have hp := Pushed.alloc w (.cells cells' e)
  obtain ⟨s1, s2⟩ := step_row hi hp (len * sz) (by omega)
  refine ⟨.slice (some ⟨w.heap.size, 0, none⟩) len len, _, _, ?_, s1, ?_, s2⟩
  · simp only [Instr.buildSlice, Sem.run_bind, run_underlying hu, Result.andThen_ok, slSize_run ht]
    rw [if_neg (by omega)]
    have g1' : Instr.fill (fun i => some (i * sz, sz)) ((Array.range (len * sz)).map (zc[· % zc.size]!)) (List.map (fun x => (x.fst, ρ x.snd)) parts.toList) = some cells' := g1
    by_cases h0 : len * sz = 0
    · rw [if_pos h0] at hz0; subst hz0
      rw [if_pos h0]
      simp only [Array.toList_map, pure_bind]
      rw [g1']
      rfl
    · rw [if_neg h0] at hz0; subst hz0
      rw [if_neg h0]
      have hzr : (zeroValue e).run P w = .ok z w := by simp [zeroValue, typeInfo, hinf, hz]
      simp only [Array.toList_map, pure_bind, Sem.run_bind, hzr, Result.andThen_ok]
      rw [g1']
      rfl
  · rw [RelV]
    refine ⟨_, len, by simp [hlen], by simp [hlen], by show len = _; simp [hlen], hpos, .inr ⟨w.heap.size, 0, rfl, by simp [hlen], ?_⟩⟩
    refine relE_of_flat (fun j x hx => (hes j x hx).1) ?_
    refine relC_row s2 hp.new g2 (relL_allOne g2 hone) (fun j hj => ?_)
    simp
end
end Go.Proofs.Ytffjhibomipemaa
