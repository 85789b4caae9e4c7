/-
  A PROGRAM LOGIC, PART 9: soundness of one operation.
-/
import Derived.Test.YtffjhibomipemaaL8
import Derived.Laws.BytesString
namespace Go.Proofs.Ytffjhibomipemaa

section
variable {P : Program} {m : Gh} {w : World} {H : Hp} {V : List Nat}

theorem makeSlice_run (hi : Inv m w H V) {t e : TypeId} {sz : Nat} {zs : List Value} (ht : slTy P t = some (e, sz)) (hz' : zcTy P e = some zs) (k k' : IntKind) (n : Int) (h0 : 0 ≤ n) (h1 : n ≤ 1099511627776) :
    ∃ u w' m', (Instr.makeSlice t (.int k n) (.int k' n)).run P w = .ok u w' ∧ Inv m' w' (H ++ [some ((List.replicate n.toNat (zs.map CV.v)).flatten)]) V ∧ RelV m' w' V (.bsl H.length 0 n.toNat sz) u ∧ Ext m w V m' w' V := by
  obtain ⟨i, z, hu, hinf, hsz, hpos, hb0, hb1, hz, hzs⟩ := slTy_some ht
  obtain ⟨i', z', q1, q2, q3, q4⟩ := zcTy_some hz'
  rw [hinf] at q1; cases q1
  rw [hz] at q2; cases q2
  have hw : IntKind.i64.wrap n = n := IntWalk.i64_in _ ⟨by omega, by omega⟩
  have hbig : (i.bytes : Int) * n ≤ 281474976710656 := by
    have h2 : (i.bytes : Int) * n ≤ 128 * 1099511627776 := by
      have a1 : (i.bytes : Int) * n ≤ 128 * n := Int.mul_le_mul_of_nonneg_right (by omega) h0
      omega
    omega
  obtain ⟨c, hc1, hc2⟩ : ∃ c : Array Value, (Instr.makeSlice t (.int k n) (.int k' n)).run P w = .ok (.slice (some ⟨w.heap.size, 0, none⟩) n.toNat n.toNat) (w.alloc (.cells c e)) ∧ c.toList = (List.replicate n.toNat zs).flatten := by
    have hlen : ∀ (l : List Value) (j : Nat), l.length = sz → (List.range (j * sz)).map (fun x => l.toArray[x % sz]!) = (List.replicate j l).flatten := fun l j hl => by
      induction j with
      | zero => simp
      | succ j ih =>
        rw [Nat.succ_mul, List.range_add, List.map_append, ih, List.replicate_succ', List.flatten_append]
        congr 1
        simp only [List.map_map, List.flatten_cons, List.flatten_nil, List.append_nil]
        apply List.ext_getElem (by simp [hl])
        intro x h1 h2
        simp at h1
        simp [Nat.mod_eq_of_lt h1, hl, h1]
    refine ⟨((Array.range (n.toNat * sz)).map (fun x => z.cells[x % sz]!)), ?_, ?_⟩
    · have e1 : ¬ ((281474976710656 : Int) < i.bytes * n) := by omega
      have e2 : ¬ n < 0 := by omega
      by_cases hn : n.toNat * sz = 0
      · simp [Instr.makeSlice, run_underlying hu, asInt, asIntOf, typeInfo, hinf, hw, e1, e2, slSize_run ht, hn, newRow, askRoom]
        congr 2
        apply Array.ext' ; simp
      · simp [Instr.makeSlice, run_underlying hu, asInt, asIntOf, typeInfo, hinf, hw, e1, e2, slSize_run ht, hn, newRow, askRoom, zeroValue, hz, hzs]
    · rw [← q3, ← hlen z.cells.toList n.toNat (by simpa using hzs)]
      simp
  have hp := Pushed.alloc w (.cells c e)
  have hfl : (List.replicate n.toNat (zs.map CV.v)).flatten = ((List.replicate n.toNat zs).flatten).map CV.v := by
    rw [List.map_flatten]; simp
  obtain ⟨s1, s2⟩ := step_box (cs := (List.replicate n.toNat (zs.map CV.v)).flatten) hi hp (by rw [hc2, hfl]; exact relL_vals _) (fun u hu => by
    rw [hc2] at hu
    obtain ⟨x, hx, hux⟩ := List.mem_flatten.1 hu
    rw [(List.mem_replicate.1 hx).2] at hux
    exact q4 u hux)
  refine ⟨_, _, _, hc1, s1, ?_, s2⟩
  rw [RelV]
  exact ⟨_, n.toNat, w.heap.size, rfl, Nat.le_refl _, hpos, by simp [← hi.boxlen], .inr rfl⟩

theorem fold_push : ∀ (bs : List UInt8) (s : ByteArray), (bs.map fun b => (b.toNat : Int)).foldl (fun (r : ByteArray) n => r.push (UInt8.ofNat n.toNat)) s = ⟨s.data ++ bs.toArray⟩
  | [], s => by simp
  | b :: bs, s => by
    rw [List.map_cons, List.foldl_cons, fold_push bs]
    have : UInt8.ofNat ((b.toNat : Int)).toNat = b := by simp
    rw [this]
    simp [ByteArray.push]
theorem fold_bytes (bs : List UInt8) : (bs.map fun b => (b.toNat : Int)).foldl (fun (r : ByteArray) n => r.push (UInt8.ofNat n.toNat)) ByteArray.empty = ⟨bs.toArray⟩ := by
  rw [fold_push]; simp [ByteArray.empty, ByteArray.emptyWithCapacity]; rfl
theorem u8_vals : ∀ (bs : List UInt8) {us : List Value}, RelL m w V (bs.map u8).flatten us → us = bs.map fun b => Value.int .u8 (b.toNat : Int)
  | [], us, h => by rw [List.map_nil, List.flatten_nil, RelL] at h; rw [h]; rfl
  | b :: bs, us, h => by
    rw [List.map_cons, List.flatten_cons] at h
    simp only [u8, List.singleton_append] at h
    rw [RelL] at h
    obtain ⟨u, r, rfl, h1, h2⟩ := h
    rw [RelV] at h1
    rw [h1, u8_vals bs h2]; rfl

set_option maxHeartbeats 1000000 in
/-- EVERY OPERATION RUNS AS 'cop' SAYS. -/
theorem cop_sound {o : Oper} {a : Act} {K : CV → Hp → List Nat → Prop} {Kw : Act → World → Prop} {Q : Exit → Act → World → Prop} {ev : Operand → CV} (hi : Inv m w H V) (hev : ∀ x, RelV m w V (ev x) (a.eval x)) (h : cop P ev H V K o.op)
    (hK : ∀ c H' V' u m' w', K c H' V' → Inv m' w' H' V' → RelV m' w' V' c u → Ext m w V m' w' V' → Kw (a.put o.dst u) w') : o.wp P a w Kw Q := by
  have pure1 : ∀ c u, (execOp a.eval o).run P w = .ok (.value u) w → RelV m w V c u → K c H V → o.wp P a w Kw Q := fun c u hr hc hk => wp_val hr (hK c H V u m w hk hi hc (Ext.refl m w V))
  cases ho : o.op with
  | move x => rw [ho] at h; exact pure1 _ _ (by simp [execOp, ho]) (hev x) h
  | assign x => rw [ho] at h; exact pure1 _ _ (by simp [execOp, ho]) (hev x) h
  | pick c x y =>
    rw [ho] at h
    simp only [cop] at h
    split at h
    · rename_i t hc
      have h1 := hev c
      rw [hc, RelV] at h1
      cases t with
      | true => exact pure1 _ _ (by simp [execOp, ho, h1, asBool]) (hev x) h
      | false => exact pure1 _ _ (by simp [execOp, ho, h1, asBool]) (hev y) h
    · exact h.elim
  | alloc e =>
    rw [ho] at h
    obtain ⟨zs, hz, h⟩ := h
    obtain ⟨i, z, q1, q2, q3, q4⟩ := zcTy_some hz
    have hp := Pushed.alloc w (.cells z.cells e)
    obtain ⟨s1, s2⟩ := step_box hi hp (by rw [q3]; exact relL_vals zs) (by rw [q3]; exact q4)
    refine wp_val (u := .pointer (some ⟨w.heap.size, 0, none⟩)) (w' := w.alloc (.cells z.cells e)) (by simp [execOp, ho, Instr.alloc, zeroValue, typeInfo, q1, q2, newVar, newRow]) (hK _ _ _ _ _ _ h s1 ?_ s2)
    rw [RelV]; exact ⟨w.heap.size, by simp [← hi.boxlen], rfl⟩
  | box e x =>
    rw [ho] at h
    obtain ⟨h1, h⟩ := h
    have hr := RelV.cells (hev x) h1
    have hp := Pushed.alloc w (.cells (a.eval x).cells e)
    obtain ⟨s1, s2⟩ := step_box hi hp hr (relL_allOne hr h1)
    refine wp_val (u := .pointer (some ⟨w.heap.size, 0, none⟩)) (w' := w.alloc (.cells (a.eval x).cells e)) (by simp [execOp, ho, Instr.box, newVar, newRow]) (hK _ _ _ _ _ _ h s1 ?_ s2)
    rw [RelV]; exact ⟨w.heap.size, by simp [← hi.boxlen], rfl⟩
  | load t x =>
    rw [ho] at h
    obtain ⟨g, n, ht, h⟩ := h
    have hx := hev x
    split at h
    · rename_i b o' he
      obtain ⟨cs, hb, h⟩ := h
      rw [he, RelV] at hx
      obtain ⟨k, hk, hu⟩ := hx
      obtain ⟨k', c, e, g1, g2, g3, g4, g5⟩ := hi.alive b cs hb
      rw [hk] at g1; cases g1
      obtain ⟨c', u, r1, r2, r3⟩ := ld_run (P := P) ht g5 h
      rw [Nat.zero_add] at r1
      exact pure1 c' u (by simp [execOp, ho, Instr.loadAt, hu, Instr.sureAddr, r1]) r2 r3
    · rename_i cs o' he
      rw [he, RelV] at hx
      obtain ⟨k, a', hu, h1, h2⟩ := hx
      obtain ⟨c', u, r1, r2, r3⟩ := ld_run (P := P) ht h2 h
      exact pure1 c' u (by simp [execOp, ho, Instr.loadAt, hu, Instr.sureAddr, r1]) r2 r3
    · exact h.elim
  | store t x y =>
    rw [ho] at h
    obtain ⟨g, n, ht, h⟩ := h
    have hx := hev x
    split at h
    · rename_i b o' he
      obtain ⟨cs, hb, h1, h2, h3, h⟩ := h
      rw [he, RelV] at hx
      obtain ⟨k, hk, hu⟩ := hx
      obtain ⟨k', c, e, g1, g2, g3, g4, g5⟩ := hi.alive b cs hb
      rw [hk] at g1; cases g1
      have hr := RelV.cells (hev y) h1
      have hl := relL_length hr
      have hone := relL_allOne hr h1
      obtain ⟨s1, s2⟩ := step_store hi hb hk g2 hr hone (by rw [h2]; exact h3)
      have hst := run_storeCells_at P k o' e (a.eval y).cells.toList 0 c w g2 (by rw [hl, h2]; omega) hone
      simp only [Nat.add_zero] at hst
      rw [h2] at s1
      refine wp_none (w' := w.setRow k (c.toList.take o' ++ (a.eval y).cells.toList ++ c.toList.drop (o' + (a.eval y).cells.toList.length)).toArray) ?_ (hK _ _ _ _ _ _ h s1 (by rw [RelV]; trivial) s2)
      have hsz : (a.eval y).cells.size = n := by simpa [h2] using hl
      simp [execOp, ho, Instr.storeAt, hu, Instr.sureAddr, storeVar, sizeOf_run ht, hsz]
      simpa [hsz] using congrArg (fun r => Result.andThen r fun _ w' => Result.ok Next.skip w') hst
    · exact h.elim
  | nilCheck x =>
    rw [ho] at h
    have hx := hev x
    simp only [cop] at h
    split at h
    · rename_i b o' he
      have hx' := hx
      rw [he, RelV] at hx'
      obtain ⟨k, hk, hu⟩ := hx'
      exact pure1 _ _ (by simp [execOp, ho, hu]; rfl) (by rw [he, hu] at hx; exact hx) h
    · rename_i cs o' he
      have hx' := hx
      rw [he, RelV] at hx'
      obtain ⟨k, a', hu, _⟩ := hx'
      exact pure1 _ _ (by simp [execOp, ho, hu]; rfl) (by rw [he, hu] at hx; exact hx) h
    · rename_i f caps he
      have hx' := hx
      rw [he, RelV] at hx'
      obtain ⟨us, hu, _⟩ := hx'
      exact pure1 _ _ (by simp [execOp, ho, hu]; rfl) (by rw [he, hu] at hx; exact hx) h
    · exact h.elim
  | binOp op t x y ty =>
    rw [ho] at h
    obtain ⟨c, r, h1, h2, h3⟩ := cbin_run (P := P) (ox := x) (oy := y) (hev x) (hev y) h
    exact pure1 c r (by
      simp only [execOp, ho]
      simp only [Sem.run_bind] at h1 ⊢
      rw [h1]; rfl) h2 h3
  | unOp op t x =>
    rw [ho] at h
    have h : cun op (ev x) (fun c => K c H V) := h
    obtain ⟨c, r, h1, h2, h3⟩ := cun_run (P := P) (hev x) h
    exact pure1 c r (by simp [execOp, ho, h1]) h2 h3
  | convert s d x =>
    rw [ho] at h
    obtain ⟨k, hk, h⟩ := h
    have hx := hev x
    unfold cvTy at hk
    split at hk
    · rename_i kd hd
      cases hs : P.underlying s with
      | none => simp [hs] at hk
      | some ds =>
        simp [hs] at hk; subst hk
        split at h
        · rename_i k1 k2 n hk1 he
          cases hk1
          rw [he, RelV] at hx
          refine pure1 _ (.int kd (kd.wrap n)) ?_ (by rw [RelV]) h
          simp [execOp, ho, hx, convert, run_underlying hs, run_underlying hd, Conv.intToInt]
        all_goals first | (rename_i hk1 _; cases hk1; done) | exact h.elim
    · rename_i hd
      split at hk
      · rename_i e hs
        split at hk
        · rename_i he8
          cases hk
          split at h
          · rename_i hk1 _; cases hk1
          · rename_i tk sz xs _ he
            obtain ⟨bs, rfl, h⟩ := h
            rw [he, RelV] at hx
            obtain ⟨base, cap, hu, h1, h2, h3, h4⟩ := hx
            refine pure1 _ (.string ⟨bs.toArray⟩) ?_ (by rw [RelV]) h
            simp only [execOp, ho, Sem.run_bind, hu]
            cases base with
            | none =>
              rcases h4 with h4 | ⟨_, _, hb, _⟩
              · have : bs = [] := by simpa using h4
                subst this
                simp [convert, run_underlying hs, run_underlying hd, run_underlying he8, Conv.bytesToString]; rfl
              · cases hb
            | some ad =>
              have hl : (loadCells ad (bs.map u8).length).run P w = .ok ((bs.map fun b => (b.toNat : Int)).map (Value.int .u8)).toArray w := by
                rcases h4 with h4 | ⟨k, o, hb, h5, h6⟩
                · have : bs = [] := by simpa using h4
                  subst this
                  simp [loadCells, loadCellsFrom]
                · cases hb
                  obtain ⟨g1, g2⟩ := relE_flat h6
                  obtain ⟨us, q1, q2, q3⟩ := relC_vals g1
                  have hus := u8_vals bs q1
                  have hlen : us.length = (bs.map u8).length := by rw [hus]; simp
                  rw [← hlen]
                  have := run_loadCells_list (P := P) w ⟨k, o, none⟩ us (fun j v hv => by rw [addr_add]; exact q2 j v hv)
                  rw [this, hus]; simp [Function.comp_def]
              rw [run_convert_bytes_string w s d e ad _ cap hs he8 hd, run_bytesToString w ad _ cap _ hl, fold_bytes]
              rfl
          · rename_i _ he
            rw [he, RelV] at hx
            refine pure1 _ (.string .empty) ?_ (by rw [RelV]) h
            simp [execOp, ho, hx, convert, run_underlying hs, run_underlying hd, run_underlying he8, Conv.bytesToString]
          · exact h.elim
        · cases hk
      · cases hk
    · cases hk
  | sliceToArrayPointer t x =>
    rw [ho] at h
    obtain ⟨n, g, sz, ht, h⟩ := h
    split at h
    · rename_i tk sz' xs he
      obtain ⟨rfl, hn, h⟩ := h
      have hx := hev x
      rw [he, RelV] at hx
      obtain ⟨base, cap, hu, h1, h2, h3, h4⟩ := hx
      obtain ⟨e, hue, hl, _, hn1⟩ := arTy_some ht
      rcases h4 with rfl | ⟨k, o', rfl, h5, h6⟩
      · simp at hn; omega
      · obtain ⟨q1, q2⟩ := relE_flat (relE_take h6 n)
        refine pure1 _ (.pointer (some ⟨k, o', none⟩)) ?_ ?_ h
        · simp [execOp, ho, hu, Instr.arrayAt, run_underlying hue]
          intro hlt; omega
        · rw [RelV]
          refine ⟨k, o', rfl, ?_, q1⟩
          rw [q2]
          refine Nat.le_trans (Nat.add_le_add_left (Nat.mul_le_mul_right _ ?_) _) h5
          simp; omega
    · exact h.elim
  | makeFunc fn first captured =>
    rw [ho] at h
    simp only [cop] at h
    split at h
    · rename_i f hf
      have hfirst : first = #[] := by simpa using hf
      subst hfirst
      refine pure1 _ (.func (.func f) #[] (captured.map a.eval)) (by simp [execOp, ho, Instr.makeFunc]) ?_ h
      rw [RelV]
      exact ⟨captured.toList.map a.eval, by simp [← Array.toList_map], relL_map hev _⟩
    · exact h.elim
  | makeSlice t l c =>
    rw [ho] at h
    obtain ⟨e, sz, ht, zs, hz, h⟩ := h
    split at h
    · rename_i k n k' n' hl hc
      obtain ⟨rfl, h0, h1, h⟩ := h
      have el := hev l
      have ec := hev c
      rw [hl, RelV] at el
      rw [hc, RelV] at ec
      obtain ⟨u, w', m', r1, r2, r3, r4⟩ := makeSlice_run (P := P) hi ht hz k k' n h0 h1
      exact wp_val (u := u) (w' := w') (by simp [execOp, ho, el, ec, r1]) (hK _ _ _ _ _ _ h r2 r3 r4)
    · exact h.elim
  | slice t x lo hi' mx =>
    rw [ho] at h
    have h : cslice P t (ev x) (lo.map ev) (hi'.map ev) (mx.map ev) (fun c => K c H V) := h
    obtain ⟨c, r, h1, h2, h3⟩ := cslice_run (P := P) (hev x) hev h
    exact pure1 c r (by simp [execOp, ho, h1]) h2 h3
  | fieldAddr s x f =>
    rw [ho] at h
    obtain ⟨o', g, n, ht, h⟩ := h
    have hx := hev x
    split at h
    · rename_i b o2 he
      rw [he, RelV] at hx
      obtain ⟨k, hk, hu⟩ := hx
      exact pure1 _ _ (by simp [execOp, ho, hu, fieldAt_run ht]; rfl) (by rw [RelV]; exact ⟨k, hk, rfl⟩) h
    · rename_i cs o2 he
      rw [he, RelV] at hx
      obtain ⟨k, a', hu, h1, h2⟩ := hx
      exact pure1 _ _ (by simp [execOp, ho, hu, fieldAt_run ht]; rfl) (by rw [RelV]; exact ⟨k, a', by rw [Nat.add_assoc], h1, h2⟩) h
    · exact h.elim
  | field s x f =>
    rw [ho] at h
    obtain ⟨o', g, n, ht, h⟩ := h
    have hx := hev x
    split at h
    · rename_i cs he
      rw [he, RelV] at hx
      obtain ⟨us, hu, hr⟩ := hx
      obtain ⟨c, r, h1, h2, h3⟩ := field_run (P := P) ht hr h
      exact pure1 c r (by simp [execOp, ho, hu, h1]) h2 h3
    · exact h.elim
  | indexAddr t x i =>
    rw [ho] at h
    have h : cidx P t (ev x) (ev i) (fun c => K c H V) := h
    obtain ⟨c, r, h1, h2, h3⟩ := cidx_run (P := P) (hev x) (hev i) h
    exact pure1 c r (by simp [execOp, ho, h1]) h2 h3
  | index t x i =>
    rw [ho] at h
    obtain ⟨len, g, n, ht, h⟩ := h
    obtain ⟨e, hu, hl, _⟩ := arTy_some ht
    split at h
    · rename_i cs k j hx hj
      obtain ⟨h0, h1, h⟩ := h
      have ex := hev x
      have ej := hev i
      rw [hx, RelV] at ex
      rw [hj, RelV] at ej
      obtain ⟨us, eu, hr⟩ := ex
      obtain ⟨c, r, r1, r2, r3⟩ := part_run (P := P) hl hr h
      exact pure1 c r (by simp [execOp, ho, eu, ej, Instr.index, asIntOf, run_underlying hu, h0, h1, sizeOf_run hl, r1]) r2 r3
    · exact h.elim
  | extract x i =>
    rw [ho] at h
    simp only [cop] at h
    split at h
    · rename_i cs hx
      obtain ⟨h1, h⟩ := h
      have ex := hev x
      rw [hx, RelV] at ex
      obtain ⟨us, eu, hr⟩ := ex
      obtain ⟨u, q1, q2⟩ := relL_get hr i cs[i] (List.getElem?_eq_getElem h1)
      exact pure1 _ u (by simp [execOp, ho, eu, Instr.extract, q1]) q2 h
    · exact h.elim
  | build t parts =>
    rw [ho] at h
    obtain ⟨ps, zs, cs, ht, hf, h⟩ := h
    obtain ⟨u, r1, r2⟩ := build_run (P := P) ht hev hf
    exact pure1 _ u (by simp [execOp, ho, r1]) r2 h
  | buildSlice t len parts =>
    rw [ho] at h
    obtain ⟨e, sz, ht, h1, h2, h3, h⟩ := h
    obtain ⟨u, w', m', r1, r2, r3, r4⟩ := buildSlice_run (P := P) hi ht hev h1 h2 h3
    exact wp_val (u := u) (w' := w') (by simp [execOp, ho, r1]) (hK _ _ _ _ _ _ h r2 r3 r4)
  | call c =>
    rw [ho] at h
    simp only [cop] at h
    split at h
    · rename_i f hcal
      split at h
      · rename_i g caps hf
        have ef := hev f
        rw [hf, RelV] at ef
        obtain ⟨us, eu, hr⟩ := ef
        obtain ⟨⟨fn, f1, f2, f3⟩, hc⟩ := h
        have hargs := relL_append (relL_map hev c.args.toList) hr
        have hcall := hc m w _ hi hargs
        have hrun : (execOp a.eval o).run P w = .ok (.enter g (c.args.toList.map a.eval ++ us).toArray) w := by
          have hb : ¬ fn.body = none := by cases hbb : fn.body <;> simp_all
          have f3' : ¬ fn.name = "runtime.NumGoroutine" := by simpa using f3
          have hfa : c.args.map a.eval ++ us.toArray = (c.args.toList.map a.eval ++ us).toArray := by
            rw [← Array.toList_map]; simp
          simp [execOp, ho, resolve, hcal, eu, Deferred.ofValue, invoke, callFunc, f1, f3', hb, hfa]
        unfold Oper.wp
        rw [hrun]
        refine Calls.mono hcall fun e w' ⟨u, m', r, H', V', h1, h2, h3, h4, h5⟩ => ?_
        subst h1
        exact hK _ _ _ _ _ _ h2 h3 h4 h5
      · exact h.elim
    · rename_i hcal
      obtain ⟨t, x, h1, h2, h⟩ := h
      have hx := hev x
      have fin : ∀ (n : Int) , (Builtin.len_ #[t] o.type #[a.eval x]).run P w = .ok (.int .i64 n) w → K (.v (.int .i64 n)) H V → o.wp P a w Kw Q := fun n hr hk =>
        pure1 _ (.int .i64 n) (by simp [execOp, ho, resolve, hcal, h1, h2, invoke, builtin, hr]) (by rw [RelV]) hk
      unfold clen at h
      split at h
      · rename_i tk sz xs he
        obtain ⟨e, sz', ht⟩ := sl1 h.1
        obtain ⟨_, _, hu, _⟩ := slTy_some ht
        rw [he, RelV] at hx
        obtain ⟨base, cap, eu, _⟩ := hx
        exact fin _ (by simp [Builtin.len_, run_underlying hu, eu, goInt]) h.2
      · rename_i b o' n sz he
        obtain ⟨e, sz', ht⟩ := sl1 h.1
        obtain ⟨_, _, hu, _⟩ := slTy_some ht
        rw [he, RelV] at hx
        obtain ⟨base, cap, k, eu, _⟩ := hx
        exact fin _ (by simp [Builtin.len_, run_underlying hu, eu, goInt]) h.2
      · rename_i he
        obtain ⟨e, sz', ht⟩ := sl1 h.1
        obtain ⟨_, _, hu, _⟩ := slTy_some ht
        rw [he, RelV] at hx
        exact fin _ (by simp [Builtin.len_, run_underlying hu, hx, goInt]) h.2
      · rename_i s he
        rw [he, RelV] at hx
        exact fin _ (by simp [Builtin.len_, run_underlying h.1, hx, goInt]) h.2
      · exact h.elim
    · rename_i hcal
      obtain ⟨t, tx, x, y, h1, h2, h⟩ := h
      obtain ⟨u, w', m', c', H', V', r1, r2, r3, r4, r5⟩ := capp_run (P := P) (ty := o.type) hi (hev x) (hev y) h
      exact wp_val (u := u) (w' := w') (by simp [execOp, ho, resolve, hcal, h1, h2, invoke, builtin, r1]) (hK _ _ _ _ _ _ r2 r3 r4 r5)
    · exact h.elim
  | _ => rw [ho] at h; exact False.elim h
end
end Go.Proofs.Ytffjhibomipemaa
