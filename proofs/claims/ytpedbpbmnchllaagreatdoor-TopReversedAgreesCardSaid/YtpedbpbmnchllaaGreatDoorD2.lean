import Derived.Test.YtpedbpbmnchllaaGreatDoorD1
import Derived.Laws.BytesString
import Derived.Maps.RangeRun
import Derived.TacticsIn
import Derived.Deep.LoopGhost
import Derived.LoopIn
import Derived.Scope
import Derived.RangeFuncLeaves
import Derived.RangeFuncRecord
set_option linter.unusedSimpArgs false
set_option linter.unusedVariables false
set_option linter.unusedSectionVars false
namespace Go.Proofs.YtpedbpbmnchllaaGreatDoor

section
variable {P : Program} {m : Gh} {w : World} {H : Hp} {V : List Nat}

theorem makeSlice_run0 (hi : Inv m w H V) {t e : TypeId} {sz : Nat} {zs : List Value} (ht : slTy P t = some (e, sz)) (hz' : zcTy P e = some zs) (k k' : IntKind) (n : Int) (h0 : 0 ≤ n) (h1 : n ≤ 1099511627776) :
    ∃ u w' m', (Instr.makeSlice t (.int k 0) (.int k' n)).run P w = .ok u w' ∧ Inv m' w' H (V ++ [0]) ∧ RelV m' w' (V ++ [0]) (.sl (.own V.length 0) sz []) u ∧ Ext m w V m' w' (V ++ [0]) := by
  obtain ⟨i, z, hu, hinf, hsz, hpos, hb0, hb1, hz, hzs⟩ := slTy_some ht
  have hw : IntKind.i64.wrap n = n := IntWalk.i64_in _ ⟨by omega, by omega⟩
  have hw0 : IntKind.i64.wrap 0 = 0 := rfl
  have hbig : (i.bytes : Int) * n ≤ 281474976710656 := by
    have h2 : (i.bytes : Int) * n ≤ 128 * 1099511627776 := by
      have a1 : (i.bytes : Int) * n ≤ 128 * n := Int.mul_le_mul_of_nonneg_right (by omega) h0
      omega
    omega
  obtain ⟨c, hc1, hc2⟩ : ∃ c : Array Value, (Instr.makeSlice t (.int k 0) (.int k' n)).run P w = .ok (.slice (some ⟨w.heap.size, 0, none⟩) 0 n.toNat) (w.alloc (.cells c e)) ∧ c.size = n.toNat * sz := by
    refine ⟨((Array.range (n.toNat * sz)).map (fun x => z.cells[x % sz]!)), ?_, by simp⟩
    have e1 : ¬ ((281474976710656 : Int) < i.bytes * n) := by omega
    have e2 : ¬ n < 0 := by omega
    by_cases hn : n.toNat * sz = 0
    · simp [Instr.makeSlice, run_underlying hu, asInt, asIntOf, typeInfo, hinf, hw, hw0, h0, e1, e2, slSize_run ht, hn, newRow, askRoom]
      congr 2
      apply Array.ext' ; simp
    · simp [Instr.makeSlice, run_underlying hu, asInt, asIntOf, typeInfo, hinf, hw, hw0, h0, e1, e2, slSize_run ht, hn, newRow, askRoom, zeroValue, hz, hzs]
  have hp := Pushed.alloc w (.cells c e)
  obtain ⟨s1, s2⟩ := step_fresh hi hp 0 (Nat.zero_le _)
  refine ⟨_, _, _, hc1, s1, ?_, s2⟩
  rw [RelV]
  refine ⟨some ⟨w.heap.size, 0, none⟩, n.toNat, rfl, Nat.zero_le _, ⟨0, by rw [List.getElem?_append_right (Nat.le_refl _), Nat.sub_self]; rfl, Nat.le_refl _, fun _ => .inr ⟨w.heap.size, 0, c, e, rfl, ?_, ?_, hp.new, by rw [hc2]; omega⟩⟩, hpos, .inl rfl⟩
  · show (m.tip ++ [some w.heap.size])[V.length]? = _
    rw [← hi.tiplen, List.getElem?_append_right (Nat.le_refl _), Nat.sub_self]; rfl
  · simp
theorem makeSlice_run (hi : Inv m w H V) {t e : TypeId} {sz : Nat} {zs : List Value} (ht : slTy P t = some (e, sz)) (hz' : zcTy P e = some zs) (k k' : IntKind) (n : Int) (h0 : 0 ≤ n) (h1 : n ≤ 1099511627776) :
    ∃ u w' m', (Instr.makeSlice t (.int k n) (.int k' n)).run P w = .ok u w' ∧ Inv m' w' (H ++ [some ((List.replicate n.toNat (zs.map CV.v)).flatten)]) V ∧ RelV m' w' V (.bsl H.length 0 n.toNat sz) u ∧ Ext m w V m' w' V := by
  obtain ⟨i, z, hu, hinf, hsz, hpos, hb0, hb1, hz, hzs⟩ := slTy_some ht
  obtain ⟨i', z', q1, q2, q3, q4⟩ := zcTy_some hz'
  rw [hinf] at q1; cases q1
  rw [hz] at q2; cases q2
  have hw : IntKind.i64.wrap n = n := IntWalk.i64_in _ ⟨by omega, by omega⟩
  have hbig : (i.bytes : Int) * n ≤ 281474976710656 := by
    have h2 : (i.bytes : Int) * n ≤ 128 * 1099511627776 := by
      have a1 : (i.bytes : Int) * n ≤ 128 * n := Int.mul_le_mul_of_nonneg_right (by omega) h0
      omega
    omega
  obtain ⟨c, hc1, hc2⟩ : ∃ c : Array Value, (Instr.makeSlice t (.int k n) (.int k' n)).run P w = .ok (.slice (some ⟨w.heap.size, 0, none⟩) n.toNat n.toNat) (w.alloc (.cells c e)) ∧ c.toList = (List.replicate n.toNat zs).flatten := by
    have hlen : ∀ (l : List Value) (j : Nat), l.length = sz → (List.range (j * sz)).map (fun x => l.toArray[x % sz]!) = (List.replicate j l).flatten := fun l j hl => by
      induction j with
      | zero => simp
      | succ j ih =>
        rw [Nat.succ_mul, List.range_add, List.map_append, ih, List.replicate_succ', List.flatten_append]
        congr 1
        simp only [List.map_map, List.flatten_cons, List.flatten_nil, List.append_nil]
        apply List.ext_getElem (by simp [hl])
        intro x h1 h2
        simp at h1
        simp [Nat.mod_eq_of_lt h1, hl, h1]
    refine ⟨((Array.range (n.toNat * sz)).map (fun x => z.cells[x % sz]!)), ?_, ?_⟩
    · have e1 : ¬ ((281474976710656 : Int) < i.bytes * n) := by omega
      have e2 : ¬ n < 0 := by omega
      by_cases hn : n.toNat * sz = 0
      · simp [Instr.makeSlice, run_underlying hu, asInt, asIntOf, typeInfo, hinf, hw, e1, e2, slSize_run ht, hn, newRow, askRoom]
        congr 2
        apply Array.ext' ; simp
      · simp [Instr.makeSlice, run_underlying hu, asInt, asIntOf, typeInfo, hinf, hw, e1, e2, slSize_run ht, hn, newRow, askRoom, zeroValue, hz, hzs]
    · rw [← q3, ← hlen z.cells.toList n.toNat (by simpa using hzs)]
      simp
  have hp := Pushed.alloc w (.cells c e)
  have hfl : (List.replicate n.toNat (zs.map CV.v)).flatten = ((List.replicate n.toNat zs).flatten).map CV.v := by
    rw [List.map_flatten]; simp
  obtain ⟨s1, s2⟩ := step_box (cs := (List.replicate n.toNat (zs.map CV.v)).flatten) hi hp (by rw [hc2, hfl]; exact relL_vals _) (fun u hu => by
    rw [hc2] at hu
    obtain ⟨x, hx, hux⟩ := List.mem_flatten.1 hu
    rw [(List.mem_replicate.1 hx).2] at hux
    exact q4 u hux)
  refine ⟨_, _, _, hc1, s1, ?_, s2⟩
  rw [RelV]
  exact ⟨_, n.toNat, w.heap.size, rfl, Nat.le_refl _, hpos, by simp [← hi.boxlen], .inr rfl, ⟨_, _, _, hp.new⟩⟩

theorem fold_push : ∀ (bs : List UInt8) (s : ByteArray), (bs.map fun b => (b.toNat : Int)).foldl (fun (r : ByteArray) n => r.push (UInt8.ofNat n.toNat)) s = ⟨s.data ++ bs.toArray⟩
  | [], s => by simp
  | b :: bs, s => by
    rw [List.map_cons, List.foldl_cons, fold_push bs]
    have : UInt8.ofNat ((b.toNat : Int)).toNat = b := by simp
    rw [this]
    simp [ByteArray.push]
theorem fold_bytes (bs : List UInt8) : (bs.map fun b => (b.toNat : Int)).foldl (fun (r : ByteArray) n => r.push (UInt8.ofNat n.toNat)) ByteArray.empty = ⟨bs.toArray⟩ := by
  rw [fold_push]; simp [ByteArray.empty, ByteArray.emptyWithCapacity]; rfl
theorem u8_vals : ∀ (bs : List UInt8) {us : List Value}, RelL m w V (bs.map u8).flatten us → us = bs.map fun b => Value.int .u8 (b.toNat : Int)
  | [], us, h => by rw [List.map_nil, List.flatten_nil, RelL] at h; rw [h]; rfl
  | b :: bs, us, h => by
    rw [List.map_cons, List.flatten_cons] at h
    simp only [u8, List.singleton_append] at h
    rw [RelL] at h
    obtain ⟨u, r, rfl, h1, h2⟩ := h
    rw [RelV] at h1
    rw [h1, u8_vals bs h2]; rfl

theorem fenced_fen (ro : Option Nat) (m : Machine) : m.fenced P (fen ro) := by
  cases ro with
  | none => exact fenced_wide P m
  | some l => exact (fenced_inRound P Fence.wide l) ▸ fenced_wide P m
theorem stepsIn_fen {ro : Option Nat} {m m' : Machine} : StepsIn (Machine.fenced P (fen ro)) P m m' ↔ Steps P m m' :=
  ⟨StepsIn.steps, fun h => (StepsIn.of_steps h).mono fun m _ => fenced_fen ro m⟩
theorem comesIn_fen {ro : Option Nat} {m m' : Machine} {e : Ending} : ComesIn (Machine.fenced P (fen ro)) P m m' e ↔ Comes P m m' e := by
  cases e with
  | returned v => exact stepsIn_fen
  | panicked chain => exact stepsIn_fen
  | outgrown => exact Iff.rfl
theorem room_fen (ro : Option Nat) (n : Nat) : (fen ro).room n := fun _ h => by cases h
theorem callsIn_fen {ro : Option Nat} {n : Nat} {f : FuncId} {args : Array Value} {w : World} {R : Ending → World → Prop} : CallsIn (fen ro) n P f args w R ↔ Calls P f args w R :=
  ⟨fun h cs => let ⟨e, w', fr, r, s, x⟩ := h.2 cs (room_fen ro _); ⟨e, w', fr, r, comesIn_fen.1 s, x⟩,
   fun h => ⟨trivial, fun cs _ => let ⟨e, w', fr, r, s, x⟩ := h cs; ⟨e, w', fr, r, comesIn_fen.2 s, x⟩⟩⟩
theorem roundIn_fen {ro : Option Nat} {n n' l : Nat} {f : FuncId} {tmps : Array Value} {aS bd : Code} {w : World} {R : Ending → World → Prop} : RoundIn (fen ro) n P l f tmps aS bd w R ↔ RoundIn Fence.wide n' P l f tmps aS bd w R := by
  constructor
  · exact fun h => ⟨trivial, fun c cs _ => let ⟨e, w', r, s⟩ := h.2 c cs (room_fen ro _); ⟨e, w', r, comesIn_wide.2 (comesIn_fen.1 s)⟩⟩
  · exact fun h => ⟨trivial, fun c cs _ => let ⟨e, w', r, s⟩ := h.2 c cs (room_wide _); ⟨e, w', r, comesIn_fen.2 (comesIn_wide.1 s)⟩⟩

theorem min_run {ρ : Operand → Value} {o : Oper} {c : Call} {x y : Operand} {k : IntKind} {a1 b1 : Int} (ho : o.op = .call c) (hcal : c.callee = .builtin .min) (h2 : c.args = #[x, y]) (hx : ρ x = .int k a1) (hy : ρ y = .int k b1) :
    (execOp ρ o).run P w = .ok (.value (.int k (min a1 b1))) w := by
  have e : (if b1 < a1 then b1 else a1) = min a1 b1 := by
    rw [Int.min_def]; split <;> split <;> omega
  simp [execOp, ho, resolve, hcal, h2, invoke, builtin, hx, hy, Builtin.min_, Builtin.min2]
  simpa using e
theorem max_run {ρ : Operand → Value} {o : Oper} {c : Call} {x y : Operand} {k : IntKind} {a1 b1 : Int} (ho : o.op = .call c) (hcal : c.callee = .builtin .max) (h2 : c.args = #[x, y]) (hx : ρ x = .int k a1) (hy : ρ y = .int k b1) :
    (execOp ρ o).run P w = .ok (.value (.int k (max a1 b1))) w := by
  have e : (if b1 > a1 then b1 else a1) = max a1 b1 := by
    rw [Int.max_def]; split <;> split <;> omega
  simp [execOp, ho, resolve, hcal, h2, invoke, builtin, hx, hy, Builtin.max_, Builtin.max2]
  simpa using e
theorem ccopy_run {t tx ty : TypeId} (hi : Inv m w H V) {x y : CV} {u uy : Value} (hx : RelV m w V x u) (hy : RelV m w V y uy) {K : CV → Hp → List Nat → Prop} (h : ccopy P t tx x y H V K) :
    ∃ u' w' c H' V', (Builtin.copy_ #[t, tx] ty #[u, uy]).run P w = .ok u' w' ∧ K c H' V' ∧ Inv m w' H' V' ∧ RelV m w' V' c u' ∧ Ext m w V m w' V' := by
  obtain ⟨e, sz, ht, htx, h⟩ := h
  obtain ⟨ex, szx, htx⟩ := sl1 htx
  obtain ⟨i, z, hu, hinf, hsz, hpos, hb0, hb1, hz, hzs⟩ := slTy_some ht
  obtain ⟨ys, news, hK, hsrc, hnews, hlen⟩ := csrc_run htx hpos hi hy h
  clear h
  subst hsz
  have hnl := hsrc.newsLen
  split at hK
  · rename_i b o n sz'
    obtain ⟨rfl, hn, cs, hb, hone, hfit, hk⟩ := hK
    rw [RelV] at hx
    obtain ⟨base, cap, k, rfl, h1, h2, hbk, h3, hrow⟩ := hx
    obtain ⟨c, ec, g2, g3, g4, g5⟩ := hi.alive hb hbk hrow
    have hfl : ys.flatten.length = ys.length * i.size := by rw [← relL_length hnews]; exact hnl
    obtain ⟨s1, s2⟩ := step_store (us := news) (o := o) hi hb hbk g2 hnews hsrc.one (by rw [hfl]; exact hfit)
    rw [hfl] at s1
    have hst := run_storeCells_at P k o ec news 0 c w g2 (by rw [hnl]; omega) hsrc.one
    simp only [Nat.add_zero] at hst
    refine ⟨.int .i64 ys.length, _, _, _, _, ?_, hk, s1, by rw [RelV], s2⟩
    have hm : min ys.length n = ys.length := Nat.min_eq_left hn
    rcases h3 with rfl | rfl
    · have hy0 : ys = [] := List.length_eq_zero_iff.1 (by omega)
      subst hy0
      have hnews0 : news = [] := by rw [← List.length_eq_zero_iff, hnl]; simp
      subst hnews0
      have hse := setRow_self w k c ec (0, 0) g2
      have hcells : (Builtin.firstCells i.size 0 uy).run P w = .ok (#[] : Array Value) w := hsrc.cells
      have hlen0 := hsrc.len w
      simp only [List.length_nil] at hlen0
      cases base <;> simp [Builtin.copy_, run_underlying hu, sizeOf, typeInfo, hinf, hlen0, hcells, storeCells, hse, goInt]
    · simp [Builtin.copy_, run_underlying hu, sizeOf, typeInfo, hinf, hsrc.len, hm, hsrc.cells, hst, goInt]
  · exact hK.elim

theorem mpTy_some {t : TypeId} {z : Value} (h : mpTy P t = some z) : ∃ k e i, P.underlying t = some (.map k e) ∧ P.underlying k = some (.int .i64) ∧ P.info? e = some i ∧ i.zero = some z := by
  unfold mpTy at h
  split at h
  · rename_i k e hu
    split at h
    · rename_i z' hk hz
      cases h
      obtain ⟨i, hi, hz⟩ := Option.bind_eq_some_iff.1 hz
      exact ⟨k, e, i, hu, hk, hi, hz⟩
    · cases h
  · cases h
theorem mpTy_some' {t : TypeId} (h : (mpTy P t).isSome = true) : ∃ z, mpTy P t = some z := Option.isSome_iff_exists.1 h
theorem findNow_at {n : Int} : ∀ {es : List MapEntry} {ks : List Int} (j : Nat), es.length = ks.length → (∀ (i : Nat) e, es[i]? = some e → ∃ n, ks[i]? = some n ∧ e.key = .int .i64 n) →
    Instr.findNow (.int .i64) (.int .i64 n) es j = some ((ks.findIdx? (· == n)).bind fun i => (es[i]?).map fun e => (i + j, e.val))
  | [], [], j, _, _ => by simp [Instr.findNow]
  | e :: es, k :: ks, j, hl, h => by
    obtain ⟨n', h1, h2⟩ := h 0 e rfl
    simp at h1; subst h1
    have ih := findNow_at (n := n) (es := es) (ks := ks) (j + 1) (by simpa using hl) fun i e he => by simpa using h (i + 1) e (by simpa using he)
    rw [Instr.findNow, h2]
    by_cases hk : n = k
    · subst hk; simp [Instr.sameNow, List.findIdx?_cons]
    · have hk' : ¬ k = n := fun e => hk e.symm
      simp only [Instr.sameNow, if_true, beq_eq_false_iff_ne.2 hk, ih, List.findIdx?_cons, beq_eq_false_iff_ne.2 hk']
      cases ks.findIdx? (· == n) with
      | none => simp
      | some i => simp only [Option.bind_some, Option.map_some, Bool.false_eq_true, ↓reduceIte, List.getElem?_cons_succ]; congr 2; funext e; congr 1; omega
  | [], _ :: _, _, hl, _ => by simp at hl
  | _ :: _, [], _, hl, _ => by simp at hl
theorem findKey_run {k : TypeId} (hk : P.underlying k = some (.int .i64)) {n : Int} {es : Array MapEntry} {ks : List Int} (hl : es.size = ks.length) (h : ∀ (i : Nat) e, es[i]? = some e → ∃ n, ks[i]? = some n ∧ e.key = .int .i64 n) :
    (Instr.findKey k (.int .i64 n) es.toList).run P w = .ok ((keyAt ks n).bind fun i => (es[i]?).map fun e => (i, e.val)) w := by
  have := findNow_at (n := n) (es := es.toList) (ks := ks) 0 (by simpa using hl) (fun i e he => h i e (by simpa using he))
  simp [Instr.findKey, run_underlying hk, this, keyAt]
theorem checkKey_run {k : TypeId} (hk : P.underlying k = some (.int .i64)) (b : Bool) (n : Int) : (Instr.checkKey b 10000 k (.int .i64 n)).run P w = .ok () w := by
  rw [show (10000 : Nat) = 9999 + 1 from rfl, Instr.checkKey]
  simp [run_underlying hk]
theorem keyAt_lt {ks : List Int} {n : Int} {i : Nat} (h : keyAt ks n = some i) : i < ks.length ∧ ks[i]? = some n := by
  unfold keyAt at h
  obtain ⟨h1, h2, _⟩ := List.findIdx?_eq_some_iff_getElem.1 h
  exact ⟨h1, by rw [List.getElem?_eq_getElem h1]; simpa using h2⟩

theorem live_map (hi : Inv m w H V) {b k : Nat} {ks : List Int} {vs : List CV} (hb : H[b]? = some (some [.objm ks vs])) (hk : m.box[b]? = some k) :
    ∃ (es : Array MapEntry), w.heap[k]? = some (.map es es.size) ∧ es.size = ks.length ∧ vs.length = ks.length ∧
      ∀ (i : Nat) e, es[i]? = some e → e.born = i ∧ (∃ n, ks[i]? = some n ∧ e.key = .int .i64 n) ∧ ∃ c, vs[i]? = some c ∧ RelV m w V c e.val := by
  cases hi.live b _ hb with
  | row k' c0 e0 g1 g2 g3 g4 g5 =>
    obtain ⟨u, _, q, _⟩ := relC_get g5 0 _ rfl
    rw [RelV] at q; exact q.elim
  | obj k' x' g1 g2 g3 => rw [hk] at g1; cases g1; cases g2; exact g3
theorem live_iter (hi : Inv m w H V) {q r b n : Nat} {seen : List Nat} (hq : H[q]? = some (some [.obji b n seen])) (hr : m.box[q]? = some r) :
    ∃ km st, m.box[b]? = some km ∧ w.heap[r]? = some (.mapIter (some km) n seen.toArray st) ∧ st = n := by
  cases hi.live q _ hq with
  | row k' c0 e0 g1 g2 g3 g4 g5 =>
    obtain ⟨u, _, q, _⟩ := relC_get g5 0 _ rfl
    rw [RelV] at q; exact q.elim
  | obj k' x' g1 g2 g3 => rw [hr] at g1; cases g1; cases g2; exact g3
abbrev setBlock' (w : World) (r : Nat) (o : Obj) : World := { w with heap := w.heap.setIfInBounds r o }

set_option maxHeartbeats 2000000 in
/-- EVERY OPERATION RUNS AS 'cop' SAYS. -/
theorem cop_sound {ro : Option Nat} {o : Oper} {a : Act} {K : CV → Hp → List Nat → Prop} {Kw : Act → World → Prop} {Q : Exit → Act → World → Prop} {ev : Operand → CV} (hi : Inv m w H V) (hev : ∀ x, RelV m w V (ev x) (a.eval x)) (h : cop P ev H V K o.op)
    (hK : ∀ c H' V' u m' w', K c H' V' → Inv m' w' H' V' → RelV m' w' V' c u → Ext m w V m' w' V' → Kw (a.put o.dst u) w') : o.wpIn (fen ro) 0 P a w Kw Q := by
  have hnd : ∀ c, o.op ≠ .defer c := fun c e => by rw [e] at h; exact h
  have pure1 : ∀ c u, (execOp a.eval o).run P w = .ok (.value u) w → RelV m w V c u → K c H V → o.wpIn (fen ro) 0 P a w Kw Q := fun c u hr hc hk => wp_val hnd hr (hK c H V u m w hk hi hc (Ext.refl m w V))
  cases ho : o.op with
  | move x => rw [ho] at h; exact pure1 _ _ (by simp [execOp, ho]) (hev x) h
  | assign x => rw [ho] at h; exact pure1 _ _ (by simp [execOp, ho]) (hev x) h
  | pick c x y =>
    rw [ho] at h
    simp only [cop] at h
    split at h
    · rename_i t hc
      have h1 := hev c
      rw [hc, RelV] at h1
      cases t with
      | true => exact pure1 _ _ (by simp [execOp, ho, h1, asBool]) (hev x) h
      | false => exact pure1 _ _ (by simp [execOp, ho, h1, asBool]) (hev y) h
    · exact h.elim
  | alloc e =>
    rw [ho] at h
    obtain ⟨zs, hz, h⟩ := h
    obtain ⟨i, z, q1, q2, q3, q4⟩ := zcTy_some hz
    have hp := Pushed.alloc w (.cells z.cells e)
    obtain ⟨s1, s2⟩ := step_box hi hp (by rw [q3]; exact relL_vals zs) (by rw [q3]; exact q4)
    refine wp_val hnd (u := .pointer (some ⟨w.heap.size, 0, none⟩)) (w' := w.alloc (.cells z.cells e)) (by simp [execOp, ho, Instr.alloc, zeroValue, typeInfo, q1, q2, newVar, newRow]) (hK _ _ _ _ _ _ h s1 ?_ s2)
    rw [RelV]; exact ⟨w.heap.size, by simp [← hi.boxlen], rfl, ⟨_, _, _, hp.new⟩⟩
  | box e x =>
    rw [ho] at h
    obtain ⟨h1, h⟩ := h
    have hr := RelV.cells (hev x) h1
    have hp := Pushed.alloc w (.cells (a.eval x).cells e)
    obtain ⟨s1, s2⟩ := step_box hi hp hr (relL_allOne hr h1)
    refine wp_val hnd (u := .pointer (some ⟨w.heap.size, 0, none⟩)) (w' := w.alloc (.cells (a.eval x).cells e)) (by simp [execOp, ho, Instr.box, newVar, newRow]) (hK _ _ _ _ _ _ h s1 ?_ s2)
    rw [RelV]; exact ⟨w.heap.size, by simp [← hi.boxlen], rfl, ⟨_, _, _, hp.new⟩⟩
  | load t x =>
    rw [ho] at h
    obtain ⟨g, n, ht, h⟩ := h
    have hx := hev x
    split at h
    · rename_i b o' he
      obtain ⟨cs, hb, h⟩ := h
      rw [he, RelV] at hx
      obtain ⟨k, hk, hu, hrow⟩ := hx
      obtain ⟨c, e, g2, g3, g4, g5⟩ := hi.alive hb hk hrow
      obtain ⟨c', u, r1, r2, r3⟩ := ld_run (P := P) ht g5 h
      rw [Nat.zero_add] at r1
      exact pure1 c' u (by simp [execOp, ho, Instr.loadAt, hu, Instr.sureAddr, r1]) r2 r3
    · rename_i cs o' he
      rw [he, RelV] at hx
      obtain ⟨k, a', hu, h1, h2⟩ := hx
      obtain ⟨c', u, r1, r2, r3⟩ := ld_run (P := P) ht h2 h
      exact pure1 c' u (by simp [execOp, ho, Instr.loadAt, hu, Instr.sureAddr, r1]) r2 r3
    · exact h.elim
  | store t x y =>
    rw [ho] at h
    obtain ⟨g, n, ht, h⟩ := h
    have hx := hev x
    split at h
    · rename_i b o' he
      obtain ⟨cs, hb, h1, h2, h3, h⟩ := h
      rw [he, RelV] at hx
      obtain ⟨k, hk, hu, hrow⟩ := hx
      obtain ⟨c, e, g2, g3, g4, g5⟩ := hi.alive hb hk hrow
      have hr := RelV.cells (hev y) h1
      have hl := relL_length hr
      have hone := relL_allOne hr h1
      obtain ⟨s1, s2⟩ := step_store hi hb hk g2 hr hone (by rw [h2]; exact h3)
      have hst := run_storeCells_at P k o' e (a.eval y).cells.toList 0 c w g2 (by rw [hl, h2]; omega) hone
      simp only [Nat.add_zero] at hst
      rw [h2] at s1
      refine wp_none hnd (w' := w.setRow k (c.toList.take o' ++ (a.eval y).cells.toList ++ c.toList.drop (o' + (a.eval y).cells.toList.length)).toArray) ?_ (hK _ _ _ _ _ _ h s1 (by rw [RelV]; trivial) s2)
      have hsz : (a.eval y).cells.size = n := by simpa [h2] using hl
      simp [execOp, ho, Instr.storeAt, hu, Instr.sureAddr, storeVar, sizeOf_run ht, hsz]
      simpa [hsz] using congrArg (fun r => Result.andThen r fun _ w' => Result.ok Next.skip w') hst
    · exact h.elim
  | nilCheck x =>
    rw [ho] at h
    have hx := hev x
    simp only [cop] at h
    split at h
    · rename_i b o' he
      have hx' := hx
      rw [he, RelV] at hx'
      obtain ⟨k, hk, hu, _⟩ := hx'
      exact pure1 _ _ (by simp [execOp, ho, hu]; rfl) (by rw [he, hu] at hx; exact hx) h
    · rename_i cs o' he
      have hx' := hx
      rw [he, RelV] at hx'
      obtain ⟨k, a', hu, _⟩ := hx'
      exact pure1 _ _ (by simp [execOp, ho, hu]; rfl) (by rw [he, hu] at hx; exact hx) h
    · rename_i f caps he
      have hx' := hx
      rw [he, RelV] at hx'
      obtain ⟨us, hu, _⟩ := hx'
      exact pure1 _ _ (by simp [execOp, ho, hu]; rfl) (by rw [he, hu] at hx; exact hx) h
    · rename_i f caps he
      have hx' := hx
      rw [he, RelV] at hx'
      obtain ⟨us, hu, _⟩ := hx'
      exact pure1 _ _ (by simp [execOp, ho, hu]; rfl) (by rw [he, hu] at hx; exact hx) h
    · rename_i b he
      have hx' := hx
      rw [he, RelV] at hx'
      obtain ⟨k, _, hu⟩ := hx'
      exact pure1 _ _ (by simp [execOp, ho, hu]; rfl) (by rw [he, hu] at hx; exact hx) h
    · exact h.elim
  | binOp op t x y ty =>
    rw [ho] at h
    obtain ⟨c, r, h1, h2, h3⟩ := cbin_run (P := P) (ox := x) (oy := y) (hev x) (hev y) h
    exact pure1 c r (by
      simp only [execOp, ho]
      simp only [Sem.run_bind] at h1 ⊢
      rw [h1]; rfl) h2 h3
  | unOp op t x =>
    rw [ho] at h
    have h : cun op (ev x) (fun c => K c H V) := h
    obtain ⟨c, r, h1, h2, h3⟩ := cun_run (P := P) (hev x) h
    exact pure1 c r (by simp [execOp, ho, h1]) h2 h3
  | convert s d x =>
    rw [ho] at h
    obtain ⟨k, hk, h⟩ := h
    have hx := hev x
    unfold cvTy at hk
    split at hk
    · rename_i kd hd
      cases hs : P.underlying s with
      | none => simp [hs] at hk
      | some ds =>
        simp [hs] at hk; subst hk
        split at h
        · rename_i k1 k2 n hk1 he
          cases hk1
          rw [he, RelV] at hx
          refine pure1 _ (.int kd (kd.wrap n)) ?_ (by rw [RelV]) h
          simp [execOp, ho, hx, convert, run_underlying hs, run_underlying hd, Conv.intToInt]
        all_goals first | (rename_i hk1 _; cases hk1; done) | exact h.elim
    · rename_i hd
      split at hk
      · rename_i e hs
        split at hk
        · rename_i he8
          cases hk
          split at h
          · rename_i hk1 _; cases hk1
          · rename_i tk sz xs _ he
            obtain ⟨bs, rfl, h⟩ := h
            rw [he, RelV] at hx
            obtain ⟨base, cap, hu, h1, h2, h3, h4⟩ := hx
            refine pure1 _ (.string ⟨bs.toArray⟩) ?_ (by rw [RelV]) h
            simp only [execOp, ho, Sem.run_bind, hu]
            cases base with
            | none =>
              rcases h4 with h4 | ⟨_, _, hb, _⟩
              · have : bs = [] := by simpa using h4
                subst this
                simp [convert, run_underlying hs, run_underlying hd, run_underlying he8, Conv.bytesToString]; rfl
              · cases hb
            | some ad =>
              have hl : (loadCells ad (bs.map u8).length).run P w = .ok ((bs.map fun b => (b.toNat : Int)).map (Value.int .u8)).toArray w := by
                rcases h4 with h4 | ⟨k, o, hb, h5, h6⟩
                · have : bs = [] := by simpa using h4
                  subst this
                  simp [loadCells, loadCellsFrom]
                · cases hb
                  obtain ⟨g1, g2⟩ := relE_flat h6
                  obtain ⟨us, q1, q2, q3⟩ := relC_vals g1
                  have hus := u8_vals bs q1
                  have hlen : us.length = (bs.map u8).length := by rw [hus]; simp
                  rw [← hlen]
                  have := run_loadCells_list (P := P) w ⟨k, o, none⟩ us (fun j v hv => by rw [addr_add]; exact q2 j v hv)
                  rw [this, hus]; simp [Function.comp_def]
              rw [run_convert_bytes_string w s d e ad _ cap hs he8 hd, run_bytesToString w ad _ cap _ hl, fold_bytes]
              rfl
          · rename_i _ he
            rw [he, RelV] at hx
            refine pure1 _ (.string .empty) ?_ (by rw [RelV]) h
            simp [execOp, ho, hx, convert, run_underlying hs, run_underlying hd, run_underlying he8, Conv.bytesToString]
          · exact h.elim
        · cases hk
      · cases hk
    · cases hk
  | sliceToArrayPointer t x =>
    rw [ho] at h
    obtain ⟨n, g, sz, ht, h⟩ := h
    split at h
    · rename_i tk sz' xs he
      obtain ⟨rfl, hn, h⟩ := h
      have hx := hev x
      rw [he, RelV] at hx
      obtain ⟨base, cap, hu, h1, h2, h3, h4⟩ := hx
      obtain ⟨e, hue, hl, _, hn1⟩ := arTy_some ht
      rcases h4 with rfl | ⟨k, o', rfl, h5, h6⟩
      · simp at hn; omega
      · obtain ⟨q1, q2⟩ := relE_flat (relE_take h6 n)
        refine pure1 _ (.pointer (some ⟨k, o', none⟩)) ?_ ?_ h
        · simp [execOp, ho, hu, Instr.arrayAt, run_underlying hue]
          intro hlt; omega
        · rw [RelV]
          refine ⟨k, o', rfl, ?_, q1⟩
          rw [q2]
          refine Nat.le_trans (Nat.add_le_add_left (Nat.mul_le_mul_right _ ?_) _) h5
          simp; omega
    · exact h.elim
  | makeFunc fn first captured =>
    rw [ho] at h
    simp only [cop] at h
    split at h
    · rename_i f hf
      have hfirst : first = #[] := by simpa using hf
      subst hfirst
      refine pure1 _ (.func (.func f) #[] (captured.map a.eval)) (by simp [execOp, ho, Instr.makeFunc]) ?_ h
      rw [RelV]
      exact ⟨captured.toList.map a.eval, by simp [← Array.toList_map], relL_map hev _⟩
    · rename_i f hf _
      have hcap : captured = #[] := by simpa using hf
      subst hcap
      refine pure1 _ (.func (.func f) (first.map a.eval) #[]) (by simp [execOp, ho, Instr.makeFunc]) ?_ h
      rw [RelV]
      exact ⟨first.toList.map a.eval, by simp [← Array.toList_map], relL_map hev _⟩
    · exact h.elim
  | makeSlice t l c =>
    rw [ho] at h
    obtain ⟨e, sz, ht, zs, hz, h⟩ := h
    split at h
    · rename_i hZ
      split at h
      · rename_i k' n' hc
        obtain ⟨h0, h1, h⟩ := h
        have ec := hev c
        rw [hc, RelV] at ec
        obtain ⟨k, rfl⟩ : ∃ k, l = .const (.int k 0) := by
          unfold isZ at hZ
          split at hZ
          · rename_i k n
            obtain rfl : n = 0 := by simpa using hZ
            exact ⟨k, rfl⟩
          · cases hZ
        obtain ⟨u, w', m', r1, r2, r3, r4⟩ := makeSlice_run0 (P := P) hi ht hz k k' n' h0 h1
        have el : a.eval (.const (.int k 0)) = .int k 0 := rfl
        exact wp_val hnd (u := u) (w' := w') (by simp [execOp, ho, el, ec, r1]) (hK _ _ _ _ _ _ h r2 r3 r4)
      · exact h.elim
    · split at h
      · rename_i k n k' n' hl hc
        obtain ⟨rfl, h0, h1, h⟩ := h
        have el := hev l
        have ec := hev c
        rw [hl, RelV] at el
        rw [hc, RelV] at ec
        obtain ⟨u, w', m', r1, r2, r3, r4⟩ := makeSlice_run (P := P) hi ht hz k k' n h0 h1
        exact wp_val hnd (u := u) (w' := w') (by simp [execOp, ho, el, ec, r1]) (hK _ _ _ _ _ _ h r2 r3 r4)
      · exact h.elim
  | slice t x lo hi' mx =>
    rw [ho] at h
    have h : cslice P t (ev x) (lo.map ev) (hi'.map ev) (mx.map ev) (fun c => K c H V) := h
    obtain ⟨c, r, h1, h2, h3⟩ := cslice_run (P := P) (hev x) hev h
    exact pure1 c r (by simp [execOp, ho, h1]) h2 h3
  | fieldAddr s x f =>
    rw [ho] at h
    obtain ⟨o', g, n, ht, h⟩ := h
    have hx := hev x
    split at h
    · rename_i b o2 he
      rw [he, RelV] at hx
      obtain ⟨k, hk, hu, hrow⟩ := hx
      exact pure1 _ _ (by simp [execOp, ho, hu, fieldAt_run ht]; rfl) (by rw [RelV]; exact ⟨k, hk, rfl, hrow⟩) h
    · rename_i cs o2 he
      rw [he, RelV] at hx
      obtain ⟨k, a', hu, h1, h2⟩ := hx
      exact pure1 _ _ (by simp [execOp, ho, hu, fieldAt_run ht]; rfl) (by rw [RelV]; exact ⟨k, a', by rw [Nat.add_assoc], h1, h2⟩) h
    · exact h.elim
  | field s x f =>
    rw [ho] at h
    obtain ⟨o', g, n, ht, h⟩ := h
    have hx := hev x
    split at h
    · rename_i cs he
      rw [he, RelV] at hx
      obtain ⟨us, hu, hr⟩ := hx
      obtain ⟨c, r, h1, h2, h3⟩ := field_run (P := P) ht hr h
      exact pure1 c r (by simp [execOp, ho, hu, h1]) h2 h3
    · exact h.elim
  | indexAddr t x i =>
    rw [ho] at h
    have h : cidx P t (ev x) (ev i) (fun c => K c H V) := h
    obtain ⟨c, r, h1, h2, h3⟩ := cidx_run (P := P) (hev x) (hev i) h
    exact pure1 c r (by simp [execOp, ho, h1]) h2 h3
  | index t x i =>
    rw [ho] at h
    have h : cindex P t (ev x) (ev i) (fun c => K c H V) := h
    unfold cindex at h
    have ex := hev x
    have ej := hev i
    split at h
    · rename_i cs k j hx hj
      obtain ⟨len, g, n, ht, h0, h1, h⟩ := h
      obtain ⟨e, hu, hl, _⟩ := arTy_some ht
      rw [hx, RelV] at ex
      rw [hj, RelV] at ej
      obtain ⟨us, eu, hr⟩ := ex
      obtain ⟨c, r, r1, r2, r3⟩ := part_run (P := P) hl hr h
      exact pure1 c r (by simp [execOp, ho, eu, ej, Instr.index, asIntOf, run_underlying hu, h0, h1, sizeOf_run hl, r1]) r2 r3
    · rename_i s k j hx hj
      obtain ⟨hu, h0, h1, h⟩ := h
      rw [hx, RelV] at ex
      rw [hj, RelV] at ej
      exact pure1 _ (.int .u8 (s[j.toNat].toNat : Int)) (by simp [execOp, ho, ex, ej, Instr.index, asIntOf, run_underlying hu, h0, h1]) (by rw [RelV]) h
    · exact h.elim
  | extract x i =>
    rw [ho] at h
    simp only [cop] at h
    split at h
    · rename_i cs hx
      obtain ⟨h1, h⟩ := h
      have ex := hev x
      rw [hx, RelV] at ex
      obtain ⟨us, eu, hr⟩ := ex
      obtain ⟨u, q1, q2⟩ := relL_get hr i cs[i] (List.getElem?_eq_getElem h1)
      exact pure1 _ u (by simp [execOp, ho, eu, Instr.extract, q1]) q2 h
    · exact h.elim
  | build t parts =>
    rw [ho] at h
    obtain ⟨ps, zs, cs, ht, hf, h⟩ := h
    obtain ⟨u, r1, r2⟩ := build_run (P := P) ht hev hf
    exact pure1 _ u (by simp [execOp, ho, r1]) r2 h
  | buildSlice t len parts =>
    rw [ho] at h
    obtain ⟨e, sz, ht, h1, h2, h3, h⟩ := h
    obtain ⟨u, w', m', r1, r2, r3, r4⟩ := buildSlice_run (P := P) hi ht hev h1 h2 h3
    exact wp_val hnd (u := u) (w' := w') (by simp [execOp, ho, r1]) (hK _ _ _ _ _ _ h r2 r3 r4)
  | call c =>
    rw [ho] at h
    simp only [cop] at h
    split at h
    · rename_i f hcal
      have enter : ∀ (g : Nat) (args : List CV) (us : List Value), (execOp a.eval o).run P w = .ok (.enter g us.toArray) w → CC P g args H V K → RelL m w V args us → o.wpIn (fen ro) 0 P a w Kw Q := fun g args us hrun hcc hr => by
        refine ⟨fun _ _ => trivial, ?_⟩
        rw [Oper.semAt_eq _ _ _ hnd, hrun]
        refine ⟨fun h => (by cases h), ?_⟩
        have := Calls.mono (hcc.2 m w us hi hr) (R' := fun
          | .returned v, w'' => Kw (a.put o.dst v) w''
          | .panicked chain, w'' => Q (.panic chain) a w''
          | .outgrown, _ => LetsOut Q) fun e w' ⟨u, m', r, H', V', h1, h2, h3, h4, h5⟩ => by
            subst h1
            exact hK _ _ _ _ _ _ h2 h3 h4 h5
        exact callsIn_fen.2 this
      split at h
      · rename_i g caps hf
        have ef := hev f
        rw [hf, RelV] at ef
        obtain ⟨us, eu, hr⟩ := ef
        obtain ⟨⟨fn, f1, f2, f3⟩, hc⟩ := h
        have hargs := relL_append (relL_map hev c.args.toList) hr
        have hcall := hc m w _ hi hargs
        have hrun : (execOp a.eval o).run P w = .ok (.enter g (c.args.toList.map a.eval ++ us).toArray) w := by
          have hb : ¬ fn.body = none := by cases hbb : fn.body <;> simp_all
          have f3' : ¬ fn.name = "runtime.NumGoroutine" := by simpa using f3
          have hfa : c.args.map a.eval ++ us.toArray = (c.args.toList.map a.eval ++ us).toArray := by
            rw [← Array.toList_map]; simp
          simp [execOp, ho, resolve, hcal, eu, Deferred.ofValue, invoke, callFunc, f1, f3', hb, hfa]
        exact enter g _ _ hrun ⟨⟨fn, f1, f2, f3⟩, hc⟩ hargs
      · rename_i g first hf
        have ef := hev f
        rw [hf, RelV] at ef
        obtain ⟨us, eu, hr⟩ := ef
        obtain ⟨⟨fn, f1, f2, f3⟩, hc⟩ := h
        have hargs := relL_append hr (relL_map hev c.args.toList)
        have hrun : (execOp a.eval o).run P w = .ok (.enter g (us ++ c.args.toList.map a.eval).toArray) w := by
          have hb : ¬ fn.body = none := by cases hbb : fn.body <;> simp_all
          have f3' : ¬ fn.name = "runtime.NumGoroutine" := by simpa using f3
          have hfa : us.toArray ++ c.args.map a.eval = (us ++ c.args.toList.map a.eval).toArray := by
            rw [← Array.toList_map]; simp
          simp [execOp, ho, resolve, hcal, eu, Deferred.ofValue, invoke, callFunc, f1, f3', hb, hfa]
        exact enter g _ _ hrun ⟨⟨fn, f1, f2, f3⟩, hc⟩ hargs
      · rename_i b hf
        have ef := hev f
        rw [hf, RelV] at ef
        obtain ⟨k, hbk, eu⟩ := ef
        obtain ⟨fn, tmps, aS, bd, hy, hround⟩ := h m w _ k hi (relL_map hev c.args.toList) hbk
        have hrun : (execOp a.eval o).run P w = .ok (.round k fn tmps aS bd) w := by
          have hfa : c.args.map a.eval = (c.args.toList.map a.eval).toArray := by
            rw [← Array.toList_map]
          simp [execOp, ho, resolve, hcal, eu, Deferred.ofValue, invoke, hfa, hy]
        refine ⟨fun _ _ => trivial, ?_⟩
        rw [Oper.semAt_eq _ _ _ hnd, hrun]
        refine ⟨fun h => (by cases h), ?_⟩
        refine RoundIn.mono (roundIn_fen.2 hround) fun e w' ⟨t, m', H', V', h1, h2, h3, h4⟩ => ?_
        subst h1
        exact hK _ _ _ _ _ _ h2 h3 (by rw [RelV]) h4
      · exact h.elim
    · rename_i hcal
      obtain ⟨t, tx, x, y, h1, h2, h⟩ := h
      obtain ⟨u, w', c', H', V', r1, r2, r3, r4, r5⟩ := ccopy_run (P := P) (ty := o.type) hi (hev x) (hev y) h
      exact wp_val hnd (u := u) (w' := w') (by simp [execOp, ho, resolve, hcal, h1, h2, invoke, builtin, r1]) (hK _ _ _ _ _ _ r2 r3 r4 r5)
    · rename_i hcal
      obtain ⟨x, y, h2, h⟩ := h
      have hx := hev x
      have hy := hev y
      unfold cmm at h
      split at h
      · rename_i k a1 k' b1 e1 e2
        obtain ⟨rfl, h⟩ := h
        rw [e1, RelV] at hx
        rw [e2, RelV] at hy
        refine pure1 _ (.int k (min a1 b1)) ?_ (by rw [RelV]) h
        exact min_run ho hcal h2 hx hy
      · exact h.elim
    · rename_i hcal
      obtain ⟨x, y, h2, h⟩ := h
      have hx := hev x
      have hy := hev y
      unfold cmm at h
      split at h
      · rename_i k a1 k' b1 e1 e2
        obtain ⟨rfl, h⟩ := h
        rw [e1, RelV] at hx
        rw [e2, RelV] at hy
        refine pure1 _ (.int k (max a1 b1)) ?_ (by rw [RelV]) h
        exact max_run ho hcal h2 hx hy
      · exact h.elim
    · rename_i hcal
      obtain ⟨t, x, h1, h2, h⟩ := h
      have hx := hev x
      have fin : ∀ (n : Int) , (Builtin.len_ #[t] o.type #[a.eval x]).run P w = .ok (.int .i64 n) w → K (.v (.int .i64 n)) H V → o.wpIn (fen ro) 0 P a w Kw Q := fun n hr hk =>
        pure1 _ (.int .i64 n) (by simp [execOp, ho, resolve, hcal, h1, h2, invoke, builtin, hr]) (by rw [RelV]) hk
      unfold clen at h
      split at h
      · rename_i tk sz xs he
        obtain ⟨e, sz', ht⟩ := sl1 h.1
        obtain ⟨_, _, hu, _⟩ := slTy_some ht
        rw [he, RelV] at hx
        obtain ⟨base, cap, eu, _⟩ := hx
        exact fin _ (by simp [Builtin.len_, run_underlying hu, eu, goInt]) h.2
      · rename_i b o' n sz he
        obtain ⟨e, sz', ht⟩ := sl1 h.1
        obtain ⟨_, _, hu, _⟩ := slTy_some ht
        rw [he, RelV] at hx
        obtain ⟨base, cap, k, eu, _⟩ := hx
        exact fin _ (by simp [Builtin.len_, run_underlying hu, eu, goInt]) h.2
      · rename_i b n sz he
        obtain ⟨e, sz', ht⟩ := sl1 h.1
        obtain ⟨_, _, hu, _⟩ := slTy_some ht
        rw [he, RelV] at hx
        obtain ⟨k, cap, c0, e0, eu, _⟩ := hx
        exact fin _ (by simp [Builtin.len_, run_underlying hu, eu, goInt]) h.2
      · rename_i he
        obtain ⟨e, sz', ht⟩ := sl1 h.1
        obtain ⟨_, _, hu, _⟩ := slTy_some ht
        rw [he, RelV] at hx
        exact fin _ (by simp [Builtin.len_, run_underlying hu, hx, goInt]) h.2
      · rename_i s he
        rw [he, RelV] at hx
        exact fin _ (by simp [Builtin.len_, run_underlying h.1, hx, goInt]) h.2
      · exact h.elim
    · rename_i hcal
      obtain ⟨t, tx, x, y, h1, h2, h⟩ := h
      obtain ⟨u, w', m', c', H', V', r1, r2, r3, r4, r5⟩ := capp_run (P := P) (ty := o.type) hi (hev x) (hev y) h
      exact wp_val hnd (u := u) (w' := w') (by simp [execOp, ho, resolve, hcal, h1, h2, invoke, builtin, r1]) (hK _ _ _ _ _ _ r2 r3 r4 r5)
    · exact h.elim
  | makeMap t r =>
    rw [ho] at h
    obtain ⟨rfl, _, h⟩ := h
    have hp := Pushed.alloc w (.map #[] 0)
    obtain ⟨s1, s2⟩ := step_obj (x := .objm [] []) hi hp (fun _ => ⟨#[], hp.new, rfl, rfl, by simp⟩)
    refine wp_val hnd (u := .map (some w.heap.size)) (w' := w.alloc (.map #[] 0)) (by simp [execOp, ho, Instr.makeMap]) (hK _ _ _ _ _ _ h s1 ?_ s2)
    rw [RelV]; exact ⟨w.heap.size, by simp [← hi.boxlen], rfl⟩
  | lookup t x i ok =>
    rw [ho] at h
    obtain ⟨z, hz, -, h⟩ := h
    obtain ⟨kt, e, inf, hu, hkt, hinf, hz0⟩ := mpTy_some hz
    have ex := hev x
    have ei := hev i
    split at h
    · rename_i b n hx hy
      obtain ⟨ks, vs, hb, h⟩ := h
      rw [hx, RelV] at ex
      rw [hy, RelV] at ei
      obtain ⟨k, hbk, eu⟩ := ex
      cases hi.live b _ hb with
      | row k' c0 e0 g1 g2 g3 g4 g5 =>
        rw [hbk] at g1; cases g1
        obtain ⟨u, _, q, _⟩ := relC_get g5 0 _ rfl
        rw [RelV] at q; exact q.elim
      | obj k' x' g1 g2 g3 =>
        rw [hbk] at g1; cases g1
        cases g2
        obtain ⟨es, r1, r2, r3, r4⟩ := g3
        have hf := findKey_run (P := P) (w := w) hkt (n := n) r2 fun i e he => (r4 i e he).2.1
        have hc := checkKey_run (P := P) (w := w) hkt es.toList.isEmpty n
        rcases hka : keyAt ks n with _ | j
        · rw [hka] at hf
          cases ok
          · refine pure1 _ z ?_ ?_ h
            · simp [execOp, ho, eu, ei, Instr.lookup, run_underlying hu, getObj, Sem.run, r1, Array.isEmpty_toList] at hc hf ⊢
              simp [hc, hf, zeroValue, typeInfo, hinf, hz0]
            · simp only [mlk, mlook, hka]; exact zval_rel z
          · refine pure1 _ (.tuple #[z, .bool false]) ?_ ?_ h
            · simp [execOp, ho, eu, ei, Instr.lookup, run_underlying hu, getObj, Sem.run, r1, Array.isEmpty_toList] at hc hf ⊢
              simp [hc, hf, zeroValue, typeInfo, hinf, hz0]
            · simp only [mlk, mlook, hka]
              rw [RelV]
              exact ⟨[z, .bool false], rfl, by rw [RelL]; exact ⟨_, _, rfl, zval_rel z, by rw [RelL]; exact ⟨_, _, rfl, by rw [RelV]; rfl, by rw [RelL]⟩⟩⟩
        · rw [hka] at hf
          obtain ⟨hj, _⟩ := keyAt_lt hka
          have hje : es[j]? = some es[j] := Array.getElem?_eq_getElem (by omega)
          obtain ⟨_, _, c, hc1, hc2⟩ := r4 j _ hje
          cases ok
          · refine pure1 _ es[j].val ?_ ?_ h
            · simp [execOp, ho, eu, ei, Instr.lookup, run_underlying hu, getObj, Sem.run, r1, Array.isEmpty_toList] at hc hf ⊢
              simp [hc, hf, hje]
            · simp only [mlk, mlook, hka, hc1, Option.getD_some]; exact hc2
          · refine pure1 _ (.tuple #[es[j].val, .bool true]) ?_ ?_ h
            · simp [execOp, ho, eu, ei, Instr.lookup, run_underlying hu, getObj, Sem.run, r1, Array.isEmpty_toList] at hc hf ⊢
              simp [hc, hf, hje]
            · simp only [mlk, mlook, hka, hc1, Option.getD_some]
              rw [RelV]
              exact ⟨[es[j].val, .bool true], rfl, by rw [RelL]; exact ⟨_, _, rfl, hc2, by rw [RelL]; exact ⟨_, _, rfl, by rw [RelV]; rfl, by rw [RelL]⟩⟩⟩
    · exact h.elim
  | mapUpdate t x i y =>
    rw [ho] at h
    obtain ⟨hz, hone, h⟩ := h
    obtain ⟨z, hz⟩ := mpTy_some' hz
    obtain ⟨kt, e, inf, hu, hkt, hinf, hz0⟩ := mpTy_some hz
    have ex := hev x
    have ei := hev i
    have ey := hev y
    split at h
    · rename_i b n hx hy
      obtain ⟨ks, vs, hb, h⟩ := h
      rw [hx, RelV] at ex
      rw [hy, RelV] at ei
      obtain ⟨k, hbk, eu⟩ := ex
      obtain ⟨es, g3⟩ := live_map hi hb hbk
      obtain ⟨r1, r2, r3, r4⟩ := g3
      have hf := findKey_run (P := P) (w := w) hkt (n := n) r2 fun i e he => (r4 i e he).2.1
      have hc := checkKey_run (P := P) (w := w) hkt false n
      rcases hka : keyAt ks n with _ | j
      · rw [hka] at hf
        have e0 : mput ks vs n (ev y) = .objm (ks ++ [n]) (vs ++ [ev y]) := by simp only [mput, hka]
        rw [e0] at h
        obtain ⟨s1, s2⟩ := step_setObj (y := .objm (ks ++ [n]) (vs ++ [ev y])) (o := .map (es.push { key := .int .i64 n, val := a.eval y, born := es.size }) (es.size + 1)) hi hb hbk ⟨es, r1, r2, r3, r4⟩ (by intros; simp) (fun hxx hnew => by
          refine ⟨_, by rw [hnew, Array.size_push], by simp [r2], by simp [r3], fun i' e' he => ?_⟩
          rw [Array.getElem?_push] at he
          split at he
          · rename_i hi'
            cases he
            subst hi'
            refine ⟨rfl, ⟨n, by rw [r2]; simp, rfl⟩, ev y, by rw [r2, ← r3]; simp, RelV.mono hxx _ _ ey⟩
          · obtain ⟨q1, ⟨n', q2, q3⟩, c, q4, q5⟩ := r4 i' e' he
            refine ⟨q1, ⟨n', ?_, q3⟩, c, ?_, RelV.mono hxx _ _ q5⟩
            · rw [List.getElem?_append_left (List.getElem?_eq_some_iff.1 q2).1]; exact q2
            · rw [List.getElem?_append_left (List.getElem?_eq_some_iff.1 q4).1]; exact q4)
        refine wp_none hnd (w' := { w with heap := w.heap.setIfInBounds k (.map (es.push { key := .int .i64 n, val := a.eval y, born := es.size }) (es.size + 1)) }) ?_ (hK _ _ _ _ _ _ h s1 (by rw [RelV]; trivial) s2)
        simp [execOp, ho, eu, ei, Instr.mapUpdate, run_underlying hu, getObj, Sem.run, r1] at hf ⊢
        simp [hc, hf, setObj, Sem.run, r1]
      · rw [hka] at hf
        obtain ⟨hj, hjn⟩ := keyAt_lt hka
        have hje : es[j]? = some es[j] := Array.getElem?_eq_getElem (by omega)
        obtain ⟨_, ⟨n', hn1, hn2⟩, _⟩ := r4 j _ hje
        rw [hjn] at hn1; cases hn1
        have e0 : mput ks vs n (ev y) = .objm ks (vs.set j (ev y)) := by simp only [mput, hka]
        rw [e0] at h
        obtain ⟨s1, s2⟩ := step_setObj (y := .objm ks (vs.set j (ev y))) (o := .map (es.modify j fun e => { e with key := .int .i64 n, val := a.eval y }) es.size) hi hb hbk ⟨es, r1, r2, r3, r4⟩ (by intros; simp) (fun hxx hnew => by
          refine ⟨_, by rw [hnew, Array.size_modify], by simp [r2], by simp [r3], fun i' e' he => ?_⟩
          rw [Array.getElem?_modify] at he
          by_cases hij : j = i'
          · subst hij
            rw [if_pos rfl, hje] at he
            cases he
            obtain ⟨q1, _, _⟩ := r4 j _ hje
            exact ⟨q1, ⟨n, hjn, rfl⟩, ev y, by rw [List.getElem?_set_self (by omega)], RelV.mono hxx _ _ ey⟩
          · rw [if_neg hij] at he
            obtain ⟨q1, q2, c, q4, q5⟩ := r4 i' e' he
            exact ⟨q1, q2, c, by rw [List.getElem?_set_ne hij]; exact q4, RelV.mono hxx _ _ q5⟩)
        refine wp_none hnd (w' := { w with heap := w.heap.setIfInBounds k (.map (es.modify j fun e => { e with key := .int .i64 n, val := a.eval y }) es.size) }) ?_ (hK _ _ _ _ _ _ h s1 (by rw [RelV]; trivial) s2)
        have hst : (Instr.keyThatStays (.int .i64 n) (.int .i64 n)).run P w = .ok (.int .i64 n) w := by
          simp [Instr.keyThatStays, Instr.sameBits]
        simp [execOp, ho, eu, ei, Instr.mapUpdate, run_underlying hu, getObj, Sem.run, r1] at hf ⊢
        simp [hc, hf, hje, hn2, hst, setObj, Sem.run, r1]
    · exact h.elim
  | range t x =>
    rw [ho] at h
    obtain ⟨hz, h⟩ := h
    obtain ⟨z, hz⟩ := mpTy_some' hz
    obtain ⟨kt, e, inf, hu, hkt, hinf, hz0⟩ := mpTy_some hz
    have ex := hev x
    split at h
    · rename_i b hx
      obtain ⟨ks, vs, hb, h⟩ := h
      rw [hx, RelV] at ex
      obtain ⟨k, hbk, eu⟩ := ex
      obtain ⟨es, g3⟩ := live_map hi hb hbk
      have hp := Pushed.alloc w (.mapIter (some k) ks.length #[] es.size)
      obtain ⟨s1, s2⟩ := step_obj (x := .obji b ks.length []) hi hp (fun hxx => ⟨k, _, hxx.box _ _ hbk, hp.new, g3.2.1⟩)
      refine wp_val hnd (u := .pointer (some ⟨w.heap.size, 0, none⟩)) (w' := w.alloc (.mapIter (some k) ks.length #[] es.size)) ?_ (hK _ _ _ _ _ _ h s1 ?_ s2)
      · simp [execOp, ho, eu, Instr.range, run_underlying hu, getObj, Sem.run, g3.1, newObj, g3.2.1]
      · rw [RelV]; exact ⟨w.heap.size, by simp [← hi.boxlen], rfl⟩
    · exact h.elim
  | next x str =>
    rw [ho] at h
    obtain ⟨rfl, h⟩ := h
    have ex := hev x
    split at h
    · rename_i q hx
      obtain ⟨b, n, seen, ks, vs, hq, hb, rfl, hseen, hend, hstep⟩ := h
      rw [hx, RelV] at ex
      obtain ⟨r, hqr, eu⟩ := ex
      obtain ⟨k, hbk⟩ := hi.boxOf hb
      obtain ⟨es, g3⟩ := live_map hi hb hbk
      obtain ⟨r1, r2, r3, r4⟩ := g3
      have hit := live_iter hi hq hqr
      obtain ⟨km, st, t1, t2, t3⟩ := hit
      rw [hbk] at t1; cases t1
      subst t3
      have hborn : ∀ (i : Nat) e, es[i]? = some e → e.born = i := fun i e he => (r4 i e he).1
      rcases run_next_at (P := P) w o.type r k ks.length ks.length seen.toArray es es.size t2 r1 (fun x hx => by
          obtain ⟨i, hi1⟩ := List.getElem?_of_mem hx
          rw [Array.getElem?_toList] at hi1
          rw [hborn i x hi1, ← r2]
          exact (Array.getElem?_eq_some_iff.1 hi1).1) (Nat.le_refl _) with ⟨h0, hrun⟩ | ⟨e, he, w1, hw1, hrun⟩
      · refine pure1 _ (.tuple #[.bool false]) (by simp [execOp, ho, eu, hrun]) ?_ (hend fun i hi1 => ?_)
        · rw [RelV]; exact ⟨[.bool false], rfl, by rw [RelL]; exact ⟨_, _, rfl, by rw [RelV], by rw [RelL]⟩⟩
        · have hie : es[i]? = some es[i] := Array.getElem?_eq_getElem (by omega)
          have hl : (leftOf es seen.toArray) = #[] := Array.eq_empty_of_size_eq_zero h0
          unfold leftOf at hl
          rw [Array.filter_eq_empty_iff] at hl
          have := hl es[i] (Array.getElem_mem (by omega))
          rw [hborn i _ hie] at this
          simpa using this
      · unfold leftOf at he
        simp only [Array.toList_filter, List.mem_filter] at he
        obtain ⟨he1, he2⟩ := he
        obtain ⟨i, hi1⟩ := List.getElem?_of_mem he1
        rw [Array.getElem?_toList] at hi1
        have hil : i < ks.length := by rw [← r2]; exact (Array.getElem?_eq_some_iff.1 hi1).1
        obtain ⟨q1, ⟨n', q2, q3⟩, c, q4, q5⟩ := r4 i e hi1
        rw [q1] at he2 hrun
        have hns : i ∉ seen := by simpa using he2
        have hk := hstep i hil hns
        rw [q2, q4] at hk
        obtain ⟨d1, d2⟩ : Inv m w1 H V ∧ Ext m w V m w1 V := by
          rcases hw1 with rfl | rfl
          · exact ⟨hi, Ext.refl _ _ _⟩
          · exact hi.drew
        have hq1 : RelO m w1 V r (.obji b ks.length seen) := by
          refine ⟨k, ks.length, hbk, ?_, rfl⟩
          rcases hw1 with rfl | rfl <;> exact t2
        obtain ⟨s1, s2⟩ := step_setObj (y := .obji b ks.length (seen ++ [i])) (o := .mapIter (some k) ks.length (seen.toArray.push i) es.size) d1 hq hqr hq1 (by intros; simp) (fun hxx hnew => ⟨k, _, hbk, by rw [hnew]; simp, r2⟩)
        refine wp_val hnd (u := .tuple #[.bool true, e.key, e.val]) (w' := setBlock' w1 r (.mapIter (some k) ks.length (seen.toArray.push i) es.size)) (by simp only [execOp, ho, eu]; simp only [Sem.run_bind]; rw [hrun]; rfl) (hK _ _ _ _ _ _ hk s1 ?_ (d2.trans s2))
        rw [RelV]
        refine ⟨[.bool true, e.key, e.val], rfl, ?_⟩
        rw [RelL]
        refine ⟨_, _, rfl, by rw [RelV], ?_⟩
        rw [RelL]
        refine ⟨_, _, rfl, by rw [RelV, q3]; rfl, ?_⟩
        rw [RelL]
        exact ⟨_, _, rfl, RelV.mono (d2.trans s2) _ _ q5, by rw [RelL]⟩
    · exact h.elim
  | entry x =>
    rw [ho] at h
    have ex := hev x
    have h : centry (ev x) H (fun c => K c H V) := h
    unfold centry at h
    split at h
    · rename_i q hx
      obtain ⟨b, n, seen, i, ks, vs, hq, hb, rfl, hil, hk⟩ := h
      rw [hx, RelV] at ex
      obtain ⟨r, hqr, eu⟩ := ex
      obtain ⟨k, hbk⟩ := hi.boxOf hb
      obtain ⟨es, g3⟩ := live_map hi hb hbk
      obtain ⟨r1, r2, r3, r4⟩ := g3
      obtain ⟨km, st, t1, t2, t3⟩ := live_iter hi hq hqr
      rw [hbk] at t1; cases t1
      subst t3
      have hie : es[i]? = some es[i] := Array.getElem?_eq_getElem (by omega)
      obtain ⟨q1, ⟨n', q2, q3⟩, c, q4, q5⟩ := r4 i _ hie
      rw [q2, q4] at hk
      have hnd' : (es.toList.map (·.born)).Nodup := by
        have : es.toList.map (·.born) = List.range es.size := by
          apply List.ext_getElem? ; intro j
          rw [List.getElem?_map, Array.getElem?_toList]
          by_cases hj : j < es.size
          · rw [Array.getElem?_eq_getElem hj, Option.map_some, (r4 j _ (Array.getElem?_eq_getElem hj)).1, List.getElem?_range hj]
          · rw [Array.getElem?_eq_none (by omega), List.getElem?_eq_none (by simp; omega)]; rfl
        rw [this]; exact List.nodup_range
      have hrun := run_entry_at (P := P) w r k ks.length seen.toArray es es.size es[i] (by rw [t2, q1, ← r2]; simp) r1 (by simp) hnd'
      refine pure1 _ (.tuple #[es[i].key, es[i].val]) (by simp [execOp, ho, eu, hrun]) ?_ hk
      rw [RelV]
      refine ⟨[es[i].key, es[i].val], rfl, ?_⟩
      rw [RelL]
      refine ⟨_, _, rfl, by rw [RelV, q3]; rfl, ?_⟩
      rw [RelL]
      exact ⟨_, _, rfl, q5, by rw [RelL]⟩
    · exact h.elim
  | _ => rw [ho] at h; exact False.elim h
end
end Go.Proofs.YtpedbpbmnchllaaGreatDoor
namespace Go.Proofs.YtpedbpbmnchllaaGreatDoor

abbrev Tm := List (Nat × CV)
def tget : Tm → Nat → CV
  | [], _ => .any
  | (k, c) :: r, n => if n = k then c else tget r n
def evT (T : Tm) : Operand → CV
  | .tmp t => tget T t
  | .const v => .v v
  | .global g => gcv g
  | .func f => .fn f []
def tput (d : Option Nat) (c : CV) (T : Tm) : Tm :=
  match d with
  | some d => (d, c) :: T
  | none => T
def dOk (d : Option Nat) (n : Nat) : Prop :=
  match d with
  | some d => d < n
  | none => True
def gtmp (ops : List Oper) (j : Nat) : Option Nat := (ops[j]?).bind (·.dst)

def cguard (want : Bool) (c : CV) (yes no : Prop) : Prop :=
  match c with
  | .v (.bool b) => (b = want → yes) ∧ (b = !want → no)
  | .v (.tuple _) => no
  | _ => False

def crun (P : Program) (n : Nat) (ops : List Oper) : List Oper → Tm → Hp → List Nat → (Tm → Hp → List Nat → Prop) → Prop
  | [], T, H, V, K => K T H V
  | o :: rest, T, H, V, K =>
    match o.guard with
    | none => dOk o.dst n ∧ cop P (evT T) H V (fun c H' V' => crun P n ops rest (tput o.dst c T) H' V' K) o.op
    | some (j, want) => dOk o.dst n ∧
      match gtmp ops j with
      | some g => cguard want (tget T g)
          (cop P (evT ((g, .v (.bool want)) :: T)) H V (fun c H' V' => crun P n ops rest (tput o.dst c ((g, .v (.bool want)) :: T)) H' V' K) o.op)
          (match tget T g with
            | .v (.bool _) => crun P n ops rest (tput o.dst (.v undef) ((g, .v (.bool (!want))) :: T)) H V K
            | _ => crun P n ops rest (tput o.dst (.v undef) T) H V K)
      | none => False

def RelT (m : Gh) (w : World) (V : List Nat) (T : Tm) (tmps : Array Value) : Prop := ∀ n, RelV m w V (tget T n) (tmps.getD n undef)

section
variable {P : Program} {m : Gh} {w : World} {H : Hp} {V : List Nat}

theorem RelT.mono {m' : Gh} {w' : World} {V' : List Nat} {T : Tm} {tmps : Array Value} (hx : Ext m w V m' w' V') (h : RelT m w V T tmps) : RelT m' w' V' T tmps := fun n => RelV.mono hx _ _ (h n)

theorem ev_rel {T : Tm} {a : Act} (hg : Glob m w) (h : RelT m w V T a.tmps) (x : Operand) : RelV m w V (evT T x) (a.eval x) := by
  cases x with
  | tmp t => exact h t
  | const v => simp only [evT, Act.eval]; rw [RelV]
  | global g => exact gcv_rel hg g
  | func f => simp only [evT, Act.eval]; rw [RelV]; exact ⟨[], rfl, by rw [RelL]⟩

theorem put_size (a : Act) (d : Option Nat) (u : Value) : (a.put d u).tmps.size = a.tmps.size := by
  cases d <;> simp [Act.put]
theorem put_defers (a : Act) (d : Option Nat) (u : Value) : (a.put d u).defers = a.defers := by
  cases d <;> simp [Act.put]

theorem RelT.put {T : Tm} {a : Act} {d : Option Nat} {c : CV} {u : Value} (h : RelT m w V T a.tmps) (hu : RelV m w V c u) (hd : dOk d a.tmps.size) : RelT m w V (tput d c T) (a.put d u).tmps := by
  cases d with
  | none => exact h
  | some d =>
    have hd : d < a.tmps.size := hd
    intro n
    simp only [tput, tget, Act.put]
    by_cases hn : n = d
    · subst hn; rw [if_pos rfl]
      simpa [Array.getD, hd] using hu
    · rw [if_neg hn]
      have : (a.tmps.setIfInBounds d u).getD n undef = a.tmps.getD n undef := by
        simp only [Array.getD_eq_getD_getElem?]
        rw [Array.getElem?_setIfInBounds_ne (Ne.symm hn)]
      rw [this]; exact h n

theorem RelT.known {T : Tm} {tmps : Array Value} {g : Nat} {u : CV} (h : RelT m w V T tmps) (hu : RelV m w V u (tmps.getD g undef)) : RelT m w V ((g, u) :: T) tmps := fun n => by
  simp only [tget]
  by_cases hn : n = g
  · subst hn; rw [if_pos rfl]; exact hu
  · rw [if_neg hn]; exact h n

structure Dl where
  ds : List Deferred
  lo : Nat
  /-- whether there is no such loop -/
  nm : Bool
def mark (r : Nat) : Deferred := { target := .collected r, args := #[] }
def DOk (D : Dl) (w : World) (ds : List Deferred) : Prop :=
  D.lo ≤ w.heap.size ∧ ∃ ms : List Nat, ds = ms.map mark ++ D.ds ∧ (ms.Nodup ∧ (D.nm = true → ms = [])) ∧ ∀ r ∈ ms, D.lo ≤ r ∧ w.heap[r]? = some (.deferred (some []))
theorem DOk.mono {D : Dl} {ds : List Deferred} {m' : Gh} {w' : World} {V' : List Nat} (hx : Ext m w V m' w' V') (h : DOk D w ds) : DOk D w' ds := by
  obtain ⟨h1, ms, h2, h4, h3⟩ := h
  exact ⟨Nat.le_trans h1 hx.size, ms, h2, h4, fun r hr => ⟨(h3 r hr).1, hx.dfr r _ (h3 r hr).2⟩⟩
theorem DOk.own (w : World) (ds : List Deferred) {b : Bool} : DOk ⟨ds, w.heap.size, b⟩ w ds := ⟨Nat.le_refl _, [], rfl, ⟨List.nodup_nil, fun _ => rfl⟩, fun _ h => by cases h⟩
theorem DOk.eq {D : Dl} {ds : List Deferred} (h : DOk D w ds) (hn : D.nm = true) : ds = D.ds := by
  obtain ⟨_, ms, h2, h3, _⟩ := h
  rw [h2, h3.2 hn]; rfl
structure St (D : Dl) (n : Nat) (m : Gh) (w : World) (a : Act) (T : Tm) (H : Hp) (V : List Nat) : Prop where
  inv : Inv m w H V
  tm : RelT m w V T a.tmps
  size : a.tmps.size = n
  df : DOk D w a.defers

theorem yielded_eq (ops : List Oper) (tmps : Array Value) (j : Nat) : yielded ops.toArray tmps j = match (gtmp ops j).bind (tmps[·]?) with | some (.bool b) => some b | _ => none := by
  unfold yielded gtmp
  rw [List.getElem?_toArray]
  rfl

theorem crun_sound {ro : Option Nat} {D : Dl} {n : Nat} {ops : List Oper} {K : Tm → Hp → List Nat → Prop} {Q : Exit → Act → World → Prop} : ∀ (l : List Oper) {a : Act} {m : Gh} {w : World} {T : Tm} {H : Hp} {V : List Nat}, St D n m w a T H V → crun P n ops l T H V K →
    (∀ T' H' V' a' w' m', K T' H' V' → St D n m' w' a' T' H' V' → Ext m w V m' w' V' → Q .normal a' w') → wpListIn (fen ro) 0 P ops.toArray Q l a w
  | [], a, m, w, T, H, V, hs, h, hK => hK T H V a w m h hs (Ext.refl m w V)
  | o :: rest, a, m, w, T, H, V, hs, h, hK => by
    have run : ∀ T0, RelT m w V T0 a.tmps → dOk o.dst n → cop P (evT T0) H V (fun c H' V' => crun P n ops rest (tput o.dst c T0) H' V' K) o.op → o.wpIn (fen ro) 0 P a w (wpListIn (fen ro) 0 P ops.toArray Q rest) Q := by
      intro T0 ht hd hc
      refine cop_sound (P := P) hs.inv (fun x => ev_rel hs.inv.glob ht x) hc fun c H' V' u m' w' h1 h2 h3 h4 => ?_
      refine crun_sound rest (T := tput o.dst c T0) (m := m') ⟨h2, (ht.mono h4).put h3 (by rw [hs.size]; exact hd), by rw [put_size]; exact hs.size, by rw [put_defers]; exact hs.df.mono h4⟩ h1 (fun T' H' V' a' w' m' k1 k2 k3 => hK T' H' V' a' w' m' k1 k2 (h4.trans k3))
    have skip : ∀ T0, RelT m w V T0 a.tmps → dOk o.dst n → crun P n ops rest (tput o.dst (.v undef) T0) H V K → wpListIn (fen ro) 0 P ops.toArray Q rest (a.put o.dst undef) w := by
      intro T0 ht hd hc
      exact crun_sound rest (T := tput o.dst (.v undef) T0) (m := m) ⟨hs.inv, ht.put (by rw [RelV]) (by rw [hs.size]; exact hd), by rw [put_size]; exact hs.size, by rw [put_defers]; exact hs.df⟩ hc hK
    unfold wpListIn
    rw [crun] at h
    cases hg : o.guard with
    | none =>
      simp only [hg] at h
      rw [if_pos (by simp [Region.wanted, hg])]
      exact run T hs.tm h.1 h.2
    | some jw =>
      obtain ⟨j, want⟩ := jw
      simp only [hg] at h
      obtain ⟨hd, h⟩ := h
      cases hj : gtmp ops j with
      | none => simp only [hj] at h
      | some g =>
        simp only [hj] at h
        have hy := yielded_eq ops a.tmps j
        rw [hj, Option.bind_some] at hy
        have ht := hs.tm g
        unfold cguard at h
        split at h
        · rename_i b hb
          rw [hb, RelV] at ht
          have hget : a.tmps[g]? = some (.bool b) := by
            cases hq : a.tmps[g]? with
            | none => simp [hq] at ht; cases ht
            | some x => simp [hq] at ht; rw [ht]
          rw [hget] at hy
          simp only at hy
          have hw : Region.wanted o (yielded ops.toArray a.tmps) = (b == want) := by
            simp [Region.wanted, hg, hy]
          rw [hw]
          by_cases hbw : b = want
          · subst hbw
            rw [if_pos (by simp)]
            exact run _ (hs.tm.known (by rw [RelV]; exact ht)) hd (h.1 rfl)
          · rw [if_neg (by simpa using hbw)]
            have hb2 : b = !want := by cases b <;> cases want <;> simp_all
            have h3 := h.2 hb2
            rw [hb] at h3
            exact ⟨fun _ _ => trivial, skip _ (hs.tm.known (by rw [RelV, ← hb2]; exact ht)) hd h3⟩
        · rename_i vs hb
          rw [hb, RelV] at ht
          have hw : Region.wanted o (yielded ops.toArray a.tmps) = false := by
            have : yielded ops.toArray a.tmps j = none := by
              rw [hy]
              cases hq : a.tmps[g]? with
              | none => rfl
              | some x => simp [hq] at ht; subst ht; rfl
            simp [Region.wanted, hg, this]
          rw [hw, if_neg (by simp)]
          rw [hb] at h
          exact ⟨fun _ _ => trivial, skip _ hs.tm hd h⟩
        · exact h.elim

mutual
inductive Le : CV → CV → Prop
  | refl (c : CV) : Le c c
  | any (c : CV) : Le c .any
  | sh (tk : Tk) (sz : Nat) (xs : List (List CV)) : Le (.sl tk sz xs) (.sl .sh sz xs)
  | nil (sz : Nat) (h : 0 < sz) : Le (.v (.slice none 0 0)) (.sl .sh sz [])
  | nilti (sz : Nat) (h : 0 < sz) : Le (.v (.slice none 0 0)) (.sl .ti sz [])
  | bsa (b n sz : Nat) : Le (.bsa b n sz) (.bsl b 0 n sz)
  | agg {cs ds : List CV} (h : LeL cs ds) : Le (.agg cs) (.agg ds)
  | tup {cs ds : List CV} (h : LeL cs ds) : Le (.tup cs) (.tup ds)
  | sle (tk : Tk) (sz : Nat) {xs ys : List (List CV)} (h : LeE xs ys) : Le (.sl tk sz xs) (.sl .sh sz ys)
  | trans {a b c : CV} (h : Le a b) (g : Le b c) : Le a c
inductive LeL : List CV → List CV → Prop
  | nil : LeL [] []
  | cons {c d : CV} {cs ds : List CV} (h : Le c d) (t : LeL cs ds) : LeL (c :: cs) (d :: ds)
inductive LeE : List (List CV) → List (List CV) → Prop
  | nil : LeE [] []
  | cons {c d : List CV} {xs ys : List (List CV)} (h : LeL c d) (t : LeE xs ys) : LeE (c :: xs) (d :: ys)
end
theorem LeL.len : ∀ {cs ds : List CV}, LeL cs ds → cs.length = ds.length
  | _, _, .nil => rfl
  | _, _, .cons _ t => by rw [List.length_cons, List.length_cons, LeL.len t]
theorem LeE.len : ∀ {cs ds : List (List CV)}, LeE cs ds → cs.length = ds.length
  | _, _, .nil => rfl
  | _, _, .cons _ t => by rw [List.length_cons, List.length_cons, LeE.len t]

mutual
theorem Le.rel {c d : CV} : ∀ {u : Value}, Le c d → RelV m w V c u → RelV m w V d u
  | _, .refl _, h => h
  | _, .any _, _ => by rw [RelV]; trivial
  | _, .bsa b n sz, h => by
    rw [RelV] at h; rw [RelV]
    obtain ⟨k, cap, c, e, h1, h2, h3, h4, h5, h6⟩ := h
    exact ⟨_, cap, k, h1, h2, h3, h4, .inr rfl, ⟨c, e, _, h5⟩⟩
  | _, .sh tk sz xs, h => by
    rw [RelV] at h; rw [RelV]
    obtain ⟨base, cap, h1, h2, h3, h4⟩ := h
    exact ⟨base, cap, h1, h2, trivial, h4⟩
  | _, .nil sz hz, h => by rw [RelV] at h; rw [RelV]; subst h; exact ⟨none, 0, rfl, by simp, trivial, hz, .inl rfl⟩
  | _, .nilti sz hz, h => by rw [RelV] at h; rw [RelV]; subst h; exact ⟨none, 0, rfl, by simp, rfl, hz, .inl rfl⟩
  | _, .agg hl, h => by rw [RelV] at h; rw [RelV]; obtain ⟨us, h1, h2⟩ := h; exact ⟨us, h1, LeL.rel hl h2⟩
  | _, .tup hl, h => by rw [RelV] at h; rw [RelV]; obtain ⟨us, h1, h2⟩ := h; exact ⟨us, h1, LeL.rel hl h2⟩
  | _, .sle tk sz (xs := xs) (ys := ys) he, h => by
    rw [RelV] at h; rw [RelV]
    obtain ⟨base, cap, h1, h2, h3, h4, h5⟩ := h
    refine ⟨base, cap, by rw [← he.len]; exact h1, by rw [← he.len]; exact h2, trivial, h4, ?_⟩
    rcases h5 with rfl | ⟨k, o, e1, e2, e3⟩
    · left
      have := he.len
      exact List.eq_nil_of_length_eq_zero this.symm
    · exact .inr ⟨k, o, e1, by rw [← he.len]; exact e2, LeE.rel he e3⟩
  | _, .trans h1 h2, h => Le.rel h2 (Le.rel h1 h)
theorem LeL.rel {cs ds : List CV} : ∀ {us : List Value}, LeL cs ds → RelL m w V cs us → RelL m w V ds us
  | _, .nil, h => h
  | _, .cons h t, hr => by
    rw [RelL] at hr; rw [RelL]
    obtain ⟨u, r, h1, h2, h3⟩ := hr
    exact ⟨u, r, h1, Le.rel h h2, LeL.rel t h3⟩
theorem LeL.relC {cs ds : List CV} {k : Nat} : ∀ {o : Nat}, LeL cs ds → RelC m w V k cs o → RelC m w V k ds o
  | _, .nil, h => h
  | _, .cons h t, hr => by
    rw [RelC] at hr; rw [RelC]
    obtain ⟨⟨u, h1, h2, h3⟩, h4⟩ := hr
    exact ⟨⟨u, h1, Le.rel h h2, h3⟩, LeL.relC t h4⟩
theorem LeE.rel {xs ys : List (List CV)} {k sz : Nat} : ∀ {o : Nat}, LeE xs ys → RelE m w V k sz xs o → RelE m w V k sz ys o
  | _, .nil, h => h
  | _, .cons h t, hr => by
    rw [RelE] at hr; rw [RelE]
    obtain ⟨h1, h2, h3⟩ := hr
    exact ⟨by rw [← h.len]; exact h1, LeL.relC h h2, LeE.rel t h3⟩
end
end
end Go.Proofs.YtpedbpbmnchllaaGreatDoor
namespace Go.Proofs.YtpedbpbmnchllaaGreatDoor

def okTk (jv : Nat) : Tk → Prop
  | .own t _ => t < jv
  | _ => True
mutual
def okV (jb jv : Nat) : CV → Prop
  | .any => True
  | .v _ => True
  | .agg cs => okL jb jv cs
  | .tup cs => okL jb jv cs
  | .sl tk _ xs => okTk jv tk ∧ okE jb jv xs
  | .bsl b _ _ _ => b < jb
  | .ptr b _ => b < jb
  | .eptr cs _ => okL jb jv cs
  | .fn _ caps => okL jb jv caps
  | .bm _ caps => okL jb jv caps
  | .yl b => b < jb
  | .mv b => b < jb
  | .it b => b < jb
  | .bsa b _ _ => b < jb
  | .objl _ _ _ _ _ _ _ cs => okL jb jv cs
  | .objm _ vs => okL jb jv vs
  | .obji mb _ _ => mb < jb
def okL (jb jv : Nat) : List CV → Prop
  | [] => True
  | c :: cs => okV jb jv c ∧ okL jb jv cs
def okE (jb jv : Nat) : List (List CV) → Prop
  | [] => True
  | e :: es => okL jb jv e ∧ okE jb jv es
end
theorem okL_iff {jb jv : Nat} : ∀ {cs : List CV}, okL jb jv cs ↔ ∀ c ∈ cs, okV jb jv c
  | [] => by simp [okL]
  | c :: cs => by simp [okL, okL_iff (cs := cs)]
theorem okE_iff {jb jv : Nat} : ∀ {es : List (List CV)}, okE jb jv es ↔ ∀ e ∈ es, ∀ c ∈ e, okV jb jv c
  | [] => by simp [okE]
  | e :: es => by simp [okE, okE_iff (es := es), okL_iff]

mutual
theorem okV_mono {jb jv jb' jv' : Nat} (h1 : jb ≤ jb') (h2 : jv ≤ jv') : ∀ {c : CV}, okV jb jv c → okV jb' jv' c
  | .any, _ => by rw [okV]; trivial
  | .v _, _ => by rw [okV]; trivial
  | .agg cs, h => by rw [okV] at h; rw [okV]; exact okL_mono h1 h2 h
  | .tup cs, h => by rw [okV] at h; rw [okV]; exact okL_mono h1 h2 h
  | .sl tk sz xs, h => by
    rw [okV] at h; rw [okV]
    refine ⟨?_, okE_mono h1 h2 h.2⟩
    cases tk with
    | own t v => exact Nat.lt_of_lt_of_le h.1 h2
    | _ => trivial
  | .bsl b _ _ _, h => by rw [okV] at h; rw [okV]; omega
  | .ptr b _, h => by rw [okV] at h; rw [okV]; omega
  | .eptr cs _, h => by rw [okV] at h; rw [okV]; exact okL_mono h1 h2 h
  | .fn _ cs, h => by rw [okV] at h; rw [okV]; exact okL_mono h1 h2 h
  | .bm _ cs, h => by rw [okV] at h; rw [okV]; exact okL_mono h1 h2 h
  | .yl b, h => by rw [okV] at h; rw [okV]; omega
  | .mv b, h => by rw [okV] at h; rw [okV]; omega
  | .it b, h => by rw [okV] at h; rw [okV]; omega
  | .bsa b _ _, h => by rw [okV] at h; rw [okV]; omega
  | .objl _ _ _ _ _ _ _ cs, h => by rw [okV] at h; rw [okV]; exact okL_mono h1 h2 h
  | .objm _ cs, h => by rw [okV] at h; rw [okV]; exact okL_mono h1 h2 h
  | .obji b _ _, h => by rw [okV] at h; rw [okV]; omega
theorem okL_mono {jb jv jb' jv' : Nat} (h1 : jb ≤ jb') (h2 : jv ≤ jv') : ∀ {cs : List CV}, okL jb jv cs → okL jb' jv' cs
  | [], _ => by rw [okL]; trivial
  | c :: cs, h => by rw [okL] at h; rw [okL]; exact ⟨okV_mono h1 h2 h.1, okL_mono h1 h2 h.2⟩
theorem okE_mono {jb jv jb' jv' : Nat} (h1 : jb ≤ jb') (h2 : jv ≤ jv') : ∀ {es : List (List CV)}, okE jb jv es → okE jb' jv' es
  | [], _ => by rw [okE]; trivial
  | e :: es, h => by rw [okE] at h; rw [okE]; exact ⟨okL_mono h1 h2 h.1, okE_mono h1 h2 h.2⟩
end

def Gh.cut (m : Gh) (i j : Nat) : Gh := { m with box := m.box.take i, tip := m.tip.take j }

theorem take_get {α : Type} {l : List α} {i t : Nat} {x : α} (h : t < i) (hx : l[t]? = some x) : (l.take i)[t]? = some x := by rw [List.getElem?_take, if_pos h]; exact hx
theorem get_take {α : Type} {l : List α} {i t : Nat} {x : α} (hx : (l.take i)[t]? = some x) : t < i ∧ l[t]? = some x := by
  rw [List.getElem?_take] at hx
  split at hx
  · exact ⟨by assumption, hx⟩
  · cases hx

section
variable {P : Program} {m : Gh} {w : World} {H : Hp} {V : List Nat}

section
variable (i j : Nat)
mutual
theorem RelV.cut : ∀ (c : CV) (u : Value), okV i j c → RelV m w V c u → RelV (m.cut i j) w (V.take j) c u
  | .any, _, _, _ => by rw [RelV]; trivial
  | .v x, u, _, h => by rw [RelV] at h; rw [RelV]; exact h
  | .agg cs, u, ho, h => by rw [RelV] at h; rw [RelV]; rw [okV] at ho; obtain ⟨us, h1, h2⟩ := h; exact ⟨us, h1, RelL.cut cs us ho h2⟩
  | .tup cs, u, ho, h => by rw [RelV] at h; rw [RelV]; rw [okV] at ho; obtain ⟨us, h1, h2⟩ := h; exact ⟨us, h1, RelL.cut cs us ho h2⟩
  | .sl tk sz xs, u, ho, h => by
    rw [RelV] at h; rw [RelV]; rw [okV] at ho
    obtain ⟨base, cap, h1, h2, h3, h4, h5⟩ := h
    refine ⟨base, cap, h1, h2, ?_, h4, ?_⟩
    · cases tk with
      | sh => trivial
      | ti => exact h3
      | own t v =>
        obtain ⟨v', q1, q2, q3⟩ := (h3 : OwnOk m w V t v sz xs.length cap base)
        have ht : t < j := ho.1
        refine ⟨v', take_get ht q1, q2, fun e => ?_⟩
        rcases q3 e with q3 | ⟨k, o, c, ec, hb, ht1, r⟩
        · exact .inl q3
        · exact .inr ⟨k, o, c, ec, hb, take_get ht ht1, r⟩
    · rcases h5 with h5 | ⟨k, o, hb, hl, he⟩
      · exact .inl h5
      · exact .inr ⟨k, o, hb, hl, RelE.cut k sz xs o ho.2 he⟩
  | .bsl b o n sz, u, ho, h => by
    rw [RelV] at h; rw [RelV]; rw [okV] at ho
    obtain ⟨base, cap, k, h1, h2, h3, h4, h5⟩ := h
    exact ⟨base, cap, k, h1, h2, h3, take_get ho h4, h5⟩
  | .ptr b o, u, ho, h => by rw [RelV] at h; rw [RelV]; rw [okV] at ho; obtain ⟨k, h1, h2⟩ := h; exact ⟨k, take_get ho h1, h2⟩
  | .bm f caps, u, ho, h => by rw [RelV] at h; rw [RelV]; rw [okV] at ho; obtain ⟨us, h1, h2⟩ := h; exact ⟨us, h1, RelL.cut caps us ho h2⟩
  | .yl b, u, ho, h => by rw [RelV] at h; rw [RelV]; rw [okV] at ho; obtain ⟨k, h1, h2⟩ := h; exact ⟨k, take_get ho h1, h2⟩
  | .mv b, u, ho, h => by rw [RelV] at h; rw [RelV]; rw [okV] at ho; obtain ⟨k, h1, h2⟩ := h; exact ⟨k, take_get ho h1, h2⟩
  | .it b, u, ho, h => by rw [RelV] at h; rw [RelV]; rw [okV] at ho; obtain ⟨k, h1, h2⟩ := h; exact ⟨k, take_get ho h1, h2⟩
  | .bsa b n sz, u, ho, h => by
    rw [RelV] at h; rw [RelV]; rw [okV] at ho
    obtain ⟨k, cap, c, e, h1, h2, h3, h4, h5⟩ := h
    exact ⟨k, cap, c, e, h1, h2, h3, take_get ho h4, h5⟩
  | .objl .., u, _, h => by rw [RelV] at h; exact h.elim
  | .objm .., u, _, h => by rw [RelV] at h; exact h.elim
  | .obji .., u, _, h => by rw [RelV] at h; exact h.elim
  | .eptr cs o, u, ho, h => by rw [RelV] at h; rw [RelV]; rw [okV] at ho; obtain ⟨k, a, h1, h2, h3⟩ := h; exact ⟨k, a, h1, h2, RelC.cut k cs a ho h3⟩
  | .fn f caps, u, ho, h => by rw [RelV] at h; rw [RelV]; rw [okV] at ho; obtain ⟨us, h1, h2⟩ := h; exact ⟨us, h1, RelL.cut caps us ho h2⟩
theorem RelL.cut : ∀ (cs : List CV) (us : List Value), okL i j cs → RelL m w V cs us → RelL (m.cut i j) w (V.take j) cs us
  | [], us, _, h => by rw [RelL] at h; rw [RelL]; exact h
  | c :: cs, us, ho, h => by rw [RelL] at h; rw [RelL]; rw [okL] at ho; obtain ⟨u, r, h1, h2, h3⟩ := h; exact ⟨u, r, h1, RelV.cut c u ho.1 h2, RelL.cut cs r ho.2 h3⟩
theorem RelC.cut (k : Nat) : ∀ (cs : List CV) (o : Nat), okL i j cs → RelC m w V k cs o → RelC (m.cut i j) w (V.take j) k cs o
  | [], o, _, h => by rw [RelC]; trivial
  | c :: cs, o, ho, h => by
    rw [RelC] at h; rw [RelC]; rw [okL] at ho
    obtain ⟨⟨u, h1, h2, h4⟩, h3⟩ := h
    exact ⟨⟨u, h1, RelV.cut c u ho.1 h2, h4⟩, RelC.cut k cs (o + 1) ho.2 h3⟩
theorem RelE.cut (k sz : Nat) : ∀ (es : List (List CV)) (o : Nat), okE i j es → RelE m w V k sz es o → RelE (m.cut i j) w (V.take j) k sz es o
  | [], o, _, h => by rw [RelE]; trivial
  | e :: es, o, ho, h => by
    rw [RelE] at h; rw [RelE]; rw [okE] at ho
    obtain ⟨h1, h2, h3⟩ := h
    exact ⟨h1, RelC.cut k e o ho.1 h2, RelE.cut k sz es (o + sz) ho.2 h3⟩
end
end

mutual
/-- What is related refers to boxes and tokens that are there. -/
theorem RelV.ok : ∀ (c : CV) (u : Value), RelV m w V c u → okV m.box.length V.length c
  | .any, _, _ => by rw [okV]; trivial
  | .v x, u, _ => by rw [okV]; trivial
  | .agg cs, u, h => by rw [RelV] at h; rw [okV]; obtain ⟨us, h1, h2⟩ := h; exact RelL.ok cs us h2
  | .tup cs, u, h => by rw [RelV] at h; rw [okV]; obtain ⟨us, h1, h2⟩ := h; exact RelL.ok cs us h2
  | .sl tk sz xs, u, h => by
    rw [RelV] at h; rw [okV]
    obtain ⟨base, cap, h1, h2, h3, h4, h5⟩ := h
    refine ⟨?_, ?_⟩
    · cases tk with
      | sh => trivial
      | ti => trivial
      | own t v =>
        obtain ⟨v', q1, q2, q3⟩ := (h3 : OwnOk m w V t v sz xs.length cap base)
        exact (List.getElem?_eq_some_iff.1 q1).1
    · rcases h5 with rfl | ⟨k, o, hb, hl, he⟩
      · rw [okE]; trivial
      · exact RelE.ok k sz xs o he
  | .bsl b o n sz, u, h => by
    rw [RelV] at h; rw [okV]
    obtain ⟨base, cap, k, h1, h2, h3, h4, h5⟩ := h
    exact (List.getElem?_eq_some_iff.1 h4).1
  | .ptr b o, u, h => by rw [RelV] at h; rw [okV]; obtain ⟨k, h1, h2⟩ := h; exact (List.getElem?_eq_some_iff.1 h1).1
  | .bm f caps, u, h => by rw [RelV] at h; rw [okV]; obtain ⟨us, h1, h2⟩ := h; exact RelL.ok caps us h2
  | .yl b, u, h => by rw [RelV] at h; rw [okV]; obtain ⟨k, h1, h2⟩ := h; exact (List.getElem?_eq_some_iff.1 h1).1
  | .mv b, u, h => by rw [RelV] at h; rw [okV]; obtain ⟨k, h1, h2⟩ := h; exact (List.getElem?_eq_some_iff.1 h1).1
  | .it b, u, h => by rw [RelV] at h; rw [okV]; obtain ⟨k, h1, h2⟩ := h; exact (List.getElem?_eq_some_iff.1 h1).1
  | .bsa b n sz, u, h => by
    rw [RelV] at h; rw [okV]
    obtain ⟨k, cap, c, e, h1, h2, h3, h4, h5⟩ := h
    exact (List.getElem?_eq_some_iff.1 h4).1
  | .objl .., u, h => by rw [RelV] at h; exact h.elim
  | .objm .., u, h => by rw [RelV] at h; exact h.elim
  | .obji .., u, h => by rw [RelV] at h; exact h.elim
  | .eptr cs o, u, h => by rw [RelV] at h; rw [okV]; obtain ⟨k, a, h1, h2, h3⟩ := h; exact RelC.ok k cs a h3
  | .fn f caps, u, h => by rw [RelV] at h; rw [okV]; obtain ⟨us, h1, h2⟩ := h; exact RelL.ok caps us h2
theorem RelL.ok : ∀ (cs : List CV) (us : List Value), RelL m w V cs us → okL m.box.length V.length cs
  | [], us, _ => by rw [okL]; trivial
  | c :: cs, us, h => by rw [RelL] at h; rw [okL]; obtain ⟨u, r, h1, h2, h3⟩ := h; exact ⟨RelV.ok c u h2, RelL.ok cs r h3⟩
theorem RelC.ok (k : Nat) : ∀ (cs : List CV) (o : Nat), RelC m w V k cs o → okL m.box.length V.length cs
  | [], o, _ => by rw [okL]; trivial
  | c :: cs, o, h => by
    rw [RelC] at h; rw [okL]
    obtain ⟨⟨u, h1, h2, h4⟩, h3⟩ := h
    exact ⟨RelV.ok c u h2, RelC.ok k cs (o + 1) h3⟩
theorem RelE.ok (k sz : Nat) : ∀ (es : List (List CV)) (o : Nat), RelE m w V k sz es o → okE m.box.length V.length es
  | [], o, _ => by rw [okE]; trivial
  | e :: es, o, h => by
    rw [RelE] at h; rw [okE]
    obtain ⟨h1, h2, h3⟩ := h
    exact ⟨RelC.ok k e o h2, RelE.ok k sz es (o + sz) h3⟩
end

theorem RelK.ok {tmps : Array Value} : ∀ {ks : List Nat} {cs : List CV}, RelK m w V tmps ks cs → okL m.box.length V.length cs
  | _ :: _, _ :: _, h => by rw [okL]; exact ⟨RelV.ok _ _ h.1, RelK.ok h.2⟩
  | [], [], _ => by rw [okL]; trivial
  | [], _ :: _, h => h.elim
  | _ :: _, [], h => h.elim
theorem RelK.cut (i j : Nat) {tmps : Array Value} : ∀ {ks : List Nat} {cs : List CV}, okL i j cs → RelK m w V tmps ks cs → RelK (m.cut i j) w (V.take j) tmps ks cs
  | _ :: _, _ :: _, ho, h => by rw [okL] at ho; exact ⟨RelV.cut i j _ _ ho.1 h.1, RelK.cut i j ho.2 h.2⟩
  | [], [], _, _ => trivial
  | [], _ :: _, _, h => h.elim
  | _ :: _, [], _, h => h.elim
theorem RelO.ok {k : Nat} {x : CV} (h : RelO m w V k x) : okV m.box.length V.length x := by
  cases x with
  | objl => obtain ⟨_, _, _, _, _, h⟩ := h; rw [okV]; exact h.ok
  | objm ks vs =>
    obtain ⟨es, _, h2, h3, h4⟩ := h
    rw [okV, okL_iff]
    intro c hc
    obtain ⟨i, hi⟩ := List.getElem?_of_mem hc
    have hl : i < es.size := by have := (List.getElem?_eq_some_iff.1 hi).1; omega
    obtain ⟨_, _, c', g1, g2⟩ := h4 i _ (Array.getElem?_eq_getElem hl)
    rw [hi] at g1; cases g1
    exact RelV.ok _ _ g2
  | obji => obtain ⟨km, _, h, _⟩ := h; rw [okV]; exact (List.getElem?_eq_some_iff.1 h).1
  | _ => exact h.elim
theorem RelO.cut {i j k : Nat} {x : CV} (ho : okV i j x) (h : RelO m w V k x) : RelO (m.cut i j) w (V.take j) k x := by
  cases x with
  | objl => rw [okV] at ho; obtain ⟨t, f, d, h1, h2, h⟩ := h; exact ⟨t, f, d, h1, h2, h.cut i j ho⟩
  | objm ks vs =>
    rw [okV, okL_iff] at ho
    obtain ⟨es, h1, h2, h3, h4⟩ := h
    refine ⟨es, h1, h2, h3, fun i' e he => ?_⟩
    obtain ⟨g1, g2, c', g3, g4⟩ := h4 i' e he
    exact ⟨g1, g2, c', g3, RelV.cut i j _ _ (ho _ (List.mem_of_getElem? g3)) g4⟩
  | obji => rw [okV] at ho; obtain ⟨km, s, h1, h2⟩ := h; exact ⟨km, s, take_get ho h1, h2⟩
  | _ => exact h.elim
theorem Live.ok {b : Nat} {cs : List CV} (h : Live m w V b cs) : okL m.box.length V.length cs := by
  cases h with
  | row k c e h1 h2 h3 h4 h5 => exact RelC.ok k cs 0 h5
  | obj k x h1 h2 h3 => subst h2; rw [okL, okL]; exact ⟨h3.ok, trivial⟩
theorem Inv.cut (hi : Inv m w H V) {i j : Nat} (hH : ∀ (b : Nat) cs, (H.take i)[b]? = some (some cs) → okL i j cs) : Inv (m.cut i j) w (H.take i) (V.take j) where
  glob := hi.glob
  boxlen := by simp [Gh.cut, hi.boxlen]
  tiplen := by simp [Gh.cut, hi.tiplen]
  limv := hi.limv
  tips t k h := by
    obtain ⟨h1, h2, h3⟩ := hi.tips t k (get_take h).2
    exact ⟨h1, fun b hb => h2 b (get_take hb).2, fun t' h' => h3 t' (get_take h').2⟩
  boxes b k h := hi.boxes b k (get_take h).2
  uniq b b' k cs cs' h h' g g' := hi.uniq b b' k cs cs' (get_take h).2 (get_take h').2 (get_take g).2 (get_take g').2
  live b cs h := by
    obtain ⟨hb, h'⟩ := get_take h
    have ho := hH b cs h
    cases hi.live b cs h' with
    | row k c e h1 h2 h3 h4 h5 => exact .row k c e (take_get hb h1) h2 h3 h4 (RelC.cut i j k cs 0 ho h5)
    | obj k x h1 h2 h3 => subst h2; rw [okL] at ho; exact .obj k x (take_get hb h1) rfl (h3.cut ho.1)

theorem Ext.cut {m' : Gh} {w' : World} {V' : List Nat} (hx : Ext m w V m' w' V') {i j : Nat} (hi : m.box.length ≤ i) (hv : V.length ≤ j) : Ext m w V (m'.cut i j) w' (V'.take j) where
  os := hx.os
  tape := hx.tape
  output := hx.output
  size := hx.size
  shape := hx.shape
  lim := hx.lim
  prot := hx.prot
  dfr := hx.dfr
  same := hx.same
  box b k h := take_get (Nat.lt_of_lt_of_le (List.getElem?_eq_some_iff.1 h).1 hi) (hx.box b k h)
  boxnew b k h := hx.boxnew b k (get_take h).2
  tipnew t k h := hx.tipnew t k (get_take h).2
  tok t v h := by
    obtain ⟨v', h1, h2, h3⟩ := hx.tok t v h
    have ht : t < j := Nat.lt_of_lt_of_le (List.getElem?_eq_some_iff.1 h).1 hv
    refine ⟨v', take_get ht h1, h2, fun e => ?_⟩
    obtain ⟨p1, p2⟩ := h3 e
    refine ⟨?_, p2⟩
    show (m'.tip.take j)[t]? = _
    rw [List.getElem?_take, if_pos ht]; exact p1
end

def Gst (n nb nv : Nat) (T : Tm) (H : Hp) (V : List Nat) (T' : Tm) (H' : Hp) (V' : List Nat) : Prop :=
  ∀ (D : Dl) m w a m0 w0 V0, m0.box.length = nb → m0.tip.length = nv → V0.length = nv → Ext m0 w0 V0 m w V → St D n m w a T H V → ∃ m', St D n m' w a T' H' V' ∧ Ext m0 w0 V0 m' w V'

section
variable {n nb nv : Nat} {T T' T'' : Tm} {H H' H'' : Hp} {V V' V'' : List Nat}

theorem Gst.refl : Gst n nb nv T H V T H V := fun _ m _ _ _ _ _ _ _ _ hx hs => ⟨m, hs, hx⟩
theorem Gst.trans (h : Gst n nb nv T H V T' H' V') (g : Gst n nb nv T' H' V' T'' H'' V'') : Gst n nb nv T H V T'' H'' V'' := fun D m w a m0 w0 V0 h1 h2 h3 hx hs => by
  obtain ⟨m', s1, s2⟩ := h D m w a m0 w0 V0 h1 h2 h3 hx hs
  exact g D m' w a m0 w0 V0 h1 h2 h3 s2 s1

theorem tget_mem : ∀ (T : Tm) (k : Nat), tget T k = .any ∨ ∃ p ∈ T, p.1 = k ∧ tget T k = p.2
  | [], k => .inl rfl
  | (k', c) :: r, k => by
    simp only [tget]
    by_cases h : k = k'
    · rw [if_pos h]; exact .inr ⟨(k', c), by simp, h.symm, rfl⟩
    · rw [if_neg h]
      rcases tget_mem r k with h1 | ⟨p, h1, h2⟩
      · exact .inl h1
      · exact .inr ⟨p, by simp [h1], h2⟩

theorem Gst.forget (h : ∀ p ∈ T', Le (tget T p.1) p.2) : Gst n nb nv T H V T' H V := fun D m w a m0 w0 V0 _ _ _ hx hs => by
  refine ⟨m, ⟨hs.inv, fun k => ?_, hs.size, hs.df⟩, hx⟩
  rcases tget_mem T' k with h1 | ⟨p, h1, rfl, h2⟩
  · rw [h1, RelV]; trivial
  · rw [h2]; exact Le.rel (h p h1) (hs.tm p.1)

theorem Gst.cut (i j : Nat) (hi : nb ≤ i) (hj : nv ≤ j) (hT : ∀ p ∈ T, okV i j p.2) (hH : ∀ (b : Nat) cs, (H.take i)[b]? = some (some cs) → okL i j cs) : Gst n nb nv T H V T (H.take i) (V.take j) := fun D m w a m0 w0 V0 h1 h2 h3 hx hs => by
  refine ⟨m.cut i j, ⟨hs.inv.cut hH, fun k => ?_, hs.size, hs.df⟩, hx.cut (by omega) (by omega)⟩
  refine RelV.cut i j _ _ ?_ (hs.tm k)
  rcases tget_mem T k with h1 | ⟨p, h1, rfl, h2⟩
  · rw [h1, okV]; trivial
  · rw [h2]; exact hT p h1

-- A box is let go for good: slices of it have fixed contents from now on.
mutual
inductive Fz (b : Nat) (cs : List CV) : CV → CV → Prop
  | refl (c : CV) : Fz b cs c c
  | bsl (o n sz : Nat) (h : o + n * sz ≤ cs.length) : Fz b cs (.bsl b o n sz) (.sl .sh sz (chunks sz n (cs.drop o)))
  | agg {xs ys : List CV} (h : FzL b cs xs ys) : Fz b cs (.agg xs) (.agg ys)
  | tup {xs ys : List CV} (h : FzL b cs xs ys) : Fz b cs (.tup xs) (.tup ys)
inductive FzL (b : Nat) (cs : List CV) : List CV → List CV → Prop
  | nil : FzL b cs [] []
  | cons {c d : CV} {xs ys : List CV} (h : Fz b cs c d) (t : FzL b cs xs ys) : FzL b cs (c :: xs) (d :: ys)
end

section
variable {m : Gh} {w : World} {b k : Nat} {cs : List CV}
mutual
theorem Fz.rel (hb : m.box[b]? = some k) (hl : cs.length ≤ m.lim k) (hc : RelC m w V k cs 0) {x y : CV} : ∀ {u : Value}, Fz b cs x y → RelV m w V x u → RelV m w V y u
  | _, .refl _, h => h
  | _, .bsl o n sz ho, h => by
    rw [RelV] at h; rw [RelV]
    obtain ⟨base, cap, k', h1, h2, h3, h4, h5, _⟩ := h
    rw [hb] at h4; cases h4
    refine ⟨base, cap, by rw [chunks_length]; exact h1, by rw [chunks_length]; exact h2, trivial, h3, ?_⟩
    rcases h5 with rfl | rfl
    · exact .inl rfl
    · refine .inr ⟨k, o, rfl, by rw [chunks_length]; omega, relE_of_flat (fun j e he => chunks_get sz n _ j e (by simp; omega) he) ?_⟩
      rw [chunks_flatten]
      have := relC_take (relC_drop hc o) (n * sz)
      rwa [Nat.zero_add] at this
  | _, .agg hq, h => by rw [RelV] at h; rw [RelV]; obtain ⟨us, h1, h2⟩ := h; exact ⟨us, h1, FzL.rel hb hl hc hq h2⟩
  | _, .tup hq, h => by rw [RelV] at h; rw [RelV]; obtain ⟨us, h1, h2⟩ := h; exact ⟨us, h1, FzL.rel hb hl hc hq h2⟩
theorem FzL.rel (hb : m.box[b]? = some k) (hl : cs.length ≤ m.lim k) (hc : RelC m w V k cs 0) {xs ys : List CV} : ∀ {us : List Value}, FzL b cs xs ys → RelL m w V xs us → RelL m w V ys us
  | _, .nil, h => h
  | _, .cons h t, hr => by
    rw [RelL] at hr; rw [RelL]
    obtain ⟨u, r, h1, h2, h3⟩ := hr
    exact ⟨u, r, h1, Fz.rel hb hl hc h h2, FzL.rel hb hl hc t h3⟩
end
end

section
variable {m : Gh} {w : World} {b k : Nat} {cs : List CV}
mutual
theorem Fz.relO (hb : m.box[b]? = some k) (hr : ¬ IsRow w k) {x y : CV} : ∀ {u : Value}, Fz b cs x y → RelV m w V x u → RelV m w V y u
  | _, .refl _, h => h
  | _, .bsl o n sz ho, h => by
    rw [RelV] at h
    obtain ⟨base, cap, k', h1, h2, h3, h4, h5, h6⟩ := h
    rw [hb] at h4; cases h4
    exact absurd h6 hr
  | _, .agg hq, h => by rw [RelV] at h; rw [RelV]; obtain ⟨us, h1, h2⟩ := h; exact ⟨us, h1, FzL.relO hb hr hq h2⟩
  | _, .tup hq, h => by rw [RelV] at h; rw [RelV]; obtain ⟨us, h1, h2⟩ := h; exact ⟨us, h1, FzL.relO hb hr hq h2⟩
theorem FzL.relO (hb : m.box[b]? = some k) (hr : ¬ IsRow w k) {xs ys : List CV} : ∀ {us : List Value}, FzL b cs xs ys → RelL m w V xs us → RelL m w V ys us
  | _, .nil, h => h
  | _, .cons h t, hr' => by
    rw [RelL] at hr'; rw [RelL]
    obtain ⟨u, r, h1, h2, h3⟩ := hr'
    exact ⟨u, r, h1, Fz.relO hb hr h h2, FzL.relO hb hr t h3⟩
end
end
theorem Inv.fix {m : Gh} {w : World} (hi : Inv m w H V) {b k : Nat} {cs : List CV} {c : Array Value} {e : TypeId} (hb : H[b]? = some (some cs)) (g1 : m.box[b]? = some k) (g2 : w.heap[k]? = some (.cells c e (0, 0))) (g3 : cs.length ≤ c.size) (g4 : m.lim k = 0) :
    let m' : Gh := { m with lim := fun j => if j = k then cs.length else m.lim j }
    Inv m' w (H.set b none) V ∧ Ext m w V m' w V := by
  intro m'
  have hml : ∀ j, m'.lim j = if j = k then cs.length else m.lim j := fun _ => rfl
  have hx' : Ext m w V m' w V := by
    refine ⟨rfl, rfl, rfl, Nat.le_refl _, fun k c e fr h => ⟨c, h, rfl⟩, fun j => ?_, fun _ _ _ => rfl, fun _ _ h => h, fun _ _ _ _ => rfl, fun _ _ h => h, fun b _ h => .inl ⟨b, h⟩, fun t k h => .inl h, fun t v h => ⟨v, h, Nat.le_refl _, fun _ => ⟨rfl, fun j hj => ?_⟩⟩⟩
    · rw [hml]; split
      · rename_i h; rw [h, g4]; omega
      · exact Nat.le_refl _
    · have : j ≠ k := fun e => (hi.tips t j hj).2.1 b (by rw [e]; exact g1)
      rw [hml, if_neg this]
  have hk := hi.kill b
  refine ⟨⟨hk.glob.mono hx', hk.boxlen, hi.tiplen, fun j hj => ?_, hi.tips, hi.boxes, hk.uniq, fun b' c0 h => ?_⟩, hx'⟩
  · by_cases hjk : j = k
    · subst hjk; exact ⟨c, e, (0, 0), g2, by rw [hml, if_pos rfl]; exact g3⟩
    · rw [hml, if_neg hjk] at hj ⊢; exact hi.limv j hj
  · refine (hk.live b' c0 h).mono hx' fun k' q1 => ⟨rfl, ?_⟩
    have hbb : b ≠ b' := fun e => by
      subst e
      rw [List.getElem?_set_self (List.getElem?_eq_some_iff.1 hb).1] at h; cases h
    rw [List.getElem?_set_ne hbb] at h
    have hkk : k' ≠ k := fun e => hbb (hi.uniq b' b k' _ _ h hb q1 (by rw [e]; exact g1))
    rw [hml, if_neg hkk]
theorem Gst.freeze {b : Nat} {cs : List CV} (hb : H[b]? = some (some cs)) (h : ∀ p ∈ T', Fz b cs (tget T p.1) p.2) : Gst n nb nv T H V T' (H.set b none) V := fun D m w a m0 w0 V0 h1 h2 h3 hx hs => by
  cases hs.inv.live b cs hb with
  | row k c e g1 g2 g3 g4 g5 =>
    obtain ⟨hi', hx'⟩ := hs.inv.fix hb g1 g2 g3 g4
    refine ⟨_, ⟨hi', fun j => ?_, hs.size, hs.df⟩, hx.trans hx'⟩
    have ht := RelT.mono hx' hs.tm
    rcases tget_mem T' j with h1 | ⟨p, h1, rfl, h2⟩
    · rw [h1, RelV]; trivial
    · rw [h2]
      exact Fz.rel (m := { m with lim := fun j => if j = k then cs.length else m.lim j }) (k := k) g1 (by show cs.length ≤ if k = k then cs.length else m.lim k; rw [if_pos rfl]; exact Nat.le_refl _) (relC_box hx' rfl g5) (h p h1) (ht p.1)
  | obj k x g1 g2 g3 =>
    refine ⟨m, ⟨hs.inv.kill b, fun j => ?_, hs.size, hs.df⟩, hx⟩
    rcases tget_mem T' j with h1 | ⟨p, h1, rfl, h2⟩
    · rw [h1, RelV]; trivial
    · rw [h2]
      exact Fz.relO g1 g3.notRow (h p h1) (hs.tm p.1)
end

theorem wpIn_loop_ghost {ro : Option Nat} {n : Nat} {P : Program} {Q : Exit → Act → World → Prop} {a : Act} {w : World} {c : Code} (I : Nat → Act → World → Prop) (n₀ : Nat) (h₀ : I n₀ a w)
    (round : ∀ n' a w, I n' a w → c.wpIn (fen ro) n P (Exit.then (fun a' w' => ∃ n'', n'' < n' ∧ I n'' a' w') Q) a w) : (Code.loop c).wpIn (fen ro) n P Q a w := by
  refine wpIn_loop (fun a w => ∃ n, I n a w) (fun a w => leastOf (fun n => I n a w)) ⟨n₀, h₀⟩ ?_
  intro a w hI
  refine wpIn_mono (round _ a w (leastOf_spec hI).1) ?_
  intro e a' w' hq
  cases e with
  | normal =>
    obtain ⟨n', hlt, hI'⟩ := hq
    exact show (∃ n, I n a' w') ∧ leastOf (fun n => I n a' w') < leastOf (fun n => I n a w) from ⟨⟨n', hI'⟩, Nat.lt_of_le_of_lt ((leastOf_spec ⟨n', hI'⟩).2 n' hI') hlt⟩
  | _ => exact hq
theorem stepR_scope {P : Program} {b : Frame} {a : Act} {k : List Item} {cs : List Frame} {w : World} {c : Code} : step P (lone (b.atR a (.code (.scope c) :: k)) cs w) = .next (lone (b.atR a (.code c :: .inScope c :: k)) cs w) :=
  step_lone_go (by simp [stepG, stepG.exec, Frame.atR])
theorem stepR_inScope {P : Program} {b : Frame} {a : Act} {k : List Item} {cs : List Frame} {w : World} {c : Code} : step P (lone (b.atR a (.inScope c :: k)) cs w) = .next (lone (b.atR a k) cs w) :=
  step_lone_go (by simp [stepG, stepG.exec, Frame.atR])
theorem wpIn_scope_straight {ro : Option Nat} {n : Nat} {P : Program} {Q : Exit → Act → World → Prop} {a : Act} {w : World} {c : Code} (h : c.wpIn (fen ro) n P (Exit.noGoto Q) a w) : (Code.scope c).wpIn (fen ro) n P Q a w := by
  intro b k cs hro hb hr
  obtain ⟨e, a', w', hq, harr⟩ := h b (.inScope c :: k) cs hro hb hr
  have s1 : StepsIn (Machine.fenced P (fen ro)) P (lone (b.atR a (.code (.scope c) :: k)) cs w) (lone (b.atR a (.code c :: .inScope c :: k)) cs w) := .one (fenced_calm hb hr rfl) stepR_scope
  cases e with
  | normal => exact ⟨.normal, a', w', hq, (StepsIn.trans s1 harr).trans (.one (fenced_calm hb hr rfl) stepR_inScope)⟩
  | goto l => exact hq.elim
  | exit id =>
    have e : exitTo id (.inScope c :: k) = exitTo id k := by simp [exitTo]
    exact ⟨.exit id, a', w', hq, .of_steps s1 ⟨fun k' hk => harr.1 k' (by rw [e]; exact hk), fun hr hk => harr.2 hr (by rw [e]; exact hk)⟩⟩
  | ret => exact ⟨_, a', w', hq, .of_steps s1 harr⟩
  | panic ch => exact ⟨_, a', w', hq, .of_steps s1 harr⟩
  | outgrown => exact ⟨_, a', w', hq, .of_steps s1 harr⟩
def SWp (P : Program) (n nb nv : Nat) (c : Code) (Q : Exit → Tm → Hp → List Nat → Prop) (T : Tm) (H : Hp) (V : List Nat) : Prop :=
  ∀ (ro : Option Nat) (D : Dl) m w a m0 w0 V0, m0.box.length = nb → m0.tip.length = nv → V0.length = nv → Ext m0 w0 V0 m w V → St D n m w a T H V →
    c.wpIn (fen ro) 0 P (fun e a' w' => ∃ T' H' V' m', Q e T' H' V' ∧ St D n m' w' a' T' H' V' ∧ Ext m0 w0 V0 m' w' V') a w

def SWp0 (P : Program) (n nb nv : Nat) (c : Code) (Q : Exit → Tm → Hp → List Nat → Prop) (T : Tm) (H : Hp) (V : List Nat) : Prop :=
  ∀ (D : Dl), D.nm = false → ∀ m w a m0 w0 V0, m0.box.length = nb → m0.tip.length = nv → V0.length = nv → Ext m0 w0 V0 m w V → St D n m w a T H V →
    c.wpIn (fen none) 0 P (fun e a' w' => ∃ T' H' V' m', Q e T' H' V' ∧ St D n m' w' a' T' H' V' ∧ Ext m0 w0 V0 m' w' V') a w

def thn (N : Tm → Hp → List Nat → Prop) (Q : Exit → Tm → Hp → List Nat → Prop) : Exit → Tm → Hp → List Nat → Prop
  | .normal => N
  | e => Q e
def blk (id : Nat) (Q : Exit → Tm → Hp → List Nat → Prop) : Exit → Tm → Hp → List Nat → Prop
  | .exit id' => if id' = id then Q .normal else Q (.exit id')
  | e => Q e

def scp (Q : Exit → Tm → Hp → List Nat → Prop) : Exit → Tm → Hp → List Nat → Prop
  | .goto _ => fun _ _ _ => False
  | e => Q e

def Ent (n nb nv : Nat) (I : Tm → Hp → List Nat → Prop) (T : Tm) (H : Hp) (V : List Nat) : Prop := ∃ T' H' V', Gst n nb nv T H V T' H' V' ∧ I T' H' V'
def Wl (n nb nv : Nat) (body : (Exit → Tm → Hp → List Nat → Prop) → Tm → Hp → List Nat → Prop) (Q : Exit → Tm → Hp → List Nat → Prop) (T : Tm) (H : Hp) (V : List Nat) : Prop :=
  ∃ (I : Nat → Tm → Hp → List Nat → Prop) (k : Nat), Ent n nb nv (I k) T H V ∧
    ∀ k T H V, I k T H V → body (thn (fun T H V => ∃ k', k' < k ∧ Ent n nb nv (I k') T H V) Q) T H V

def cbranch (c : CV) (yes no : Prop) : Prop :=
  match c with
  | .v (.bool t) => (t = true → yes) ∧ (t = false → no)
  | _ => False

def Wp (P : Program) (n nb nv : Nat) : Code → (Exit → Tm → Hp → List Nat → Prop) → Tm → Hp → List Nat → Prop
  | .skip, Q, T, H, V => Q .normal T H V
  | .label _, Q, T, H, V => Q .normal T H V
  | .region id ops true, Q, T, H, V => SWp P n nb nv (.region id ops true) Q T H V
  | .region _ ops false, Q, T, H, V => crun P n ops.toList ops.toList T H V (Q .normal)
  | .seq a b, Q, T, H, V => Wp P n nb nv a (thn (Wp P n nb nv b Q) Q) T H V
  | .cond c a b, Q, T, H, V => cbranch (evT T c) (Wp P n nb nv a Q T H V) (Wp P n nb nv b Q T H V)
  | .block id c, Q, T, H, V => Wp P n nb nv c (blk id Q) T H V
  | .scope c, Q, T, H, V => Wp P n nb nv c (scp Q) T H V
  | .loop c, Q, T, H, V => Wl n nb nv (fun Q T H V => Wp P n nb nv c Q T H V) Q T H V
  | .ret, Q, T, H, V => Q .ret T H V
  | .exit id, Q, T, H, V => Q (.exit id) T H V
  | _, _, _, _, _ => False

section
variable {P : Program} {n nb nv : Nat}

theorem SWp.mono {c : Code} {Q Q' : Exit → Tm → Hp → List Nat → Prop} {T : Tm} {H : Hp} {V : List Nat} (h : SWp P n nb nv c Q T H V) (hq : ∀ e T H V, Q e T H V → Q' e T H V) : SWp P n nb nv c Q' T H V :=
  fun ro D m w a m0 w0 V0 h1 h2 h3 hx hs => wpIn_mono (h ro D m w a m0 w0 V0 h1 h2 h3 hx hs) fun _ _ _ ⟨T', H', V', m', k1, k2⟩ => ⟨T', H', V', m', hq _ _ _ _ k1, k2⟩

theorem SWp.seq {x y : Code} {Q : Exit → Tm → Hp → List Nat → Prop} {T : Tm} {H : Hp} {V : List Nat} (h : SWp P n nb nv x (thn (SWp P n nb nv y Q) Q) T H V) : SWp P n nb nv (.seq x y) Q T H V := by
  intro ro D m w a m0 w0 V0 h1 h2 h3 hx hs
  refine wpIn_seq (wpIn_mono (h ro D m w a m0 w0 V0 h1 h2 h3 hx hs) fun e a' w' ⟨T', H', V', m', k1, k2, k3⟩ => ?_)
  cases e with
  | normal => exact k1 ro D m' w' a' m0 w0 V0 h1 h2 h3 k3 k2
  | _ => exact ⟨T', H', V', m', k1, k2, k3⟩

theorem SWp.ghost {c : Code} {Q : Exit → Tm → Hp → List Nat → Prop} {T T' : Tm} {H H' : Hp} {V V' : List Nat} (g : Gst n nb nv T H V T' H' V') (h : SWp P n nb nv c Q T' H' V') : SWp P n nb nv c Q T H V := by
  intro ro D m w a m0 w0 V0 h1 h2 h3 hx hs
  obtain ⟨m', s1, s2⟩ := g D m w a m0 w0 V0 h1 h2 h3 hx hs
  exact h ro D m' w a m0 w0 V0 h1 h2 h3 s2 s1

theorem Wp.sound : ∀ (c : Code) {Q : Exit → Tm → Hp → List Nat → Prop} {T : Tm} {H : Hp} {V : List Nat}, Wp P n nb nv c Q T H V → SWp P n nb nv c Q T H V
  | .skip, Q, T, H, V, h => fun ro D m w a m0 w0 V0 _ _ _ hx hs => wpIn_skip ⟨T, H, V, m, h, hs, hx⟩
  | .label _, Q, T, H, V, h => fun ro D m w a m0 w0 V0 _ _ _ hx hs => wpIn_label ⟨T, H, V, m, h, hs, hx⟩
  | .region id ops true, Q, T, H, V, h => h
  | .region id ops false, Q, T, H, V, h => fun ro D m w a m0 w0 V0 _ _ _ hx hs => by
    have h : crun P n ops.toList ops.toList T H V (Q .normal) := h
    refine wpIn_region_list ?_
    have := crun_sound (P := P) (ro := ro) (Q := fun e a' w' => ∃ T' H' V' m', Q e T' H' V' ∧ St D n m' w' a' T' H' V' ∧ Ext m0 w0 V0 m' w' V') ops.toList hs h (fun T' H' V' a' w' m' k1 k2 k3 => ⟨T', H', V', m', k1, k2, hx.trans k3⟩)
    simpa using this
  | .seq x y, Q, T, H, V, h => SWp.seq ((Wp.sound x h).mono fun e T H V k => by
      cases e with
      | normal => exact Wp.sound y k
      | _ => exact k)
  | .cond c x y, Q, T, H, V, h => fun ro D m w a m0 w0 V0 h1 h2 h3 hx hs => by
    have h : cbranch (evT T c) (Wp P n nb nv x Q T H V) (Wp P n nb nv y Q T H V) := h
    unfold cbranch at h
    split at h
    · rename_i t hc
      have := ev_rel hs.inv.glob hs.tm c
      rw [hc, RelV] at this
      exact wpIn_cond_split this (fun e => Wp.sound x (h.1 e) ro D m w a m0 w0 V0 h1 h2 h3 hx hs) (fun e => Wp.sound y (h.2 e) ro D m w a m0 w0 V0 h1 h2 h3 hx hs)
    · exact h.elim
  | .block id c, Q, T, H, V, h => fun ro D m w a m0 w0 V0 h1 h2 h3 hx hs => by
    refine wpIn_block (wpIn_mono (Wp.sound c h ro D m w a m0 w0 V0 h1 h2 h3 hx hs) fun e a' w' ⟨T', H', V', m', k1, k2⟩ => ?_)
    cases e with
    | exit id' =>
      simp only [blk] at k1
      simp only [Exit.inBlock]
      split
      · rename_i hid; rw [if_pos hid] at k1; exact ⟨T', H', V', m', k1, k2⟩
      · rename_i hid; rw [if_neg hid] at k1; exact ⟨T', H', V', m', k1, k2⟩
    | _ => exact ⟨T', H', V', m', k1, k2⟩
  | .loop c, Q, T, H, V, h => fun ro D m w a m0 w0 V0 h1 h2 h3 hx hs => by
    obtain ⟨I, k, ⟨T1, H1, V1, hg, hI⟩, hbody⟩ := h
    obtain ⟨m1, s1, s2⟩ := hg D m w a m0 w0 V0 h1 h2 h3 hx hs
    refine wpIn_loop_ghost (fun k a w => ∃ T H V m, I k T H V ∧ St D n m w a T H V ∧ Ext m0 w0 V0 m w V) k ⟨T1, H1, V1, m1, hI, s1, s2⟩ ?_
    rintro k a' w' ⟨T2, H2, V2, m2, k1, k2, k3⟩
    refine wpIn_mono (Wp.sound c (hbody k T2 H2 V2 k1) ro D m2 w' a' m0 w0 V0 h1 h2 h3 k3 k2) fun e a3 w3 ⟨T3, H3, V3, m3, q1, q2, q3⟩ => ?_
    cases e with
    | normal =>
      obtain ⟨k', hlt, T4, H4, V4, hg4, hI4⟩ := q1
      obtain ⟨m4, r1, r2⟩ := hg4 D m3 w3 a3 m0 w0 V0 h1 h2 h3 q3 q2
      exact ⟨k', hlt, T4, H4, V4, m4, hI4, r1, r2⟩
    | _ => exact ⟨T3, H3, V3, m3, q1, q2, q3⟩
  | .ret, Q, T, H, V, h => fun ro D m w a m0 w0 V0 _ _ _ hx hs => wpIn_ret ⟨T, H, V, m, h, hs, hx⟩
  | .exit id, Q, T, H, V, h => fun ro D m w a m0 w0 V0 _ _ _ hx hs => wpIn_exit ⟨T, H, V, m, h, hs, hx⟩
  | .rangeFunc .., _, _, _, _, h => False.elim h
  | .scope c, Q, T, H, V, h => fun ro D m w a m0 w0 V0 h1 h2 h3 hx hs => by
    refine wpIn_scope_straight (wpIn_mono (Wp.sound c h ro D m w a m0 w0 V0 h1 h2 h3 hx hs) fun e a' w' ⟨T', H', V', m', k1, k2⟩ => ?_)
    cases e with
    | goto l => exact k1.elim
    | _ => exact ⟨T', H', V', m', k1, k2⟩
  | .goto _, _, _, _, _, h => False.elim h
  | .refuse _, _, _, _, _, h => False.elim h
end
end Go.Proofs.YtpedbpbmnchllaaGreatDoor
namespace Go.Proofs.YtpedbpbmnchllaaGreatDoor

def resK (P : Program) : List ResultVar → Tm → Hp → (List CV → Prop) → Prop
  | [], _, _, K => K []
  | .tmp t :: r, T, H, K => resK P r T H fun cs => K (tget T t :: cs)
  | .cell a ty :: r, T, H, K => ∃ g n, ldTy P ty = some (g, n) ∧
      match tget T a with
      | .ptr b o => ∃ cs, H[b]? = some (some cs) ∧ ld g n cs o fun c => resK P r T H fun ds => K (c :: ds)
      | _ => False

def one : List CV → CV
  | [c] => c
  | cs => .tup cs

def Fin (nb nv : Nat) (R : CV → Hp → List Nat → Prop) (r : CV) (H : Hp) (V : List Nat) : Prop :=
  ∃ r' H' V', Gst 1 nb nv [(0, r)] H V [(0, r')] H' V' ∧ R r' H' V'

def Rt (P : Program) (nb nv : Nat) (res : List ResultVar) (R : CV → Hp → List Nat → Prop) : Exit → Tm → Hp → List Nat → Prop
  | .ret, T, H, V => resK P res T H fun cs => Fin nb nv R (one cs) H V
  | .normal, T, H, V => resK P res T H fun cs => Fin nb nv R (one cs) H V
  | _, _, _, _ => False

def args0 : Nat → List CV → Tm
  | _, [] => []
  | i, c :: cs => (i, c) :: args0 (i + 1) cs

section
variable {P : Program} {m : Gh} {w : World} {H : Hp} {V : List Nat}

theorem resK_run {T : Tm} {tmps : Array Value} (hi : Inv m w H V) (ht : RelT m w V T tmps) {q : ResultVar → Sem Value} (hq1 : ∀ t, (q (.tmp t)).run P w = .ok (tmps.getD t undef) w)
    (hq2 : ∀ a t k o u, tmps.getD a undef = .pointer (some ⟨k, o, none⟩) → (loadVar t ⟨k, o, none⟩).run P w = .ok u w → (q (.cell a t)).run P w = .ok u w) : ∀ (res : List ResultVar) {K : List CV → Prop}, resK P res T H K →
    ∃ cs us, (res.mapM q).run P w = .ok us w ∧ RelL m w V cs us ∧ K cs
  | [], K, h => ⟨[], [], by simp, by rw [RelL], h⟩
  | .tmp t :: r, K, h => by
    rw [resK] at h
    obtain ⟨cs, us, h1, h2, h3⟩ := resK_run hi ht hq1 hq2 r h
    refine ⟨_, tmps.getD t undef :: us, ?_, ?_, h3⟩
    · rw [List.mapM_cons]
      simp only [Sem.run_bind, Sem.run_pure, Result.andThen_ok, hq1, h1]
    · rw [RelL]; exact ⟨_, us, rfl, ht t, h2⟩
  | .cell a ty :: r, K, h => by
    rw [resK] at h
    obtain ⟨g, n, hty, h⟩ := h
    have hx := ht a
    split at h
    · rename_i b o he
      obtain ⟨cs0, hb, h⟩ := h
      rw [he, RelV] at hx
      obtain ⟨k, hk, hu, hrow⟩ := hx
      obtain ⟨c, e, g2, g3, g4, g5⟩ := hi.alive hb hk hrow
      obtain ⟨c', u, r1, r2, r3⟩ := ld_run (P := P) hty g5 h
      rw [Nat.zero_add] at r1
      obtain ⟨cs, us, h1, h2, h3⟩ := resK_run hi ht hq1 hq2 r r3
      refine ⟨_, u :: us, ?_, ?_, h3⟩
      · rw [List.mapM_cons]
        simp only [Sem.run_bind, hq2 a ty k o u hu r1, Sem.run_pure, Result.andThen_ok, h1]
      · rw [RelL]; exact ⟨_, us, rfl, r2, h2⟩
    · exact h.elim

theorem results_run {fn : Func} {T : Tm} {tmps : Array Value} (hi : Inv m w H V) (ht : RelT m w V T tmps) {K : List CV → Prop} (h : resK P fn.results.toList T H K) :
    ∃ cs u, (results fn tmps).run P w = .ok u w ∧ RelV m w V (one cs) u ∧ K cs := by
  have main : ∃ cs us, (fn.results.mapM (m := Sem) fun | .tmp t => pure (tmps.getD t undef) | .cell a t => do loadVar t (← asAddr (tmps.getD a undef))).run P w = .ok (List.toArray us) w ∧ RelL m w V cs us ∧ K cs := by
    obtain ⟨cs, us, h1, h2, h3⟩ := resK_run (q := fun | .tmp t => pure (tmps.getD t undef) | .cell a t => do loadVar t (← asAddr (tmps.getD a undef))) hi ht (fun _ => rfl) (fun a t k o u hu hr => by simp only [Sem.run_bind, hu, asAddr, Sem.run_pure, Result.andThen_ok, hr]) _ h
    exact ⟨cs, us, by rw [Array.mapM_eq_mapM_toList, Sem.run_map, h1]; rfl, h2, h3⟩
  obtain ⟨cs, us, hrun, h2, h3⟩ := main
  have hl := relL_length h2
  refine ⟨cs, if h : us.toArray.size = 1 then us.toArray[0] else .tuple us.toArray, ?_, ?_, h3⟩
  · unfold results
    rw [Sem.run_bind]
    exact congrArg (fun r => Result.andThen r _) hrun
  · match cs, us, h2 with
    | [c], us, h2 =>
      rw [RelL] at h2
      obtain ⟨u, r, rfl, q1, q2⟩ := h2
      rw [RelL] at q2; subst q2
      simpa [one] using q1
    | [], us, h2 =>
      rw [RelL] at h2; subst h2
      simp only [one]
      rw [RelV]
      exact ⟨[], by simp, by rw [RelL]⟩
    | c :: d :: cs, us, h2 =>
      have hl := relL_length h2
      simp only [one]
      rw [RelV]
      refine ⟨us, ?_, h2⟩
      rw [dif_neg (by simp [hl])]

theorem args0_get : ∀ (cs : List CV) (i n : Nat), tget (args0 i cs) n = if i ≤ n then (cs[n - i]?).getD .any else .any
  | [], i, n => by simp [args0, tget]
  | c :: cs, i, n => by
    simp only [args0, tget]
    by_cases h : n = i
    · subst h; simp
    · rw [if_neg h, args0_get cs (i + 1) n]
      by_cases h2 : i ≤ n
      · rw [if_pos h2, if_pos (by omega), show n - i = (n - (i + 1)) + 1 from by omega]; simp
      · rw [if_neg h2, if_neg (by omega)]

section
variable {w' : World} (hc : ∀ (k : Nat) c e fr, w.heap[k]? = some (.cells c e fr) ↔ w'.heap[k]? = some (.cells c e fr))
include hc
theorem cell_same (a : Addr) (ha : a.spot = none) : w'.cell? a = w.cell? a := by
  simp only [World.cell?, ha]
  cases h : w.heap[a.block]? with
  | none =>
    cases h' : w'.heap[a.block]? with
    | none => rfl
    | some o =>
      cases o with
      | cells c e fr => rw [(hc _ c e fr).2 h'] at h; cases h
      | _ => rfl
  | some o =>
    cases o with
    | cells c e fr => rw [(hc _ c e fr).1 h]
    | _ =>
      cases h' : w'.heap[a.block]? with
      | none => rfl
      | some o' =>
        cases o' with
        | cells c e fr => rw [(hc _ c e fr).2 h'] at h; cases h
        | _ => rfl
theorem IsRow.same' {k : Nat} (h : IsRow w k) : IsRow w' k := by
  obtain ⟨c, e, fr, h⟩ := h
  exact ⟨c, e, fr, (hc k c e fr).1 h⟩
mutual
theorem RelV.same : ∀ (c : CV) (u : Value), RelV m w V c u → RelV m w' V c u
  | .any, _, _ => by rw [RelV]; trivial
  | .v x, u, h => by rw [RelV] at h ⊢; exact h
  | .agg cs, u, h => by rw [RelV] at h ⊢; obtain ⟨us, h1, h2⟩ := h; exact ⟨us, h1, RelL.same cs us h2⟩
  | .tup cs, u, h => by rw [RelV] at h ⊢; obtain ⟨us, h1, h2⟩ := h; exact ⟨us, h1, RelL.same cs us h2⟩
  | .sl tk sz xs, u, h => by
    rw [RelV] at h ⊢
    obtain ⟨base, cap, h1, h2, h3, h4, h5⟩ := h
    refine ⟨base, cap, h1, h2, ?_, h4, ?_⟩
    · cases tk with
      | sh => trivial
      | ti => exact h3
      | own t v =>
        obtain ⟨v', q1, q2, q3⟩ := (h3 : OwnOk m w V t v sz xs.length cap base)
        refine ⟨v', q1, q2, fun e => ?_⟩
        rcases q3 e with q3 | ⟨k, o, c, ec, hb, ht1, hl, hcc, r⟩
        · exact .inl q3
        · exact .inr ⟨k, o, c, ec, hb, ht1, hl, (hc _ _ _ _).1 hcc, r⟩
    · rcases h5 with h5 | ⟨k, o, hb, hl, he⟩
      · exact .inl h5
      · exact .inr ⟨k, o, hb, hl, RelE.same k sz xs o he⟩
  | .bsl b o n sz, u, h => by
    rw [RelV] at h ⊢
    obtain ⟨base, cap, k, h1, h2, h3, h4, h5, h6⟩ := h
    exact ⟨base, cap, k, h1, h2, h3, h4, h5, h6.same' hc⟩
  | .ptr b o, u, h => by rw [RelV] at h ⊢; obtain ⟨k, h1, h2, h3⟩ := h; exact ⟨k, h1, h2, h3.same' hc⟩
  | .eptr cs o, u, h => by rw [RelV] at h ⊢; obtain ⟨k, a, h1, h2, h3⟩ := h; exact ⟨k, a, h1, h2, RelC.same k cs a h3⟩
  | .fn f caps, u, h => by rw [RelV] at h ⊢; obtain ⟨us, h1, h2⟩ := h; exact ⟨us, h1, RelL.same caps us h2⟩
  | .bm f caps, u, h => by rw [RelV] at h ⊢; obtain ⟨us, h1, h2⟩ := h; exact ⟨us, h1, RelL.same caps us h2⟩
  | .yl b, u, h => by rw [RelV] at h ⊢; exact h
  | .mv b, u, h => by rw [RelV] at h ⊢; exact h
  | .it b, u, h => by rw [RelV] at h ⊢; exact h
  | .bsa b n sz, u, h => by
    rw [RelV] at h ⊢
    obtain ⟨k, cap, c, e, h1, h2, h3, h4, h5, h6⟩ := h
    exact ⟨k, cap, c, e, h1, h2, h3, h4, (hc _ _ _ _).1 h5, h6⟩
  | .objl .., u, h => by rw [RelV] at h; exact h.elim
  | .objm .., u, h => by rw [RelV] at h; exact h.elim
  | .obji .., u, h => by rw [RelV] at h; exact h.elim
theorem RelL.same : ∀ (cs : List CV) (us : List Value), RelL m w V cs us → RelL m w' V cs us
  | [], us, h => by rw [RelL] at h ⊢; exact h
  | c :: cs, us, h => by rw [RelL] at h ⊢; obtain ⟨u, r, h1, h2, h3⟩ := h; exact ⟨u, r, h1, RelV.same c u h2, RelL.same cs r h3⟩
theorem RelC.same (k : Nat) : ∀ (cs : List CV) (o : Nat), RelC m w V k cs o → RelC m w' V k cs o
  | [], o, _ => by rw [RelC]; trivial
  | c :: cs, o, h => by
    rw [RelC] at h ⊢
    obtain ⟨⟨u, h1, h2⟩, h3⟩ := h
    exact ⟨⟨u, by rw [cell_same hc ⟨k, o, none⟩ rfl]; exact h1, RelV.same c u h2.1, h2.2⟩, RelC.same k cs (o + 1) h3⟩
theorem RelE.same (k sz : Nat) : ∀ (es : List (List CV)) (o : Nat), RelE m w V k sz es o → RelE m w' V k sz es o
  | [], o, _ => by rw [RelE]; trivial
  | e :: es, o, h => by
    rw [RelE] at h ⊢
    obtain ⟨h1, h2, h3⟩ := h
    exact ⟨h1, RelC.same k e o h2, RelE.same k sz es (o + sz) h3⟩
end
theorem RelK.same {tmps : Array Value} : ∀ {ks : List Nat} {cs : List CV}, RelK m w V tmps ks cs → RelK m w' V tmps ks cs
  | _ :: _, _ :: _, h => ⟨RelV.same hc _ _ h.1, RelK.same h.2⟩
  | [], [], _ => trivial
  | [], _ :: _, h => h.elim
  | _ :: _, [], h => h.elim
end
theorem putObj_get (w : World) (r k : Nat) (o : Obj) : (w.putObj r o).heap[k]? = if k = r ∧ r < w.heap.size then some o else w.heap[k]? := by
  show (w.heap.setIfInBounds r o)[k]? = _
  by_cases h : r = k
  · subst h
    by_cases hl : r < w.heap.size
    · rw [Array.getElem?_setIfInBounds_self_of_lt hl, if_pos ⟨rfl, hl⟩]
    · rw [if_neg (by omega), Array.getElem?_eq_none (by simp; omega), Array.getElem?_eq_none (by omega)]
  · rw [Array.getElem?_setIfInBounds_ne h, if_neg (by omega)]
theorem mark_step {r : Nat} {ds : Option (List Deferred)} (hr : w.heap[r]? = some (.deferred ds)) (hi : Inv m w H V) {m0 : Gh} {w0 : World} {V0 : List Nat} (hx : Ext m0 w0 V0 m w V) (h0 : w0.heap.size ≤ r) :
    Inv m (w.putObj r (.deferred none)) H V ∧ Ext m0 w0 V0 m (w.putObj r (.deferred none)) V ∧ (∀ c u, RelV m w V c u → RelV m (w.putObj r (.deferred none)) V c u) ∧ ∀ k, k ≠ r → (w.putObj r (.deferred none)).heap[k]? = w.heap[k]? := by
  have hlt : r < w.heap.size := (Array.getElem?_eq_some_iff.1 hr).1
  have hoth : ∀ k, k ≠ r → (w.putObj r (.deferred none)).heap[k]? = w.heap[k]? := fun k hk => by rw [putObj_get, if_neg (by omega)]
  have hself : (w.putObj r (.deferred none)).heap[r]? = some (.deferred none) := by rw [putObj_get, if_pos ⟨rfl, hlt⟩]
  have hc : ∀ (k : Nat) c e fr, w.heap[k]? = some (.cells c e fr) ↔ (w.putObj r (.deferred none)).heap[k]? = some (.cells c e fr) := fun k c e fr => by
    by_cases hk : k = r
    · subst hk
      rw [hr, hself]
      constructor <;> intro h <;> cases h
    · rw [hoth k hk]
  have hsz : (w.putObj r (.deferred none)).heap.size = w.heap.size := by show (w.heap.setIfInBounds r _).size = _; simp
  refine ⟨⟨fun g ns hg => ⟨(hi.glob g ns hg).1, fun j n hj => by rw [cell_same hc ⟨g, j, none⟩ rfl]; exact (hi.glob g ns hg).2 j n hj⟩, hi.boxlen, hi.tiplen, fun k hk => ?_, fun t k h => ?_, fun b k h => by rw [hsz]; exact hi.boxes b k h, hi.uniq, fun b cs h => ?_⟩, ⟨hx.os, hx.tape, hx.output, by rw [hsz]; exact hx.size, fun k c e fr h => ?_, hx.lim, fun k o ho => ?_, fun k d h => ?_, fun k hk hb ht => ?_, hx.box, hx.boxnew, hx.tipnew, hx.tok⟩, RelV.same hc, hoth⟩
  · obtain ⟨c, e, fr, h1, h2⟩ := hi.limv k hk
    exact ⟨c, e, fr, (hc k c e fr).1 h1, h2⟩
  · obtain ⟨⟨c, e, h1⟩, h2⟩ := hi.tips t k h
    exact ⟨⟨c, e, (hc k c e _).1 h1⟩, h2⟩
  · cases hi.live b cs h with
    | row k c e h1 h2 h3 h4 h5 => exact .row k c e h1 ((hc k c e _).1 h2) h3 h4 (RelC.same hc k cs 0 h5)
    | obj k x h1 h2 h3 =>
      refine .obj k x h1 h2 ?_
      have hk : k ≠ r := fun e => by
        subst e
        cases x with
        | objl => obtain ⟨_, _, _, g, _⟩ := h3; rw [hr] at g; cases g
        | objm => obtain ⟨_, g, _⟩ := h3; rw [hr] at g; cases g
        | obji => obtain ⟨_, _, _, g, _⟩ := h3; rw [hr] at g; cases g
        | _ => exact h3.elim
      cases x with
      | objl => obtain ⟨t, f, d, g1, g2, g3⟩ := h3; exact ⟨t, f, d, by rw [hoth k hk]; exact g1, g2, g3.same hc⟩
      | objm =>
        obtain ⟨es, g1, g2, g3, g4⟩ := h3
        refine ⟨es, by rw [hoth k hk]; exact g1, g2, g3, fun i e he => ?_⟩
        obtain ⟨q1, q2, c, q3, q4⟩ := g4 i e he
        exact ⟨q1, q2, c, q3, RelV.same hc _ _ q4⟩
      | obji => obtain ⟨km, st, g1, g2, g3⟩ := h3; exact ⟨km, st, g1, by rw [hoth k hk]; exact g2, g3⟩
      | _ => exact h3.elim
  · obtain ⟨c', h1, h2⟩ := hx.shape k c e fr h
    exact ⟨c', (hc k c' e fr).1 h1, h2⟩
  · rw [cell_same hc ⟨k, o, none⟩ rfl]; exact hx.prot k o ho
  · have := hx.dfr k d h
    have hk : k < w0.heap.size := (Array.getElem?_eq_some_iff.1 h).1
    rw [hoth k (by omega)]; exact this
  · rw [hoth k (by omega)]; exact hx.same k hk hb ht
theorem leaves_marks {fn : Func} {tmps : Array Value} {T : Tm} {R : Ending → World → Prop} {m0 : Gh} {w0 : World} {V0 : List Nat} {lo : Nat} (hlo : w0.heap.size ≤ lo) : ∀ (ms : List Nat) {w : World}, ms.Nodup → (∀ r ∈ ms, lo ≤ r ∧ w.heap[r]? = some (.deferred (some []))) → Inv m w H V → RelT m w V T tmps → Ext m0 w0 V0 m w V →
    (∀ w', Inv m w' H V → RelT m w' V T tmps → Ext m0 w0 V0 m w' V → ∃ v, (results fn tmps).run P w' = .ok v w' ∧ R (.returned v) w') → LeavesInM Fence.wide 0 P fn tmps R (ms.map mark ++ []) .returning w
  | [], w, _, _, hi, ht, hx, hR => hR w hi ht hx
  | r :: ms, w, hn, hr, hi, ht, hx, hR => by
    obtain ⟨h1, h2⟩ := hr r (by simp)
    obtain ⟨s1, s2, s3, s4⟩ := mark_step h2 hi hx (by omega)
    refine ⟨(by intro h; cases h), .inl ⟨r, _, rfl, run_takeDeferred h2, ?_⟩⟩
    have hn' := List.nodup_cons.1 hn
    refine leaves_marks hlo ms hn'.2 (fun r' hr' => ?_) s1 (fun n => s3 _ _ (ht n)) s2 hR
    have hne : r' ≠ r := fun e => hn'.1 (by rw [← e]; exact hr')
    exact ⟨(hr r' (List.mem_cons_of_mem _ hr')).1, by rw [s4 r' hne]; exact (hr r' (List.mem_cons_of_mem _ hr')).2⟩

theorem CC.of_swp0 {f : FuncId} {fn : Func} {c : Code} {args : List CV} {R : CV → Hp → List Nat → Prop} (hf : P.funcs[f]? = some fn) (hb : fn.body = some c) (hn : (fn.name == "runtime.NumGoroutine") = false) (ha : args.length ≤ fn.ntmps)
    (h : okL H.length V.length args → (∀ (b : Nat) cs, H[b]? = some (some cs) → okL H.length V.length cs) → SWp0 P fn.ntmps H.length V.length c (Rt P H.length V.length fn.results.toList R) (args0 0 args) H V) : CC P f args H V R := by
  refine ⟨⟨fn, hf, by rw [hb]; rfl, hn⟩, fun m w us hi hu => ?_⟩
  have hl := relL_length hu
  have hok : okL H.length V.length args := by rw [← hi.boxlen]; exact RelL.ok args us hu
  have hokH : ∀ (b : Nat) cs, H[b]? = some (some cs) → okL H.length V.length cs := fun b cs hbc => by
    rw [← hi.boxlen]; exact (hi.live b cs hbc).ok
  refine callsIn_wide.1 (callsIn_of_wp_marks (F := Fence.wide) (n := 0) hf hb trivial ?_)
  have hst : St ⟨[], w.heap.size, false⟩ fn.ntmps m w { tmps := us.toArray ++ Array.replicate (fn.ntmps - us.toArray.size) undef, defers := [] } (args0 0 args) H V := by
    refine ⟨hi, fun k => ?_, by simp [hl]; omega, DOk.own _ _⟩
    rw [args0_get]
    simp only [Nat.zero_le, if_true, Nat.sub_zero]
    cases hk : args[k]? with
    | none => rw [Option.getD_none, RelV]; trivial
    | some c =>
      obtain ⟨u, h1, h2⟩ := relL_get hu k c hk
      have : (us.toArray ++ Array.replicate (fn.ntmps - us.toArray.size) undef).getD k undef = u := by
        have hlt := (List.getElem?_eq_some_iff.1 h1).1
        simp only [Array.getD_eq_getD_getElem?]
        rw [Array.getElem?_append_left (by simpa using hlt)]
        simp [h1]
      rw [this]; exact h2
  refine wpIn_mono (h hok hokH _ rfl m w _ m w V hi.boxlen hi.tiplen rfl (Ext.refl m w V) hst) fun e a' w' ⟨T', H', V', m', k1, k2, k3⟩ => ?_
  have fin : resK P fn.results.toList T' H' (fun cs => Fin H.length V.length R (one cs) H' V') → LeavesInM Fence.wide 0 P fn a'.tmps (fun e w' => ∃ u m' r H' V', e = .returned u ∧ R r H' V' ∧ Inv m' w' H' V' ∧ RelV m' w' V' r u ∧ Ext m w V m' w' V') a'.defers .returning w' := by
    intro hk
    obtain ⟨_, ms, hms, hnd, hr⟩ := k2.df
    rw [hms]
    refine leaves_marks (Nat.le_refl _) ms hnd.1 hr k2.inv k2.tm k3 fun w'' g1 g2 g3 => ?_
    obtain ⟨cs, u, q1, q2, r', H2, V2, q3, q4⟩ := results_run g1 g2 hk
    refine ⟨u, q1, ?_⟩
    have hst2 : St ⟨[], w''.heap.size, false⟩ 1 m' w'' { tmps := #[u], defers := [] } [(0, one cs)] H' V' := by
      refine ⟨g1, fun k => ?_, rfl, DOk.own _ _⟩
      simp only [tget]
      by_cases hk : k = 0
      · subst hk; rw [if_pos rfl]; exact q2
      · rw [if_neg hk, RelV]; trivial
    obtain ⟨m2, s1, s2⟩ := q3 _ m' w'' { tmps := #[u], defers := [] } m w V hi.boxlen hi.tiplen rfl g3 hst2
    refine ⟨u, m2, r', H2, V2, rfl, q4, s1.inv, ?_, s2⟩
    have := s1.tm 0
    simpa [tget] using this
  cases e with
  | normal => exact fin k1
  | ret => exact fin k1
  | _ => exact k1.elim
theorem CC.of_swp {f : FuncId} {fn : Func} {c : Code} {args : List CV} {R : CV → Hp → List Nat → Prop} (hf : P.funcs[f]? = some fn) (hb : fn.body = some c) (hn : (fn.name == "runtime.NumGoroutine") = false) (ha : args.length ≤ fn.ntmps)
    (h : okL H.length V.length args → (∀ (b : Nat) cs, H[b]? = some (some cs) → okL H.length V.length cs) → SWp P fn.ntmps H.length V.length c (Rt P H.length V.length fn.results.toList R) (args0 0 args) H V) : CC P f args H V R :=
  CC.of_swp0 hf hb hn ha fun a b D _ => h a b none D
end
end Go.Proofs.YtpedbpbmnchllaaGreatDoor
namespace Go.Proofs.YtpedbpbmnchllaaGreatDoor
def mk {α : Type} (x : α) : α := x
def kc (K : CV → Hp → List Nat → Prop) (H : Hp) (V : List Nat) : CV → Prop := fun c => K c H V
@[go_sem ↓] theorem kc_eq (K : CV → Hp → List Nat → Prop) (H : Hp) (V : List Nat) (c : CV) : kc K H V c = K c H V := rfl
def withO {α : Type} : Option α → (α → Prop) → Prop
  | some a, K => K a
  | none, _ => False
theorem withO_eq {α : Type} (o : Option α) (K : α → Prop) : withO o K = ∃ a, o = some a ∧ K a := by
  cases o <;> simp [withO]

def hpick : CV → CV → CV → (CV → Prop) → Prop
  | .v (.bool t), x, y, K => K (cpick t x y)
  | _, _, _, _ => False
def hbx (H : Hp) (b : Nat) (K : List CV → Prop) : Prop :=
  match H[b]? with
  | some (some cs) => K cs
  | _ => False
theorem hbx_eq (H : Hp) (b : Nat) (K : List CV → Prop) : hbx H b K = ∃ cs, H[b]? = some (some cs) ∧ K cs := by
  unfold hbx
  split
  · rename_i cs h; simp [h]
  · rename_i h
    simp only [eq_iff_iff, false_iff]
    rintro ⟨cs, h1, _⟩
    exact h cs h1
def hload (g : Bool) (n : Nat) : CV → Hp → (CV → Prop) → Prop
  | .ptr b o, H, K => hbx H b fun cs => ld g n cs o K
  | .eptr cs o, _, K => ld g n cs o K
  | _, _, _ => False
def hstore (n : Nat) : CV → CV → Hp → (Hp → Prop) → Prop
  | .ptr b o, y, H, K => hbx H b fun cs => allOne y.cells = true ∧ y.cells.length = n ∧ o + n ≤ cs.length ∧ K (H.set b (some (cs.take o ++ y.cells ++ cs.drop (o + n))))
  | _, _, _, _ => False
def hconv : Option IntKind → CV → (CV → Prop) → Prop
  | some k, .v (.int _ n), K => K (.v (.int k (k.wrap n)))
  | none, .sl _ _ xs, K => ∃ bs : List UInt8, xs = bs.map u8 ∧ K (.v (.string ⟨bs.toArray⟩))
  | none, .v (.slice none 0 0), K => K (.v (.string .empty))
  | _, _, _ => False
def hfaddr (o : Nat) : CV → (CV → Prop) → Prop
  | .ptr b o', K => K (.ptr b (o' + o))
  | .eptr cs o', K => K (.eptr cs (o' + o))
  | _, _ => False
def hext (i : Nat) : CV → (CV → Prop) → Prop
  | .tup cs, K => ∃ h : i < cs.length, K cs[i]
  | _, _ => False
def hmk (sz : Nat) (zs : List Value) (H : Hp) : CV → CV → (CV → Hp → Prop) → Prop
  | .v (.int _ n), .v (.int _ n'), K => n = n' ∧ 0 ≤ n ∧ n ≤ 1099511627776 ∧ K (.bsl H.length 0 n.toNat sz) (H ++ [some ((List.replicate n.toNat (zs.map CV.v)).flatten)])
  | _, _, _ => False
def hcall (P : Program) (H : Hp) (V : List Nat) : CV → List CV → (CV → Hp → List Nat → Prop) → Prop
  | .fn g caps, args, K => CC P g (args ++ caps) H V K
  | .bm g first, args, K => CC P g (first ++ args) H V K
  | .yl b, args, K => YC P b args H V K
  | _, _, _ => False
def hcopy (x : CV) (sz : Nat) (ys : List (List CV)) (H : Hp) (V : List Nat) (K : CV → Hp → List Nat → Prop) : Prop :=
  match x with
  | .bsl b o n sz' => sz' = sz ∧ ys.length ≤ n ∧ hbx H b fun cs => allOne ys.flatten = true ∧ o + ys.length * sz ≤ cs.length ∧
      K (.v (.int .i64 ys.length)) (H.set b (some (cs.take o ++ ys.flatten ++ cs.drop (o + ys.length * sz)))) V
  | _ => False
def hbm (H : Hp) (b : Nat) (K : List Int → List CV → Prop) : Prop :=
  match H[b]? with
  | some (some [.objm ks vs]) => K ks vs
  | _ => False
theorem hbm_eq (H : Hp) (b : Nat) (K : List Int → List CV → Prop) : hbm H b K = ∃ ks vs, H[b]? = some (some [.objm ks vs]) ∧ K ks vs := by
  unfold hbm
  split
  · rename_i ks vs h
    simp only [h, Option.some.injEq, List.cons.injEq, CV.objm.injEq, and_true, eq_iff_iff]
    exact ⟨fun k => ⟨_, _, ⟨rfl, rfl⟩, k⟩, fun ⟨_, _, ⟨h1, h2⟩, k⟩ => by subst h1 h2; exact k⟩
  · rename_i h
    simp only [eq_iff_iff, false_iff]
    rintro ⟨ks, vs, h1, _⟩
    exact h ks vs h1
theorem hbm_some {H : Hp} {b : Nat} {ks : List Int} {vs : List CV} (h : H[b]? = some (some [.objm ks vs])) (K : List Int → List CV → Prop) : hbm H b K = K ks vs := by unfold hbm; rw [h]
def hlook (z : Value) (H : Hp) : CV → CV → (CV → Prop) → Prop
  | .mv b, .v (.int .i64 n), K => hbm H b fun ks vs => K (mlook z ks vs n)
  | _, _, _ => False
def hlook2 (z : Value) (H : Hp) : CV → CV → (CV → Prop) → Prop
  | .mv b, .v (.int .i64 n), K => hbm H b fun ks vs => K (.tup [mlook z ks vs n, .v (.bool (keyAt ks n).isSome)])
  | _, _, _ => False
def hmput (H : Hp) (y : CV) : CV → CV → (Hp → Prop) → Prop
  | .mv b, .v (.int .i64 n), K => hbm H b fun ks vs => K (H.set b (some [mput ks vs n y]))
  | _, _, _ => False
def hrange (H : Hp) : CV → (CV → Hp → Prop) → Prop
  | .mv b, K => hbm H b fun ks _ => K (.it H.length) (H ++ [some [.obji b ks.length []]])
  | _, _ => False

section
variable (P : Program) (ev : Operand → CV) (H : Hp) (V : List Nat) (K : CV → Hp → List Nat → Prop)
@[go_sem ↓] theorem cop_move (x : Operand) : cop P ev H V K (.move x) = K (ev x) H V := rfl
@[go_sem ↓] theorem cop_assign (x : Operand) : cop P ev H V K (.assign x) = K (ev x) H V := rfl
@[go_sem ↓] theorem cop_pick (c x y : Operand) : cop P ev H V K (.pick c x y) = hpick (ev c) (ev x) (ev y) (kc K H V) := by
  unfold kc
  simp only [cop]; unfold hpick; split <;> simp_all
@[go_sem ↓] theorem cop_alloc (e : TypeId) : cop P ev H V K (.alloc e) = withO (zcTy P e) fun zs => K (.ptr H.length 0) (H ++ [some (zs.map .v)]) V := by
  rw [withO_eq]; rfl
@[go_sem ↓] theorem cop_box (e : TypeId) (x : Operand) : cop P ev H V K (.box e x) = (allOne (ev x).cells = true ∧ K (.ptr H.length 0) (H ++ [some (ev x).cells]) V) := rfl
@[go_sem ↓] theorem cop_load (t : TypeId) (a : Operand) : cop P ev H V K (.load t a) = withO (ldTy P t) fun x => hload x.1 x.2 (ev a) H (kc K H V) := by
  unfold kc
  rw [withO_eq]; simp only [cop, Prod.exists]
  cases ev a <;> simp only [hload, hbx_eq]
@[go_sem ↓] theorem cop_store (t : TypeId) (a x : Operand) : cop P ev H V K (.store t a x) = withO (ldTy P t) fun q => hstore q.2 (ev a) (ev x) H fun H' => K .any H' V := by
  rw [withO_eq]; simp only [cop, Prod.exists]
  cases ev a <;> simp only [hstore, hbx_eq]
@[go_sem ↓] theorem cop_binOp (op : BinOp) (t ty : TypeId) (x y : Operand) : cop P ev H V K (.binOp op t x y ty) = cbin P op t (ev x) (ev y) (kc K H V) := rfl
@[go_sem ↓] theorem cop_unOp (op : UnOp) (t : TypeId) (x : Operand) : cop P ev H V K (.unOp op t x) = cun op (ev x) (kc K H V) := rfl
@[go_sem ↓] theorem cop_convert (s d : TypeId) (x : Operand) : cop P ev H V K (.convert s d x) = withO (cvTy P s d) fun k => hconv k (ev x) (kc K H V) := by
  unfold kc
  rw [withO_eq]; simp only [cop]
  congr 1; funext k; congr 1; unfold hconv; split <;> simp_all
@[go_sem ↓] theorem cop_makeFunc (f : FuncId) (captured : Array Operand) : cop P ev H V K (.makeFunc (.func f) #[] captured) = K (.fn f (captured.toList.map ev)) H V := rfl
@[go_sem ↓] theorem cop_makeFunc1 (f : FuncId) (x : Operand) : cop P ev H V K (.makeFunc (.func f) #[x] #[]) = K (.bm f [ev x]) H V := rfl
@[go_sem ↓] theorem cop_copy (x y : Operand) (t tx : TypeId) : cop P ev H V K (.call ⟨.builtin .copy, #[x, y], #[t, tx]⟩) = ccopy P t tx (ev x) (ev y) H V K := by
  simp [cop]
  exact ⟨fun ⟨_, _, ⟨h1, h2⟩, _, _, ⟨h3, h4⟩, h⟩ => by subst h1 h2 h3 h4; exact h, fun h => ⟨_, _, ⟨rfl, rfl⟩, _, _, ⟨rfl, rfl⟩, h⟩⟩
@[go_sem ↓] theorem cop_min (x y : Operand) (tys : Array TypeId) : cop P ev H V K (.call ⟨.builtin .min, #[x, y], tys⟩) = cmm min (ev x) (ev y) (kc K H V) := by
  unfold kc
  simp [cop]
  exact ⟨fun ⟨_, _, ⟨h3, h4⟩, h⟩ => by subst h3 h4; exact h, fun h => ⟨_, _, ⟨rfl, rfl⟩, h⟩⟩
@[go_sem ↓] theorem cop_max (x y : Operand) (tys : Array TypeId) : cop P ev H V K (.call ⟨.builtin .max, #[x, y], tys⟩) = cmm max (ev x) (ev y) (kc K H V) := by
  unfold kc
  simp [cop]
  exact ⟨fun ⟨_, _, ⟨h3, h4⟩, h⟩ => by subst h3 h4; exact h, fun h => ⟨_, _, ⟨rfl, rfl⟩, h⟩⟩
@[go_sem ↓] theorem cop_makeMap (t : TypeId) : cop P ev H V K (.makeMap t none) = ((mpTy P t).isSome = true ∧ K (.mv H.length) (H ++ [some [.objm [] []]]) V) := by simp [cop]
@[go_sem ↓] theorem cop_lookup (t : TypeId) (x i : Operand) : cop P ev H V K (.lookup t x i false) = withO (mpTy P t) fun z => hlook z H (ev x) (ev i) (kc K H V) := by
  unfold kc
  rw [withO_eq]; simp only [cop, clook, true_and]
  congr 1; funext z; congr 1
  unfold hlook; split <;> simp_all [hbm_eq, mlk]
@[go_sem ↓] theorem cop_lookup2 (t : TypeId) (x i : Operand) : cop P ev H V K (.lookup t x i true) = withO (mpTy P t) fun z => hlook2 z H (ev x) (ev i) (kc K H V) := by
  unfold kc
  rw [withO_eq]; simp only [cop, clook, true_and]
  congr 1; funext z; congr 1
  unfold hlook2; split <;> simp_all [hbm_eq, mlk]
@[go_sem ↓] theorem cop_mapUpdate (t : TypeId) (x i y : Operand) : cop P ev H V K (.mapUpdate t x i y) = ((mpTy P t).isSome = true ∧ True ∧ hmput H (ev y) (ev x) (ev i) fun H' => K .any H' V) := by
  simp only [cop, cmput]
  congr 2
  unfold hmput; split <;> simp_all [hbm_eq]
@[go_sem ↓] theorem cop_range (t : TypeId) (x : Operand) : cop P ev H V K (.range t x) = ((mpTy P t).isSome = true ∧ hrange H (ev x) fun c H' => K c H' V) := by
  simp only [cop, crange]
  congr 1
  unfold hrange; split <;> simp_all [hbm_eq]
@[go_sem ↓] theorem cop_next (x : Operand) : cop P ev H V K (.next x false) = cnext (ev x) false H fun c H' => K c H' V := rfl
@[go_sem ↓] theorem cop_entry (x : Operand) : cop P ev H V K (.entry x) = centry (ev x) H (kc K H V) := rfl
@[go_sem ↓] theorem cop_makeSlice (t : TypeId) (i : Tmp) (c : Operand) : cop P ev H V K (.makeSlice t (.tmp i) c) = withO (slTy P t) fun q => withO (zcTy P q.1) fun zs => hmk q.2 zs H (ev (.tmp i)) (ev c) fun c H' => K c H' V := by
  rw [withO_eq]; simp only [cop, isZ, Prod.exists, withO_eq]
  congr 1; funext e; congr 1; funext sz; congr 1; congr 1; funext zs; congr 1
  unfold hmk; split <;> simp_all
def hmkC (P : Program) (sz : Nat) (zs : List Value) (z : Bool) (H : Hp) (V : List Nat) (x y : CV) (K : CV → Hp → List Nat → Prop) : Prop :=
  match z with
  | true => (match y with | .v (.int _ n) => 0 ≤ n ∧ n ≤ 1099511627776 ∧ K (.sl (.own V.length 0) sz []) H (V ++ [0]) | _ => False)
  | false => hmk sz zs H x y fun c H' => K c H' V
@[go_sem ↓] theorem cop_makeSliceC (t : TypeId) (k : IntKind) (n : Int) (c : Operand) : cop P ev H V K (.makeSlice t (.const (.int k n)) c) = withO (slTy P t) fun q => withO (zcTy P q.1) fun zs => hmkC P q.2 zs (n == 0) H V (ev (.const (.int k n))) (ev c) K := by
  rw [withO_eq]; simp only [cop, isZ, Prod.exists, withO_eq]
  congr 1; funext e; congr 1; funext sz; congr 1; congr 1; funext zs; congr 1
  unfold hmkC
  cases (n == 0)
  · dsimp only; unfold hmk; split <;> simp_all
  · rfl
@[go_sem] theorem hmkC_t (sz : Nat) (zs : List Value) (H : Hp) (V : List Nat) (x : CV) (k : IntKind) (n : Int) (K : CV → Hp → List Nat → Prop) : hmkC P sz zs true H V x (.v (.int k n)) K = (0 ≤ n ∧ n ≤ 1099511627776 ∧ K (.sl (.own V.length 0) sz []) H (V ++ [0])) := rfl
@[go_sem] theorem hmkC_f (sz : Nat) (zs : List Value) (H : Hp) (V : List Nat) (x y : CV) (K : CV → Hp → List Nat → Prop) : hmkC P sz zs false H V x y K = hmk sz zs H x y fun c H' => K c H' V := rfl
@[go_sem ↓] theorem cop_slice (t : TypeId) (x : Operand) (lo hi mx : Option Operand) : cop P ev H V K (.slice t x lo hi mx) = cslice P t (ev x) (lo.map ev) (hi.map ev) (mx.map ev) (kc K H V) := rfl
@[go_sem ↓] theorem cop_fieldAddr (s : TypeId) (x : Operand) (f : Nat) : cop P ev H V K (.fieldAddr s x f) = withO (fdTy P s f) fun q => hfaddr q.1 (ev x) (kc K H V) := by
  unfold kc
  rw [withO_eq]; simp only [cop, Prod.exists]
  congr 1; funext o; congr 1; funext g; congr 1; funext n; congr 1
  unfold hfaddr; split <;> simp_all
@[go_sem ↓] theorem cop_indexAddr (t : TypeId) (x i : Operand) : cop P ev H V K (.indexAddr t x i) = cidx P t (ev x) (ev i) (kc K H V) := rfl
@[go_sem ↓] theorem cop_index (t : TypeId) (x i : Operand) : cop P ev H V K (.index t x i) = cindex P t (ev x) (ev i) (kc K H V) := rfl
@[go_sem ↓] theorem cop_extract (x : Operand) (i : Nat) : cop P ev H V K (.extract x i) = hext i (ev x) (kc K H V) := by
  unfold kc
  simp only [cop]; unfold hext; split <;> simp_all
@[go_sem ↓] theorem cop_build (t : TypeId) (parts : Array (Nat × Operand)) : cop P ev H V K (.build t parts) = withO (bdTy P t) fun q => withO (cfill q.1 (q.2.map .v) (parts.toList.map fun p => (p.1, ev p.2))) fun cs => K (.agg cs) H V := by
  rw [withO_eq]; simp only [cop, Prod.exists, withO_eq]
  congr 1; funext o; congr 1; funext g
  simp only [exists_and_left]
@[go_sem ↓] theorem cop_buildSlice (t : TypeId) (len : Nat) (parts : Array (Nat × Operand)) : cop P ev H V K (.buildSlice t len parts) = withO (slTy P t) fun q => parts.toList.map (·.1) = List.range len ∧ (parts.toList.all fun p => (ev p.2).cells.length == q.2 && allOne (ev p.2).cells) = true ∧ len * q.2 ≤ 1048576 ∧
    K (.sl .ti q.2 (parts.toList.map fun p => (ev p.2).cells)) H V := by
  rw [withO_eq]; simp only [cop, Prod.exists]
@[go_sem ↓] theorem cop_call (f : Operand) (args : Array Operand) (tys : Array TypeId) : cop P ev H V K (.call ⟨.value f, args, tys⟩) = hcall P H V (ev f) (args.toList.map ev) K := by
  simp only [cop]; unfold hcall; split <;> simp_all
@[go_sem ↓] theorem cop_len (x : Operand) (t : TypeId) : cop P ev H V K (.call ⟨.builtin .len, #[x], #[t]⟩) = clen P t (ev x) fun r => K r H V := by
  simp [cop]
@[go_sem ↓] theorem cop_append (x y : Operand) (t tx : TypeId) : cop P ev H V K (.call ⟨.builtin .append, #[x, y], #[t, tx]⟩) = capp P t tx (ev x) (ev y) H V K := by
  simp [cop]
  exact ⟨fun ⟨_, _, ⟨h1, h2⟩, _, _, ⟨h3, h4⟩, h⟩ => by subst h1 h2 h3 h4; exact h, fun h => ⟨_, _, ⟨rfl, rfl⟩, _, _, ⟨rfl, rfl⟩, h⟩⟩
end

section
@[go_sem] theorem withO_some {α : Type} (a : α) (K : α → Prop) : withO (some a) K = K a := rfl
@[go_sem] theorem hpick_b (t : Bool) (x y : CV) (K : CV → Prop) : hpick (.v (.bool t)) x y K = K (cpick t x y) := rfl
@[go_sem] theorem cpick_t (x y : CV) : cpick true x y = x := rfl
@[go_sem] theorem cpick_f (x y : CV) : cpick false x y = y := rfl
@[go_sem] theorem hload_ptr (g : Bool) (n b o : Nat) (H : Hp) (K : CV → Prop) : hload g n (.ptr b o) H K = hbx H b fun cs => ld g n cs o K := rfl
@[go_sem] theorem hload_eptr (g : Bool) (n o : Nat) (cs : List CV) (H : Hp) (K : CV → Prop) : hload g n (.eptr cs o) H K = ld g n cs o K := rfl
@[go_sem] theorem hstore_ptr (n b o : Nat) (y : CV) (H : Hp) (K : Hp → Prop) : hstore n (.ptr b o) y H K = hbx H b fun cs => allOne y.cells = true ∧ y.cells.length = n ∧ o + n ≤ cs.length ∧ K (H.set b (some (cs.take o ++ y.cells ++ cs.drop (o + n)))) := rfl
@[go_sem] theorem hlook_mv (z : Value) (H : Hp) (b : Nat) (n : Int) (K : CV → Prop) : hlook z H (.mv b) (.v (.int .i64 n)) K = hbm H b fun ks vs => K (mlook z ks vs n) := rfl
@[go_sem] theorem hlook2_mv (z : Value) (H : Hp) (b : Nat) (n : Int) (K : CV → Prop) : hlook2 z H (.mv b) (.v (.int .i64 n)) K = hbm H b fun ks vs => K (.tup [mlook z ks vs n, .v (.bool (keyAt ks n).isSome)]) := rfl
@[go_sem] theorem hmput_mv (H : Hp) (y : CV) (b : Nat) (n : Int) (K : Hp → Prop) : hmput H y (.mv b) (.v (.int .i64 n)) K = hbm H b fun ks vs => K (H.set b (some [mput ks vs n y])) := rfl
@[go_sem] theorem hrange_mv (H : Hp) (b : Nat) (K : CV → Hp → Prop) : hrange H (.mv b) K = hbm H b fun ks _ => K (.it H.length) (H ++ [some [.obji b ks.length []]]) := rfl
@[go_sem] theorem cindex_str (P : Program) (t : TypeId) (s : ByteArray) (k : IntKind) (j : Int) (K : CV → Prop) : cindex P t (.v (.string s)) (.v (.int k j)) K = (P.underlying t = some .string ∧ 0 ≤ j ∧ ∃ h : j.toNat < s.size, K (.v (.int .u8 (s[j.toNat].toNat : Int)))) := rfl
@[go_sem] theorem cmm_int (f : Int → Int → Int) (k k' : IntKind) (a b : Int) (K : CV → Prop) : cmm f (.v (.int k a)) (.v (.int k' b)) K = (k = k' ∧ K (.v (.int k (f a b)))) := rfl
@[go_sem] theorem hcopy_bsl (b o n sz' sz : Nat) (ys : List (List CV)) (H : Hp) (V : List Nat) (K : CV → Hp → List Nat → Prop) : hcopy (.bsl b o n sz') sz ys H V K = (sz' = sz ∧ ys.length ≤ n ∧ hbx H b fun cs => allOne ys.flatten = true ∧ o + ys.length * sz ≤ cs.length ∧
      K (.v (.int .i64 ys.length)) (H.set b (some (cs.take o ++ ys.flatten ++ cs.drop (o + ys.length * sz)))) V) := rfl
@[go_sem] theorem ccopy_eq (P : Program) (t tx : TypeId) (x y : CV) (H : Hp) (V : List Nat) (K : CV → Hp → List Nat → Prop) : ccopy P t tx x y H V K = withO (slTy P t) fun q => (slTy P tx).isSome = true ∧ csrc H q.2 y fun ys => hcopy x q.2 ys H V K := by
  rw [withO_eq]; simp only [Prod.exists, ccopy]
  congr 1; funext e; congr 1; funext sz; congr 2
  congr 1; funext ys
  unfold hcopy; split <;> simp_all [hbx_eq]
@[go_sem] theorem hcall_bm (P : Program) (H : Hp) (V : List Nat) (g : Nat) (first args : List CV) (K : CV → Hp → List Nat → Prop) : hcall P H V (.bm g first) args K = CC P g (first ++ args) H V K := rfl
@[go_sem] theorem hcall_yl (P : Program) (H : Hp) (V : List Nat) (b : Nat) (args : List CV) (K : CV → Hp → List Nat → Prop) : hcall P H V (.yl b) args K = YC P b args H V K := rfl
@[go_sem] theorem hconv_int (k k' : IntKind) (n : Int) (K : CV → Prop) : hconv (some k) (.v (.int k' n)) K = K (.v (.int k (k.wrap n))) := rfl
@[go_sem] theorem hconv_sl (tk : Tk) (sz : Nat) (xs : List (List CV)) (K : CV → Prop) : hconv none (.sl tk sz xs) K = ∃ bs : List UInt8, xs = bs.map u8 ∧ K (.v (.string ⟨bs.toArray⟩)) := rfl
@[go_sem] theorem hconv_nil (K : CV → Prop) : hconv none (.v (.slice none 0 0)) K = K (.v (.string .empty)) := rfl
@[go_sem] theorem hfaddr_ptr (o b o' : Nat) (K : CV → Prop) : hfaddr o (.ptr b o') K = K (.ptr b (o' + o)) := rfl
@[go_sem] theorem hfaddr_eptr (o o' : Nat) (cs : List CV) (K : CV → Prop) : hfaddr o (.eptr cs o') K = K (.eptr cs (o' + o)) := rfl
@[go_sem] theorem hext_tup (i : Nat) (cs : List CV) (K : CV → Prop) : hext i (.tup cs) K = ∃ h : i < cs.length, K cs[i] := rfl
@[go_sem] theorem hmk_int (sz : Nat) (zs : List Value) (H : Hp) (k k' : IntKind) (n n' : Int) (K : CV → Hp → Prop) : hmk sz zs H (.v (.int k n)) (.v (.int k' n')) K =
    (n = n' ∧ 0 ≤ n ∧ n ≤ 1099511627776 ∧ K (.bsl H.length 0 n.toNat sz) (H ++ [some ((List.replicate n.toNat (zs.map CV.v)).flatten)])) := rfl
@[go_sem] theorem hcall_fn (P : Program) (H : Hp) (V : List Nat) (g : Nat) (caps args : List CV) (K : CV → Hp → List Nat → Prop) : hcall P H V (.fn g caps) args K = CC P g (args ++ caps) H V K := rfl
@[go_sem] theorem ld_agg (n : Nat) (cs : List CV) (o : Nat) (K : CV → Prop) : ld true n cs o K = (o + n ≤ cs.length ∧ K (.agg ((cs.drop o).take n))) := rfl
@[go_sem] theorem ld_one (n : Nat) (cs : List CV) (o : Nat) (K : CV → Prop) : ld false n cs o K = ∃ h : o < cs.length, K cs[o] := rfl
@[go_sem] theorem cbin_int (P : Program) (op : BinOp) (t : TypeId) (k k' : IntKind) (a b : Int) (K : CV → Prop) : cbin P op t (.v (.int k a)) (.v (.int k' b)) K = (sameK op k k' ∧ ibin op k a b K) := rfl
@[go_sem] theorem cbin_bool (P : Program) (op : BinOp) (t : TypeId) (a b : Bool) (K : CV → Prop) : cbin P op t (.v (.bool a)) (.v (.bool b)) K = (P.underlying t = some .bool ∧ eqNeq op (a == b) K) := rfl
@[go_sem] theorem cbin_str (P : Program) (op : BinOp) (t : TypeId) (a b : ByteArray) (K : CV → Prop) : cbin P op t (.v (.string a)) (.v (.string b)) K = eqNeq op (a.toList == b.toList) K := rfl
@[go_sem] theorem cbin_nil (P : Program) (op : BinOp) (t : TypeId) (tk : Tk) (sz : Nat) (xs : List (List CV)) (K : CV → Prop) : cbin P op t (.sl tk sz xs) (.v (.slice none 0 0)) K = ((slTy P t).isSome = true ∧ ∀ b : Bool, (b = true → xs = []) → eqNeq op b K) := rfl
@[go_sem] theorem cbin_nilnil (P : Program) (op : BinOp) (t : TypeId) (K : CV → Prop) : cbin P op t (.v (.slice none 0 0)) (.v (.slice none 0 0)) K = ((slTy P t).isSome = true ∧ eqNeq op true K) := rfl
@[go_sem] theorem cbin_agg (P : Program) (op : BinOp) (t : TypeId) (cs ds : List CV) (K : CV → Prop) : cbin P op t (.agg cs) (.agg ds) K = ∃ ks, FlatEq P t ks ∧ fits ks cs ∧ fits ks ds ∧ ∀ b : Bool, (b = true ↔ cs = ds) → eqNeq op b K := rfl
attribute [go_sem] ibin.eq_1 ibin.eq_2 ibin.eq_3 ibin.eq_4 ibin.eq_5 ibin.eq_6 ibin.eq_7 ibin.eq_8 ibin.eq_9 ibin.eq_10 ibin.eq_11 ibin.eq_12 ibin.eq_13 ibin.eq_14 ibin.eq_15 ibin.eq_16 ibin.eq_17
@[go_sem] theorem eqNeq_eql (b : Bool) (K : CV → Prop) : eqNeq .eql b K = K (.v (.bool b)) := rfl
@[go_sem] theorem eqNeq_neq (b : Bool) (K : CV → Prop) : eqNeq .neq b K = K (.v (.bool (!b))) := rfl
@[go_sem] theorem cun_not (b : Bool) (K : CV → Prop) : cun .not (.v (.bool b)) K = K (.v (.bool (!b))) := rfl
@[go_sem] theorem cun_xor (k : IntKind) (n : Int) (K : CV → Prop) : cun .xor (.v (.int k n)) K = K (.v (.int k (bitop .xor k (if k.signed then -1 else k.max) n))) := rfl
@[go_sem] theorem cun_neg (k : IntKind) (n : Int) (K : CV → Prop) : cun .neg (.v (.int k n)) K = K (.v (.int k (k.wrap (0 - n)))) := rfl
@[go_sem] theorem sameK_same (op : BinOp) (k : IntKind) : sameK op k k = True := by cases op <;> simp [sameK]
@[go_sem] theorem sameK_shl (k k' : IntKind) : sameK .shl k k' = True := rfl
@[go_sem] theorem sameK_shr (k k' : IntKind) : sameK .shr k k' = True := rfl
@[go_sem] theorem cidx_sl (P : Program) (t : TypeId) (tk : Tk) (sz : Nat) (xs : List (List CV)) (k : IntKind) (n : Int) (K : CV → Prop) : cidx P t (.sl tk sz xs) (.v (.int k n)) K = ((slTy P t).map (·.2) = some sz ∧ 0 ≤ n ∧ ∃ h : n.toNat < xs.length, K (.eptr xs[n.toNat] 0)) := rfl
@[go_sem] theorem cidx_bsl (P : Program) (t : TypeId) (b o n' sz : Nat) (k : IntKind) (n : Int) (K : CV → Prop) : cidx P t (.bsl b o n' sz) (.v (.int k n)) K = ((slTy P t).map (·.2) = some sz ∧ 0 ≤ n ∧ n < n' ∧ K (.ptr b (o + n.toNat * sz))) := rfl
@[go_sem] theorem cidx_bsa (P : Program) (t : TypeId) (b n' sz : Nat) (k : IntKind) (n : Int) (K : CV → Prop) : cidx P t (.bsa b n' sz) (.v (.int k n)) K = ((slTy P t).map (·.2) = some sz ∧ 0 ≤ n ∧ n < n' ∧ K (.ptr b (n.toNat * sz))) := rfl
@[go_sem] theorem cidx_ptr (P : Program) (t : TypeId) (b o : Nat) (k : IntKind) (n : Int) (K : CV → Prop) : cidx P t (.ptr b o) (.v (.int k n)) K = withO (arTy P t) fun q => 0 ≤ n ∧ n < q.1 ∧ K (.ptr b (o + n.toNat * q.2.2)) := by
  rw [withO_eq]; simp [cidx]
@[go_sem] theorem cidx_eptr (P : Program) (t : TypeId) (cs : List CV) (o : Nat) (k : IntKind) (n : Int) (K : CV → Prop) : cidx P t (.eptr cs o) (.v (.int k n)) K = withO (arTy P t) fun q => 0 ≤ n ∧ n < q.1 ∧ K (.eptr cs (o + n.toNat * q.2.2)) := by
  rw [withO_eq]; simp [cidx]
@[go_sem] theorem clen_sl (P : Program) (t : TypeId) (tk : Tk) (sz : Nat) (xs : List (List CV)) (K : CV → Prop) : clen P t (.sl tk sz xs) K = ((slTy P t).isSome = true ∧ K (.v (.int .i64 xs.length))) := rfl
@[go_sem] theorem clen_bsa (P : Program) (t : TypeId) (b n sz : Nat) (K : CV → Prop) : clen P t (.bsa b n sz) K = ((slTy P t).isSome = true ∧ K (.v (.int .i64 n))) := rfl
@[go_sem] theorem clen_bsl (P : Program) (t : TypeId) (b o n sz : Nat) (K : CV → Prop) : clen P t (.bsl b o n sz) K = ((slTy P t).isSome = true ∧ K (.v (.int .i64 n))) := rfl
@[go_sem] theorem clen_nil (P : Program) (t : TypeId) (K : CV → Prop) : clen P t (.v (.slice none 0 0)) K = ((slTy P t).isSome = true ∧ K (.v (.int .i64 0))) := rfl
@[go_sem] theorem clen_str (P : Program) (t : TypeId) (s : ByteArray) (K : CV → Prop) : clen P t (.v (.string s)) K = (P.underlying t = some .string ∧ K (.v (.int .i64 s.size))) := rfl
@[go_sem] theorem bok_none : bok none = True := rfl
@[go_sem] theorem bok_int (k : IntKind) (n : Int) : bok (some (.v (.int k n))) = (0 ≤ n) := rfl
@[go_sem] theorem bvl_none (d : Nat) : bvl none d = d := rfl
@[go_sem] theorem bvl_int (k : IntKind) (n : Int) (d : Nat) : bvl (some (.v (.int k n))) d = n.toNat := rfl
section
variable (P : Program) (t : TypeId) (tk : Tk) (sz : Nat) (xs : List (List CV)) (lo : Option CV) (h q : CV) (K : CV → Prop)
@[go_sem] theorem cslice_lohi : cslice P t (.sl tk sz xs) lo (some h) none K = (bok lo ∧ bok (some h) ∧ (slTy P t).map (·.2) = some sz ∧ bvl lo 0 ≤ bvl (some h) xs.length ∧ bvl (some h) xs.length ≤ xs.length ∧ K (.sl .sh sz ((xs.take (bvl (some h) 0)).drop (bvl lo 0)))) := by
  simp [cslice, bok]
@[go_sem] theorem cslice_three : cslice P t (.sl tk sz xs) lo (some h) (some q) K = (bok lo ∧ bok (some h) ∧ bok (some q) ∧ (slTy P t).map (·.2) = some sz ∧ bvl lo 0 ≤ bvl (some h) xs.length ∧ bvl (some h) xs.length ≤ xs.length ∧ bvl (some q) 0 = bvl (some h) 0 ∧ K (.sl .ti sz ((xs.take (bvl (some h) 0)).drop (bvl lo 0)))) := rfl
variable (hi mx : Option CV) (b o n : Nat)
@[go_sem] theorem cslice_nil : cslice P t (.v (.slice none 0 0)) lo hi mx K = (bok lo ∧ bok hi ∧ bok mx ∧ (slTy P t).isSome = true ∧ mx.isNone = true ∧ bvl lo 0 = 0 ∧ bvl hi 0 = 0 ∧ K (.v (.slice none 0 0))) := rfl
@[go_sem] theorem cslice_bsl : cslice P t (.bsl b o n sz) lo hi mx K = (bok lo ∧ bok hi ∧ bok mx ∧ mx.isNone = true ∧ (slTy P t).map (·.2) = some sz ∧ bvl lo 0 ≤ bvl hi n ∧ bvl hi n ≤ n ∧ K (.bsl b (o + bvl lo 0 * sz) (bvl hi n - bvl lo 0) sz)) := rfl
end
def happ (x : CV) (sz : Nat) (ys : List (List CV)) (H : Hp) (V : List Nat) (K : CV → Hp → List Nat → Prop) : Prop :=
  match x with
  | .sl .ti sz' xs => sz' = sz ∧ xs.length + ys.length ≤ 1099511627776 ∧ K (.sl (.own V.length 0) sz (xs ++ ys)) H (V ++ [0])
  | .v (.slice none 0 0) => ys.length ≤ 1099511627776 ∧ K (.sl (.own V.length 0) sz ys) H (V ++ [0])
  | .bsa b n sz' => sz' = sz ∧ n + ys.length ≤ 1099511627776 ∧ ∃ cs, H[b]? = some (some cs) ∧ cs.length = n * sz ∧ K (.bsa H.length (n + ys.length) sz) (H.set b none ++ [some (cs ++ ys.flatten)]) V
  | .sl (.own k v) sz' xs => sz' = sz ∧ V[k]? = some v ∧ xs.length + ys.length ≤ 1099511627776 ∧ K (.sl (.own k (v + 1)) sz (xs ++ ys)) H (V.set k (v + 1))
  | _ => False
@[go_sem] theorem capp_eq (P : Program) (t tx : TypeId) (x y : CV) (H : Hp) (V : List Nat) (K : CV → Hp → List Nat → Prop) : capp P t tx x y H V K = withO (slTy P t) fun q => asrc P H tx q.1 q.2 y fun ys => happ x q.2 ys H V K := by
  rw [withO_eq]; simp only [Prod.exists]; rfl
section
variable (sz : Nat) (xs ys : List (List CV)) (H : Hp) (V : List Nat) (K : CV → Hp → List Nat → Prop) (K' : List (List CV) → Prop)
@[go_sem] theorem happ_ti (sz' : Nat) : happ (.sl .ti sz' xs) sz ys H V K = (sz' = sz ∧ xs.length + ys.length ≤ 1099511627776 ∧ K (.sl (.own V.length 0) sz (xs ++ ys)) H (V ++ [0])) := rfl
@[go_sem] theorem happ_nil : happ (.v (.slice none 0 0)) sz ys H V K = (ys.length ≤ 1099511627776 ∧ K (.sl (.own V.length 0) sz ys) H (V ++ [0])) := rfl
@[go_sem] theorem happ_bsa (sz' b n : Nat) : happ (.bsa b n sz') sz ys H V K = (sz' = sz ∧ n + ys.length ≤ 1099511627776 ∧ hbx H b fun cs => cs.length = n * sz ∧ K (.bsa H.length (n + ys.length) sz) (H.set b none ++ [some (cs ++ ys.flatten)]) V) := by
  rw [hbx_eq]; rfl
@[go_sem] theorem happ_own (sz' k v : Nat) : happ (.sl (.own k v) sz' xs) sz ys H V K = (sz' = sz ∧ V[k]? = some v ∧ xs.length + ys.length ≤ 1099511627776 ∧ K (.sl (.own k (v + 1)) sz (xs ++ ys)) H (V.set k (v + 1))) := rfl
@[go_sem] theorem asrc_sl (P : Program) (tx e : TypeId) (tk : Tk) (sz' : Nat) : asrc P H tx e sz (.sl tk sz' ys) K' = ((slTy P tx).isSome = true ∧ csrc H sz (.sl tk sz' ys) K') := rfl
@[go_sem] theorem asrc_nil (P : Program) (tx e : TypeId) : asrc P H tx e sz (.v (.slice none 0 0)) K' = ((slTy P tx).isSome = true ∧ csrc H sz (.v (.slice none 0 0)) K') := rfl
@[go_sem] theorem asrc_bsl (P : Program) (tx e : TypeId) (b o n sz' : Nat) : asrc P H tx e sz (.bsl b o n sz') K' = ((slTy P tx).isSome = true ∧ csrc H sz (.bsl b o n sz') K') := rfl
@[go_sem] theorem csrc_sl (tk : Tk) (sz' : Nat) : csrc H sz (.sl tk sz' ys) K' = (sz' = sz ∧ K' ys) := rfl
@[go_sem] theorem csrc_nil : csrc H sz (.v (.slice none 0 0)) K' = K' [] := rfl
end
def br (p yes no : Prop) : Prop := (p → yes) ∧ (¬p → no)
@[congr] theorem br_congr {p p' yes no : Prop} (h : p = p') : br p yes no = br p' yes no := by subst h; rfl
@[go_sem] theorem br_true (yes no : Prop) : br True yes no = yes := by simp [br]
@[go_sem] theorem br_false (yes no : Prop) : br False yes no = no := by simp [br]
@[go_sem low] theorem br_split (p yes no : Prop) : br p yes no = ((p → yes) ∧ (¬p → no)) := rfl
@[go_sem] theorem cguard_u (want : Bool) (vs : Array Value) (yes no : Prop) : cguard want (.v (.tuple vs)) yes no = no := rfl
@[go_sem] theorem cbranch_b (b : Bool) (yes no : Prop) : cbranch (.v (.bool b)) yes no = br (b = true) yes no := by cases b <;> simp [cbranch, br]
@[go_sem] theorem dOk_some (d n : Nat) : dOk (some d) n = (d < n) := rfl
@[go_sem] theorem dOk_none (n : Nat) : dOk none n = True := rfl
@[go_sem] theorem tput_some (d : Nat) (c : CV) (T : Tm) : tput (some d) c T = (d, c) :: T := rfl
@[go_sem] theorem tput_none (c : CV) (T : Tm) : tput none c T = T := rfl
@[go_sem] theorem evT_tmp (T : Tm) (t : Nat) : evT T (.tmp t) = tget T t := rfl
@[go_sem] theorem evT_const (T : Tm) (v : Value) : evT T (.const v) = .v v := rfl
@[go_sem] theorem evT_global (T : Tm) (g : Nat) : evT T (.global g) = gcv g := rfl
@[go_sem] theorem evT_func (T : Tm) (f : FuncId) : evT T (.func f) = .fn f [] := rfl
@[go_sem] theorem tget_nil (n : Nat) : tget [] n = .any := rfl
@[go_sem] theorem tget_cons (k : Nat) (c : CV) (r : Tm) (n : Nat) : tget ((k, c) :: r) n = if n = k then c else tget r n := rfl
@[go_sem] theorem cells_agg (cs : List CV) : (CV.agg cs).cells = cs := rfl
@[go_sem] theorem cells_v (v : Value) : (CV.v v).cells = [.v v] := rfl
@[go_sem] theorem cells_sl (tk : Tk) (sz : Nat) (xs : List (List CV)) : (CV.sl tk sz xs).cells = [.sl tk sz xs] := rfl
@[go_sem] theorem cells_bsl (b o n sz : Nat) : (CV.bsl b o n sz).cells = [.bsl b o n sz] := rfl
@[go_sem] theorem cells_ptr (b o : Nat) : (CV.ptr b o).cells = [.ptr b o] := rfl
@[go_sem] theorem cells_fn (f : Nat) (cs : List CV) : (CV.fn f cs).cells = [.fn f cs] := rfl
@[go_sem] theorem cells_bm (f : Nat) (cs : List CV) : (CV.bm f cs).cells = [.bm f cs] := rfl
@[go_sem] theorem cells_yl (b : Nat) : (CV.yl b).cells = [.yl b] := rfl
@[go_sem] theorem cells_mv (b : Nat) : (CV.mv b).cells = [.mv b] := rfl
@[go_sem] theorem cells_it (b : Nat) : (CV.it b).cells = [.it b] := rfl
@[go_sem] theorem cells_bsa (b n sz : Nat) : (CV.bsa b n sz).cells = [.bsa b n sz] := rfl
@[go_sem] theorem one_bm (f : Nat) (cs : List CV) : (CV.bm f cs).one = true := rfl
@[go_sem] theorem one_yl (b : Nat) : (CV.yl b).one = true := rfl
@[go_sem] theorem one_mv (b : Nat) : (CV.mv b).one = true := rfl
@[go_sem] theorem one_it (b : Nat) : (CV.it b).one = true := rfl
@[go_sem] theorem one_bsa (b n sz : Nat) : (CV.bsa b n sz).one = true := rfl
@[go_sem] theorem allOne_nil : allOne [] = true := rfl
@[go_sem] theorem allOne_cons (c : CV) (cs : List CV) : allOne (c :: cs) = (c.one && allOne cs) := rfl
@[go_sem] theorem one_sl (tk : Tk) (sz : Nat) (xs : List (List CV)) : (CV.sl tk sz xs).one = true := rfl
@[go_sem] theorem one_bsl (b o n sz : Nat) : (CV.bsl b o n sz).one = true := rfl
@[go_sem] theorem one_ptr (b o : Nat) : (CV.ptr b o).one = true := rfl
@[go_sem] theorem one_fn (f : Nat) (cs : List CV) : (CV.fn f cs).one = true := rfl
@[go_sem] theorem one_int (k : IntKind) (n : Int) : (CV.v (.int k n)).one = true := rfl
@[go_sem] theorem one_bool (b : Bool) : (CV.v (.bool b)).one = true := rfl
@[go_sem] theorem one_string (b : ByteArray) : (CV.v (.string b)).one = true := rfl
@[go_sem] theorem one_slice (a : Option Addr) (n c : Nat) : (CV.v (.slice a n c)).one = true := rfl
end

section
variable (P : Program) (n nb nv : Nat) (ops rest : List Oper) (T : Tm) (H : Hp) (V : List Nat) (K : Tm → Hp → List Nat → Prop) (Q : Exit → Tm → Hp → List Nat → Prop)
end
section
variable (P : Program) (n : Nat) (ds : List (Option Tmp))
def gt : List (Option Tmp) → Nat → Option Nat
  | [], _ => none
  | d :: _, 0 => d
  | _ :: r, j + 1 => gt r j
def crunL : List Oper → Tm → Hp → List Nat → (Tm → Hp → List Nat → Prop) → Prop
  | [], T, H, V, K => K T H V
  | ⟨d, op, _, _, _, none⟩ :: r, T, H, V, K => dOk d n ∧ cop P (evT T) H V (fun c H' V' => crunL r (tput d c T) H' V' K) op
  | ⟨d, op, _, _, _, some (j, want)⟩ :: r, T, H, V, K => dOk d n ∧
    match gt ds j with
    | none => False
    | some g =>
      match tget T g with
      | .v (.bool b) => br (b = want) (cop P (evT ((g, .v (.bool want)) :: T)) H V (fun c H' V' => crunL r (tput d c ((g, .v (.bool want)) :: T)) H' V' K) op) (crunL r (tput d (.v undef) ((g, .v (.bool (!want))) :: T)) H V K)
      | .v (.tuple _) => crunL r (tput d (.v undef) T) H V K
      | _ => False
def contL (d : Option Tmp) (r : List Oper) (T : Tm) (K : Tm → Hp → List Nat → Prop) : CV → Hp → List Nat → Prop := fun c H V => crunL P n ds r (tput d c T) H V K
def gdL (d : Option Tmp) (op : Op) (want : Bool) (r : List Oper) (T : Tm) (H : Hp) (V : List Nat) (K : Tm → Hp → List Nat → Prop) : Option Nat → Prop
  | some g => gvL d op want r T H V K g (tget T g)
  | none => False
where
  gvL (d : Option Tmp) (op : Op) (want : Bool) (r : List Oper) (T : Tm) (H : Hp) (V : List Nat) (K : Tm → Hp → List Nat → Prop) (g : Nat) : CV → Prop
  | .v (.bool b) => br (b = want) (cop P (evT ((g, .v (.bool want)) :: T)) H V (fun c H' V' => crunL P n ds r (tput d c ((g, .v (.bool want)) :: T)) H' V' K) op) (crunL P n ds r (tput d (.v undef) ((g, .v (.bool (!want))) :: T)) H V K)
  | .v (.tuple _) => crunL P n ds r (tput d (.v undef) T) H V K
  | _ => False
end
theorem gt_eq : ∀ (ops : List Oper) (j : Nat), gt (ops.map (·.dst)) j = gtmp ops j
  | [], j => by simp [gt, gtmp]
  | o :: r, 0 => by simp [gt, gtmp]
  | o :: r, j + 1 => by
    rw [List.map_cons, gt, gt_eq r j]; simp [gtmp]
theorem crun_lite (P : Program) (n : Nat) (ops : List Oper) : ∀ (l : List Oper) (T : Tm) (H : Hp) (V : List Nat) (K : Tm → Hp → List Nat → Prop), crun P n ops l T H V K = crunL P n (ops.map (·.dst)) l T H V K
  | [], T, H, V, K => rfl
  | ⟨d, op, ty, pos, after, none⟩ :: r, T, H, V, K => by
    rw [crun, crunL]
    simp only [crun_lite P n ops r]
  | ⟨d, op, ty, pos, after, some (j, want)⟩ :: r, T, H, V, K => by
    rw [crun, crunL, gt_eq]
    simp only [crun_lite P n ops r]
    congr 1
    cases gtmp ops j with
    | none => rfl
    | some g =>
      dsimp only
      generalize tget T g = x
      cases x with
      | v x =>
        cases x with
        | bool b => cases b <;> cases want <;> simp [cguard, br]
        | _ => rfl
      | _ => rfl
section
variable (P : Program) (n nb nv : Nat) (ops : List Oper) (ds : List (Option Tmp)) (rest : List Oper) (T : Tm) (H : Hp) (V : List Nat) (K : Tm → Hp → List Nat → Prop) (Q : Exit → Tm → Hp → List Nat → Prop)
@[go_sem ↓] theorem crunL_nil : crunL P n ds [] T H V K = K T H V := rfl
@[go_sem] theorem crunL_plain (d : Option Tmp) (op : Op) (ty : TypeId) (pos : String) (after : Array Edge) : crunL P n ds (⟨d, op, ty, pos, after, none⟩ :: rest) T H V K = (dOk d n ∧ cop P (evT T) H V (contL P n ds d rest T K) op) := rfl
@[go_sem ↓] theorem contL_eq (d : Option Tmp) (c : CV) : contL P n ds d rest T K c H V = crunL P n ds rest (tput d c T) H V K := rfl
@[go_sem] theorem crunL_guard (d : Option Tmp) (op : Op) (ty : TypeId) (pos : String) (after : Array Edge) (j : Nat) (want : Bool) : crunL P n ds (⟨d, op, ty, pos, after, some (j, want)⟩ :: rest) T H V K = (dOk d n ∧ gdL P n ds d op want rest T H V K (gt ds j)) := by
  rw [crunL]
  congr 1
  cases gt ds j with
  | none => rfl
  | some g =>
    simp only [gdL]
    cases tget T g with
    | v x => cases x <;> rfl
    | _ => rfl
@[go_sem] theorem gdL_some (d : Option Tmp) (op : Op) (want : Bool) (g : Nat) : gdL P n ds d op want rest T H V K (some g) = gdL.gvL P n ds d op want rest T H V K g (tget T g) := rfl
@[go_sem] theorem gvL_b (d : Option Tmp) (op : Op) (want b : Bool) (g : Nat) : gdL.gvL P n ds d op want rest T H V K g (.v (.bool b)) = br (b = want) (cop P (evT ((g, .v (.bool want)) :: T)) H V (contL P n ds d rest ((g, .v (.bool want)) :: T) K) op) (crunL P n ds rest (tput d (.v undef) ((g, .v (.bool (!want))) :: T)) H V K) := rfl
@[go_sem] theorem gvL_u (d : Option Tmp) (op : Op) (want : Bool) (g : Nat) (vs : Array Value) : gdL.gvL P n ds d op want rest T H V K g (.v (.tuple vs)) = crunL P n ds rest (tput d (.v undef) T) H V K := rfl
def crunS (P : Program) (n : Nat) (ds : List (Option Tmp)) (l : List Oper) (T : Tm) (H : Hp) (V : List Nat) (K : Tm → Hp → List Nat → Prop) : Prop := crunL P n ds l T H V K
@[go_sem] theorem crunS_eq (l : List Oper) : crunS P n ds l T H V K = crunL P n ds l T H V K := rfl
@[go_sem] theorem gt_nil (j : Nat) : gt [] j = none := rfl
@[go_sem] theorem gt_zero (d : Option Tmp) (r : List (Option Tmp)) : gt (d :: r) 0 = d := rfl
@[go_sem] theorem gt_succ (d : Option Tmp) (r : List (Option Tmp)) (j : Nat) : gt (d :: r) (j + 1) = gt r j := rfl
@[go_sem] theorem undef_eq : CV.v undef = .v (.tuple #[]) := rfl

@[go_sem ↓] theorem Wp_skip : Wp P n nb nv .skip Q T H V = Q .normal T H V := rfl
@[go_sem ↓] theorem Wp_region (id : Nat) (ops : List Oper) : Wp P n nb nv (.region id ops.toArray false) Q T H V = crunS P n (ops.map (·.dst)) ops T H V (Q .normal) := by
  show crun P n ops.toArray.toList ops.toArray.toList T H V (Q .normal) = _
  rw [crunS, ← crun_lite]
@[go_sem ↓] theorem Wp_seq (a b : Code) : Wp P n nb nv (.seq a b) Q T H V = Wp P n nb nv a (thn (Wp P n nb nv b Q) Q) T H V := rfl
@[go_sem ↓] theorem Wp_cond (c : Operand) (a b : Code) : Wp P n nb nv (.cond c a b) Q T H V = cbranch (evT T c) (Wp P n nb nv a Q T H V) (Wp P n nb nv b Q T H V) := rfl
@[go_sem ↓] theorem Wp_block (id : Nat) (c : Code) : Wp P n nb nv (.block id c) Q T H V = Wp P n nb nv c (blk id Q) T H V := rfl
@[go_sem ↓] theorem Wp_scope (c : Code) : Wp P n nb nv (.scope c) Q T H V = Wp P n nb nv c (scp Q) T H V := rfl
@[go_sem ↓] theorem Wp_label (l : Nat) : Wp P n nb nv (.label l) Q T H V = Q .normal T H V := rfl
@[go_sem ↓] theorem scp_n : scp Q .normal = Q .normal := rfl
@[go_sem ↓] theorem scp_r : scp Q .ret = Q .ret := rfl
@[go_sem ↓] theorem scp_e (id : Nat) : scp Q (.exit id) = Q (.exit id) := rfl
@[go_sem ↓] theorem Wp_loop (c : Code) : Wp P n nb nv (.loop c) Q T H V = Wl n nb nv (Wp P n nb nv c) Q T H V := rfl
@[go_sem ↓] theorem Wp_ret : Wp P n nb nv .ret Q T H V = Q .ret T H V := rfl
@[go_sem ↓] theorem Wp_exit (id : Nat) : Wp P n nb nv (.exit id) Q T H V = Q (.exit id) T H V := rfl
@[go_sem ↓] theorem thn_n : thn K Q .normal = K := rfl
@[go_sem ↓] theorem thn_r : thn K Q .ret = Q .ret := rfl
@[go_sem ↓] theorem thn_e (id : Nat) : thn K Q (.exit id) = Q (.exit id) := rfl
@[go_sem ↓] theorem blk_n (id : Nat) : blk id Q .normal = Q .normal := rfl
@[go_sem ↓] theorem blk_r (id : Nat) : blk id Q .ret = Q .ret := rfl
@[go_sem ↓] theorem blk_e (id id' : Nat) : blk id Q (.exit id') = if id' = id then Q .normal else Q (.exit id') := rfl
end

section
variable {P : Program} {n nb nv : Nat} {T T' : Tm} {H H' : Hp} {V V' : List Nat}
@[congr] theorem crunL_congr {ds : List (Option Tmp)} {l : List Oper} {K : Tm → Hp → List Nat → Prop} (h1 : T = T') (h2 : H = H') (h3 : V = V') : crunL P n ds l T H V K = crunL P n ds l T' H' V' K := by subst h1 h2 h3; rfl
@[congr] theorem crunS_congr {ds ds' : List (Option Tmp)} {l : List Oper} {K : Tm → Hp → List Nat → Prop} (h0 : ds = ds') (h1 : T = T') (h2 : H = H') (h3 : V = V') : crunS P n ds l T H V K = crunS P n ds' l T' H' V' K := by subst h0 h1 h2 h3; rfl
@[congr] theorem gdL_congr {ds : List (Option Tmp)} {d : Option Tmp} {op : Op} {want : Bool} {r : List Oper} {K : Tm → Hp → List Nat → Prop} {g g' : Option Nat} (h1 : T = T') (h2 : H = H') (h3 : V = V') (h4 : g = g') : gdL P n ds d op want r T H V K g = gdL P n ds d op want r T' H' V' K g' := by subst h1 h2 h3 h4; rfl
@[congr] theorem gvL_congr {ds : List (Option Tmp)} {d : Option Tmp} {op : Op} {want : Bool} {r : List Oper} {K : Tm → Hp → List Nat → Prop} {g : Nat} {c c' : CV} (h1 : T = T') (h2 : H = H') (h3 : V = V') (h4 : c = c') : gdL.gvL P n ds d op want r T H V K g c = gdL.gvL P n ds d op want r T' H' V' K g c' := by subst h1 h2 h3 h4; rfl
@[congr] theorem Wp_congr {c : Code} {Q : Exit → Tm → Hp → List Nat → Prop} (h1 : T = T') (h2 : H = H') (h3 : V = V') : Wp P n nb nv c Q T H V = Wp P n nb nv c Q T' H' V' := by subst h1 h2 h3; rfl
@[congr] theorem CC_congr {f : FuncId} {args args' : List CV} {R : CV → Hp → List Nat → Prop} (h0 : args = args') (h1 : H = H') (h2 : V = V') : CC P f args H V R = CC P f args' H' V' R := by subst h0 h1 h2; rfl
@[congr] theorem withO_congr {α : Type} {o o' : Option α} {K : α → Prop} (h : o = o') : withO o K = withO o' K := by subst h; rfl
variable {x x' y y' z z' : CV} {K : CV → Prop}
@[congr] theorem hpick_congr (h1 : x = x') (h2 : y = y') (h3 : z = z') : hpick x y z K = hpick x' y' z' K := by subst h1 h2 h3; rfl
@[congr] theorem hbx_congr {b b' : Nat} {K : List CV → Prop} (h1 : H = H') (h2 : b = b') : hbx H b K = hbx H' b' K := by subst h1 h2; rfl
@[congr] theorem hload_congr {g g' : Bool} {n n' : Nat} (h0 : g = g') (h1 : n = n') (h2 : x = x') (h3 : H = H') : hload g n x H K = hload g' n' x' H' K := by subst h0 h1 h2 h3; rfl
@[congr] theorem hstore_congr {n n' : Nat} {K : Hp → Prop} (h1 : n = n') (h2 : x = x') (h4 : y = y') (h3 : H = H') : hstore n x y H K = hstore n' x' y' H' K := by subst h1 h2 h3 h4; rfl
@[congr] theorem hconv_congr {k k' : Option IntKind} (h0 : k = k') (h1 : x = x') : hconv k x K = hconv k' x' K := by subst h0 h1; rfl
@[congr] theorem hfaddr_congr {a a' : Nat} (h1 : a = a') (h3 : x = x') : hfaddr a x K = hfaddr a' x' K := by subst h1 h3; rfl
@[congr] theorem YC_congr {b b' : Nat} {args args' : List CV} {R : CV → Hp → List Nat → Prop} (h3 : b = b') (h0 : args = args') (h1 : H = H') (h2 : V = V') : YC P b args H V R = YC P b' args' H' V' R := by subst h0 h1 h2 h3; rfl
@[congr] theorem cindex_congr {t : TypeId} (h3 : x = x') (h5 : y = y') : cindex P t x y K = cindex P t x' y' K := by subst h3 h5; rfl
@[congr] theorem cmm_congr {f : Int → Int → Int} (h3 : x = x') (h5 : y = y') : cmm f x y K = cmm f x' y' K := by subst h3 h5; rfl
@[congr] theorem ccopy_congr {t tx : TypeId} {R : CV → Hp → List Nat → Prop} (h1 : x = x') (h2 : y = y') (h3 : H = H') (h4 : V = V') : ccopy P t tx x y H V R = ccopy P t tx x' y' H' V' R := by subst h1 h2 h3 h4; rfl
@[congr] theorem hlook_congr {v : Value} (h1 : H = H') (h3 : x = x') (h5 : y = y') : hlook v H x y K = hlook v H' x' y' K := by subst h1 h3 h5; rfl
@[congr] theorem hlook2_congr {v : Value} (h1 : H = H') (h3 : x = x') (h5 : y = y') : hlook2 v H x y K = hlook2 v H' x' y' K := by subst h1 h3 h5; rfl
@[congr] theorem hmput_congr {K : Hp → Prop} (h1 : H = H') (h3 : x = x') (h5 : y = y') (h6 : z = z') : hmput H z x y K = hmput H' z' x' y' K := by subst h1 h3 h5 h6; rfl
@[congr] theorem hrange_congr {K : CV → Hp → Prop} (h1 : H = H') (h3 : x = x') : hrange H x K = hrange H' x' K := by subst h1 h3; rfl
@[congr] theorem cnext_congr {s : Bool} {K : CV → Hp → Prop} (h3 : x = x') (h1 : H = H') : cnext x s H K = cnext x' s H' K := by subst h1 h3; rfl
@[congr] theorem centry_congr (h3 : x = x') (h1 : H = H') : centry x H K = centry x' H' K := by subst h1 h3; rfl
@[congr] theorem scp_congr {Q : Exit → Tm → Hp → List Nat → Prop} {e : Exit} : scp Q e T H V = scp Q e T H V := rfl
@[congr] theorem hext_congr {i : Nat} (h1 : x = x') : hext i x K = hext i x' K := by subst h1; rfl
@[congr] theorem hmkC_congr {sz sz' : Nat} {zs zs' : List Value} {z z' : Bool} {K : CV → Hp → List Nat → Prop} (h0 : z = z') (h1 : sz = sz') (h2 : zs = zs') (h3 : H = H') (h6 : V = V') (h4 : x = x') (h5 : y = y') : hmkC P sz zs z H V x y K = hmkC P sz' zs' z' H' V' x' y' K := by subst h0 h1 h2 h3 h4 h5 h6; rfl
@[congr] theorem hmk_congr {sz sz' : Nat} {zs zs' : List Value} {K : CV → Hp → Prop} (h1 : sz = sz') (h2 : zs = zs') (h3 : H = H') (h4 : x = x') (h5 : y = y') : hmk sz zs H x y K = hmk sz' zs' H' x' y' K := by subst h1 h2 h3 h4 h5; rfl
@[congr] theorem hcall_congr {args args' : List CV} {R : CV → Hp → List Nat → Prop} (h0 : args = args') (h1 : H = H') (h2 : V = V') (h3 : x = x') : hcall P H V x args R = hcall P H' V' x' args' R := by subst h0 h1 h2 h3; rfl
@[congr] theorem cbin_congr {op : BinOp} {t : TypeId} (h1 : x = x') (h2 : y = y') : cbin P op t x y K = cbin P op t x' y' K := by subst h1 h2; rfl
@[congr] theorem ibin_congr {op : BinOp} {k : IntKind} {a a' b b' : Int} (h1 : a = a') (h2 : b = b') : ibin op k a b K = ibin op k a' b' K := by subst h1 h2; rfl
@[congr] theorem cun_congr {op : UnOp} (h1 : x = x') : cun op x K = cun op x' K := by subst h1; rfl
@[congr] theorem cidx_congr {t : TypeId} (h1 : x = x') (h2 : y = y') : cidx P t x y K = cidx P t x' y' K := by subst h1 h2; rfl
@[congr] theorem clen_congr {t : TypeId} (h1 : x = x') : clen P t x K = clen P t x' K := by subst h1; rfl
@[congr] theorem cslice_congr {t : TypeId} {lo lo' hi hi' mx mx' : Option CV} (h1 : x = x') (h2 : lo = lo') (h3 : hi = hi') (h4 : mx = mx') : cslice P t x lo hi mx K = cslice P t x' lo' hi' mx' K := by subst h1 h2 h3 h4; rfl
@[congr] theorem capp_congr {t tx : TypeId} {R : CV → Hp → List Nat → Prop} (h1 : x = x') (h2 : y = y') (h3 : H = H') (h4 : V = V') : capp P t tx x y H V R = capp P t tx x' y' H' V' R := by subst h1 h2 h3 h4; rfl
@[congr] theorem happ_congr {sz sz' : Nat} {ys ys' : List (List CV)} {R : CV → Hp → List Nat → Prop} (h1 : x = x') (h0 : sz = sz') (h2 : ys = ys') (h3 : H = H') (h4 : V = V') : happ x sz ys H V R = happ x' sz' ys' H' V' R := by subst h1 h0 h2 h3 h4; rfl
@[congr] theorem csrc_congr {sz sz' : Nat} {R : List (List CV) → Prop} (h1 : x = x') (h0 : sz = sz') (h3 : H = H') : csrc H sz x R = csrc H' sz' x' R := by subst h1 h0 h3; rfl
@[congr] theorem cbranch_congr {yes no : Prop} (h1 : x = x') : cbranch x yes no = cbranch x' yes no := by subst h1; rfl
@[congr] theorem thn_congr {N : Tm → Hp → List Nat → Prop} {Q : Exit → Tm → Hp → List Nat → Prop} {e : Exit} : thn N Q e T H V = thn N Q e T H V := rfl
end
end Go.Proofs.YtpedbpbmnchllaaGreatDoor
namespace Go.Proofs.YtpedbpbmnchllaaGreatDoor

section
variable (P : Program) (nb nv : Nat) (res : List ResultVar) (R : CV → Hp → List Nat → Prop) (T : Tm) (H : Hp) (V : List Nat) (K : List CV → Prop)
@[go_sem] theorem Rt_ret : Rt P nb nv res R .ret T H V = resK P res T H fun cs => Fin nb nv R (one cs) H V := rfl
@[go_sem] theorem Rt_normal : Rt P nb nv res R .normal T H V = resK P res T H fun cs => Fin nb nv R (one cs) H V := rfl
@[go_sem] theorem resK_nil : resK P [] T H K = K [] := rfl
@[go_sem] theorem resK_tmp (t : Nat) (r : List ResultVar) : resK P (.tmp t :: r) T H K = resK P r T H fun cs => K (tget T t :: cs) := rfl
def hcell (H : Hp) : CV → (Nat → Nat → List CV → Prop) → Prop
  | .ptr b o, K => hbx H b fun cs => K b o cs
  | _, _ => False
@[go_sem] theorem resK_cell (a ty : Nat) (r : List ResultVar) : resK P (.cell a ty :: r) T H K = withO (ldTy P ty) fun q => hcell H (tget T a) fun _ o cs => ld q.1 q.2 cs o fun c => resK P r T H fun ds => K (c :: ds) := by
  rw [withO_eq]; simp only [Prod.exists]; rw [resK]
  congr 1; funext g; congr 1; funext n; congr 1
  cases tget T a <;> simp only [hcell, hbx_eq]
@[go_sem] theorem hcell_ptr (b o : Nat) (K : Nat → Nat → List CV → Prop) : hcell H (.ptr b o) K = hbx H b fun cs => K b o cs := rfl
@[go_sem] theorem one_1 (c : CV) : one [c] = c := rfl
@[go_sem] theorem one_0 : one [] = .tup [] := rfl
@[go_sem] theorem one_2 (c d : CV) (cs : List CV) : one (c :: d :: cs) = .tup (c :: d :: cs) := rfl
end
section
variable {P : Program} {nb nv : Nat} {T T' : Tm} {H H' : Hp} {V V' : List Nat}
@[congr] theorem Rt_congr {res : List ResultVar} {R : CV → Hp → List Nat → Prop} {e : Exit} (h1 : T = T') (h2 : H = H') (h3 : V = V') : Rt P nb nv res R e T H V = Rt P nb nv res R e T' H' V' := by subst h1 h2 h3; rfl
@[congr] theorem hcell_congr {x x' : CV} {K : Nat → Nat → List CV → Prop} (h1 : H = H') (h2 : x = x') : hcell H x K = hcell H' x' K := by subst h1 h2; rfl
@[congr] theorem Fin_congr {R : CV → Hp → List Nat → Prop} {r r' : CV} (h0 : r = r') (h1 : H = H') (h2 : V = V') : Fin nb nv R r H V = Fin nb nv R r' H' V' := by subst h0 h1 h2; rfl
end

section
variable {α : Type} (H L : List α) (j : Nat) (x : α)
@[go_sem] theorem at_len : (H ++ L)[H.length]? = L[0]? := by rw [List.getElem?_append_right (Nat.le_refl _), Nat.sub_self]
theorem at_old {b : Nat} {y : α} (h : H[b]? = some y) : (H ++ L)[b]? = some y := by rw [List.getElem?_append_left (List.getElem?_eq_some_iff.1 h).1]; exact h
end
theorem hbx_some {H : Hp} {b : Nat} {cs : List CV} (h : H[b]? = some (some cs)) (K : List CV → Prop) : hbx H b K = K cs := by simp [hbx, h]
@[go_sem] theorem hbx_new (H : Hp) (cs : List CV) (L : Hp) (K : List CV → Prop) : hbx (H ++ some cs :: L) H.length K = K cs := hbx_some (by simp) K
def Pu (r : CV) (H : Hp) (V : List Nat) : CV → Hp → List Nat → Prop := fun r' H' V' => r' = r ∧ H = H' ∧ V = V'

theorem Fin.pure {nb nv : Nat} {R : CV → Hp → List Nat → Prop} {r r' : CV} {H H' : Hp} {V V' : List Nat} (hR : R r' H V) (hH : H'.take nb = H) (hV : V'.take nv = V) (hle : Le r r') (hok : okV nb nv r')
    (hokH : ∀ (b : Nat) cs, H[b]? = some (some cs) → okL nb nv cs) : Fin nb nv R r H' V' := by
  refine ⟨r', H, V, ?_, hR⟩
  refine Gst.trans (T' := [(0, r')]) (H' := H') (V' := V') (Gst.forget fun p hp => ?_) ?_
  · simp at hp; subst hp; exact hle
  · have := Gst.cut (n := 1) (nb := nb) (nv := nv) (T := [(0, r')]) (H := H') (V := V') nb nv (Nat.le_refl _) (Nat.le_refl _) (fun p hp => by simp at hp; subst hp; exact hok) (by rw [hH]; exact hokH)
    rwa [hH, hV] at this

theorem Fin.keep {nb nv : Nat} {R : CV → Hp → List Nat → Prop} {r r' : CV} {H H' : Hp} {V' V'' : List Nat} (j : Nat) (hR : R r' H V'') (hj : nv ≤ j) (hH : H'.take nb = H) (hV : V'.take j = V'') (hle : Le r r') (hok : okV nb j r')
    (hokH : ∀ (b : Nat) cs, H[b]? = some (some cs) → okL nb nv cs) : Fin nb nv R r H' V' := by
  refine ⟨r', H, V'', ?_, hR⟩
  refine Gst.trans (T' := [(0, r')]) (H' := H') (V' := V') (Gst.forget fun p hp => ?_) ?_
  · simp at hp; subst hp; exact hle
  · have := Gst.cut (n := 1) (nb := nb) (nv := nv) (T := [(0, r')]) (H := H') (V := V') nb j (Nat.le_refl _) hj (fun p hp => by simp at hp; subst hp; exact hok) (by
      rw [hH]
      intro b cs hb
      exact okL_mono (Nat.le_refl _) hj (hokH b cs hb))
    rwa [hH, hV] at this

def TLe (T : Tm) : Tm → Prop
  | [] => True
  | (k, c) :: r => Le (tget T k) c ∧ TLe T r
theorem TLe.get {T : Tm} : ∀ {T' : Tm}, TLe T T' → ∀ p ∈ T', Le (tget T p.1) p.2
  | [], _, p, hp => by cases hp
  | (k, c) :: r, h, p, hp => by
    rcases List.mem_cons.1 hp with rfl | hp
    · exact h.1
    · exact TLe.get h.2 p hp
@[go_sem] theorem TLe_nil (T : Tm) : TLe T [] = True := rfl
@[go_sem] theorem TLe_cons (T : Tm) (k : Nat) (c : CV) (r : Tm) : TLe T ((k, c) :: r) = (Le (tget T k) c ∧ TLe T r) := rfl
@[go_sem] theorem Le_self (c : CV) : Le c c = True := eq_true (.refl c)
@[go_sem] theorem Le_any (c : CV) : Le c .any = True := eq_true (.any c)
@[go_sem] theorem Le_sh (tk : Tk) (sz : Nat) (xs : List (List CV)) : Le (.sl tk sz xs) (.sl .sh sz xs) = True := eq_true (.sh tk sz xs)

def Sh (n nb nv : Nat) (T : Tm) (H : Hp) (V : List Nat) (s : Tm × Hp × List Nat) : Prop := Gst n nb nv T H V s.1 s.2.1 s.2.2

theorem Sh.forget {n nb nv : Nat} {T T' : Tm} {H H' : Hp} {V V' : List Nat} (h : TLe T T') (hH : H = H') (hV : V = V') : Sh n nb nv T H V (T', H', V') := by
  subst hH hV
  exact Gst.forget (TLe.get h)

theorem Sh.cut {n nb nv : Nat} {T T' : Tm} {H H' : Hp} {V V' : List Nat} (i j : Nat) (h : TLe T T') (hi : nb ≤ i) (hj : nv ≤ j) (hT : ∀ p ∈ T', okV i j p.2) (hH : ∀ (b : Nat) cs, H'[b]? = some (some cs) → okL i j cs) (eH : H.take i = H') (eV : V.take j = V') : Sh n nb nv T H V (T', H', V') := by
  subst eH eV
  exact (Gst.forget (TLe.get h)).trans (Gst.cut i j hi hj hT hH)

theorem SWp.loop {P : Program} {n nb nv : Nat} {c : Code} {Q : Exit → Tm → Hp → List Nat → Prop} {T : Tm} {H : Hp} {V : List Nat} {α : Type} (S : α → Tm × Hp × List Nat) (ok : α → Prop) (μ : α → Nat) (x0 : α)
    (h0 : ok x0) (he : Sh n nb nv T H V (S x0)) (hr : ∀ x, ok x → SWp P n nb nv c (thn (fun T H V => ∃ x', ok x' ∧ μ x' < μ x ∧ Sh n nb nv T H V (S x')) Q) (S x).1 (S x).2.1 (S x).2.2) : SWp P n nb nv (.loop c) Q T H V := by
  intro ro D m w a m0 w0 V0 h1 h2 h3 hx hs
  obtain ⟨m1, s1, s2⟩ := he D m w a m0 w0 V0 h1 h2 h3 hx hs
  refine wpIn_loop_ghost (fun k a w => ∃ x m, ok x ∧ μ x = k ∧ St D n m w a (S x).1 (S x).2.1 (S x).2.2 ∧ Ext m0 w0 V0 m w (S x).2.2) (μ x0) ⟨x0, m1, h0, rfl, s1, s2⟩ ?_
  rintro k a' w' ⟨x, m2, k0, rfl, k2, k3⟩
  refine wpIn_mono (hr x k0 ro D m2 w' a' m0 w0 V0 h1 h2 h3 k3 k2) fun e a3 w3 ⟨T3, H3, V3, m3, q1, q2, q3⟩ => ?_
  cases e with
  | normal =>
    obtain ⟨x', r1, r2, r3⟩ := q1
    obtain ⟨m4, t1, t2⟩ := r3 D m3 w3 a3 m0 w0 V0 h1 h2 h3 q3 q2
    exact ⟨μ x', r2, x', m4, r1, rfl, t1, t2⟩
  | _ => exact ⟨T3, H3, V3, m3, q1, q2, q3⟩

theorem SWp.block {P : Program} {n nb nv id : Nat} {c : Code} {Q : Exit → Tm → Hp → List Nat → Prop} {T : Tm} {H : Hp} {V : List Nat} (h : SWp P n nb nv c (blk id Q) T H V) : SWp P n nb nv (.block id c) Q T H V := by
  intro ro D m w a m0 w0 V0 h1 h2 h3 hx hs
  refine wpIn_block (wpIn_mono (h ro D m w a m0 w0 V0 h1 h2 h3 hx hs) fun e a' w' ⟨T', H', V', m', k1, k2⟩ => ?_)
  cases e with
  | exit id' =>
    simp only [blk] at k1
    simp only [Exit.inBlock]
    split
    · rename_i hid; rw [if_pos hid] at k1; exact ⟨T', H', V', m', k1, k2⟩
    · rename_i hid; rw [if_neg hid] at k1; exact ⟨T', H', V', m', k1, k2⟩
  | _ => exact ⟨T', H', V', m', k1, k2⟩

theorem SWp.join {P : Program} {n nb nv : Nat} {x y : Code} {Q : Exit → Tm → Hp → List Nat → Prop} {T : Tm} {H : Hp} {V : List Nat} {α : Type} (S : α → Tm × Hp × List Nat) (ok : α → Prop)
    (h1 : SWp P n nb nv x (thn (fun T H V => ∃ s, ok s ∧ Sh n nb nv T H V (S s)) Q) T H V) (h2 : ∀ s, ok s → SWp P n nb nv y Q (S s).1 (S s).2.1 (S s).2.2) : SWp P n nb nv (.seq x y) Q T H V :=
  SWp.seq (h1.mono fun e T H V k => by
    cases e with
    | normal => obtain ⟨s, k1, k2⟩ := k; exact SWp.ghost k2 (h2 s k1)
    | _ => exact k)
theorem Wp.s {P : Program} {n nb nv : Nat} {c : Code} {Q : Exit → Tm → Hp → List Nat → Prop} {T : Tm} {H : Hp} {V : List Nat} (h : Wp P n nb nv c Q T H V) : SWp P n nb nv c Q T H V := Wp.sound c h
@[congr] theorem SWp_congr {P : Program} {n nb nv : Nat} {c : Code} {Q : Exit → Tm → Hp → List Nat → Prop} {T T' : Tm} {H H' : Hp} {V V' : List Nat} (h1 : T = T') (h2 : H = H') (h3 : V = V') : SWp P n nb nv c Q T H V = SWp P n nb nv c Q T' H' V' := by subst h1 h2 h3; rfl
@[congr] theorem Sh_congr {n nb nv : Nat} {T T' : Tm} {H H' : Hp} {V V' : List Nat} {s s' : Tm × Hp × List Nat} (h1 : T = T') (h2 : H = H') (h3 : V = V') (h4 : s = s') : Sh n nb nv T H V s = Sh n nb nv T' H' V' s' := by subst h1 h2 h3 h4; rfl

def Fr (sz : Nat) (xs : List (List CV)) (H : Hp) (V : List Nat) : CV → Hp → List Nat → Prop := fun r H' V' => ∃ v, r = .sl (.own V.length v) sz xs ∧ H = H' ∧ V ++ [v] = V'
section
variable {r r0 : CV} {H H' : Hp} {V V' : List Nat} {sz : Nat} {xs : List (List CV)}
theorem Fin.pu (hle : Le r r0) (hok : okV H.length V.length r0) (hokH : ∀ (b : Nat) cs, H[b]? = some (some cs) → okL H.length V.length cs) (hH : H'.take H.length = H) (hV : V'.take V.length = V) : Fin H.length V.length (Pu r0 H V) r H' V' :=
  Fin.pure ⟨rfl, rfl, rfl⟩ hH hV hle hok hokH
theorem Fin.fr {v : Nat} {W : List Nat} (hok : okE H.length V.length xs) (hokH : ∀ (b : Nat) cs, H[b]? = some (some cs) → okL H.length V.length cs) (hH : H'.take H.length = H) : Fin H.length V.length (Fr sz xs H V) (.sl (.own V.length v) sz xs) H' (V ++ v :: W) :=
  Fin.keep (V'' := V ++ [v]) (V.length + 1) ⟨v, rfl, rfl, rfl⟩ (Nat.le_succ _) hH (by rw [List.take_append, List.take_of_length_le (Nat.le_succ _)]; simp) (.refl _) (by rw [okV]; exact ⟨Nat.lt_succ_self _, okE_mono (Nat.le_refl _) (Nat.le_succ _) hok⟩) hokH
end
theorem okE_map {jb jv : Nat} {α : Type} (f : α → List CV) (l : List α) (h : ∀ a, okL jb jv (f a)) : okE jb jv (l.map f) := by
  rw [okE_iff]
  intro e he c hc
  obtain ⟨a, _, rfl⟩ := List.mem_map.1 he
  exact okL_iff.1 (h a) c hc
theorem len_le (l : List CV) (n : Nat) (h : Nat.ble l.length n = true) : l.length ≤ n := Nat.le_of_ble_eq_true h
theorem Le.of_eq {c d : CV} (h : c = d) : Le c d := by subst h; exact .refl c
section
variable {H H' : Hp} {V V' : List Nat} {sz : Nat} {xs ys : List (List CV)}
end
end Go.Proofs.YtpedbpbmnchllaaGreatDoor
