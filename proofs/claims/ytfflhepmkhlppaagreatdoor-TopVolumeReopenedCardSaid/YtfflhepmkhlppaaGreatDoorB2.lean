import Derived.Test.YtfflhepmkhlppaaGreatDoorB1
import Derived.Laws.BytesString
import Derived.Maps.RangeRun
import Derived.TacticsIn
import Derived.Deep.LoopGhost
import Derived.LoopIn
import Derived.Scope
import Derived.RangeFuncLeaves
import Derived.RangeFuncRecord
set_option linter.unusedSimpArgs false
set_option linter.unusedVariables false
set_option linter.unusedSectionVars false
set_option maxRecDepth 8000
set_option maxHeartbeats 4000000
open List (all_append all_cons all_eq_true all_map any_eq_true append_assoc append_nil cons_append contains_iff_mem drop_append_of_le_length drop_drop drop_eq_getElem_cons drop_eq_nil_of_le drop_of_length_le drop_one drop_succ_cons drop_take drop_zero eq_nil_of_length_eq_zero ext_getElem ext_getElem? filter_cons flatMap_append flatMap_cons flatMap_nil flatten_append flatten_cons flatten_nil foldl_append foldl_cons getD_eq_getElem?_getD getElem?_append getElem?_append_left getElem?_append_right getElem?_cons_succ getElem?_cons_zero getElem?_drop getElem?_eq_getElem getElem?_eq_none getElem?_map getElem?_of_mem getElem?_replicate getElem?_set getElem?_set_ne getElem?_set_self getElem?_take getElem?_toArray getElem_drop getElem_map getElem_mem getElem_of_mem getElem_set length_append length_cons length_drop length_eq_zero_iff length_map length_nil length_pos_iff length_range length_replicate length_set length_singleton length_take mapM_cons map_append map_congr_left map_cons map_drop map_map map_nil map_set map_take mem_append mem_append_left mem_cons mem_cons_of_mem mem_cons_self mem_flatten mem_map mem_of_getElem? mem_of_mem_drop mem_of_mem_take mem_range mem_replicate mem_singleton nil_append not_mem_nil prefix_refl range_succ replicate_succ replicate_succ' set_append_left set_append_right set_eq_take_append_cons_drop set_getElem_self set_set size_toArray take_append take_append_drop take_append_of_le_length take_left take_length take_of_length_le take_set_of_le take_succ_cons take_succ_eq_append_getElem take_take take_zero zip_cons_cons)
open Nat (le_refl zero_le)
namespace Go.Proofs.YtfflhepmkhlppaaGreatDoor
open Go.Proofs
section
section
variable {P : Program} {m : Gh} {w : World} {H : Hp} {V : List Nat}
theorem qo (hi : bE m w H V) {t e : TypeId} {sz : Nat} {zs : List Value} (ht : aZ P t = some (e, sz)) (hz' : ck P e = some zs) (k k' : IntKind) (n : Int) (h0 : 0 <= n) (h1 : n <= 1099511627776) :
 ∃ u w' m', (Instr.makeSlice t (.int k 0) (.int k' n)).run P w = .ok u w' /\ bE m' w' H (V ++ [0]) /\ ag m' w' (V ++ [0]) (.sl (.own V.length 0) sz []) u /\ bh m w V m' w' (V ++ [0]) := by
 obtain ⟨i, z, hu, dO, hsz, bY, hb0, hb1, hz, hzs⟩ := ba ht;have hw : IntKind.i64.wrap n = n := IntWalk.i64_in _ ⟨by omega, by omega⟩;have hw0 : IntKind.i64.wrap 0 = 0 := rfl;have hbig : (i.bytes : Int) * n <= 281474976710656 := by
  have h2 : (i.bytes : Int) * n <= 128 * 1099511627776 := by
   have a1 : (i.bytes : Int) * n <= 128 * n := Int.mul_le_mul_of_nonneg_right (by omega) h0;omega
  omega
 obtain ⟨c, hc1, hc2⟩ : ∃ c : Array Value, (Instr.makeSlice t (.int k 0) (.int k' n)).run P w = .ok (.slice (some ⟨w.heap.size, 0, none⟩) 0 n.toNat) (w.alloc (.cells c e)) /\ c.size = n.toNat * sz := by
  refine ⟨((Array.range (n.toNat * sz)).map (fun x => z.cells[x % sz]!)), ?_, by simp⟩;have e1 : ¬ ((281474976710656 : Int) < i.bytes * n) := by omega
  have e2 : ¬ n < 0 := by omega
  by_cases hn : n.toNat * sz = 0
  · simp [Instr.makeSlice, run_underlying hu, asInt, asIntOf, typeInfo, dO, hw, hw0, h0, e1, e2, cW ht, hn, newRow, askRoom]
    congr 2
    apply Array.ext' ; simp
  · simp [Instr.makeSlice, run_underlying hu, asInt, asIntOf, typeInfo, dO, hw, hw0, h0, e1, e2, cW ht, hn, newRow, askRoom, zeroValue, hz, hzs]
 have hp := bC.alloc w (.cells c e);obtain ⟨s1, s2⟩ := lF hi hp 0 (zero_le _);refine ⟨_, _, _, hc1, s1, ?_, s2⟩;rw [ag];refine ⟨some ⟨w.heap.size, 0, none⟩, n.toNat, rfl, zero_le _, ⟨0, by rw [getElem?_append_right (le_refl _), Nat.sub_self]; rfl, le_refl _, fun _ => .inr ⟨w.heap.size, 0, c, e, rfl, ?_, ?_, hp.new, by rw [hc2]; omega⟩⟩, bY, .inl rfl⟩
 · show (m.tip ++ [some w.heap.size])[V.length]? = _
   rw [<- hi.tiplen, getElem?_append_right (le_refl _), Nat.sub_self]; rfl
 · simp
theorem rD (hi : bE m w H V) {t e : TypeId} {sz : Nat} {zs : List Value} (ht : aZ P t = some (e, sz)) (hz' : ck P e = some zs) (k k' : IntKind) (n : Int) (h0 : 0 <= n) (h1 : n <= 1099511627776) :
 ∃ u w' m', (Instr.makeSlice t (.int k n) (.int k' n)).run P w = .ok u w' /\ bE m' w' (H ++ [some ((List.replicate n.toNat (zs.map CV.v)).flatten)]) V /\ ag m' w' V (.bsl H.length 0 n.toNat sz) u /\ bh m w V m' w' V := by
 obtain ⟨i, z, hu, dO, hsz, bY, hb0, hb1, hz, hzs⟩ := ba ht;obtain ⟨i', z', q1, q2, q3, q4⟩ := nh hz';rw [dO] at q1; cases q1;rw [hz] at q2; cases q2;have hw : IntKind.i64.wrap n = n := IntWalk.i64_in _ ⟨by omega, by omega⟩;have hbig : (i.bytes : Int) * n <= 281474976710656 := by
  have h2 : (i.bytes : Int) * n <= 128 * 1099511627776 := by
   have a1 : (i.bytes : Int) * n <= 128 * n := Int.mul_le_mul_of_nonneg_right (by omega) h0;omega
  omega
 obtain ⟨c, hc1, hc2⟩ : ∃ c : Array Value, (Instr.makeSlice t (.int k n) (.int k' n)).run P w = .ok (.slice (some ⟨w.heap.size, 0, none⟩) n.toNat n.toNat) (w.alloc (.cells c e)) /\ c.toList = (List.replicate n.toNat zs).flatten := by
  have aT : ∀ (l : List Value) (j : Nat), l.length = sz -> (List.range (j * sz)).map (fun x => l.toArray[x % sz]!) = (List.replicate j l).flatten := fun l j hl => by
   induction j with
   | zero => simp
   | succ j ih =>
    rw [Nat.succ_mul, List.range_add, map_append, ih, replicate_succ', flatten_append]
    congr 1
    simp only [map_map, flatten_cons, flatten_nil, append_nil];apply ext_getElem (by simp [hl]);intro x h1 h2;simp at h1;simp [Nat.mod_eq_of_lt h1, hl, h1]
  refine ⟨((Array.range (n.toNat * sz)).map (fun x => z.cells[x % sz]!)), ?_, ?_⟩
  · have e1 : ¬ ((281474976710656 : Int) < i.bytes * n) := by omega
    have e2 : ¬ n < 0 := by omega
    by_cases hn : n.toNat * sz = 0
    · simp [Instr.makeSlice, run_underlying hu, asInt, asIntOf, typeInfo, dO, hw, e1, e2, cW ht, hn, newRow, askRoom]
      congr 2
      apply Array.ext' ; simp
    · simp [Instr.makeSlice, run_underlying hu, asInt, asIntOf, typeInfo, dO, hw, e1, e2, cW ht, hn, newRow, askRoom, zeroValue, hz, hzs]
  · rw [<- q3, <- aT z.cells.toList n.toNat (by simpa using hzs)]
    simp
 have hp := bC.alloc w (.cells c e);have hfl : (List.replicate n.toNat (zs.map CV.v)).flatten = ((List.replicate n.toNat zs).flatten).map CV.v := by
  rw [List.map_flatten]; simp
 obtain ⟨s1, s2⟩ := pE (cs := (List.replicate n.toNat (zs.map CV.v)).flatten) hi hp (by rw [hc2, hfl]; exact iY _) (fun u hu => by
  rw [hc2] at hu;obtain ⟨x, hx, hux⟩ := mem_flatten.1 hu;rw [(mem_replicate.1 hx).2] at hux;exact q4 u hux)
 refine ⟨_, _, _, hc1, s1, ?_, s2⟩;rw [ag];exact ⟨_, n.toNat, w.heap.size, rfl, le_refl _, bY, by simp [<- hi.boxlen], .inr rfl, ⟨_, _, _, hp.new⟩⟩
theorem sA : ∀ (bs : List UInt8) (s : ByteArray), (bs.map fun b => (b.toNat : Int)).foldl (fun (r : ByteArray) n => r.push (UInt8.ofNat n.toNat)) s = ⟨s.data ++ bs.toArray⟩
 | [], s => by simp
 | b :: bs, s => by
  rw [map_cons, foldl_cons, sA bs];have : UInt8.ofNat ((b.toNat : Int)).toNat = b := by simp
  rw [this];simp [ByteArray.push]
theorem xJ (bs : List UInt8) : (bs.map fun b => (b.toNat : Int)).foldl (fun (r : ByteArray) n => r.push (UInt8.ofNat n.toNat)) ByteArray.empty = ⟨bs.toArray⟩ := by
 rw [sA]; simp [ByteArray.empty, ByteArray.emptyWithCapacity]; rfl
theorem yB : ∀ (bs : List UInt8) {us : List Value}, av m w V (bs.map u8).flatten us -> us = bs.map fun b => Value.int .u8 (b.toNat : Int)
 | [], us, h => by rw [map_nil, flatten_nil, av] at h; rw [h]; rfl
 | b :: bs, us, h => by
  rw [map_cons, flatten_cons] at h;simp only [u8, List.singleton_append] at h;rw [av] at h;obtain ⟨u, r, rfl, h1, h2⟩ := h;rw [ag] at h1;rw [h1, yB bs h2]; rfl
theorem xL (ro : Option Nat) (m : Machine) : m.fenced P (g8 ro) := by
 cases ro with
 | none => exact fenced_wide P m
 | some l => exact (fenced_inRound P Fence.wide l) ▸ fenced_wide P m
theorem od {ro : Option Nat} {m m' : Machine} : StepsIn (Machine.fenced P (g8 ro)) P m m' ↔ Steps P m m' :=
 ⟨StepsIn.steps, fun h => (StepsIn.of_steps h).mono fun m _ => xL ro m⟩
theorem iD {ro : Option Nat} {m m' : Machine} {e : Ending} : ComesIn (Machine.fenced P (g8 ro)) P m m' e ↔ Comes P m m' e := by
 cases e with
 | returned v => exact od
 | panicked chain => exact od
 | outgrown => exact Iff.rfl
theorem uK (ro : Option Nat) (n : Nat) : (g8 ro).room n := fun _ h => by cases h
theorem iG {ro : Option Nat} {n : Nat} {f : FuncId} {args : Array Value} {w : World} {R : Ending -> World -> Prop} : CallsIn (g8 ro) n P f args w R ↔ Calls P f args w R :=
 ⟨fun h cs => let ⟨e, w', fr, r, s, x⟩ := h.2 cs (uK ro _); ⟨e, w', fr, r, iD.1 s, x⟩,
  fun h => ⟨trivial, fun cs _ => let ⟨e, w', fr, r, s, x⟩ := h cs; ⟨e, w', fr, r, iD.2 s, x⟩⟩⟩
theorem uJ {ro : Option Nat} {n n' l : Nat} {f : FuncId} {tmps : Array Value} {as bd : Code} {w : World} {R : Ending -> World -> Prop} : RoundIn (g8 ro) n P l f tmps as bd w R ↔ RoundIn Fence.wide n' P l f tmps as bd w R := by
 constructor
 · exact fun h => ⟨trivial, fun c cs _ => let ⟨e, w', r, s⟩ := h.2 c cs (uK ro _); ⟨e, w', r, comesIn_wide.2 (iD.1 s)⟩⟩
 · exact fun h => ⟨trivial, fun c cs _ => let ⟨e, w', r, s⟩ := h.2 c cs (room_wide _); ⟨e, w', r, iD.2 (comesIn_wide.1 s)⟩⟩
theorem KK {ρ : Operand -> Value} {o : Oper} {c : Call} {x y : Operand} {k : IntKind} {a1 b1 : Int} (ho : o.op = .call c) (hcal : c.callee = .builtin .min) (h2 : c.args = #[x, y]) (hx : ρ x = .int k a1) (hy : ρ y = .int k b1) :
 (execOp ρ o).run P w = .ok (.value (.int k (min a1 b1))) w := by
 have e : (if b1 < a1 then b1 else a1) = min a1 b1 := by
  rw [Int.min_def]; split <;> split <;> omega
 simp [execOp, ho, resolve, hcal, h2, invoke, builtin, hx, hy, Builtin.min_, Builtin.min2]
 simpa using e
theorem KL {ρ : Operand -> Value} {o : Oper} {c : Call} {x y : Operand} {k : IntKind} {a1 b1 : Int} (ho : o.op = .call c) (hcal : c.callee = .builtin .max) (h2 : c.args = #[x, y]) (hx : ρ x = .int k a1) (hy : ρ y = .int k b1) :
 (execOp ρ o).run P w = .ok (.value (.int k (max a1 b1))) w := by
 have e : (if b1 > a1 then b1 else a1) = max a1 b1 := by
  rw [Int.max_def]; split <;> split <;> omega
 simp [execOp, ho, resolve, hcal, h2, invoke, builtin, hx, hy, Builtin.max_, Builtin.max2]
 simpa using e
theorem C6 {t tx ty : TypeId} (hi : bE m w H V) {x y : CV} {u uy : Value} (hx : ag m w V x u) (hy : ag m w V y uy) {K : CV -> Hp -> List Nat -> Prop} (h : lw P t tx x y H V K) :
 ∃ u' w' c H' V', (Builtin.copy_ #[t, tx] ty #[u, uy]).run P w = .ok u' w' /\ K c H' V' /\ bE m w' H' V' /\ ag m w' V' c u' /\ bh m w V m w' V' := by
 obtain ⟨e, sz, ht, htx, h⟩ := h;obtain ⟨ex, szx, htx⟩ := EO htx;obtain ⟨i, z, hu, dO, hsz, bY, hb0, hb1, hz, hzs⟩ := ba ht;obtain ⟨ys, news, hK, oF, hnews, aT⟩ := mT htx bY hi hy h;clear h;subst hsz;have hnl := oF.newsLen
 split at hK
 · rename_i b o n sz'
   obtain ⟨rfl, hn, cs, hb, hone, hfit, hk⟩ := hK;rw [ag] at hx;obtain ⟨base, cap, k, rfl, h1, h2, hbk, h3, hrow⟩ := hx;obtain ⟨c, ec, g2, g3, g4, g5⟩ := hi.alive hb hbk hrow;have hfl : ys.flatten.length = ys.length * i.size := by rw [<- aG hnews]; exact hnl
   obtain ⟨s1, s2⟩ := jF (us := news) (o := o) hi hb hbk g2 hnews oF.one (by rw [hfl]; exact hfit);rw [hfl] at s1;have hst := run_storeCells_at P k o ec news 0 c w g2 (by rw [hnl]; omega) oF.one;simp only [Nat.add_zero] at hst;refine ⟨.int .i64 ys.length, _, _, _, _, ?_, hk, s1, by rw [ag], s2⟩;have hm : min ys.length n = ys.length := Nat.min_eq_left hn;rcases h3 with rfl | rfl
   · have hy0 : ys = [] := length_eq_zero_iff.1 (by omega)
     subst hy0;have hnews0 : news = [] := by rw [<- length_eq_zero_iff, hnl]; simp
     subst hnews0;have hse := setRow_self w k c ec (0, 0) g2;have hcells : (Builtin.firstCells i.size 0 uy).run P w = .ok (#[] : Array Value) w := oF.cells;have hlen0 := oF.len w;simp only [length_nil] at hlen0
     cases base <;> simp [Builtin.copy_, run_underlying hu, sizeOf, typeInfo, dO, hlen0, hcells, storeCells, hse, goInt]
   · simp [Builtin.copy_, run_underlying hu, sizeOf, typeInfo, dO, oF.len, hm, oF.cells, hst, goInt]
 · exact hK.elim
theorem nH {t : TypeId} {z : Value} (h : nJ P t = some z) : ∃ k e i, P.underlying t = some (.map k e) /\ P.underlying k = some (.int .i64) /\ P.info? e = some i /\ i.zero = some z /\ z.oneCell' = true := by
 unfold nJ at h
 split at h
 · rename_i k e hu
   split at h
   · rename_i z' hk hz
     split at h
     · cases h
       obtain ⟨i, hi, hz⟩ := Option.bind_eq_some_iff.1 hz;exact ⟨k, e, i, hu, hk, hi, hz, by assumption⟩
     · cases h
   · cases h
 · cases h
theorem qn {t : TypeId} (h : (nJ P t).isSome = true) : ∃ z, nJ P t = some z := Option.isSome_iff_exists.1 h
theorem qH {n : Int} : ∀ {es : List MapEntry} {ks : List Int} (j : Nat), es.length = ks.length -> (∀ (i : Nat) e, es[i]? = some e -> ∃ n, ks[i]? = some n /\ e.key = .int .i64 n) →
 Instr.findNow (.int .i64) (.int .i64 n) es j = some ((ks.findIdx? (· == n)).bind fun i => (es[i]?).map fun e => (i + j, e.val))
 | [], [], j, _, _ => by simp [Instr.findNow]
 | e :: es, k :: ks, j, hl, h => by
  obtain ⟨n', h1, h2⟩ := h 0 e rfl;simp at h1; subst h1;have ih := qH (n := n) (es := es) (ks := ks) (j + 1) (by simpa using hl) fun i e he => by simpa using h (i + 1) e (by simpa using he)
  rw [Instr.findNow, h2]
  by_cases hk : n = k
  · subst hk; simp [Instr.sameNow, List.findIdx?_cons]
  · have hk' : ¬ k = n := fun e => hk e.symm
    simp only [Instr.sameNow, if_true, beq_eq_false_iff_ne.2 hk, ih, List.findIdx?_cons, beq_eq_false_iff_ne.2 hk']
    cases ks.findIdx? (· == n) with
    | none => simp
    | some i => simp only [Option.bind_some, Option.map_some, Bool.false_eq_true, ↓reduceIte, getElem?_cons_succ]; congr 2; funext e; congr 1; omega
 | [], _ :: _, _, hl, _ => by simp at hl
 | _ :: _, [], _, hl, _ => by simp at hl
theorem ov {k : TypeId} (hk : P.underlying k = some (.int .i64)) {n : Int} {es : Array MapEntry} {ks : List Int} (hl : es.size = ks.length) (h : ∀ (i : Nat) e, es[i]? = some e -> ∃ n, ks[i]? = some n /\ e.key = .int .i64 n) :
 (Instr.findKey k (.int .i64 n) es.toList).run P w = .ok ((ka ks n).bind fun i => (es[i]?).map fun e => (i, e.val)) w := by
 have := qH (n := n) (es := es.toList) (ks := ks) 0 (by simpa using hl) (fun i e he => h i e (by simpa using he));simp [Instr.findKey, run_underlying hk, this, ka]
theorem mW {k : TypeId} (hk : P.underlying k = some (.int .i64)) (b : Bool) (n : Int) : (Instr.checkKey b 10000 k (.int .i64 n)).run P w = .ok () w := by
 rw [show (10000 : Nat) = 9999 + 1 from rfl, Instr.checkKey];simp [run_underlying hk]
theorem mH {ks : List Int} {n : Int} {i : Nat} (h : ka ks n = some i) : i < ks.length /\ ks[i]? = some n := by
 unfold ka at h;obtain ⟨h1, h2, _⟩ := List.findIdx?_eq_some_iff_getElem.1 h;exact ⟨h1, by rw [getElem?_eq_getElem h1]; simpa using h2⟩
theorem mF (hi : bE m w H V) {b k : Nat} {ks : List Int} {vs : List CV} (hb : H[b]? = some (some [.objm ks vs])) (hk : m.box[b]? = some k) :
 ∃ (es : Array MapEntry), w.heap[k]? = some (.map es es.size) /\ es.size = ks.length /\ vs.length = ks.length ∧
  ∀ (i : Nat) e, es[i]? = some e -> e.born = i /\ (∃ n, ks[i]? = some n /\ e.key = .int .i64 n) /\ ∃ c, vs[i]? = some c /\ ag m w V c e.val := by
 cases hi.live b _ hb with
 | row k' c0 e0 g1 g2 g3 g4 g5 =>
  obtain ⟨u, _, q, _⟩ := cH g5 0 _ rfl;rw [ag] at q; exact q.elim
 | obj k' x' g1 g2 g3 => rw [hk] at g1; cases g1; cases g2; exact g3
theorem sg (hi : bE m w H V) {q r b n : Nat} {seen : List Nat} (hq : H[q]? = some (some [.obji b n seen])) (hr : m.box[q]? = some r) :
 ∃ km st, m.box[b]? = some km /\ w.heap[r]? = some (.mapIter (some km) n seen.toArray st) /\ st = n := by
 cases hi.live q _ hq with
 | row k' c0 e0 g1 g2 g3 g4 g5 =>
  obtain ⟨u, _, q, _⟩ := cH g5 0 _ rfl;rw [ag] at q; exact q.elim
 | obj k' x' g1 g2 g3 => rw [hr] at g1; cases g1; cases g2; exact g3
abbrev AP (w : World) (r : Nat) (o : Obj) : World := { w with heap := w.heap.setIfInBounds r o }
/-- EVERY OPERATION RUNS AS 'cop' SAYS. -/
theorem nX {ro : Option Nat} {o : Oper} {a : Act} {K : CV -> Hp -> List Nat -> Prop} {Kw : Act -> World -> Prop} {Q : Exit -> Act -> World -> Prop} {ev : Operand -> CV} (hi : bE m w H V) (hev : ∀ x, ag m w V (ev x) (a.eval x)) (h : cx P ev H V K o.op)
 (hK : ∀ c H' V' u m' w', K c H' V' -> bE m' w' H' V' -> ag m' w' V' c u -> bh m w V m' w' V' -> Kw (a.put o.dst u) w') : o.wpIn (g8 ro) 0 P a w Kw Q := by
 have hnd : ∀ c, o.op ≠ .defer c := fun c e => by rw [e] at h; exact h
 have pure1 : ∀ c u, (execOp a.eval o).run P w = .ok (.value u) w -> ag m w V c u -> K c H V -> o.wpIn (g8 ro) 0 P a w Kw Q := fun c u hr hc hk => dL hnd hr (hK c H V u m w hk hi hc (bh.refl m w V))
 cases ho : o.op with
 | move x => rw [ho] at h; exact pure1 _ _ (by simp [execOp, ho]) (hev x) h
 | assign x => rw [ho] at h; exact pure1 _ _ (by simp [execOp, ho]) (hev x) h
 | pick c x y =>
  rw [ho] at h;simp only [cx] at h
  split at h
  · rename_i t hc
    have h1 := hev c;rw [hc, ag] at h1
    cases t with
    | true => exact pure1 _ _ (by simp [execOp, ho, h1, asBool]) (hev x) h
    | false => exact pure1 _ _ (by simp [execOp, ho, h1, asBool]) (hev y) h
  · exact h.elim
 | alloc e =>
  rw [ho] at h;obtain ⟨zs, hz, h⟩ := h;obtain ⟨i, z, q1, q2, q3, q4⟩ := nh hz;have hp := bC.alloc w (.cells z.cells e);obtain ⟨s1, s2⟩ := pE hi hp (by rw [q3]; exact iY zs) (by rw [q3]; exact q4);refine dL hnd (u := .pointer (some ⟨w.heap.size, 0, none⟩)) (w' := w.alloc (.cells z.cells e)) (by simp [execOp, ho, Instr.alloc, zeroValue, typeInfo, q1, q2, newVar, newRow]) (hK _ _ _ _ _ _ h s1 ?_ s2);rw [ag]; exact ⟨w.heap.size, by simp [<- hi.boxlen], rfl, ⟨_, _, _, hp.new⟩⟩
 | box e x =>
  rw [ho] at h;obtain ⟨h1, h⟩ := h;have hr := ag.cells (hev x) h1;have hp := bC.alloc w (.cells (a.eval x).cells e);obtain ⟨s1, s2⟩ := pE hi hp hr (iy hr h1);refine dL hnd (u := .pointer (some ⟨w.heap.size, 0, none⟩)) (w' := w.alloc (.cells (a.eval x).cells e)) (by simp [execOp, ho, Instr.box, newVar, newRow]) (hK _ _ _ _ _ _ h s1 ?_ s2);rw [ag]; exact ⟨w.heap.size, by simp [<- hi.boxlen], rfl, ⟨_, _, _, hp.new⟩⟩
 | load t x =>
  rw [ho] at h;obtain ⟨g, n, ht, h⟩ := h;have hx := hev x
  split at h
  · rename_i b o' he
    obtain ⟨cs, hb, h⟩ := h;rw [he, ag] at hx;obtain ⟨k, hk, hu, hrow⟩ := hx;obtain ⟨c, e, g2, g3, g4, g5⟩ := hi.alive hb hk hrow;obtain ⟨c', u, r1, r2, r3⟩ := xr (P := P) ht g5 h;rw [Nat.zero_add] at r1;exact pure1 c' u (by simp [execOp, ho, Instr.loadAt, hu, Instr.sureAddr, r1]) r2 r3
  · rename_i cs o' he
    rw [he, ag] at hx;obtain ⟨k, a', hu, h1, h2⟩ := hx;obtain ⟨c', u, r1, r2, r3⟩ := xr (P := P) ht h2 h;exact pure1 c' u (by simp [execOp, ho, Instr.loadAt, hu, Instr.sureAddr, r1]) r2 r3
  · exact h.elim
 | store t x y =>
  rw [ho] at h;obtain ⟨g, n, ht, h⟩ := h;have hx := hev x
  split at h
  · rename_i b o' he
    obtain ⟨cs, hb, h1, h2, h3, h⟩ := h;rw [he, ag] at hx;obtain ⟨k, hk, hu, hrow⟩ := hx;obtain ⟨c, e, g2, g3, g4, g5⟩ := hi.alive hb hk hrow;have hr := ag.cells (hev y) h1;have hl := aG hr;have hone := iy hr h1;obtain ⟨s1, s2⟩ := jF hi hb hk g2 hr hone (by rw [h2]; exact h3);have hst := run_storeCells_at P k o' e (a.eval y).cells.toList 0 c w g2 (by rw [hl, h2]; omega) hone;simp only [Nat.add_zero] at hst;rw [h2] at s1;refine sZ hnd (w' := w.setRow k (c.toList.take o' ++ (a.eval y).cells.toList ++ c.toList.drop (o' + (a.eval y).cells.toList.length)).toArray) ?_ (hK _ _ _ _ _ _ h s1 (by rw [ag]; trivial) s2);have hsz : (a.eval y).cells.size = n := by simpa [h2] using hl
    simp [execOp, ho, Instr.storeAt, hu, Instr.sureAddr, storeVar, dS ht, hsz]
    simpa [hsz] using congrArg (fun r => Result.andThen r fun _ w' => Result.ok Next.skip w') hst
  · exact h.elim
 | nilCheck x =>
  rw [ho] at h;have hx := hev x;simp only [cx] at h
  split at h
  · rename_i b o' he
    have hx' := hx;rw [he, ag] at hx';obtain ⟨k, hk, hu, _⟩ := hx';exact pure1 _ _ (by simp [execOp, ho, hu]; rfl) (by rw [he, hu] at hx; exact hx) h
  · rename_i cs o' he
    have hx' := hx;rw [he, ag] at hx';obtain ⟨k, a', hu, _⟩ := hx';exact pure1 _ _ (by simp [execOp, ho, hu]; rfl) (by rw [he, hu] at hx; exact hx) h
  · rename_i f caps he
    have hx' := hx;rw [he, ag] at hx';obtain ⟨us, hu, _⟩ := hx';exact pure1 _ _ (by simp [execOp, ho, hu]; rfl) (by rw [he, hu] at hx; exact hx) h
  · rename_i f caps he
    have hx' := hx;rw [he, ag] at hx';obtain ⟨us, hu, _⟩ := hx';exact pure1 _ _ (by simp [execOp, ho, hu]; rfl) (by rw [he, hu] at hx; exact hx) h
  · rename_i b he
    have hx' := hx;rw [he, ag] at hx';obtain ⟨k, _, hu⟩ := hx';exact pure1 _ _ (by simp [execOp, ho, hu]; rfl) (by rw [he, hu] at hx; exact hx) h
  · exact h.elim
 | binOp op t x y ty =>
  rw [ho] at h;obtain ⟨c, r, h1, h2, h3⟩ := HW (P := P) (ox := x) (oy := y) (hev x) (hev y) h;exact pure1 c r (by
   simp only [execOp, ho];simp only [Sem.run_bind] at h1 ⊢;rw [h1]; rfl) h2 h3
 | unOp op t x =>
  rw [ho] at h;have h : wG op (ev x) (fun c => K c H V) := h;obtain ⟨c, r, h1, h2, h3⟩ := MF (P := P) (hev x) h;exact pure1 c r (by simp [execOp, ho, h1]) h2 h3
 | convert s d x =>
  rw [ho] at h;obtain ⟨k, hk, h⟩ := h;have hx := hev x;unfold mS at hk
  split at hk
  · rename_i kd hd
    cases hs : P.underlying s with
    | none => simp [hs] at hk
    | some ds =>
     simp [hs] at hk; subst hk
     split at h
     · rename_i k1 k2 n hk1 he
       cases hk1
       rw [he, ag] at hx;refine pure1 _ (.int kd (kd.wrap n)) ?_ (by rw [ag]) h;simp [execOp, ho, hx, convert, run_underlying hs, run_underlying hd, Conv.intToInt]
     all_goals first | (rename_i hk1 _; cases hk1; done) | exact h.elim
  · rename_i hd
    split at hk
    · rename_i e hs
      split at hk
      · rename_i he8
        cases hk
        split at h
        · rename_i hk1 _; cases hk1
        · rename_i tk sz xs _ he
          obtain ⟨bs, rfl, h⟩ := h;rw [he, ag] at hx;obtain ⟨base, cap, hu, h1, h2, h3, h4⟩ := hx;refine pure1 _ (.string ⟨bs.toArray⟩) ?_ (by rw [ag]) h;simp only [execOp, ho, Sem.run_bind, hu]
          cases base with
          | none =>
           rcases h4 with h4 | ⟨_, _, hb, _⟩
           · have : bs = [] := by simpa using h4
             subst this;simp [convert, run_underlying hs, run_underlying hd, run_underlying he8, Conv.bytesToString]; rfl
           · cases hb
          | some ad =>
           have hl : (loadCells ad (bs.map u8).length).run P w = .ok ((bs.map fun b => (b.toNat : Int)).map (Value.int .u8)).toArray w := by
            rcases h4 with h4 | ⟨k, o, hb, h5, h6⟩
            · have : bs = [] := by simpa using h4
              subst this;simp [loadCells, loadCellsFrom]
            · cases hb
              obtain ⟨g1, g2⟩ := iZ h6;obtain ⟨us, q1, q2, q3⟩ := fE g1;have hus := yB bs q1;have aT : us.length = (bs.map u8).length := by rw [hus]; simp
              rw [<- aT];have := run_loadCells_list (P := P) w ⟨k, o, none⟩ us (fun j v hv => by rw [bV]; exact q2 j v hv);rw [this, hus]; simp [Function.comp_def]
           rw [run_convert_bytes_string w s d e ad _ cap hs he8 hd, run_bytesToString w ad _ cap _ hl, xJ];rfl
        · rename_i _ he
          rw [he, ag] at hx;refine pure1 _ (.string .empty) ?_ (by rw [ag]) h;simp [execOp, ho, hx, convert, run_underlying hs, run_underlying hd, run_underlying he8, Conv.bytesToString]
        · exact h.elim
      · cases hk
    · cases hk
  · cases hk
 | sliceToArrayPointer t x =>
  rw [ho] at h;obtain ⟨n, g, sz, ht, h⟩ := h
  split at h
  · rename_i tk sz' xs he
    obtain ⟨rfl, hn, h⟩ := h;have hx := hev x;rw [he, ag] at hx;obtain ⟨base, cap, hu, h1, h2, h3, h4⟩ := hx;obtain ⟨e, hue, hl, _, hn1⟩ := jA ht;rcases h4 with rfl | ⟨k, o', rfl, h5, h6⟩
    · simp at hn; omega
    · obtain ⟨q1, q2⟩ := iZ (rY h6 n)
      refine pure1 _ (.pointer (some ⟨k, o', none⟩)) ?_ ?_ h
      · simp [execOp, ho, hu, Instr.arrayAt, run_underlying hue]
        intro hlt; omega
      · rw [ag]
        refine ⟨k, o', rfl, ?_, q1⟩;rw [q2];refine Nat.le_trans (Nat.add_le_add_left (Nat.mul_le_mul_right _ ?_) _) h5
        simp; omega
  · exact h.elim
 | makeFunc fn first captured =>
  rw [ho] at h;simp only [cx] at h
  split at h
  · rename_i f hf
    have hfirst : first = #[] := by simpa using hf
    subst hfirst;refine pure1 _ (.func (.func f) #[] (captured.map a.eval)) (by simp [execOp, ho, Instr.makeFunc]) ?_ h;rw [ag];exact ⟨captured.toList.map a.eval, by simp [<- Array.toList_map], fW hev _⟩
  · rename_i f hf _
    have hcap : captured = #[] := by simpa using hf
    subst hcap;refine pure1 _ (.func (.func f) (first.map a.eval) #[]) (by simp [execOp, ho, Instr.makeFunc]) ?_ h;rw [ag];exact ⟨first.toList.map a.eval, by simp [<- Array.toList_map], fW hev _⟩
  · exact h.elim
 | makeSlice t l c =>
  rw [ho] at h;obtain ⟨e, sz, ht, zs, hz, h⟩ := h
  split at h
  · rename_i hZ
    split at h
    · rename_i k' n' hc
      obtain ⟨h0, h1, h⟩ := h;have ec := hev c;rw [hc, ag] at ec;obtain ⟨k, rfl⟩ : ∃ k, l = .const (.int k 0) := by
       unfold isZ at hZ
       split at hZ
       · rename_i k n
         obtain rfl : n = 0 := by simpa using hZ
         exact ⟨k, rfl⟩
       · cases hZ
      obtain ⟨u, w', m', r1, r2, r3, r4⟩ := qo (P := P) hi ht hz k k' n' h0 h1;have el : a.eval (.const (.int k 0)) = .int k 0 := rfl;exact dL hnd (u := u) (w' := w') (by simp [execOp, ho, el, ec, r1]) (hK _ _ _ _ _ _ h r2 r3 r4)
    · exact h.elim
  · split at h
    · rename_i k n k' n' hl hc
      obtain ⟨rfl, h0, h1, h⟩ := h;have el := hev l;have ec := hev c;rw [hl, ag] at el;rw [hc, ag] at ec;obtain ⟨u, w', m', r1, r2, r3, r4⟩ := rD (P := P) hi ht hz k k' n h0 h1;exact dL hnd (u := u) (w' := w') (by simp [execOp, ho, el, ec, r1]) (hK _ _ _ _ _ _ h r2 r3 r4)
    · exact h.elim
 | slice t x lo hi' mx =>
  rw [ho] at h;have h : cY P t (ev x) (lo.map ev) (hi'.map ev) (mx.map ev) (fun c => K c H V) := h;obtain ⟨c, r, h1, h2, h3⟩ := xS (P := P) (hev x) hev h;exact pure1 c r (by simp [execOp, ho, h1]) h2 h3
 | fieldAddr s x f =>
  rw [ho] at h;obtain ⟨o', g, n, ht, h⟩ := h;have hx := hev x
  split at h
  · rename_i b o2 he
    rw [he, ag] at hx;obtain ⟨k, hk, hu, hrow⟩ := hx;exact pure1 _ _ (by simp [execOp, ho, hu, oz ht]; rfl) (by rw [ag]; exact ⟨k, hk, rfl, hrow⟩) h
  · rename_i cs o2 he
    rw [he, ag] at hx;obtain ⟨k, a', hu, h1, h2⟩ := hx;exact pure1 _ _ (by simp [execOp, ho, hu, oz ht]; rfl) (by rw [ag]; exact ⟨k, a', by rw [Nat.add_assoc], h1, h2⟩) h
  · exact h.elim
 | field s x f =>
  rw [ho] at h;obtain ⟨o', g, n, ht, h⟩ := h;have hx := hev x
  split at h
  · rename_i cs he
    rw [he, ag] at hx;obtain ⟨us, hu, hr⟩ := hx;obtain ⟨c, r, h1, h2, h3⟩ := CS (P := P) ht hr h;exact pure1 c r (by simp [execOp, ho, hu, h1]) h2 h3
  · exact h.elim
 | indexAddr t x i =>
  rw [ho] at h;have h : ju P t (ev x) (ev i) (fun c => K c H V) := h;obtain ⟨c, r, h1, h2, h3⟩ := HT (P := P) (hev x) (hev i) h;exact pure1 c r (by simp [execOp, ho, h1]) h2 h3
 | index t x i =>
  rw [ho] at h;have h : eJ P t (ev x) (ev i) (fun c => K c H V) := h;unfold eJ at h;have ex := hev x;have ej := hev i
  split at h
  · rename_i cs k j hx hj
    obtain ⟨len, g, n, ht, h0, h1, h⟩ := h;obtain ⟨e, hu, hl, _⟩ := jA ht;rw [hx, ag] at ex;rw [hj, ag] at ej;obtain ⟨us, eu, hr⟩ := ex;obtain ⟨c, r, r1, r2, r3⟩ := uW (P := P) hl hr h;exact pure1 c r (by simp [execOp, ho, eu, ej, Instr.index, asIntOf, run_underlying hu, h0, h1, dS hl, r1]) r2 r3
  · rename_i s k j hx hj
    obtain ⟨hu, h0, h1, h⟩ := h;rw [hx, ag] at ex;rw [hj, ag] at ej;exact pure1 _ (.int .u8 (s[j.toNat].toNat : Int)) (by simp [execOp, ho, ex, ej, Instr.index, asIntOf, run_underlying hu, h0, h1]) (by rw [ag]) h
  · exact h.elim
 | extract x i =>
  rw [ho] at h;simp only [cx] at h
  split at h
  · rename_i cs hx
    obtain ⟨h1, h⟩ := h;have ex := hev x;rw [hx, ag] at ex;obtain ⟨us, eu, hr⟩ := ex;obtain ⟨u, q1, q2⟩ := dn hr i cs[i] (getElem?_eq_getElem h1);exact pure1 _ u (by simp [execOp, ho, eu, Instr.extract, q1]) q2 h
  · exact h.elim
 | build t parts =>
  rw [ho] at h;obtain ⟨ps, zs, cs, ht, hf, h⟩ := h;obtain ⟨u, r1, r2⟩ := DA (P := P) ht hev hf;exact pure1 _ u (by simp [execOp, ho, r1]) r2 h
 | buildSlice t len parts =>
  rw [ho] at h;obtain ⟨e, sz, ht, h1, h2, h3, h⟩ := h;obtain ⟨u, w', m', r1, r2, r3, r4⟩ := qU (P := P) hi ht hev h1 h2 h3;exact dL hnd (u := u) (w' := w') (by simp [execOp, ho, r1]) (hK _ _ _ _ _ _ h r2 r3 r4)
 | call c =>
  rw [ho] at h;simp only [cx] at h
  split at h
  · rename_i f hcal
    have enter : ∀ (g : Nat) (args : List CV) (us : List Value), (execOp a.eval o).run P w = .ok (.enter g us.toArray) w -> CC P g args H V K -> av m w V args us -> o.wpIn (g8 ro) 0 P a w Kw Q := fun g args us iF hcc hr => by
     refine ⟨fun _ _ => trivial, ?_⟩;rw [Oper.semAt_eq _ _ _ hnd, iF];refine ⟨fun h => (by cases h), ?_⟩;have := Calls.mono (hcc.2 m w us hi hr) (R' := fun
      | .returned v, w'' => Kw (a.put o.dst v) w''
      | .panicked chain, w'' => Q (.panic chain) a w''
      | .outgrown, _ => LetsOut Q) fun e w' ⟨u, m', r, H', V', h1, h2, h3, h4, h5⟩ => by
       subst h1;exact hK _ _ _ _ _ _ h2 h3 h4 h5
     exact iG.2 this
    split at h
    · rename_i g caps hf
      have ef := hev f;rw [hf, ag] at ef;obtain ⟨us, eu, hr⟩ := ef;obtain ⟨⟨fn, f1, f2, f3⟩, hc⟩ := h;have hargs := cf (fW hev c.args.toList) hr;have fm := hc m w _ hi hargs;have iF : (execOp a.eval o).run P w = .ok (.enter g (c.args.toList.map a.eval ++ us).toArray) w := by
       have hb : ¬ fn.body = none := by cases hbb : fn.body <;> simp_all
       have f3' : ¬ fn.name = "runtime.NumGoroutine" := by simpa using f3
       have hfa : c.args.map a.eval ++ us.toArray = (c.args.toList.map a.eval ++ us).toArray := by
        rw [<- Array.toList_map]; simp
       simp [execOp, ho, resolve, hcal, eu, Deferred.ofValue, invoke, callFunc, f1, f3', hb, hfa]
      exact enter g _ _ iF ⟨⟨fn, f1, f2, f3⟩, hc⟩ hargs
    · rename_i g first hf
      have ef := hev f;rw [hf, ag] at ef;obtain ⟨us, eu, hr⟩ := ef;obtain ⟨⟨fn, f1, f2, f3⟩, hc⟩ := h;have hargs := cf hr (fW hev c.args.toList);have iF : (execOp a.eval o).run P w = .ok (.enter g (us ++ c.args.toList.map a.eval).toArray) w := by
       have hb : ¬ fn.body = none := by cases hbb : fn.body <;> simp_all
       have f3' : ¬ fn.name = "runtime.NumGoroutine" := by simpa using f3
       have hfa : us.toArray ++ c.args.map a.eval = (us ++ c.args.toList.map a.eval).toArray := by
        rw [<- Array.toList_map]; simp
       simp [execOp, ho, resolve, hcal, eu, Deferred.ofValue, invoke, callFunc, f1, f3', hb, hfa]
      exact enter g _ _ iF ⟨⟨fn, f1, f2, f3⟩, hc⟩ hargs
    · rename_i b hf
      have ef := hev f;rw [hf, ag] at ef;obtain ⟨k, hbk, eu⟩ := ef;obtain ⟨fn, tmps, as, bd, hy, hround⟩ := h m w _ k hi (fW hev c.args.toList) hbk;have iF : (execOp a.eval o).run P w = .ok (.round k fn tmps as bd) w := by
       have hfa : c.args.map a.eval = (c.args.toList.map a.eval).toArray := by
        rw [<- Array.toList_map]
       simp [execOp, ho, resolve, hcal, eu, Deferred.ofValue, invoke, hfa, hy]
      refine ⟨fun _ _ => trivial, ?_⟩;rw [Oper.semAt_eq _ _ _ hnd, iF];refine ⟨fun h => (by cases h), ?_⟩;refine RoundIn.mono (uJ.2 hround) fun e w' ⟨t, m', H', V', h1, h2, h3, h4⟩ => ?_;subst h1;exact hK _ _ _ _ _ _ h2 h3 (by rw [ag]) h4
    · exact h.elim
  · rename_i hcal
    obtain ⟨t, tx, x, y, h1, h2, h⟩ := h;obtain ⟨u, w', c', H', V', r1, r2, r3, r4, r5⟩ := C6 (P := P) (ty := o.type) hi (hev x) (hev y) h;exact dL hnd (u := u) (w' := w') (by simp [execOp, ho, resolve, hcal, h1, h2, invoke, builtin, r1]) (hK _ _ _ _ _ _ r2 r3 r4 r5)
  · rename_i hcal
    obtain ⟨x, y, h2, h⟩ := h;have hx := hev x;have hy := hev y;unfold xX at h
    split at h
    · rename_i k a1 k' b1 e1 e2
      obtain ⟨rfl, h⟩ := h;rw [e1, ag] at hx;rw [e2, ag] at hy;refine pure1 _ (.int k (min a1 b1)) ?_ (by rw [ag]) h;exact KK ho hcal h2 hx hy
    · exact h.elim
  · rename_i hcal
    obtain ⟨x, y, h2, h⟩ := h;have hx := hev x;have hy := hev y;unfold xX at h
    split at h
    · rename_i k a1 k' b1 e1 e2
      obtain ⟨rfl, h⟩ := h;rw [e1, ag] at hx;rw [e2, ag] at hy;refine pure1 _ (.int k (max a1 b1)) ?_ (by rw [ag]) h;exact KL ho hcal h2 hx hy
    · exact h.elim
  · rename_i hcal
    obtain ⟨t, x, h1, h2, h⟩ := h;have hx := hev x;have fin : ∀ (n : Int) , (Builtin.len_ #[t] o.type #[a.eval x]).run P w = .ok (.int .i64 n) w -> K (.v (.int .i64 n)) H V -> o.wpIn (g8 ro) 0 P a w Kw Q := fun n hr hk =>
     pure1 _ (.int .i64 n) (by simp [execOp, ho, resolve, hcal, h1, h2, invoke, builtin, hr]) (by rw [ag]) hk
    unfold lm at h
    split at h
    · rename_i tk sz xs he
      obtain ⟨e, sz', ht⟩ := EO h.1;obtain ⟨_, _, hu, _⟩ := ba ht;rw [he, ag] at hx;obtain ⟨base, cap, eu, _⟩ := hx;exact fin _ (by simp [Builtin.len_, run_underlying hu, eu, goInt]) h.2
    · rename_i b o' n sz he
      obtain ⟨e, sz', ht⟩ := EO h.1;obtain ⟨_, _, hu, _⟩ := ba ht;rw [he, ag] at hx;obtain ⟨base, cap, k, eu, _⟩ := hx;exact fin _ (by simp [Builtin.len_, run_underlying hu, eu, goInt]) h.2
    · rename_i b n sz he
      obtain ⟨e, sz', ht⟩ := EO h.1;obtain ⟨_, _, hu, _⟩ := ba ht;rw [he, ag] at hx;obtain ⟨k, cap, c0, e0, eu, _⟩ := hx;exact fin _ (by simp [Builtin.len_, run_underlying hu, eu, goInt]) h.2
    · rename_i he
      obtain ⟨e, sz', ht⟩ := EO h.1;obtain ⟨_, _, hu, _⟩ := ba ht;rw [he, ag] at hx;exact fin _ (by simp [Builtin.len_, run_underlying hu, hx, goInt]) h.2
    · rename_i s he
      rw [he, ag] at hx;exact fin _ (by simp [Builtin.len_, run_underlying h.1, hx, goInt]) h.2
    · exact h.elim
  · rename_i hcal
    obtain ⟨t, tx, x, y, h1, h2, h⟩ := h;obtain ⟨u, w', m', c', H', V', r1, r2, r3, r4, r5⟩ := HX (P := P) (ty := o.type) hi (hev x) (hev y) h;exact dL hnd (u := u) (w' := w') (by simp [execOp, ho, resolve, hcal, h1, h2, invoke, builtin, r1]) (hK _ _ _ _ _ _ r2 r3 r4 r5)
  · exact h.elim
 | makeMap t r =>
  rw [ho] at h;obtain ⟨rfl, _, h⟩ := h;have hp := bC.alloc w (.map #[] 0);obtain ⟨s1, s2⟩ := pD (x := .objm [] []) hi hp (fun _ => ⟨#[], hp.new, rfl, rfl, by simp⟩);refine dL hnd (u := .map (some w.heap.size)) (w' := w.alloc (.map #[] 0)) (by simp [execOp, ho, Instr.makeMap]) (hK _ _ _ _ _ _ h s1 ?_ s2);rw [ag]; exact ⟨w.heap.size, by simp [<- hi.boxlen], rfl⟩
 | lookup t x i ok =>
  rw [ho] at h;obtain ⟨z, hz, rfl, h⟩ := h;obtain ⟨kt, e, inf, hu, hkt, dO, hz0, hz1⟩ := nH hz;have ex := hev x;have ei := hev i
  split at h
  · rename_i b n hx hy
    obtain ⟨ks, vs, hb, h⟩ := h;rw [hx, ag] at ex;rw [hy, ag] at ei;obtain ⟨k, hbk, eu⟩ := ex
    cases hi.live b _ hb with
    | row k' c0 e0 g1 g2 g3 g4 g5 =>
     rw [hbk] at g1; cases g1;obtain ⟨u, _, q, _⟩ := cH g5 0 _ rfl;rw [ag] at q; exact q.elim
    | obj k' x' g1 g2 g3 =>
     rw [hbk] at g1; cases g1
     cases g2
     obtain ⟨es, r1, r2, r3, r4⟩ := g3;have hf := ov (P := P) (w := w) hkt (n := n) r2 fun i e he => (r4 i e he).2.1;have hc := mW (P := P) (w := w) hkt es.toList.isEmpty n;rcases hka : ka ks n with _ | j
     · rw [hka] at hf
       refine pure1 _ z ?_ ?_ h
       · simp [execOp, ho, eu, ei, Instr.lookup, run_underlying hu, getObj, Sem.run, r1, Array.isEmpty_toList] at hc hf ⊢
         simp [hc, hf, zeroValue, typeInfo, dO, hz0]
       · simp only [mD, hka]; rw [ag]
     · rw [hka] at hf
       obtain ⟨hj, _⟩ := mH hka;have hje : es[j]? = some es[j] := Array.getElem?_eq_getElem (by omega);obtain ⟨_, _, c, hc1, hc2⟩ := r4 j _ hje;refine pure1 _ es[j].val ?_ ?_ h
       · simp [execOp, ho, eu, ei, Instr.lookup, run_underlying hu, getObj, Sem.run, r1, Array.isEmpty_toList] at hc hf ⊢
         simp [hc, hf, hje]
       · simp only [mD, hka, hc1, Option.getD_some]; exact hc2
  · exact h.elim
 | mapUpdate t x i y =>
  rw [ho] at h;obtain ⟨hz, hone, h⟩ := h;obtain ⟨z, hz⟩ := qn hz;obtain ⟨kt, e, inf, hu, hkt, dO, hz0, hz1⟩ := nH hz;have ex := hev x;have ei := hev i;have ey := hev y
  split at h
  · rename_i b n hx hy
    obtain ⟨ks, vs, hb, h⟩ := h;rw [hx, ag] at ex;rw [hy, ag] at ei;obtain ⟨k, hbk, eu⟩ := ex;obtain ⟨es, g3⟩ := mF hi hb hbk;obtain ⟨r1, r2, r3, r4⟩ := g3;have hf := ov (P := P) (w := w) hkt (n := n) r2 fun i e he => (r4 i e he).2.1;have hc := mW (P := P) (w := w) hkt false n;rcases hka : ka ks n with _ | j
    · rw [hka] at hf
      have e0 : tC ks vs n (ev y) = .objm (ks ++ [n]) (vs ++ [ev y]) := by simp only [tC, hka]
      rw [e0] at h;obtain ⟨s1, s2⟩ := ir (y := .objm (ks ++ [n]) (vs ++ [ev y])) (o := .map (es.push { key := .int .i64 n, val := a.eval y, born := es.size }) (es.size + 1)) hi hb hbk ⟨es, r1, r2, r3, r4⟩ (by intros; simp) (fun hxx dT => by
       refine ⟨_, by rw [dT, Array.size_push], by simp [r2], by simp [r3], fun i' e' he => ?_⟩;rw [Array.getElem?_push] at he
       split at he
       · rename_i hi'
         cases he
         subst hi';refine ⟨rfl, ⟨n, by rw [r2]; simp, rfl⟩, ev y, by rw [r2, <- r3]; simp, ag.mono hxx _ _ ey⟩
       · obtain ⟨q1, ⟨n', q2, q3⟩, c, q4, q5⟩ := r4 i' e' he
         refine ⟨q1, ⟨n', ?_, q3⟩, c, ?_, ag.mono hxx _ _ q5⟩
         · rw [getElem?_append_left (List.getElem?_eq_some_iff.1 q2).1]; exact q2
         · rw [getElem?_append_left (List.getElem?_eq_some_iff.1 q4).1]; exact q4)
      refine sZ hnd (w' := { w with heap := w.heap.setIfInBounds k (.map (es.push { key := .int .i64 n, val := a.eval y, born := es.size }) (es.size + 1)) }) ?_ (hK _ _ _ _ _ _ h s1 (by rw [ag]; trivial) s2);simp [execOp, ho, eu, ei, Instr.mapUpdate, run_underlying hu, getObj, Sem.run, r1] at hf ⊢;simp [hc, hf, setObj, Sem.run, r1]
    · rw [hka] at hf
      obtain ⟨hj, hjn⟩ := mH hka;have hje : es[j]? = some es[j] := Array.getElem?_eq_getElem (by omega);obtain ⟨_, ⟨n', hn1, hn2⟩, _⟩ := r4 j _ hje;rw [hjn] at hn1; cases hn1;have e0 : tC ks vs n (ev y) = .objm ks (vs.set j (ev y)) := by simp only [tC, hka]
      rw [e0] at h;obtain ⟨s1, s2⟩ := ir (y := .objm ks (vs.set j (ev y))) (o := .map (es.modify j fun e => { e with key := .int .i64 n, val := a.eval y }) es.size) hi hb hbk ⟨es, r1, r2, r3, r4⟩ (by intros; simp) (fun hxx dT => by
       refine ⟨_, by rw [dT, Array.size_modify], by simp [r2], by simp [r3], fun i' e' he => ?_⟩;rw [Array.getElem?_modify] at he
       by_cases hij : j = i'
       · subst hij
         rw [if_pos rfl, hje] at he
         cases he
         obtain ⟨q1, _, _⟩ := r4 j _ hje;exact ⟨q1, ⟨n, hjn, rfl⟩, ev y, by rw [getElem?_set_self (by omega)], ag.mono hxx _ _ ey⟩
       · rw [if_neg hij] at he
         obtain ⟨q1, q2, c, q4, q5⟩ := r4 i' e' he;exact ⟨q1, q2, c, by rw [getElem?_set_ne hij]; exact q4, ag.mono hxx _ _ q5⟩)
      refine sZ hnd (w' := { w with heap := w.heap.setIfInBounds k (.map (es.modify j fun e => { e with key := .int .i64 n, val := a.eval y }) es.size) }) ?_ (hK _ _ _ _ _ _ h s1 (by rw [ag]; trivial) s2);have hst : (Instr.keyThatStays (.int .i64 n) (.int .i64 n)).run P w = .ok (.int .i64 n) w := by
       simp [Instr.keyThatStays, Instr.sameBits]
      simp [execOp, ho, eu, ei, Instr.mapUpdate, run_underlying hu, getObj, Sem.run, r1] at hf ⊢;simp [hc, hf, hje, hn2, hst, setObj, Sem.run, r1]
  · exact h.elim
 | range t x =>
  rw [ho] at h;obtain ⟨hz, h⟩ := h;obtain ⟨z, hz⟩ := qn hz;obtain ⟨kt, e, inf, hu, hkt, dO, hz0, hz1⟩ := nH hz;have ex := hev x
  split at h
  · rename_i b hx
    obtain ⟨ks, vs, hb, h⟩ := h;rw [hx, ag] at ex;obtain ⟨k, hbk, eu⟩ := ex;obtain ⟨es, g3⟩ := mF hi hb hbk;have hp := bC.alloc w (.mapIter (some k) ks.length #[] es.size);obtain ⟨s1, s2⟩ := pD (x := .obji b ks.length []) hi hp (fun hxx => ⟨k, _, hxx.box _ _ hbk, hp.new, g3.2.1⟩);refine dL hnd (u := .pointer (some ⟨w.heap.size, 0, none⟩)) (w' := w.alloc (.mapIter (some k) ks.length #[] es.size)) ?_ (hK _ _ _ _ _ _ h s1 ?_ s2)
    · simp [execOp, ho, eu, Instr.range, run_underlying hu, getObj, Sem.run, g3.1, newObj, g3.2.1]
    · rw [ag]; exact ⟨w.heap.size, by simp [<- hi.boxlen], rfl⟩
  · exact h.elim
 | next x str =>
  rw [ho] at h;obtain ⟨rfl, h⟩ := h;have ex := hev x
  split at h
  · rename_i q hx
    obtain ⟨b, n, seen, ks, vs, hq, hb, rfl, hseen, hend, hstep⟩ := h;rw [hx, ag] at ex;obtain ⟨r, hqr, eu⟩ := ex;obtain ⟨k, hbk⟩ := hi.boxOf hb;obtain ⟨es, g3⟩ := mF hi hb hbk;obtain ⟨r1, r2, r3, r4⟩ := g3;have hit := sg hi hq hqr;obtain ⟨km, st, t1, t2, t3⟩ := hit;rw [hbk] at t1; cases t1;subst t3;have hborn : ∀ (i : Nat) e, es[i]? = some e -> e.born = i := fun i e he => (r4 i e he).1;rcases run_next_at (P := P) w o.type r k ks.length ks.length seen.toArray es es.size t2 r1 (fun x hx => by
     obtain ⟨i, hi1⟩ := getElem?_of_mem hx;rw [Array.getElem?_toList] at hi1;rw [hborn i x hi1, <- r2];exact (Array.getElem?_eq_some_iff.1 hi1).1) (le_refl _) with ⟨h0, iF⟩ | ⟨e, he, w1, hw1, iF⟩
    · refine pure1 _ (.tuple #[.bool false]) (by simp [execOp, ho, eu, iF]) ?_ (hend fun i hi1 => ?_)
      · rw [ag]; exact ⟨[.bool false], rfl, by rw [av]; exact ⟨_, _, rfl, by rw [ag], by rw [av]⟩⟩
      · have hie : es[i]? = some es[i] := Array.getElem?_eq_getElem (by omega)
        have hl : (leftOf es seen.toArray) = #[] := Array.eq_empty_of_size_eq_zero h0;unfold leftOf at hl;rw [Array.filter_eq_empty_iff] at hl;have := hl es[i] (Array.getElem_mem (by omega));rw [hborn i _ hie] at this
        simpa using this
    · unfold leftOf at he
      simp only [Array.toList_filter, List.mem_filter] at he;obtain ⟨he1, he2⟩ := he;obtain ⟨i, hi1⟩ := getElem?_of_mem he1;rw [Array.getElem?_toList] at hi1;have hil : i < ks.length := by rw [<- r2]; exact (Array.getElem?_eq_some_iff.1 hi1).1
      obtain ⟨q1, ⟨n', q2, q3⟩, c, q4, q5⟩ := r4 i e hi1;rw [q1] at he2 iF;have hns : i ∉ seen := by simpa using he2
      have hk := hstep i hil hns;rw [q2, q4] at hk;obtain ⟨d1, d2⟩ : bE m w1 H V /\ bh m w V m w1 V := by
       rcases hw1 with rfl | rfl
       · exact ⟨hi, bh.refl _ _ _⟩
       · exact hi.drew
      have hq1 : j4 m w1 V r (.obji b ks.length seen) := by
       refine ⟨k, ks.length, hbk, ?_, rfl⟩;rcases hw1 with rfl | rfl <;> exact t2
      obtain ⟨s1, s2⟩ := ir (y := .obji b ks.length (seen ++ [i])) (o := .mapIter (some k) ks.length (seen.toArray.push i) es.size) d1 hq hqr hq1 (by intros; simp) (fun hxx dT => ⟨k, _, hbk, by rw [dT]; simp, r2⟩);refine dL hnd (u := .tuple #[.bool true, e.key, e.val]) (w' := AP w1 r (.mapIter (some k) ks.length (seen.toArray.push i) es.size)) (by simp only [execOp, ho, eu]; simp only [Sem.run_bind]; rw [iF]; rfl) (hK _ _ _ _ _ _ hk s1 ?_ (d2.trans s2));rw [ag];refine ⟨[.bool true, e.key, e.val], rfl, ?_⟩;rw [av];refine ⟨_, _, rfl, by rw [ag], ?_⟩;rw [av];refine ⟨_, _, rfl, by rw [ag, q3]; rfl, ?_⟩;rw [av];exact ⟨_, _, rfl, ag.mono (d2.trans s2) _ _ q5, by rw [av]⟩
  · exact h.elim
 | entry x =>
  rw [ho] at h;have ex := hev x;have h : iO (ev x) H (fun c => K c H V) := h;unfold iO at h
  split at h
  · rename_i q hx
    obtain ⟨b, n, seen, i, ks, vs, hq, hb, rfl, hil, hk⟩ := h;rw [hx, ag] at ex;obtain ⟨r, hqr, eu⟩ := ex;obtain ⟨k, hbk⟩ := hi.boxOf hb;obtain ⟨es, g3⟩ := mF hi hb hbk;obtain ⟨r1, r2, r3, r4⟩ := g3;obtain ⟨km, st, t1, t2, t3⟩ := sg hi hq hqr;rw [hbk] at t1; cases t1;subst t3;have hie : es[i]? = some es[i] := Array.getElem?_eq_getElem (by omega);obtain ⟨q1, ⟨n', q2, q3⟩, c, q4, q5⟩ := r4 i _ hie;rw [q2, q4] at hk;have hnd' : (es.toList.map (·.born)).Nodup := by
     have : es.toList.map (·.born) = List.range es.size := by
      apply ext_getElem? ; intro j;rw [getElem?_map, Array.getElem?_toList]
      by_cases hj : j < es.size
      · rw [Array.getElem?_eq_getElem hj, Option.map_some, (r4 j _ (Array.getElem?_eq_getElem hj)).1, List.getElem?_range hj]
      · rw [Array.getElem?_eq_none (by omega), getElem?_eq_none (by simp; omega)]; rfl
     rw [this]; exact List.nodup_range
    have iF := run_entry_at (P := P) w r k ks.length seen.toArray es es.size es[i] (by rw [t2, q1, <- r2]; simp) r1 (by simp) hnd';refine pure1 _ (.tuple #[es[i].key, es[i].val]) (by simp [execOp, ho, eu, iF]) ?_ hk;rw [ag];refine ⟨[es[i].key, es[i].val], rfl, ?_⟩;rw [av];refine ⟨_, _, rfl, by rw [ag, q3]; rfl, ?_⟩;rw [av];exact ⟨_, _, rfl, q5, by rw [av]⟩
  · exact h.elim
 | _ => rw [ho] at h; exact False.elim h
end
end
section
abbrev Tm := List (Nat × CV)
def bt : Tm -> Nat -> CV
 | [], _ => .any
 | (k, c) :: r, n => if n = k then c else bt r n
def em (T : Tm) : Operand -> CV
 | .tmp t => bt T t
 | .const v => .v v
 | .global _ => .any
 | .func f => .fn f []
def bQ (d : Option Nat) (c : CV) (T : Tm) : Tm :=
 match d with
 | some d => (d, c) :: T
 | none => T
def kv (d : Option Nat) (n : Nat) : Prop :=
 match d with
 | some d => d < n
 | none => True
def kE (ops : List Oper) (j : Nat) : Option Nat := (ops[j]?).bind (·.dst)
def nY (want : Bool) (c : CV) (yes no : Prop) : Prop :=
 match c with
 | .v (.bool b) => (b = want -> yes) /\ (b = !want -> no)
 | .v (.tuple _) => no
 | _ => False
def crun (P : Program) (n : Nat) (ops : List Oper) : List Oper -> Tm -> Hp -> List Nat -> (Tm -> Hp -> List Nat -> Prop) -> Prop
 | [], T, H, V, K => K T H V
 | o :: rest, T, H, V, K =>
  match o.guard with
  | none => kv o.dst n /\ cx P (em T) H V (fun c H' V' => crun P n ops rest (bQ o.dst c T) H' V' K) o.op
  | some (j, want) => kv o.dst n ∧
   match kE ops j with
   | some g => nY want (bt T g)
    (cx P (em ((g, .v (.bool want)) :: T)) H V (fun c H' V' => crun P n ops rest (bQ o.dst c ((g, .v (.bool want)) :: T)) H' V' K) o.op)
    (match bt T g with
     | .v (.bool _) => crun P n ops rest (bQ o.dst (.v undef) ((g, .v (.bool (!want))) :: T)) H V K
     | _ => crun P n ops rest (bQ o.dst (.v undef) T) H V K)
   | none => False
def dC (m : Gh) (w : World) (V : List Nat) (T : Tm) (tmps : Array Value) : Prop := ∀ n, ag m w V (bt T n) (tmps.getD n undef)
section
variable {P : Program} {m : Gh} {w : World} {H : Hp} {V : List Nat}
theorem dC.mono {m' : Gh} {w' : World} {V' : List Nat} {T : Tm} {tmps : Array Value} (hx : bh m w V m' w' V') (h : dC m w V T tmps) : dC m' w' V' T tmps := fun n => ag.mono hx _ _ (h n)
theorem fw {T : Tm} {a : Act} (h : dC m w V T a.tmps) (x : Operand) : ag m w V (em T x) (a.eval x) := by
 cases x with
 | tmp t => exact h t
 | const v => simp only [em, Act.eval]; rw [ag]
 | global g => simp only [em]; rw [ag]; trivial
 | func f => simp only [em, Act.eval]; rw [ag]; exact ⟨[], rfl, by rw [av]⟩
theorem cg (a : Act) (d : Option Nat) (u : Value) : (a.put d u).tmps.size = a.tmps.size := by
 cases d <;> simp [Act.put]
theorem bu (a : Act) (d : Option Nat) (u : Value) : (a.put d u).defers = a.defers := by
 cases d <;> simp [Act.put]
theorem dC.put {T : Tm} {a : Act} {d : Option Nat} {c : CV} {u : Value} (h : dC m w V T a.tmps) (hu : ag m w V c u) (hd : kv d a.tmps.size) : dC m w V (bQ d c T) (a.put d u).tmps := by
 cases d with
 | none => exact h
 | some d =>
  have hd : d < a.tmps.size := hd;intro n;simp only [bQ, bt, Act.put]
  by_cases hn : n = d
  · subst hn; rw [if_pos rfl]
    simpa [Array.getD, hd] using hu
  · rw [if_neg hn]
    have : (a.tmps.setIfInBounds d u).getD n undef = a.tmps.getD n undef := by
     simp only [Array.getD_eq_getD_getElem?];rw [Array.getElem?_setIfInBounds_ne (Ne.symm hn)]
    rw [this]; exact h n
theorem dC.known {T : Tm} {tmps : Array Value} {g : Nat} {u : CV} (h : dC m w V T tmps) (hu : ag m w V u (tmps.getD g undef)) : dC m w V ((g, u) :: T) tmps := fun n => by
 simp only [bt]
 by_cases hn : n = g
 · subst hn; rw [if_pos rfl]; exact hu
 · rw [if_neg hn]; exact h n
structure Dl where
 ds : List Deferred
 lo : Nat
 /-- whether there is no such loop -/
 nm : Bool
def KM (r : Nat) : Deferred := { target := .collected r, args := #[] }
def wB (D : Dl) (w : World) (ds : List Deferred) : Prop :=
 D.lo <= w.heap.size /\ ∃ ms : List Nat, ds = ms.map KM ++ D.ds /\ (ms.Nodup /\ (D.nm = true -> ms = [])) /\ ∀ r ∈ ms, D.lo <= r /\ w.heap[r]? = some (.deferred (some []))
theorem wB.mono {D : Dl} {ds : List Deferred} {m' : Gh} {w' : World} {V' : List Nat} (hx : bh m w V m' w' V') (h : wB D w ds) : wB D w' ds := by
 obtain ⟨h1, ms, h2, h4, h3⟩ := h;exact ⟨Nat.le_trans h1 hx.size, ms, h2, h4, fun r hr => ⟨(h3 r hr).1, hx.dfr r _ (h3 r hr).2⟩⟩
theorem wB.own (w : World) (ds : List Deferred) {b : Bool} : wB ⟨ds, w.heap.size, b⟩ w ds := ⟨le_refl _, [], rfl, ⟨List.nodup_nil, fun _ => rfl⟩, fun _ h => by cases h⟩
theorem wB.eq {D : Dl} {ds : List Deferred} (h : wB D w ds) (hn : D.nm = true) : ds = D.ds := by
 obtain ⟨_, ms, h2, h3, _⟩ := h;rw [h2, h3.2 hn]; rfl
structure St (D : Dl) (n : Nat) (m : Gh) (w : World) (a : Act) (T : Tm) (H : Hp) (V : List Nat) : Prop where
 inv : bE m w H V
 tm : dC m w V T a.tmps
 size : a.tmps.size = n
 df : wB D w a.defers
theorem lB (ops : List Oper) (tmps : Array Value) (j : Nat) : yielded ops.toArray tmps j = match (kE ops j).bind (tmps[·]?) with | some (.bool b) => some b | _ => none := by
 unfold yielded kE;rw [getElem?_toArray];rfl
theorem fH {ro : Option Nat} {D : Dl} {n : Nat} {ops : List Oper} {K : Tm -> Hp -> List Nat -> Prop} {Q : Exit -> Act -> World -> Prop} : ∀ (l : List Oper) {a : Act} {m : Gh} {w : World} {T : Tm} {H : Hp} {V : List Nat}, St D n m w a T H V -> crun P n ops l T H V K →
 (∀ T' H' V' a' w' m', K T' H' V' -> St D n m' w' a' T' H' V' -> bh m w V m' w' V' -> Q .normal a' w') -> wpListIn (g8 ro) 0 P ops.toArray Q l a w
 | [], a, m, w, T, H, V, hs, h, hK => hK T H V a w m h hs (bh.refl m w V)
 | o :: rest, a, m, w, T, H, V, hs, h, hK => by
  have run : ∀ T0, dC m w V T0 a.tmps -> kv o.dst n -> cx P (em T0) H V (fun c H' V' => crun P n ops rest (bQ o.dst c T0) H' V' K) o.op -> o.wpIn (g8 ro) 0 P a w (wpListIn (g8 ro) 0 P ops.toArray Q rest) Q := by
   intro T0 ht hd hc;refine nX (P := P) hs.inv (fun x => fw ht x) hc fun c H' V' u m' w' h1 h2 h3 h4 => ?_;refine fH rest (T := bQ o.dst c T0) (m := m') ⟨h2, (ht.mono h4).put h3 (by rw [hs.size]; exact hd), by rw [cg]; exact hs.size, by rw [bu]; exact hs.df.mono h4⟩ h1 (fun T' H' V' a' w' m' k1 k2 k3 => hK T' H' V' a' w' m' k1 k2 (h4.trans k3))
  have skip : ∀ T0, dC m w V T0 a.tmps -> kv o.dst n -> crun P n ops rest (bQ o.dst (.v undef) T0) H V K -> wpListIn (g8 ro) 0 P ops.toArray Q rest (a.put o.dst undef) w := by
   intro T0 ht hd hc;exact fH rest (T := bQ o.dst (.v undef) T0) (m := m) ⟨hs.inv, ht.put (by rw [ag]) (by rw [hs.size]; exact hd), by rw [cg]; exact hs.size, by rw [bu]; exact hs.df⟩ hc hK
  unfold wpListIn;rw [crun] at h
  cases hg : o.guard with
  | none =>
   simp only [hg] at h;rw [if_pos (by simp [Region.wanted, hg])];exact run T hs.tm h.1 h.2
  | some jw =>
   obtain ⟨j, want⟩ := jw;simp only [hg] at h;obtain ⟨hd, h⟩ := h
   cases hj : kE ops j with
   | none => simp only [hj] at h
   | some g =>
    simp only [hj] at h;have hy := lB ops a.tmps j;rw [hj, Option.bind_some] at hy;have ht := hs.tm g;unfold nY at h
    split at h
    · rename_i b hb
      rw [hb, ag] at ht;have aC : a.tmps[g]? = some (.bool b) := by
       cases hq : a.tmps[g]? with
       | none => simp [hq] at ht; cases ht
       | some x => simp [hq] at ht; rw [ht]
      rw [aC] at hy;simp only at hy;have hw : Region.wanted o (yielded ops.toArray a.tmps) = (b == want) := by
       simp [Region.wanted, hg, hy]
      rw [hw]
      by_cases hbw : b = want
      · subst hbw
        rw [if_pos (by simp)];exact run _ (hs.tm.known (by rw [ag]; exact ht)) hd (h.1 rfl)
      · rw [if_neg (by simpa using hbw)]
        have hb2 : b = !want := by cases b <;> cases want <;> simp_all
        have h3 := h.2 hb2;rw [hb] at h3;exact ⟨fun _ _ => trivial, skip _ (hs.tm.known (by rw [ag, <- hb2]; exact ht)) hd h3⟩
    · rename_i vs hb
      rw [hb, ag] at ht;have hw : Region.wanted o (yielded ops.toArray a.tmps) = false := by
       have : yielded ops.toArray a.tmps j = none := by
        rw [hy]
        cases hq : a.tmps[g]? with
        | none => rfl
        | some x => simp [hq] at ht; subst ht; rfl
       simp [Region.wanted, hg, this]
      rw [hw, if_neg (by simp)];rw [hb] at h;exact ⟨fun _ _ => trivial, skip _ hs.tm hd h⟩
    · exact h.elim
mutual
inductive Le : CV -> CV -> Prop
 | refl (c : CV) : Le c c
 | any (c : CV) : Le c .any
 | sh (tk : Tk) (sz : Nat) (xs : List (List CV)) : Le (.sl tk sz xs) (.sl .sh sz xs)
 | nil (sz : Nat) (h : 0 < sz) : Le (.v (.slice none 0 0)) (.sl .sh sz [])
 | nilti (sz : Nat) (h : 0 < sz) : Le (.v (.slice none 0 0)) (.sl .ti sz [])
 | bsa (b n sz : Nat) : Le (.bsa b n sz) (.bsl b 0 n sz)
 | agg {cs ds : List CV} (h : jD cs ds) : Le (.agg cs) (.agg ds)
 | tup {cs ds : List CV} (h : jD cs ds) : Le (.tup cs) (.tup ds)
 | sle (tk : Tk) (sz : Nat) {xs ys : List (List CV)} (h : lz xs ys) : Le (.sl tk sz xs) (.sl .sh sz ys)
 | trans {a b c : CV} (h : Le a b) (g : Le b c) : Le a c
inductive jD : List CV -> List CV -> Prop
 | nil : jD [] []
 | cons {c d : CV} {cs ds : List CV} (h : Le c d) (t : jD cs ds) : jD (c :: cs) (d :: ds)
inductive lz : List (List CV) -> List (List CV) -> Prop
 | nil : lz [] []
 | cons {c d : List CV} {xs ys : List (List CV)} (h : jD c d) (t : lz xs ys) : lz (c :: xs) (d :: ys)
end
theorem jD.len : ∀ {cs ds : List CV}, jD cs ds -> cs.length = ds.length
 | _, _, .nil => rfl
 | _, _, .cons _ t => by rw [length_cons, length_cons, jD.len t]
theorem lz.len : ∀ {cs ds : List (List CV)}, lz cs ds -> cs.length = ds.length
 | _, _, .nil => rfl
 | _, _, .cons _ t => by rw [length_cons, length_cons, lz.len t]
mutual
theorem Le.rel {c d : CV} : ∀ {u : Value}, Le c d -> ag m w V c u -> ag m w V d u
 | _, .refl _, h => h
 | _, .any _, _ => by rw [ag]; trivial
 | _, .bsa b n sz, h => by
  rw [ag] at h; rw [ag];obtain ⟨k, cap, c, e, h1, h2, h3, h4, h5, h6⟩ := h;exact ⟨_, cap, k, h1, h2, h3, h4, .inr rfl, ⟨c, e, _, h5⟩⟩
 | _, .sh tk sz xs, h => by
  rw [ag] at h; rw [ag];obtain ⟨base, cap, h1, h2, h3, h4⟩ := h;exact ⟨base, cap, h1, h2, trivial, h4⟩
 | _, .nil sz hz, h => by rw [ag] at h; rw [ag]; subst h; exact ⟨none, 0, rfl, by simp, trivial, hz, .inl rfl⟩
 | _, .nilti sz hz, h => by rw [ag] at h; rw [ag]; subst h; exact ⟨none, 0, rfl, by simp, rfl, hz, .inl rfl⟩
 | _, .agg hl, h => by rw [ag] at h; rw [ag]; obtain ⟨us, h1, h2⟩ := h; exact ⟨us, h1, jD.rel hl h2⟩
 | _, .tup hl, h => by rw [ag] at h; rw [ag]; obtain ⟨us, h1, h2⟩ := h; exact ⟨us, h1, jD.rel hl h2⟩
 | _, .sle tk sz (xs := xs) (ys := ys) he, h => by
  rw [ag] at h; rw [ag];obtain ⟨base, cap, h1, h2, h3, h4, h5⟩ := h;refine ⟨base, cap, by rw [<- he.len]; exact h1, by rw [<- he.len]; exact h2, trivial, h4, ?_⟩;rcases h5 with rfl | ⟨k, o, e1, e2, e3⟩
  · left
    have := he.len;exact eq_nil_of_length_eq_zero this.symm
  · exact .inr ⟨k, o, e1, by rw [<- he.len]; exact e2, lz.rel he e3⟩
 | _, .trans h1 h2, h => Le.rel h2 (Le.rel h1 h)
theorem jD.rel {cs ds : List CV} : ∀ {us : List Value}, jD cs ds -> av m w V cs us -> av m w V ds us
 | _, .nil, h => h
 | _, .cons h t, hr => by
  rw [av] at hr; rw [av];obtain ⟨u, r, h1, h2, h3⟩ := hr;exact ⟨u, r, h1, Le.rel h h2, jD.rel t h3⟩
theorem jD.relC {cs ds : List CV} {k : Nat} : ∀ {o : Nat}, jD cs ds -> aX m w V k cs o -> aX m w V k ds o
 | _, .nil, h => h
 | _, .cons h t, hr => by
  rw [aX] at hr; rw [aX];obtain ⟨⟨u, h1, h2, h3⟩, h4⟩ := hr;exact ⟨⟨u, h1, Le.rel h h2, h3⟩, jD.relC t h4⟩
theorem lz.rel {xs ys : List (List CV)} {k sz : Nat} : ∀ {o : Nat}, lz xs ys -> bB m w V k sz xs o -> bB m w V k sz ys o
 | _, .nil, h => h
 | _, .cons h t, hr => by
  rw [bB] at hr; rw [bB];obtain ⟨h1, h2, h3⟩ := hr;exact ⟨by rw [<- h.len]; exact h1, jD.relC h h2, lz.rel t h3⟩
end
end
end
section
def gr (jv : Nat) : Tk -> Prop
 | .own t _ => t < jv
 | _ => True
mutual
def aK (jb jv : Nat) : CV -> Prop
 | .any => True
 | .v _ => True
 | .agg cs => okL jb jv cs
 | .tup cs => okL jb jv cs
 | .sl tk _ xs => gr jv tk /\ fO jb jv xs
 | .bsl b _ _ _ => b < jb
 | .ptr b _ => b < jb
 | .eptr cs _ => okL jb jv cs
 | .fn _ caps => okL jb jv caps
 | .bm _ caps => okL jb jv caps
 | .yl b => b < jb
 | .mv b => b < jb
 | .it b => b < jb
 | .bsa b _ _ => b < jb
 | .objl _ _ _ _ _ _ _ cs => okL jb jv cs
 | .objm _ vs => okL jb jv vs
 | .obji mb _ _ => mb < jb
def okL (jb jv : Nat) : List CV -> Prop
 | [] => True
 | c :: cs => aK jb jv c /\ okL jb jv cs
def fO (jb jv : Nat) : List (List CV) -> Prop
 | [] => True
 | e :: es => okL jb jv e /\ fO jb jv es
end
theorem co {jb jv : Nat} : ∀ {cs : List CV}, okL jb jv cs ↔ ∀ c ∈ cs, aK jb jv c
 | [] => by simp [okL]
 | c :: cs => by simp [okL, co (cs := cs)]
theorem tz {jb jv : Nat} : ∀ {es : List (List CV)}, fO jb jv es ↔ ∀ e ∈ es, ∀ c ∈ e, aK jb jv c
 | [] => by simp [fO]
 | e :: es => by simp [fO, tz (es := es), co]
mutual
theorem cP {jb jv jb' jv' : Nat} (h1 : jb <= jb') (h2 : jv <= jv') : ∀ {c : CV}, aK jb jv c -> aK jb' jv' c
 | .any, _ => by rw [aK]; trivial
 | .v _, _ => by rw [aK]; trivial
 | .agg cs, h => by rw [aK] at h; rw [aK]; exact aO h1 h2 h
 | .tup cs, h => by rw [aK] at h; rw [aK]; exact aO h1 h2 h
 | .sl tk sz xs, h => by
  rw [aK] at h; rw [aK];refine ⟨?_, ql h1 h2 h.2⟩
  cases tk with
  | own t v => exact Nat.lt_of_lt_of_le h.1 h2
  | _ => trivial
 | .bsl b _ _ _, h => by rw [aK] at h; rw [aK]; omega
 | .ptr b _, h => by rw [aK] at h; rw [aK]; omega
 | .eptr cs _, h => by rw [aK] at h; rw [aK]; exact aO h1 h2 h
 | .fn _ cs, h => by rw [aK] at h; rw [aK]; exact aO h1 h2 h
 | .bm _ cs, h => by rw [aK] at h; rw [aK]; exact aO h1 h2 h
 | .yl b, h => by rw [aK] at h; rw [aK]; omega
 | .mv b, h => by rw [aK] at h; rw [aK]; omega
 | .it b, h => by rw [aK] at h; rw [aK]; omega
 | .bsa b _ _, h => by rw [aK] at h; rw [aK]; omega
 | .objl _ _ _ _ _ _ _ cs, h => by rw [aK] at h; rw [aK]; exact aO h1 h2 h
 | .objm _ cs, h => by rw [aK] at h; rw [aK]; exact aO h1 h2 h
 | .obji b _ _, h => by rw [aK] at h; rw [aK]; omega
theorem aO {jb jv jb' jv' : Nat} (h1 : jb <= jb') (h2 : jv <= jv') : ∀ {cs : List CV}, okL jb jv cs -> okL jb' jv' cs
 | [], _ => by rw [okL]; trivial
 | c :: cs, h => by rw [okL] at h; rw [okL]; exact ⟨cP h1 h2 h.1, aO h1 h2 h.2⟩
theorem ql {jb jv jb' jv' : Nat} (h1 : jb <= jb') (h2 : jv <= jv') : ∀ {es : List (List CV)}, fO jb jv es -> fO jb' jv' es
 | [], _ => by rw [fO]; trivial
 | e :: es, h => by rw [fO] at h; rw [fO]; exact ⟨aO h1 h2 h.1, ql h1 h2 h.2⟩
end
def Gh.cut (m : Gh) (i j : Nat) : Gh := { m with box := m.box.take i, tip := m.tip.take j }
theorem di {α : Type} {l : List α} {i t : Nat} {x : α} (h : t < i) (hx : l[t]? = some x) : (l.take i)[t]? = some x := by rw [getElem?_take, if_pos h]; exact hx
theorem dZ {α : Type} {l : List α} {i t : Nat} {x : α} (hx : (l.take i)[t]? = some x) : t < i /\ l[t]? = some x := by
 rw [getElem?_take] at hx
 split at hx
 · exact ⟨by assumption, hx⟩
 · cases hx
section
variable {P : Program} {m : Gh} {w : World} {H : Hp} {V : List Nat}
section
variable (i j : Nat)
mutual
theorem ag.cut : ∀ (c : CV) (u : Value), aK i j c -> ag m w V c u -> ag (m.cut i j) w (V.take j) c u
 | .any, _, _, _ => by rw [ag]; trivial
 | .v x, u, _, h => by rw [ag] at h; rw [ag]; exact h
 | .agg cs, u, ho, h => by rw [ag] at h; rw [ag]; rw [aK] at ho; obtain ⟨us, h1, h2⟩ := h; exact ⟨us, h1, av.cut cs us ho h2⟩
 | .tup cs, u, ho, h => by rw [ag] at h; rw [ag]; rw [aK] at ho; obtain ⟨us, h1, h2⟩ := h; exact ⟨us, h1, av.cut cs us ho h2⟩
 | .sl tk sz xs, u, ho, h => by
  rw [ag] at h; rw [ag]; rw [aK] at ho;obtain ⟨base, cap, h1, h2, h3, h4, h5⟩ := h;refine ⟨base, cap, h1, h2, ?_, h4, ?_⟩
  · cases tk with
    | sh => trivial
    | ti => exact h3
    | own t v =>
     obtain ⟨v', q1, q2, q3⟩ := (h3 : ly m w V t v sz xs.length cap base)
     have ht : t < j := ho.1;refine ⟨v', di ht q1, q2, fun e => ?_⟩;rcases q3 e with q3 | ⟨k, o, c, ec, hb, ht1, r⟩
     · exact .inl q3
     · exact .inr ⟨k, o, c, ec, hb, di ht ht1, r⟩
  · rcases h5 with h5 | ⟨k, o, hb, hl, he⟩
    · exact .inl h5
    · exact .inr ⟨k, o, hb, hl, bB.cut k sz xs o ho.2 he⟩
 | .bsl b o n sz, u, ho, h => by
  rw [ag] at h; rw [ag]; rw [aK] at ho;obtain ⟨base, cap, k, h1, h2, h3, h4, h5⟩ := h;exact ⟨base, cap, k, h1, h2, h3, di ho h4, h5⟩
 | .ptr b o, u, ho, h => by rw [ag] at h; rw [ag]; rw [aK] at ho; obtain ⟨k, h1, h2⟩ := h; exact ⟨k, di ho h1, h2⟩
 | .bm f caps, u, ho, h => by rw [ag] at h; rw [ag]; rw [aK] at ho; obtain ⟨us, h1, h2⟩ := h; exact ⟨us, h1, av.cut caps us ho h2⟩
 | .yl b, u, ho, h => by rw [ag] at h; rw [ag]; rw [aK] at ho; obtain ⟨k, h1, h2⟩ := h; exact ⟨k, di ho h1, h2⟩
 | .mv b, u, ho, h => by rw [ag] at h; rw [ag]; rw [aK] at ho; obtain ⟨k, h1, h2⟩ := h; exact ⟨k, di ho h1, h2⟩
 | .it b, u, ho, h => by rw [ag] at h; rw [ag]; rw [aK] at ho; obtain ⟨k, h1, h2⟩ := h; exact ⟨k, di ho h1, h2⟩
 | .bsa b n sz, u, ho, h => by
  rw [ag] at h; rw [ag]; rw [aK] at ho;obtain ⟨k, cap, c, e, h1, h2, h3, h4, h5⟩ := h;exact ⟨k, cap, c, e, h1, h2, h3, di ho h4, h5⟩
 | .objl .., u, _, h => by rw [ag] at h; exact h.elim
 | .objm .., u, _, h => by rw [ag] at h; exact h.elim
 | .obji .., u, _, h => by rw [ag] at h; exact h.elim
 | .eptr cs o, u, ho, h => by rw [ag] at h; rw [ag]; rw [aK] at ho; obtain ⟨k, a, h1, h2, h3⟩ := h; exact ⟨k, a, h1, h2, aX.cut k cs a ho h3⟩
 | .fn f caps, u, ho, h => by rw [ag] at h; rw [ag]; rw [aK] at ho; obtain ⟨us, h1, h2⟩ := h; exact ⟨us, h1, av.cut caps us ho h2⟩
theorem av.cut : ∀ (cs : List CV) (us : List Value), okL i j cs -> av m w V cs us -> av (m.cut i j) w (V.take j) cs us
 | [], us, _, h => by rw [av] at h; rw [av]; exact h
 | c :: cs, us, ho, h => by rw [av] at h; rw [av]; rw [okL] at ho; obtain ⟨u, r, h1, h2, h3⟩ := h; exact ⟨u, r, h1, ag.cut c u ho.1 h2, av.cut cs r ho.2 h3⟩
theorem aX.cut (k : Nat) : ∀ (cs : List CV) (o : Nat), okL i j cs -> aX m w V k cs o -> aX (m.cut i j) w (V.take j) k cs o
 | [], o, _, h => by rw [aX]; trivial
 | c :: cs, o, ho, h => by
  rw [aX] at h; rw [aX]; rw [okL] at ho;obtain ⟨⟨u, h1, h2, h4⟩, h3⟩ := h;exact ⟨⟨u, h1, ag.cut c u ho.1 h2, h4⟩, aX.cut k cs (o + 1) ho.2 h3⟩
theorem bB.cut (k sz : Nat) : ∀ (es : List (List CV)) (o : Nat), fO i j es -> bB m w V k sz es o -> bB (m.cut i j) w (V.take j) k sz es o
 | [], o, _, h => by rw [bB]; trivial
 | e :: es, o, ho, h => by
  rw [bB] at h; rw [bB]; rw [fO] at ho;obtain ⟨h1, h2, h3⟩ := h;exact ⟨h1, aX.cut k e o ho.1 h2, bB.cut k sz es (o + sz) ho.2 h3⟩
end
end
mutual
/-- What is related refers to boxes and tokens that are there. -/
theorem ag.ok : ∀ (c : CV) (u : Value), ag m w V c u -> aK m.box.length V.length c
 | .any, _, _ => by rw [aK]; trivial
 | .v x, u, _ => by rw [aK]; trivial
 | .agg cs, u, h => by rw [ag] at h; rw [aK]; obtain ⟨us, h1, h2⟩ := h; exact av.ok cs us h2
 | .tup cs, u, h => by rw [ag] at h; rw [aK]; obtain ⟨us, h1, h2⟩ := h; exact av.ok cs us h2
 | .sl tk sz xs, u, h => by
  rw [ag] at h; rw [aK];obtain ⟨base, cap, h1, h2, h3, h4, h5⟩ := h;refine ⟨?_, ?_⟩
  · cases tk with
    | sh => trivial
    | ti => trivial
    | own t v =>
     obtain ⟨v', q1, q2, q3⟩ := (h3 : ly m w V t v sz xs.length cap base)
     exact (List.getElem?_eq_some_iff.1 q1).1
  · rcases h5 with rfl | ⟨k, o, hb, hl, he⟩
    · rw [fO]; trivial
    · exact bB.ok k sz xs o he
 | .bsl b o n sz, u, h => by
  rw [ag] at h; rw [aK];obtain ⟨base, cap, k, h1, h2, h3, h4, h5⟩ := h;exact (List.getElem?_eq_some_iff.1 h4).1
 | .ptr b o, u, h => by rw [ag] at h; rw [aK]; obtain ⟨k, h1, h2⟩ := h; exact (List.getElem?_eq_some_iff.1 h1).1
 | .bm f caps, u, h => by rw [ag] at h; rw [aK]; obtain ⟨us, h1, h2⟩ := h; exact av.ok caps us h2
 | .yl b, u, h => by rw [ag] at h; rw [aK]; obtain ⟨k, h1, h2⟩ := h; exact (List.getElem?_eq_some_iff.1 h1).1
 | .mv b, u, h => by rw [ag] at h; rw [aK]; obtain ⟨k, h1, h2⟩ := h; exact (List.getElem?_eq_some_iff.1 h1).1
 | .it b, u, h => by rw [ag] at h; rw [aK]; obtain ⟨k, h1, h2⟩ := h; exact (List.getElem?_eq_some_iff.1 h1).1
 | .bsa b n sz, u, h => by
  rw [ag] at h; rw [aK];obtain ⟨k, cap, c, e, h1, h2, h3, h4, h5⟩ := h;exact (List.getElem?_eq_some_iff.1 h4).1
 | .objl .., u, h => by rw [ag] at h; exact h.elim
 | .objm .., u, h => by rw [ag] at h; exact h.elim
 | .obji .., u, h => by rw [ag] at h; exact h.elim
 | .eptr cs o, u, h => by rw [ag] at h; rw [aK]; obtain ⟨k, a, h1, h2, h3⟩ := h; exact aX.ok k cs a h3
 | .fn f caps, u, h => by rw [ag] at h; rw [aK]; obtain ⟨us, h1, h2⟩ := h; exact av.ok caps us h2
theorem av.ok : ∀ (cs : List CV) (us : List Value), av m w V cs us -> okL m.box.length V.length cs
 | [], us, _ => by rw [okL]; trivial
 | c :: cs, us, h => by rw [av] at h; rw [okL]; obtain ⟨u, r, h1, h2, h3⟩ := h; exact ⟨ag.ok c u h2, av.ok cs r h3⟩
theorem aX.ok (k : Nat) : ∀ (cs : List CV) (o : Nat), aX m w V k cs o -> okL m.box.length V.length cs
 | [], o, _ => by rw [okL]; trivial
 | c :: cs, o, h => by
  rw [aX] at h; rw [okL];obtain ⟨⟨u, h1, h2, h4⟩, h3⟩ := h;exact ⟨ag.ok c u h2, aX.ok k cs (o + 1) h3⟩
theorem bB.ok (k sz : Nat) : ∀ (es : List (List CV)) (o : Nat), bB m w V k sz es o -> fO m.box.length V.length es
 | [], o, _ => by rw [fO]; trivial
 | e :: es, o, h => by
  rw [bB] at h; rw [fO];obtain ⟨h1, h2, h3⟩ := h;exact ⟨aX.ok k e o h2, bB.ok k sz es (o + sz) h3⟩
end
theorem jB.ok {tmps : Array Value} : ∀ {ks : List Nat} {cs : List CV}, jB m w V tmps ks cs -> okL m.box.length V.length cs
 | _ :: _, _ :: _, h => by rw [okL]; exact ⟨ag.ok _ _ h.1, jB.ok h.2⟩
 | [], [], _ => by rw [okL]; trivial
 | [], _ :: _, h => h.elim
 | _ :: _, [], h => h.elim
theorem jB.cut (i j : Nat) {tmps : Array Value} : ∀ {ks : List Nat} {cs : List CV}, okL i j cs -> jB m w V tmps ks cs -> jB (m.cut i j) w (V.take j) tmps ks cs
 | _ :: _, _ :: _, ho, h => by rw [okL] at ho; exact ⟨ag.cut i j _ _ ho.1 h.1, jB.cut i j ho.2 h.2⟩
 | [], [], _, _ => trivial
 | [], _ :: _, _, h => h.elim
 | _ :: _, [], _, h => h.elim
theorem j4.ok {k : Nat} {x : CV} (h : j4 m w V k x) : aK m.box.length V.length x := by
 cases x with
 | objl => obtain ⟨_, _, _, _, _, h⟩ := h; rw [aK]; exact h.ok
 | objm ks vs =>
  obtain ⟨es, _, h2, h3, h4⟩ := h;rw [aK, co];intro c hc;obtain ⟨i, hi⟩ := getElem?_of_mem hc;have hl : i < es.size := by have := (List.getElem?_eq_some_iff.1 hi).1; omega
  obtain ⟨_, _, c', g1, g2⟩ := h4 i _ (Array.getElem?_eq_getElem hl);rw [hi] at g1; cases g1;exact ag.ok _ _ g2
 | obji => obtain ⟨km, _, h, _⟩ := h; rw [aK]; exact (List.getElem?_eq_some_iff.1 h).1
 | _ => exact h.elim
theorem j4.cut {i j k : Nat} {x : CV} (ho : aK i j x) (h : j4 m w V k x) : j4 (m.cut i j) w (V.take j) k x := by
 cases x with
 | objl => rw [aK] at ho; obtain ⟨t, f, d, h1, h2, h⟩ := h; exact ⟨t, f, d, h1, h2, h.cut i j ho⟩
 | objm ks vs =>
  rw [aK, co] at ho;obtain ⟨es, h1, h2, h3, h4⟩ := h;refine ⟨es, h1, h2, h3, fun i' e he => ?_⟩;obtain ⟨g1, g2, c', g3, g4⟩ := h4 i' e he;exact ⟨g1, g2, c', g3, ag.cut i j _ _ (ho _ (mem_of_getElem? g3)) g4⟩
 | obji => rw [aK] at ho; obtain ⟨km, s, h1, h2⟩ := h; exact ⟨km, s, di ho h1, h2⟩
 | _ => exact h.elim
theorem DH.ok {b : Nat} {cs : List CV} (h : DH m w V b cs) : okL m.box.length V.length cs := by
 cases h with
 | row k c e h1 h2 h3 h4 h5 => exact aX.ok k cs 0 h5
 | obj k x h1 h2 h3 => subst h2; rw [okL, okL]; exact ⟨h3.ok, trivial⟩
theorem bE.cut (hi : bE m w H V) {i j : Nat} (hH : ∀ (b : Nat) cs, (H.take i)[b]? = some (some cs) -> okL i j cs) : bE (m.cut i j) w (H.take i) (V.take j) where
 boxlen := by simp [Gh.cut, hi.boxlen]
 tiplen := by simp [Gh.cut, hi.tiplen]
 limv := hi.limv
 tips t k h := by
  obtain ⟨h1, h2, h3⟩ := hi.tips t k (dZ h).2;exact ⟨h1, fun b hb => h2 b (dZ hb).2, fun t' h' => h3 t' (dZ h').2⟩
 boxes b k h := hi.boxes b k (dZ h).2
 uniq b b' k cs cs' h h' g g' := hi.uniq b b' k cs cs' (dZ h).2 (dZ h').2 (dZ g).2 (dZ g').2
 live b cs h := by
  obtain ⟨hb, h'⟩ := dZ h;have ho := hH b cs h
  cases hi.live b cs h' with
  | row k c e h1 h2 h3 h4 h5 => exact .row k c e (di hb h1) h2 h3 h4 (aX.cut i j k cs 0 ho h5)
  | obj k x h1 h2 h3 => subst h2; rw [okL] at ho; exact .obj k x (di hb h1) rfl (h3.cut ho.1)
theorem bh.cut {m' : Gh} {w' : World} {V' : List Nat} (hx : bh m w V m' w' V') {i j : Nat} (hi : m.box.length <= i) (hv : V.length <= j) : bh m w V (m'.cut i j) w' (V'.take j) where
 os := hx.os
 tape := hx.tape
 output := hx.output
 size := hx.size
 shape := hx.shape
 lim := hx.lim
 prot := hx.prot
 dfr := hx.dfr
 same := hx.same
 box b k h := di (Nat.lt_of_lt_of_le (List.getElem?_eq_some_iff.1 h).1 hi) (hx.box b k h)
 boxnew b k h := hx.boxnew b k (dZ h).2
 tipnew t k h := hx.tipnew t k (dZ h).2
 tok t v h := by
  obtain ⟨v', h1, h2, h3⟩ := hx.tok t v h;have ht : t < j := Nat.lt_of_lt_of_le (List.getElem?_eq_some_iff.1 h).1 hv;refine ⟨v', di ht h1, h2, fun e => ?_⟩;obtain ⟨p1, p2⟩ := h3 e;refine ⟨?_, p2⟩;show (m'.tip.take j)[t]? = _;rw [getElem?_take, if_pos ht]; exact p1
end
def cL (n nb nv : Nat) (T : Tm) (H : Hp) (V : List Nat) (T' : Tm) (H' : Hp) (V' : List Nat) : Prop :=
 ∀ (D : Dl) m w a m0 w0 V0, m0.box.length = nb -> m0.tip.length = nv -> V0.length = nv -> bh m0 w0 V0 m w V -> St D n m w a T H V -> ∃ m', St D n m' w a T' H' V' /\ bh m0 w0 V0 m' w V'
section
variable {n nb nv : Nat} {T T' T'' : Tm} {H H' H'' : Hp} {V V' V'' : List Nat}
theorem cL.refl : cL n nb nv T H V T H V := fun _ m _ _ _ _ _ _ _ _ hx hs => ⟨m, hs, hx⟩
theorem cL.trans (h : cL n nb nv T H V T' H' V') (g : cL n nb nv T' H' V' T'' H'' V'') : cL n nb nv T H V T'' H'' V'' := fun D m w a m0 w0 V0 h1 h2 h3 hx hs => by
 obtain ⟨m', s1, s2⟩ := h D m w a m0 w0 V0 h1 h2 h3 hx hs;exact g D m' w a m0 w0 V0 h1 h2 h3 s2 s1
theorem dR : ∀ (T : Tm) (k : Nat), bt T k = .any \/ ∃ p ∈ T, p.1 = k /\ bt T k = p.2
 | [], k => .inl rfl
 | (k', c) :: r, k => by
  simp only [bt]
  by_cases h : k = k'
  · rw [if_pos h]; exact .inr ⟨(k', c), by simp, h.symm, rfl⟩
  · rw [if_neg h]
    rcases dR r k with h1 | ⟨p, h1, h2⟩
    · exact .inl h1
    · exact .inr ⟨p, by simp [h1], h2⟩
theorem cL.forget (h : ∀ p ∈ T', Le (bt T p.1) p.2) : cL n nb nv T H V T' H V := fun D m w a m0 w0 V0 _ _ _ hx hs => by
 refine ⟨m, ⟨hs.inv, fun k => ?_, hs.size, hs.df⟩, hx⟩;rcases dR T' k with h1 | ⟨p, h1, rfl, h2⟩
 · rw [h1, ag]; trivial
 · rw [h2]; exact Le.rel (h p h1) (hs.tm p.1)
theorem cL.cut (i j : Nat) (hi : nb <= i) (hj : nv <= j) (hT : ∀ p ∈ T, aK i j p.2) (hH : ∀ (b : Nat) cs, (H.take i)[b]? = some (some cs) -> okL i j cs) : cL n nb nv T H V T (H.take i) (V.take j) := fun D m w a m0 w0 V0 h1 h2 h3 hx hs => by
 refine ⟨m.cut i j, ⟨hs.inv.cut hH, fun k => ?_, hs.size, hs.df⟩, hx.cut (by omega) (by omega)⟩;refine ag.cut i j _ _ ?_ (hs.tm k);rcases dR T k with h1 | ⟨p, h1, rfl, h2⟩
 · rw [h1, aK]; trivial
 · rw [h2]; exact hT p h1
-- A box is let go for good: slices of it have fixed contents from now on.
mutual
inductive Fz (b : Nat) (cs : List CV) : CV -> CV -> Prop
 | refl (c : CV) : Fz b cs c c
 | bsl (o n sz : Nat) (h : o + n * sz <= cs.length) : Fz b cs (.bsl b o n sz) (.sl .sh sz (aY sz n (cs.drop o)))
 | agg {xs ys : List CV} (h : yi b cs xs ys) : Fz b cs (.agg xs) (.agg ys)
 | tup {xs ys : List CV} (h : yi b cs xs ys) : Fz b cs (.tup xs) (.tup ys)
inductive yi (b : Nat) (cs : List CV) : List CV -> List CV -> Prop
 | nil : yi b cs [] []
 | cons {c d : CV} {xs ys : List CV} (h : Fz b cs c d) (t : yi b cs xs ys) : yi b cs (c :: xs) (d :: ys)
end
section
variable {m : Gh} {w : World} {b k : Nat} {cs : List CV}
mutual
theorem Fz.rel (hb : m.box[b]? = some k) (hl : cs.length <= m.lim k) (hc : aX m w V k cs 0) {x y : CV} : ∀ {u : Value}, Fz b cs x y -> ag m w V x u -> ag m w V y u
 | _, .refl _, h => h
 | _, .bsl o n sz ho, h => by
  rw [ag] at h; rw [ag];obtain ⟨base, cap, k', h1, h2, h3, h4, h5, _⟩ := h;rw [hb] at h4; cases h4;refine ⟨base, cap, by rw [bc]; exact h1, by rw [bc]; exact h2, trivial, h3, ?_⟩;rcases h5 with rfl | rfl
  · exact .inl rfl
  · refine .inr ⟨k, o, rfl, by rw [bc]; omega, ed (fun j e he => j0 sz n _ j e (by simp; omega) he) ?_⟩
    rw [fx];have := i6 (i7 hc o) (n * sz)
    rwa [Nat.zero_add] at this
 | _, .agg hq, h => by rw [ag] at h; rw [ag]; obtain ⟨us, h1, h2⟩ := h; exact ⟨us, h1, yi.rel hb hl hc hq h2⟩
 | _, .tup hq, h => by rw [ag] at h; rw [ag]; obtain ⟨us, h1, h2⟩ := h; exact ⟨us, h1, yi.rel hb hl hc hq h2⟩
theorem yi.rel (hb : m.box[b]? = some k) (hl : cs.length <= m.lim k) (hc : aX m w V k cs 0) {xs ys : List CV} : ∀ {us : List Value}, yi b cs xs ys -> av m w V xs us -> av m w V ys us
 | _, .nil, h => h
 | _, .cons h t, hr => by
  rw [av] at hr; rw [av];obtain ⟨u, r, h1, h2, h3⟩ := hr;exact ⟨u, r, h1, Fz.rel hb hl hc h h2, yi.rel hb hl hc t h3⟩
end
end
section
variable {m : Gh} {w : World} {b k : Nat} {cs : List CV}
mutual
theorem Fz.relO (hb : m.box[b]? = some k) (hr : ¬ gj w k) {x y : CV} : ∀ {u : Value}, Fz b cs x y -> ag m w V x u -> ag m w V y u
 | _, .refl _, h => h
 | _, .bsl o n sz ho, h => by
  rw [ag] at h;obtain ⟨base, cap, k', h1, h2, h3, h4, h5, h6⟩ := h;rw [hb] at h4; cases h4;exact absurd h6 hr
 | _, .agg hq, h => by rw [ag] at h; rw [ag]; obtain ⟨us, h1, h2⟩ := h; exact ⟨us, h1, yi.relO hb hr hq h2⟩
 | _, .tup hq, h => by rw [ag] at h; rw [ag]; obtain ⟨us, h1, h2⟩ := h; exact ⟨us, h1, yi.relO hb hr hq h2⟩
theorem yi.relO (hb : m.box[b]? = some k) (hr : ¬ gj w k) {xs ys : List CV} : ∀ {us : List Value}, yi b cs xs ys -> av m w V xs us -> av m w V ys us
 | _, .nil, h => h
 | _, .cons h t, hr' => by
  rw [av] at hr'; rw [av];obtain ⟨u, r, h1, h2, h3⟩ := hr';exact ⟨u, r, h1, Fz.relO hb hr h h2, yi.relO hb hr t h3⟩
end
end
theorem bE.fix {m : Gh} {w : World} (hi : bE m w H V) {b k : Nat} {cs : List CV} {c : Array Value} {e : TypeId} (hb : H[b]? = some (some cs)) (g1 : m.box[b]? = some k) (g2 : w.heap[k]? = some (.cells c e (0, 0))) (g3 : cs.length <= c.size) (g4 : m.lim k = 0) :
 let m' : Gh := { m with lim := fun j => if j = k then cs.length else m.lim j }
 bE m' w (H.set b none) V /\ bh m w V m' w V := by
 intro m';have hml : ∀ j, m'.lim j = if j = k then cs.length else m.lim j := fun _ => rfl
 have hx' : bh m w V m' w V := by
  refine ⟨rfl, rfl, rfl, le_refl _, fun k c e fr h => ⟨c, h, rfl⟩, fun j => ?_, fun _ _ _ => rfl, fun _ _ h => h, fun _ _ _ _ => rfl, fun _ _ h => h, fun b _ h => .inl ⟨b, h⟩, fun t k h => .inl h, fun t v h => ⟨v, h, le_refl _, fun _ => ⟨rfl, fun j hj => ?_⟩⟩⟩
  · rw [hml]; split
    · rename_i h; rw [h, g4]; omega
    · exact le_refl _
  · have : j ≠ k := fun e => (hi.tips t j hj).2.1 b (by rw [e]; exact g1)
    rw [hml, if_neg this]
 have hk := hi.kill b;refine ⟨⟨hk.boxlen, hi.tiplen, fun j hj => ?_, hi.tips, hi.boxes, hk.uniq, fun b' c0 h => ?_⟩, hx'⟩
 · by_cases hjk : j = k
   · subst hjk; exact ⟨c, e, (0, 0), g2, by rw [hml, if_pos rfl]; exact g3⟩
   · rw [hml, if_neg hjk] at hj ⊢; exact hi.limv j hj
 · refine (hk.live b' c0 h).mono hx' fun k' q1 => ⟨rfl, ?_⟩
   have hbb : b ≠ b' := fun e => by
    subst e;rw [getElem?_set_self (List.getElem?_eq_some_iff.1 hb).1] at h; cases h
   rw [getElem?_set_ne hbb] at h;have hkk : k' ≠ k := fun e => hbb (hi.uniq b' b k' _ _ h hb q1 (by rw [e]; exact g1));rw [hml, if_neg hkk]
theorem cL.freeze {b : Nat} {cs : List CV} (hb : H[b]? = some (some cs)) (h : ∀ p ∈ T', Fz b cs (bt T p.1) p.2) : cL n nb nv T H V T' (H.set b none) V := fun D m w a m0 w0 V0 h1 h2 h3 hx hs => by
 cases hs.inv.live b cs hb with
 | row k c e g1 g2 g3 g4 g5 =>
  obtain ⟨hi', hx'⟩ := hs.inv.fix hb g1 g2 g3 g4;refine ⟨_, ⟨hi', fun j => ?_, hs.size, hs.df⟩, hx.trans hx'⟩;have ht := dC.mono hx' hs.tm;rcases dR T' j with h1 | ⟨p, h1, rfl, h2⟩
  · rw [h1, ag]; trivial
  · rw [h2]
    exact Fz.rel (m := { m with lim := fun j => if j = k then cs.length else m.lim j }) (k := k) g1 (by show cs.length <= if k = k then cs.length else m.lim k; rw [if_pos rfl]; exact le_refl _) (i8 hx' rfl g5) (h p h1) (ht p.1)
 | obj k x g1 g2 g3 =>
  refine ⟨m, ⟨hs.inv.kill b, fun j => ?_, hs.size, hs.df⟩, hx⟩;rcases dR T' j with h1 | ⟨p, h1, rfl, h2⟩
  · rw [h1, ag]; trivial
  · rw [h2]
    exact Fz.relO g1 g3.notRow (h p h1) (hs.tm p.1)
end
theorem j6 {ro : Option Nat} {n : Nat} {P : Program} {Q : Exit -> Act -> World -> Prop} {a : Act} {w : World} {c : Code} (I : Nat -> Act -> World -> Prop) (n₀ : Nat) (h₀ : I n₀ a w)
 (round : ∀ n' a w, I n' a w -> c.wpIn (g8 ro) n P (Exit.then (fun a' w' => ∃ n'', n'' < n' /\ I n'' a' w') Q) a w) : (Code.loop c).wpIn (g8 ro) n P Q a w := by
 refine wpIn_loop (fun a w => ∃ n, I n a w) (fun a w => leastOf (fun n => I n a w)) ⟨n₀, h₀⟩ ?_;intro a w hI;refine wpIn_mono (round _ a w (leastOf_spec hI).1) ?_;intro e a' w' hq
 cases e with
 | normal =>
  obtain ⟨n', hlt, hI'⟩ := hq;exact show (∃ n, I n a' w') /\ leastOf (fun n => I n a' w') < leastOf (fun n => I n a w) from ⟨⟨n', hI'⟩, Nat.lt_of_le_of_lt ((leastOf_spec ⟨n', hI'⟩).2 n' hI') hlt⟩
 | _ => exact hq
theorem uv {P : Program} {b : Frame} {a : Act} {k : List Item} {cs : List Frame} {w : World} {c : Code} : step P (lone (b.atR a (.code (.scope c) :: k)) cs w) = .next (lone (b.atR a (.code c :: .inScope c :: k)) cs w) :=
 step_lone_go (by simp [stepG, stepG.exec, Frame.atR])
theorem ru {P : Program} {b : Frame} {a : Act} {k : List Item} {cs : List Frame} {w : World} {c : Code} : step P (lone (b.atR a (.inScope c :: k)) cs w) = .next (lone (b.atR a k) cs w) :=
 step_lone_go (by simp [stepG, stepG.exec, Frame.atR])
theorem gA {ro : Option Nat} {n : Nat} {P : Program} {Q : Exit -> Act -> World -> Prop} {a : Act} {w : World} {c : Code} (h : c.wpIn (g8 ro) n P (Exit.noGoto Q) a w) : (Code.scope c).wpIn (g8 ro) n P Q a w := by
 intro b k cs hro hb hr;obtain ⟨e, a', w', hq, harr⟩ := h b (.inScope c :: k) cs hro hb hr;have s1 : StepsIn (Machine.fenced P (g8 ro)) P (lone (b.atR a (.code (.scope c) :: k)) cs w) (lone (b.atR a (.code c :: .inScope c :: k)) cs w) := .one (fenced_calm hb hr rfl) uv
 cases e with
 | normal => exact ⟨.normal, a', w', hq, (StepsIn.trans s1 harr).trans (.one (fenced_calm hb hr rfl) ru)⟩
 | goto l => exact hq.elim
 | exit id =>
  have e : exitTo id (.inScope c :: k) = exitTo id k := by simp [exitTo]
  exact ⟨.exit id, a', w', hq, .of_steps s1 ⟨fun k' hk => harr.1 k' (by rw [e]; exact hk), fun hr hk => harr.2 hr (by rw [e]; exact hk)⟩⟩
 | ret => exact ⟨_, a', w', hq, .of_steps s1 harr⟩
 | panic ch => exact ⟨_, a', w', hq, .of_steps s1 harr⟩
 | outgrown => exact ⟨_, a', w', hq, .of_steps s1 harr⟩
def ac (P : Program) (n nb nv : Nat) (c : Code) (Q : Exit -> Tm -> Hp -> List Nat -> Prop) (T : Tm) (H : Hp) (V : List Nat) : Prop :=
 ∀ (ro : Option Nat) (D : Dl) m w a m0 w0 V0, m0.box.length = nb -> m0.tip.length = nv -> V0.length = nv -> bh m0 w0 V0 m w V -> St D n m w a T H V →
  c.wpIn (g8 ro) 0 P (fun e a' w' => ∃ T' H' V' m', Q e T' H' V' /\ St D n m' w' a' T' H' V' /\ bh m0 w0 V0 m' w' V') a w
def aL (P : Program) (n nb nv : Nat) (c : Code) (Q : Exit -> Tm -> Hp -> List Nat -> Prop) (T : Tm) (H : Hp) (V : List Nat) : Prop :=
 ∀ (D : Dl), D.nm = false -> ∀ m w a m0 w0 V0, m0.box.length = nb -> m0.tip.length = nv -> V0.length = nv -> bh m0 w0 V0 m w V -> St D n m w a T H V →
  c.wpIn (g8 none) 0 P (fun e a' w' => ∃ T' H' V' m', Q e T' H' V' /\ St D n m' w' a' T' H' V' /\ bh m0 w0 V0 m' w' V') a w
def uq (N : Tm -> Hp -> List Nat -> Prop) (Q : Exit -> Tm -> Hp -> List Nat -> Prop) : Exit -> Tm -> Hp -> List Nat -> Prop
 | .normal => N
 | e => Q e
def DS (id : Nat) (Q : Exit -> Tm -> Hp -> List Nat -> Prop) : Exit -> Tm -> Hp -> List Nat -> Prop
 | .exit id' => if id' = id then Q .normal else Q (.exit id')
 | e => Q e
def NK (Q : Exit -> Tm -> Hp -> List Nat -> Prop) : Exit -> Tm -> Hp -> List Nat -> Prop
 | .goto _ => fun _ _ _ => False
 | e => Q e
def Ent (n nb nv : Nat) (I : Tm -> Hp -> List Nat -> Prop) (T : Tm) (H : Hp) (V : List Nat) : Prop := ∃ T' H' V', cL n nb nv T H V T' H' V' /\ I T' H' V'
def Wl (n nb nv : Nat) (body : (Exit -> Tm -> Hp -> List Nat -> Prop) -> Tm -> Hp -> List Nat -> Prop) (Q : Exit -> Tm -> Hp -> List Nat -> Prop) (T : Tm) (H : Hp) (V : List Nat) : Prop :=
 ∃ (I : Nat -> Tm -> Hp -> List Nat -> Prop) (k : Nat), Ent n nb nv (I k) T H V ∧
  ∀ k T H V, I k T H V -> body (uq (fun T H V => ∃ k', k' < k /\ Ent n nb nv (I k') T H V) Q) T H V
def iE (c : CV) (yes no : Prop) : Prop :=
 match c with
 | .v (.bool t) => (t = true -> yes) /\ (t = false -> no)
 | _ => False
def Wp (P : Program) (n nb nv : Nat) : Code -> (Exit -> Tm -> Hp -> List Nat -> Prop) -> Tm -> Hp -> List Nat -> Prop
 | .skip, Q, T, H, V => Q .normal T H V
 | .label _, Q, T, H, V => Q .normal T H V
 | .region id ops true, Q, T, H, V => ac P n nb nv (.region id ops true) Q T H V
 | .region _ ops false, Q, T, H, V => crun P n ops.toList ops.toList T H V (Q .normal)
 | .seq a b, Q, T, H, V => Wp P n nb nv a (uq (Wp P n nb nv b Q) Q) T H V
 | .cond c a b, Q, T, H, V => iE (em T c) (Wp P n nb nv a Q T H V) (Wp P n nb nv b Q T H V)
 | .block id c, Q, T, H, V => Wp P n nb nv c (DS id Q) T H V
 | .scope c, Q, T, H, V => Wp P n nb nv c (NK Q) T H V
 | .loop c, Q, T, H, V => Wl n nb nv (fun Q T H V => Wp P n nb nv c Q T H V) Q T H V
 | .ret, Q, T, H, V => Q .ret T H V
 | .exit id, Q, T, H, V => Q (.exit id) T H V
 | _, _, _, _, _ => False
section
variable {P : Program} {n nb nv : Nat}
theorem ac.mono {c : Code} {Q Q' : Exit -> Tm -> Hp -> List Nat -> Prop} {T : Tm} {H : Hp} {V : List Nat} (h : ac P n nb nv c Q T H V) (hq : ∀ e T H V, Q e T H V -> Q' e T H V) : ac P n nb nv c Q' T H V :=
 fun ro D m w a m0 w0 V0 h1 h2 h3 hx hs => wpIn_mono (h ro D m w a m0 w0 V0 h1 h2 h3 hx hs) fun _ _ _ ⟨T', H', V', m', k1, k2⟩ => ⟨T', H', V', m', hq _ _ _ _ k1, k2⟩
theorem aa {x y : Code} {Q : Exit -> Tm -> Hp -> List Nat -> Prop} {T : Tm} {H : Hp} {V : List Nat} (h : ac P n nb nv x (uq (ac P n nb nv y Q) Q) T H V) : ac P n nb nv (.seq x y) Q T H V := by
 intro ro D m w a m0 w0 V0 h1 h2 h3 hx hs;refine wpIn_seq (wpIn_mono (h ro D m w a m0 w0 V0 h1 h2 h3 hx hs) fun e a' w' ⟨T', H', V', m', k1, k2, k3⟩ => ?_)
 cases e with
 | normal => exact k1 ro D m' w' a' m0 w0 V0 h1 h2 h3 k3 k2
 | _ => exact ⟨T', H', V', m', k1, k2, k3⟩
theorem ac.ghost {c : Code} {Q : Exit -> Tm -> Hp -> List Nat -> Prop} {T T' : Tm} {H H' : Hp} {V V' : List Nat} (g : cL n nb nv T H V T' H' V') (h : ac P n nb nv c Q T' H' V') : ac P n nb nv c Q T H V := by
 intro ro D m w a m0 w0 V0 h1 h2 h3 hx hs;obtain ⟨m', s1, s2⟩ := g D m w a m0 w0 V0 h1 h2 h3 hx hs;exact h ro D m' w a m0 w0 V0 h1 h2 h3 s2 s1
theorem Wp.sound : ∀ (c : Code) {Q : Exit -> Tm -> Hp -> List Nat -> Prop} {T : Tm} {H : Hp} {V : List Nat}, Wp P n nb nv c Q T H V -> ac P n nb nv c Q T H V
 | .skip, Q, T, H, V, h => fun ro D m w a m0 w0 V0 _ _ _ hx hs => wpIn_skip ⟨T, H, V, m, h, hs, hx⟩
 | .label _, Q, T, H, V, h => fun ro D m w a m0 w0 V0 _ _ _ hx hs => wpIn_label ⟨T, H, V, m, h, hs, hx⟩
 | .region id ops true, Q, T, H, V, h => h
 | .region id ops false, Q, T, H, V, h => fun ro D m w a m0 w0 V0 _ _ _ hx hs => by
  have h : crun P n ops.toList ops.toList T H V (Q .normal) := h;refine wpIn_region_list ?_;have := fH (P := P) (ro := ro) (Q := fun e a' w' => ∃ T' H' V' m', Q e T' H' V' /\ St D n m' w' a' T' H' V' /\ bh m0 w0 V0 m' w' V') ops.toList hs h (fun T' H' V' a' w' m' k1 k2 k3 => ⟨T', H', V', m', k1, k2, hx.trans k3⟩)
  simpa using this
 | .seq x y, Q, T, H, V, h => aa ((Wp.sound x h).mono fun e T H V k => by
  cases e with
  | normal => exact Wp.sound y k
  | _ => exact k)
 | .cond c x y, Q, T, H, V, h => fun ro D m w a m0 w0 V0 h1 h2 h3 hx hs => by
  have h : iE (em T c) (Wp P n nb nv x Q T H V) (Wp P n nb nv y Q T H V) := h;unfold iE at h
  split at h
  · rename_i t hc
    have := fw hs.tm c;rw [hc, ag] at this;exact wpIn_cond_split this (fun e => Wp.sound x (h.1 e) ro D m w a m0 w0 V0 h1 h2 h3 hx hs) (fun e => Wp.sound y (h.2 e) ro D m w a m0 w0 V0 h1 h2 h3 hx hs)
  · exact h.elim
 | .block id c, Q, T, H, V, h => fun ro D m w a m0 w0 V0 h1 h2 h3 hx hs => by
  refine wpIn_block (wpIn_mono (Wp.sound c h ro D m w a m0 w0 V0 h1 h2 h3 hx hs) fun e a' w' ⟨T', H', V', m', k1, k2⟩ => ?_)
  cases e with
  | exit id' =>
   simp only [DS] at k1;simp only [Exit.inBlock]
   split
   · rename_i hid; rw [if_pos hid] at k1; exact ⟨T', H', V', m', k1, k2⟩
   · rename_i hid; rw [if_neg hid] at k1; exact ⟨T', H', V', m', k1, k2⟩
  | _ => exact ⟨T', H', V', m', k1, k2⟩
 | .loop c, Q, T, H, V, h => fun ro D m w a m0 w0 V0 h1 h2 h3 hx hs => by
  obtain ⟨I, k, ⟨T1, H1, V1, hg, hI⟩, hbody⟩ := h;obtain ⟨m1, s1, s2⟩ := hg D m w a m0 w0 V0 h1 h2 h3 hx hs;refine j6 (fun k a w => ∃ T H V m, I k T H V /\ St D n m w a T H V /\ bh m0 w0 V0 m w V) k ⟨T1, H1, V1, m1, hI, s1, s2⟩ ?_;rintro k a' w' ⟨T2, H2, V2, m2, k1, k2, k3⟩;refine wpIn_mono (Wp.sound c (hbody k T2 H2 V2 k1) ro D m2 w' a' m0 w0 V0 h1 h2 h3 k3 k2) fun e a3 w3 ⟨T3, H3, V3, m3, q1, q2, q3⟩ => ?_
  cases e with
  | normal =>
   obtain ⟨k', hlt, T4, H4, V4, hg4, hI4⟩ := q1;obtain ⟨m4, r1, r2⟩ := hg4 D m3 w3 a3 m0 w0 V0 h1 h2 h3 q3 q2;exact ⟨k', hlt, T4, H4, V4, m4, hI4, r1, r2⟩
  | _ => exact ⟨T3, H3, V3, m3, q1, q2, q3⟩
 | .ret, Q, T, H, V, h => fun ro D m w a m0 w0 V0 _ _ _ hx hs => wpIn_ret ⟨T, H, V, m, h, hs, hx⟩
 | .exit id, Q, T, H, V, h => fun ro D m w a m0 w0 V0 _ _ _ hx hs => wpIn_exit ⟨T, H, V, m, h, hs, hx⟩
 | .rangeFunc .., _, _, _, _, h => False.elim h
 | .scope c, Q, T, H, V, h => fun ro D m w a m0 w0 V0 h1 h2 h3 hx hs => by
  refine gA (wpIn_mono (Wp.sound c h ro D m w a m0 w0 V0 h1 h2 h3 hx hs) fun e a' w' ⟨T', H', V', m', k1, k2⟩ => ?_)
  cases e with
  | goto l => exact k1.elim
  | _ => exact ⟨T', H', V', m', k1, k2⟩
 | .goto _, _, _, _, _, h => False.elim h
 | .refuse _, _, _, _, _, h => False.elim h
end
end
section
def eh (P : Program) : List ResultVar -> Tm -> Hp -> (List CV -> Prop) -> Prop
 | [], _, _, K => K []
 | .tmp t :: r, T, H, K => eh P r T H fun cs => K (bt T t :: cs)
 | .cell a ty :: r, T, H, K => ∃ g n, bH P ty = some (g, n) ∧
  match bt T a with
  | .ptr b o => ∃ cs, H[b]? = some (some cs) /\ ld g n cs o fun c => eh P r T H fun ds => K (c :: ds)
  | _ => False
def one : List CV -> CV
 | [c] => c
 | cs => .tup cs
def ao (nb nv : Nat) (R : CV -> Hp -> List Nat -> Prop) (r : CV) (H : Hp) (V : List Nat) : Prop :=
 ∃ r' H' V', cL 1 nb nv [(0, r)] H V [(0, r')] H' V' /\ R r' H' V'
def Rt (P : Program) (nb nv : Nat) (res : List ResultVar) (R : CV -> Hp -> List Nat -> Prop) : Exit -> Tm -> Hp -> List Nat -> Prop
 | .ret, T, H, V => eh P res T H fun cs => ao nb nv R (one cs) H V
 | .normal, T, H, V => eh P res T H fun cs => ao nb nv R (one cs) H V
 | _, _, _, _ => False
def ai : Nat -> List CV -> Tm
 | _, [] => []
 | i, c :: cs => (i, c) :: ai (i + 1) cs
section
variable {P : Program} {m : Gh} {w : World} {H : Hp} {V : List Nat}
theorem pU {T : Tm} {tmps : Array Value} (hi : bE m w H V) (ht : dC m w V T tmps) {q : ResultVar -> Sem Value} (hq1 : ∀ t, (q (.tmp t)).run P w = .ok (tmps.getD t undef) w)
 (hq2 : ∀ a t k o u, tmps.getD a undef = .pointer (some ⟨k, o, none⟩) -> (loadVar t ⟨k, o, none⟩).run P w = .ok u w -> (q (.cell a t)).run P w = .ok u w) : ∀ (res : List ResultVar) {K : List CV -> Prop}, eh P res T H K →
 ∃ cs us, (res.mapM q).run P w = .ok us w /\ av m w V cs us /\ K cs
 | [], K, h => ⟨[], [], by simp, by rw [av], h⟩
 | .tmp t :: r, K, h => by
  rw [eh] at h;obtain ⟨cs, us, h1, h2, h3⟩ := pU hi ht hq1 hq2 r h;refine ⟨_, tmps.getD t undef :: us, ?_, ?_, h3⟩
  · rw [mapM_cons]
    simp only [Sem.run_bind, Sem.run_pure, Result.andThen_ok, hq1, h1]
  · rw [av]; exact ⟨_, us, rfl, ht t, h2⟩
 | .cell a ty :: r, K, h => by
  rw [eh] at h;obtain ⟨g, n, hty, h⟩ := h;have hx := ht a
  split at h
  · rename_i b o he
    obtain ⟨cs0, hb, h⟩ := h;rw [he, ag] at hx;obtain ⟨k, hk, hu, hrow⟩ := hx;obtain ⟨c, e, g2, g3, g4, g5⟩ := hi.alive hb hk hrow;obtain ⟨c', u, r1, r2, r3⟩ := xr (P := P) hty g5 h;rw [Nat.zero_add] at r1;obtain ⟨cs, us, h1, h2, h3⟩ := pU hi ht hq1 hq2 r r3;refine ⟨_, u :: us, ?_, ?_, h3⟩
    · rw [mapM_cons]
      simp only [Sem.run_bind, hq2 a ty k o u hu r1, Sem.run_pure, Result.andThen_ok, h1]
    · rw [av]; exact ⟨_, us, rfl, r2, h2⟩
  · exact h.elim
theorem ol {fn : Func} {T : Tm} {tmps : Array Value} (hi : bE m w H V) (ht : dC m w V T tmps) {K : List CV -> Prop} (h : eh P fn.results.toList T H K) :
 ∃ cs u, (results fn tmps).run P w = .ok u w /\ ag m w V (one cs) u /\ K cs := by
 have main : ∃ cs us, (fn.results.mapM (m := Sem) fun | .tmp t => pure (tmps.getD t undef) | .cell a t => do loadVar t (← asAddr (tmps.getD a undef))).run P w = .ok (List.toArray us) w /\ av m w V cs us /\ K cs := by
  obtain ⟨cs, us, h1, h2, h3⟩ := pU (q := fun | .tmp t => pure (tmps.getD t undef) | .cell a t => do loadVar t (← asAddr (tmps.getD a undef))) hi ht (fun _ => rfl) (fun a t k o u hu hr => by simp only [Sem.run_bind, hu, asAddr, Sem.run_pure, Result.andThen_ok, hr]) _ h;exact ⟨cs, us, by rw [Array.mapM_eq_mapM_toList, Sem.run_map, h1]; rfl, h2, h3⟩
 obtain ⟨cs, us, iF, h2, h3⟩ := main;have hl := aG h2;refine ⟨cs, if h : us.toArray.size = 1 then us.toArray[0] else .tuple us.toArray, ?_, ?_, h3⟩
 · unfold results
   rw [Sem.run_bind];exact congrArg (fun r => Result.andThen r _) iF
 · match cs, us, h2 with
   | [c], us, h2 =>
    rw [av] at h2;obtain ⟨u, r, rfl, q1, q2⟩ := h2;rw [av] at q2; subst q2
    simpa [one] using q1
   | [], us, h2 =>
    rw [av] at h2; subst h2;simp only [one];rw [ag];exact ⟨[], by simp, by rw [av]⟩
   | c :: d :: cs, us, h2 =>
    have hl := aG h2;simp only [one];rw [ag];refine ⟨us, ?_, h2⟩;rw [dif_neg (by simp [hl])]
theorem n0 : ∀ (cs : List CV) (i n : Nat), bt (ai i cs) n = if i <= n then (cs[n - i]?).getD .any else .any
 | [], i, n => by simp [ai, bt]
 | c :: cs, i, n => by
  simp only [ai, bt]
  by_cases h : n = i
  · subst h; simp
  · rw [if_neg h, n0 cs (i + 1) n]
    by_cases h2 : i <= n
    · rw [if_pos h2, if_pos (by omega), show n - i = (n - (i + 1)) + 1 from by omega]; simp
    · rw [if_neg h2, if_neg (by omega)]
section
variable {w' : World} (hc : ∀ (k : Nat) c e fr, w.heap[k]? = some (.cells c e fr) ↔ w'.heap[k]? = some (.cells c e fr))
include hc
theorem sN (a : Addr) (ha : a.spot = none) : w'.cell? a = w.cell? a := by
 simp only [World.cell?, ha]
 cases h : w.heap[a.block]? with
 | none =>
  cases h' : w'.heap[a.block]? with
  | none => rfl
  | some o =>
   cases o with
   | cells c e fr => rw [(hc _ c e fr).2 h'] at h; cases h
   | _ => rfl
 | some o =>
  cases o with
  | cells c e fr => rw [(hc _ c e fr).1 h]
  | _ =>
   cases h' : w'.heap[a.block]? with
   | none => rfl
   | some o' =>
    cases o' with
    | cells c e fr => rw [(hc _ c e fr).2 h'] at h; cases h
    | _ => rfl
theorem gj.same' {k : Nat} (h : gj w k) : gj w' k := by
 obtain ⟨c, e, fr, h⟩ := h;exact ⟨c, e, fr, (hc k c e fr).1 h⟩
mutual
theorem ag.same : ∀ (c : CV) (u : Value), ag m w V c u -> ag m w' V c u
 | .any, _, _ => by rw [ag]; trivial
 | .v x, u, h => by rw [ag] at h ⊢; exact h
 | .agg cs, u, h => by rw [ag] at h ⊢; obtain ⟨us, h1, h2⟩ := h; exact ⟨us, h1, av.same cs us h2⟩
 | .tup cs, u, h => by rw [ag] at h ⊢; obtain ⟨us, h1, h2⟩ := h; exact ⟨us, h1, av.same cs us h2⟩
 | .sl tk sz xs, u, h => by
  rw [ag] at h ⊢;obtain ⟨base, cap, h1, h2, h3, h4, h5⟩ := h;refine ⟨base, cap, h1, h2, ?_, h4, ?_⟩
  · cases tk with
    | sh => trivial
    | ti => exact h3
    | own t v =>
     obtain ⟨v', q1, q2, q3⟩ := (h3 : ly m w V t v sz xs.length cap base)
     refine ⟨v', q1, q2, fun e => ?_⟩;rcases q3 e with q3 | ⟨k, o, c, ec, hb, ht1, hl, hcc, r⟩
     · exact .inl q3
     · exact .inr ⟨k, o, c, ec, hb, ht1, hl, (hc _ _ _ _).1 hcc, r⟩
  · rcases h5 with h5 | ⟨k, o, hb, hl, he⟩
    · exact .inl h5
    · exact .inr ⟨k, o, hb, hl, bB.same k sz xs o he⟩
 | .bsl b o n sz, u, h => by
  rw [ag] at h ⊢;obtain ⟨base, cap, k, h1, h2, h3, h4, h5, h6⟩ := h;exact ⟨base, cap, k, h1, h2, h3, h4, h5, h6.same' hc⟩
 | .ptr b o, u, h => by rw [ag] at h ⊢; obtain ⟨k, h1, h2, h3⟩ := h; exact ⟨k, h1, h2, h3.same' hc⟩
 | .eptr cs o, u, h => by rw [ag] at h ⊢; obtain ⟨k, a, h1, h2, h3⟩ := h; exact ⟨k, a, h1, h2, aX.same k cs a h3⟩
 | .fn f caps, u, h => by rw [ag] at h ⊢; obtain ⟨us, h1, h2⟩ := h; exact ⟨us, h1, av.same caps us h2⟩
 | .bm f caps, u, h => by rw [ag] at h ⊢; obtain ⟨us, h1, h2⟩ := h; exact ⟨us, h1, av.same caps us h2⟩
 | .yl b, u, h => by rw [ag] at h ⊢; exact h
 | .mv b, u, h => by rw [ag] at h ⊢; exact h
 | .it b, u, h => by rw [ag] at h ⊢; exact h
 | .bsa b n sz, u, h => by
  rw [ag] at h ⊢;obtain ⟨k, cap, c, e, h1, h2, h3, h4, h5, h6⟩ := h;exact ⟨k, cap, c, e, h1, h2, h3, h4, (hc _ _ _ _).1 h5, h6⟩
 | .objl .., u, h => by rw [ag] at h; exact h.elim
 | .objm .., u, h => by rw [ag] at h; exact h.elim
 | .obji .., u, h => by rw [ag] at h; exact h.elim
theorem av.same : ∀ (cs : List CV) (us : List Value), av m w V cs us -> av m w' V cs us
 | [], us, h => by rw [av] at h ⊢; exact h
 | c :: cs, us, h => by rw [av] at h ⊢; obtain ⟨u, r, h1, h2, h3⟩ := h; exact ⟨u, r, h1, ag.same c u h2, av.same cs r h3⟩
theorem aX.same (k : Nat) : ∀ (cs : List CV) (o : Nat), aX m w V k cs o -> aX m w' V k cs o
 | [], o, _ => by rw [aX]; trivial
 | c :: cs, o, h => by
  rw [aX] at h ⊢;obtain ⟨⟨u, h1, h2⟩, h3⟩ := h;exact ⟨⟨u, by rw [sN hc ⟨k, o, none⟩ rfl]; exact h1, ag.same c u h2.1, h2.2⟩, aX.same k cs (o + 1) h3⟩
theorem bB.same (k sz : Nat) : ∀ (es : List (List CV)) (o : Nat), bB m w V k sz es o -> bB m w' V k sz es o
 | [], o, _ => by rw [bB]; trivial
 | e :: es, o, h => by
  rw [bB] at h ⊢;obtain ⟨h1, h2, h3⟩ := h;exact ⟨h1, aX.same k e o h2, bB.same k sz es (o + sz) h3⟩
end
theorem jB.same {tmps : Array Value} : ∀ {ks : List Nat} {cs : List CV}, jB m w V tmps ks cs -> jB m w' V tmps ks cs
 | _ :: _, _ :: _, h => ⟨ag.same hc _ _ h.1, jB.same h.2⟩
 | [], [], _ => trivial
 | [], _ :: _, h => h.elim
 | _ :: _, [], h => h.elim
end
theorem p7 (w : World) (r k : Nat) (o : Obj) : (w.putObj r o).heap[k]? = if k = r /\ r < w.heap.size then some o else w.heap[k]? := by
 show (w.heap.setIfInBounds r o)[k]? = _
 by_cases h : r = k
 · subst h
   by_cases hl : r < w.heap.size
   · rw [Array.getElem?_setIfInBounds_self_of_lt hl, if_pos ⟨rfl, hl⟩]
   · rw [if_neg (by omega), Array.getElem?_eq_none (by simp; omega), Array.getElem?_eq_none (by omega)]
 · rw [Array.getElem?_setIfInBounds_ne h, if_neg (by omega)]
theorem BR {r : Nat} {ds : Option (List Deferred)} (hr : w.heap[r]? = some (.deferred ds)) (hi : bE m w H V) {m0 : Gh} {w0 : World} {V0 : List Nat} (hx : bh m0 w0 V0 m w V) (h0 : w0.heap.size <= r) :
 bE m (w.putObj r (.deferred none)) H V /\ bh m0 w0 V0 m (w.putObj r (.deferred none)) V /\ (∀ c u, ag m w V c u -> ag m (w.putObj r (.deferred none)) V c u) /\ ∀ k, k ≠ r -> (w.putObj r (.deferred none)).heap[k]? = w.heap[k]? := by
 have hlt : r < w.heap.size := (Array.getElem?_eq_some_iff.1 hr).1;have dB : ∀ k, k ≠ r -> (w.putObj r (.deferred none)).heap[k]? = w.heap[k]? := fun k hk => by rw [p7, if_neg (by omega)]
 have hself : (w.putObj r (.deferred none)).heap[r]? = some (.deferred none) := by rw [p7, if_pos ⟨rfl, hlt⟩]
 have hc : ∀ (k : Nat) c e fr, w.heap[k]? = some (.cells c e fr) ↔ (w.putObj r (.deferred none)).heap[k]? = some (.cells c e fr) := fun k c e fr => by
  by_cases hk : k = r
  · subst hk
    rw [hr, hself]
    constructor <;> intro h <;> cases h
  · rw [dB k hk]
 have hsz : (w.putObj r (.deferred none)).heap.size = w.heap.size := by show (w.heap.setIfInBounds r _).size = _; simp
 refine ⟨⟨hi.boxlen, hi.tiplen, fun k hk => ?_, fun t k h => ?_, fun b k h => by rw [hsz]; exact hi.boxes b k h, hi.uniq, fun b cs h => ?_⟩, ⟨hx.os, hx.tape, hx.output, by rw [hsz]; exact hx.size, fun k c e fr h => ?_, hx.lim, fun k o ho => ?_, fun k d h => ?_, fun k hk hb ht => ?_, hx.box, hx.boxnew, hx.tipnew, hx.tok⟩, ag.same hc, dB⟩
 · obtain ⟨c, e, fr, h1, h2⟩ := hi.limv k hk
   exact ⟨c, e, fr, (hc k c e fr).1 h1, h2⟩
 · obtain ⟨⟨c, e, h1⟩, h2⟩ := hi.tips t k h
   exact ⟨⟨c, e, (hc k c e _).1 h1⟩, h2⟩
 · cases hi.live b cs h with
   | row k c e h1 h2 h3 h4 h5 => exact .row k c e h1 ((hc k c e _).1 h2) h3 h4 (aX.same hc k cs 0 h5)
   | obj k x h1 h2 h3 =>
    refine .obj k x h1 h2 ?_;have hk : k ≠ r := fun e => by
     subst e
     cases x with
     | objl => obtain ⟨_, _, _, g, _⟩ := h3; rw [hr] at g; cases g
     | objm => obtain ⟨_, g, _⟩ := h3; rw [hr] at g; cases g
     | obji => obtain ⟨_, _, _, g, _⟩ := h3; rw [hr] at g; cases g
     | _ => exact h3.elim
    cases x with
    | objl => obtain ⟨t, f, d, g1, g2, g3⟩ := h3; exact ⟨t, f, d, by rw [dB k hk]; exact g1, g2, g3.same hc⟩
    | objm =>
     obtain ⟨es, g1, g2, g3, g4⟩ := h3;refine ⟨es, by rw [dB k hk]; exact g1, g2, g3, fun i e he => ?_⟩;obtain ⟨q1, q2, c, q3, q4⟩ := g4 i e he;exact ⟨q1, q2, c, q3, ag.same hc _ _ q4⟩
    | obji => obtain ⟨km, st, g1, g2, g3⟩ := h3; exact ⟨km, st, g1, by rw [dB k hk]; exact g2, g3⟩
    | _ => exact h3.elim
 · obtain ⟨c', h1, h2⟩ := hx.shape k c e fr h
   exact ⟨c', (hc k c' e fr).1 h1, h2⟩
 · rw [sN hc ⟨k, o, none⟩ rfl]; exact hx.prot k o ho
 · have := hx.dfr k d h
   have hk : k < w0.heap.size := (Array.getElem?_eq_some_iff.1 h).1;rw [dB k (by omega)]; exact this
 · rw [dB k (by omega)]; exact hx.same k hk hb ht
theorem mG {fn : Func} {tmps : Array Value} {T : Tm} {R : Ending -> World -> Prop} {m0 : Gh} {w0 : World} {V0 : List Nat} {lo : Nat} (hlo : w0.heap.size <= lo) : ∀ (ms : List Nat) {w : World}, ms.Nodup -> (∀ r ∈ ms, lo <= r /\ w.heap[r]? = some (.deferred (some []))) -> bE m w H V -> dC m w V T tmps -> bh m0 w0 V0 m w V →
 (∀ w', bE m w' H V -> dC m w' V T tmps -> bh m0 w0 V0 m w' V -> ∃ v, (results fn tmps).run P w' = .ok v w' /\ R (.returned v) w') -> LeavesInM Fence.wide 0 P fn tmps R (ms.map KM ++ []) .returning w
 | [], w, _, _, hi, ht, hx, hR => hR w hi ht hx
 | r :: ms, w, hn, hr, hi, ht, hx, hR => by
  obtain ⟨h1, h2⟩ := hr r (by simp);obtain ⟨s1, s2, s3, s4⟩ := BR h2 hi hx (by omega);refine ⟨(by intro h; cases h), .inl ⟨r, _, rfl, run_takeDeferred h2, ?_⟩⟩;have hn' := List.nodup_cons.1 hn;refine mG hlo ms hn'.2 (fun r' hr' => ?_) s1 (fun n => s3 _ _ (ht n)) s2 hR;have hne : r' ≠ r := fun e => hn'.1 (by rw [<- e]; exact hr');exact ⟨(hr r' (mem_cons_of_mem _ hr')).1, by rw [s4 r' hne]; exact (hr r' (mem_cons_of_mem _ hr')).2⟩
theorem CC.of_swp0 {f : FuncId} {fn : Func} {c : Code} {args : List CV} {R : CV -> Hp -> List Nat -> Prop} (hf : P.funcs[f]? = some fn) (hb : fn.body = some c) (hn : (fn.name == "runtime.NumGoroutine") = false) (ha : args.length <= fn.ntmps)
 (h : okL H.length V.length args -> (∀ (b : Nat) cs, H[b]? = some (some cs) -> okL H.length V.length cs) -> aL P fn.ntmps H.length V.length c (Rt P H.length V.length fn.results.toList R) (ai 0 args) H V) : CC P f args H V R := by
 refine ⟨⟨fn, hf, by rw [hb]; rfl, hn⟩, fun m w us hi hu => ?_⟩;have hl := aG hu;have hok : okL H.length V.length args := by rw [<- hi.boxlen]; exact av.ok args us hu
 have oH : ∀ (b : Nat) cs, H[b]? = some (some cs) -> okL H.length V.length cs := fun b cs hbc => by
  rw [<- hi.boxlen]; exact (hi.live b cs hbc).ok
 refine callsIn_wide.1 (callsIn_of_wp_marks (F := Fence.wide) (n := 0) hf hb trivial ?_);have hst : St ⟨[], w.heap.size, false⟩ fn.ntmps m w { tmps := us.toArray ++ Array.replicate (fn.ntmps - us.toArray.size) undef, defers := [] } (ai 0 args) H V := by
  refine ⟨hi, fun k => ?_, by simp [hl]; omega, wB.own _ _⟩;rw [n0];simp only [zero_le, if_true, Nat.sub_zero]
  cases hk : args[k]? with
  | none => rw [Option.getD_none, ag]; trivial
  | some c =>
   obtain ⟨u, h1, h2⟩ := dn hu k c hk;have : (us.toArray ++ Array.replicate (fn.ntmps - us.toArray.size) undef).getD k undef = u := by
    have hlt := (List.getElem?_eq_some_iff.1 h1).1;simp only [Array.getD_eq_getD_getElem?];rw [Array.getElem?_append_left (by simpa using hlt)];simp [h1]
   rw [this]; exact h2
 refine wpIn_mono (h hok oH _ rfl m w _ m w V hi.boxlen hi.tiplen rfl (bh.refl m w V) hst) fun e a' w' ⟨T', H', V', m', k1, k2, k3⟩ => ?_;have fin : eh P fn.results.toList T' H' (fun cs => ao H.length V.length R (one cs) H' V') -> LeavesInM Fence.wide 0 P fn a'.tmps (fun e w' => ∃ u m' r H' V', e = .returned u /\ R r H' V' /\ bE m' w' H' V' /\ ag m' w' V' r u /\ bh m w V m' w' V') a'.defers .returning w' := by
  intro hk;obtain ⟨_, ms, hms, hnd, hr⟩ := k2.df;rw [hms];refine mG (le_refl _) ms hnd.1 hr k2.inv k2.tm k3 fun w'' g1 g2 g3 => ?_;obtain ⟨cs, u, q1, q2, r', H2, V2, q3, q4⟩ := ol g1 g2 hk;refine ⟨u, q1, ?_⟩;have hst2 : St ⟨[], w''.heap.size, false⟩ 1 m' w'' { tmps := #[u], defers := [] } [(0, one cs)] H' V' := by
   refine ⟨g1, fun k => ?_, rfl, wB.own _ _⟩;simp only [bt]
   by_cases hk : k = 0
   · subst hk; rw [if_pos rfl]; exact q2
   · rw [if_neg hk, ag]; trivial
  obtain ⟨m2, s1, s2⟩ := q3 _ m' w'' { tmps := #[u], defers := [] } m w V hi.boxlen hi.tiplen rfl g3 hst2;refine ⟨u, m2, r', H2, V2, rfl, q4, s1.inv, ?_, s2⟩;have := s1.tm 0
  simpa [bt] using this
 cases e with
 | normal => exact fin k1
 | ret => exact fin k1
 | _ => exact k1.elim
theorem DM {f : FuncId} {fn : Func} {c : Code} {args : List CV} {R : CV -> Hp -> List Nat -> Prop} (hf : P.funcs[f]? = some fn) (hb : fn.body = some c) (hn : (fn.name == "runtime.NumGoroutine") = false) (ha : args.length <= fn.ntmps)
 (h : okL H.length V.length args -> (∀ (b : Nat) cs, H[b]? = some (some cs) -> okL H.length V.length cs) -> ac P fn.ntmps H.length V.length c (Rt P H.length V.length fn.results.toList R) (ai 0 args) H V) : CC P f args H V R :=
 CC.of_swp0 hf hb hn ha fun a b D _ => h a b none D
end
end
section
def mk {α : Type} (x : α) : α := x
def kc (K : CV -> Hp -> List Nat -> Prop) (H : Hp) (V : List Nat) : CV -> Prop := fun c => K c H V
@[go_sem ↓] theorem agQ (K : CV -> Hp -> List Nat -> Prop) (H : Hp) (V : List Nat) (c : CV) : kc K H V c = K c H V := rfl
def bv {α : Type} : Option α -> (α -> Prop) -> Prop
 | some a, K => K a
 | none, _ => False
theorem aV {α : Type} (o : Option α) (K : α -> Prop) : bv o K = ∃ a, o = some a /\ K a := by
 cases o <;> simp [bv]
def vq : CV -> CV -> CV -> (CV -> Prop) -> Prop
 | .v (.bool t), x, y, K => K (vR t x y)
 | _, _, _, _ => False
def dN (H : Hp) (b : Nat) (K : List CV -> Prop) : Prop :=
 match H[b]? with
 | some (some cs) => K cs
 | _ => False
theorem gv (H : Hp) (b : Nat) (K : List CV -> Prop) : dN H b K = ∃ cs, H[b]? = some (some cs) /\ K cs := by
 unfold dN
 split
 · rename_i cs h; simp [h]
 · rename_i h
   simp only [eq_iff_iff, false_iff];rintro ⟨cs, h1, _⟩;exact h cs h1
def oq (g : Bool) (n : Nat) : CV -> Hp -> (CV -> Prop) -> Prop
 | .ptr b o, H, K => dN H b fun cs => ld g n cs o K
 | .eptr cs o, _, K => ld g n cs o K
 | _, _, _ => False
def lU (n : Nat) : CV -> CV -> Hp -> (Hp -> Prop) -> Prop
 | .ptr b o, y, H, K => dN H b fun cs => aJ y.cells = true /\ y.cells.length = n /\ o + n <= cs.length /\ K (H.set b (some (cs.take o ++ y.cells ++ cs.drop (o + n))))
 | _, _, _, _ => False
def tH : CV -> (CV -> Prop) -> Prop
 | .ptr b o, K => K (.ptr b o)
 | .eptr cs o, K => K (.eptr cs o)
 | .fn f caps, K => K (.fn f caps)
 | .bm f caps, K => K (.bm f caps)
 | .yl b, K => K (.yl b)
 | _, _ => False
def qz : Option IntKind -> CV -> (CV -> Prop) -> Prop
 | some k, .v (.int _ n), K => K (.v (.int k (k.wrap n)))
 | none, .sl _ _ xs, K => ∃ bs : List UInt8, xs = bs.map u8 /\ K (.v (.string ⟨bs.toArray⟩))
 | none, .v (.slice none 0 0), K => K (.v (.string .empty))
 | _, _, _ => False
def GC (n sz : Nat) : CV -> (CV -> Prop) -> Prop
 | .sl _ sz' xs, K => sz' = sz /\ n <= xs.length /\ K (.eptr (xs.take n).flatten 0)
 | _, _ => False
def nN (o : Nat) : CV -> (CV -> Prop) -> Prop
 | .ptr b o', K => K (.ptr b (o' + o))
 | .eptr cs o', K => K (.eptr cs (o' + o))
 | _, _ => False
def qy (o : Nat) (g : Bool) (n : Nat) : CV -> (CV -> Prop) -> Prop
 | .agg cs, K => ld g n cs o K
 | _, _ => False
def xC (len : Nat) (g : Bool) (n : Nat) : CV -> CV -> (CV -> Prop) -> Prop
 | .agg cs, .v (.int _ j), K => 0 <= j /\ j < len /\ ld g n cs (j.toNat * n) K
 | _, _, _ => False
def GG (i : Nat) : CV -> (CV -> Prop) -> Prop
 | .tup cs, K => ∃ h : i < cs.length, K cs[i]
 | _, _ => False
def NR (sz : Nat) (zs : List Value) (H : Hp) : CV -> CV -> (CV -> Hp -> Prop) -> Prop
 | .v (.int _ n), .v (.int _ n'), K => n = n' /\ 0 <= n /\ n <= 1099511627776 /\ K (.bsl H.length 0 n.toNat sz) (H ++ [some ((List.replicate n.toNat (zs.map CV.v)).flatten)])
 | _, _, _ => False
def fm (P : Program) (H : Hp) (V : List Nat) : CV -> List CV -> (CV -> Hp -> List Nat -> Prop) -> Prop
 | .fn g caps, args, K => CC P g (args ++ caps) H V K
 | .bm g first, args, K => CC P g (first ++ args) H V K
 | .yl b, args, K => YC P b args H V K
 | _, _, _ => False
def GI (x : CV) (sz : Nat) (ys : List (List CV)) (H : Hp) (V : List Nat) (K : CV -> Hp -> List Nat -> Prop) : Prop :=
 match x with
 | .bsl b o n sz' => sz' = sz /\ ys.length <= n /\ dN H b fun cs => aJ ys.flatten = true /\ o + ys.length * sz <= cs.length ∧
  K (.v (.int .i64 ys.length)) (H.set b (some (cs.take o ++ ys.flatten ++ cs.drop (o + ys.length * sz)))) V
 | _ => False
def IW (H : Hp) (b : Nat) (K : List Int -> List CV -> Prop) : Prop :=
 match H[b]? with
 | some (some [.objm ks vs]) => K ks vs
 | _ => False
theorem xE (H : Hp) (b : Nat) (K : List Int -> List CV -> Prop) : IW H b K = ∃ ks vs, H[b]? = some (some [.objm ks vs]) /\ K ks vs := by
 unfold IW
 split
 · rename_i ks vs h
   simp only [h, Option.some.injEq, List.cons.injEq, CV.objm.injEq, and_true, eq_iff_iff];exact ⟨fun k => ⟨_, _, ⟨rfl, rfl⟩, k⟩, fun ⟨_, _, ⟨h1, h2⟩, k⟩ => by subst h1 h2; exact k⟩
 · rename_i h
   simp only [eq_iff_iff, false_iff];rintro ⟨ks, vs, h1, _⟩;exact h ks vs h1
theorem jm {H : Hp} {b : Nat} {ks : List Int} {vs : List CV} (h : H[b]? = some (some [.objm ks vs])) (K : List Int -> List CV -> Prop) : IW H b K = K ks vs := by unfold IW; rw [h]
def vt (z : Value) (H : Hp) : CV -> CV -> (CV -> Prop) -> Prop
 | .mv b, .v (.int .i64 n), K => IW H b fun ks vs => K (mD z ks vs n)
 | _, _, _ => False
def vr (H : Hp) (y : CV) : CV -> CV -> (Hp -> Prop) -> Prop
 | .mv b, .v (.int .i64 n), K => IW H b fun ks vs => K (H.set b (some [tC ks vs n y]))
 | _, _, _ => False
def qv (H : Hp) : CV -> (CV -> Hp -> Prop) -> Prop
 | .mv b, K => IW H b fun ks _ => K (.it H.length) (H ++ [some [.obji b ks.length []]])
 | _, _ => False
section
variable (P : Program) (ev : Operand -> CV) (H : Hp) (V : List Nat) (K : CV -> Hp -> List Nat -> Prop)
@[go_sem ↓] theorem aaf (x : Operand) : cx P ev H V K (.move x) = K (ev x) H V := rfl
@[go_sem ↓] theorem QU (x : Operand) : cx P ev H V K (.assign x) = K (ev x) H V := rfl
@[go_sem ↓] theorem aad (c x y : Operand) : cx P ev H V K (.pick c x y) = vq (ev c) (ev x) (ev y) (kc K H V) := by
 unfold kc;simp only [cx]; unfold vq; split <;> simp_all
@[go_sem ↓] theorem VC (e : TypeId) : cx P ev H V K (.alloc e) = bv (ck P e) fun zs => K (.ptr H.length 0) (H ++ [some (zs.map .v)]) V := by
 rw [aV]; rfl
@[go_sem ↓] theorem adE (e : TypeId) (x : Operand) : cx P ev H V K (.box e x) = (aJ (ev x).cells = true /\ K (.ptr H.length 0) (H ++ [some (ev x).cells]) V) := rfl
@[go_sem ↓] theorem aag (t : TypeId) (a : Operand) : cx P ev H V K (.load t a) = bv (bH P t) fun x => oq x.1 x.2 (ev a) H (kc K H V) := by
 unfold kc;rw [aV]; simp only [cx, Prod.exists]
 cases ev a <;> simp only [oq, gv]
@[go_sem ↓] theorem U4 (t : TypeId) (a x : Operand) : cx P ev H V K (.store t a x) = bv (bH P t) fun q => lU q.2 (ev a) (ev x) H fun H' => K .any H' V := by
 rw [aV]; simp only [cx, Prod.exists]
 cases ev a <;> simp only [lU, gv]
@[go_sem ↓] theorem MO (x : Operand) : cx P ev H V K (.nilCheck x) = tH (ev x) (kc K H V) := by
 unfold kc;simp only [cx]; unfold tH; split <;> simp_all
@[go_sem ↓] theorem VB (op : BinOp) (t ty : TypeId) (x y : Operand) : cx P ev H V K (.binOp op t x y ty) = kq P op t (ev x) (ev y) (kc K H V) := rfl
@[go_sem ↓] theorem aac (op : UnOp) (t : TypeId) (x : Operand) : cx P ev H V K (.unOp op t x) = wG op (ev x) (kc K H V) := rfl
@[go_sem ↓] theorem OM (s d : TypeId) (x : Operand) : cx P ev H V K (.convert s d x) = bv (mS P s d) fun k => qz k (ev x) (kc K H V) := by
 unfold kc;rw [aV]; simp only [cx]
 congr 1; funext k; congr 1; unfold qz; split <;> simp_all
@[go_sem ↓] theorem adA (t : TypeId) (x : Operand) : cx P ev H V K (.sliceToArrayPointer t x) = bv (iQ P t) fun q => GC q.1 q.2.2 (ev x) (kc K H V) := by
 unfold kc;rw [aV]; simp only [cx, Prod.exists]
 cases ev x <;> simp only [GC]
@[go_sem ↓] theorem MP (f : FuncId) (captured : Array Operand) : cx P ev H V K (.makeFunc (.func f) #[] captured) = K (.fn f (captured.toList.map ev)) H V := rfl
@[go_sem ↓] theorem I1 (f : FuncId) (x : Operand) : cx P ev H V K (.makeFunc (.func f) #[x] #[]) = K (.bm f [ev x]) H V := rfl
@[go_sem ↓] theorem aah (x y : Operand) (t tx : TypeId) : cx P ev H V K (.call ⟨.builtin .copy, #[x, y], #[t, tx]⟩) = lw P t tx (ev x) (ev y) H V K := by
 simp [cx];exact ⟨fun ⟨_, _, ⟨h1, h2⟩, _, _, ⟨h3, h4⟩, h⟩ => by subst h1 h2 h3 h4; exact h, fun h => ⟨_, _, ⟨rfl, rfl⟩, _, _, ⟨rfl, rfl⟩, h⟩⟩
@[go_sem ↓] theorem adB (x y : Operand) (tys : Array TypeId) : cx P ev H V K (.call ⟨.builtin .min, #[x, y], tys⟩) = xX min (ev x) (ev y) (kc K H V) := by
 unfold kc;simp [cx];exact ⟨fun ⟨_, _, ⟨h3, h4⟩, h⟩ => by subst h3 h4; exact h, fun h => ⟨_, _, ⟨rfl, rfl⟩, h⟩⟩
@[go_sem ↓] theorem adC (x y : Operand) (tys : Array TypeId) : cx P ev H V K (.call ⟨.builtin .max, #[x, y], tys⟩) = xX max (ev x) (ev y) (kc K H V) := by
 unfold kc;simp [cx];exact ⟨fun ⟨_, _, ⟨h3, h4⟩, h⟩ => by subst h3 h4; exact h, fun h => ⟨_, _, ⟨rfl, rfl⟩, h⟩⟩
@[go_sem ↓] theorem OK (t : TypeId) : cx P ev H V K (.makeMap t none) = ((nJ P t).isSome = true /\ K (.mv H.length) (H ++ [some [.objm [] []]]) V) := by simp [cx]
@[go_sem ↓] theorem QT (t : TypeId) (x i : Operand) : cx P ev H V K (.lookup t x i false) = bv (nJ P t) fun z => vt z H (ev x) (ev i) (kc K H V) := by
 unfold kc;rw [aV]; simp only [cx, vY, true_and]
 congr 1; funext z; congr 1
 unfold vt; split <;> simp_all [xE]
@[go_sem ↓] theorem IZ (t : TypeId) (x i y : Operand) : cx P ev H V K (.mapUpdate t x i y) = ((nJ P t).isSome = true /\ (ev y).one = true /\ vr H (ev y) (ev x) (ev i) fun H' => K .any H' V) := by
 simp only [cx, vW]
 congr 2
 unfold vr; split <;> simp_all [xE]
@[go_sem ↓] theorem U6 (t : TypeId) (x : Operand) : cx P ev H V K (.range t x) = ((nJ P t).isSome = true /\ qv H (ev x) fun c H' => K c H' V) := by
 simp only [cx, qQ]
 congr 1
 unfold qv; split <;> simp_all [xE]
@[go_sem ↓] theorem aae (x : Operand) : cx P ev H V K (.next x false) = oC (ev x) false H fun c H' => K c H' V := rfl
@[go_sem ↓] theorem U9 (x : Operand) : cx P ev H V K (.entry x) = iO (ev x) H (kc K H V) := rfl
@[go_sem ↓] theorem I0 (t : TypeId) (i : Tmp) (c : Operand) : cx P ev H V K (.makeSlice t (.tmp i) c) = bv (aZ P t) fun q => bv (ck P q.1) fun zs => NR q.2 zs H (ev (.tmp i)) (ev c) fun c H' => K c H' V := by
 rw [aV]; simp only [cx, isZ, Prod.exists, aV]
 congr 1; funext e; congr 1; funext sz; congr 1; congr 1; funext zs; congr 1
 unfold NR; split <;> simp_all
def CH (P : Program) (sz : Nat) (zs : List Value) (z : Bool) (H : Hp) (V : List Nat) (x y : CV) (K : CV -> Hp -> List Nat -> Prop) : Prop :=
 match z with
 | true => (match y with | .v (.int _ n) => 0 <= n /\ n <= 1099511627776 /\ K (.sl (.own V.length 0) sz []) H (V ++ [0]) | _ => False)
 | false => NR sz zs H x y fun c H' => K c H' V
@[go_sem ↓] theorem HR (t : TypeId) (k : IntKind) (n : Int) (c : Operand) : cx P ev H V K (.makeSlice t (.const (.int k n)) c) = bv (aZ P t) fun q => bv (ck P q.1) fun zs => CH P q.2 zs (n == 0) H V (ev (.const (.int k n))) (ev c) K := by
 rw [aV]; simp only [cx, isZ, Prod.exists, aV]
 congr 1; funext e; congr 1; funext sz; congr 1; congr 1; funext zs; congr 1
 unfold CH
 cases (n == 0)
 · dsimp only; unfold NR; split <;> simp_all
 · rfl
@[go_sem] theorem afu (sz : Nat) (zs : List Value) (H : Hp) (V : List Nat) (x : CV) (k : IntKind) (n : Int) (K : CV -> Hp -> List Nat -> Prop) : CH P sz zs true H V x (.v (.int k n)) K = (0 <= n /\ n <= 1099511627776 /\ K (.sl (.own V.length 0) sz []) H (V ++ [0])) := rfl
@[go_sem] theorem afv (sz : Nat) (zs : List Value) (H : Hp) (V : List Nat) (x y : CV) (K : CV -> Hp -> List Nat -> Prop) : CH P sz zs false H V x y K = NR sz zs H x y fun c H' => K c H' V := rfl
@[go_sem ↓] theorem U5 (t : TypeId) (x : Operand) (lo hi mx : Option Operand) : cx P ev H V K (.slice t x lo hi mx) = cY P t (ev x) (lo.map ev) (hi.map ev) (mx.map ev) (kc K H V) := rfl
@[go_sem ↓] theorem I3 (s : TypeId) (x : Operand) (f : Nat) : cx P ev H V K (.fieldAddr s x f) = bv (bj P s f) fun q => nN q.1 (ev x) (kc K H V) := by
 unfold kc;rw [aV]; simp only [cx, Prod.exists]
 congr 1; funext o; congr 1; funext g; congr 1; funext n; congr 1
 unfold nN; split <;> simp_all
@[go_sem ↓] theorem U8 (s : TypeId) (x : Operand) (f : Nat) : cx P ev H V K (.field s x f) = bv (bj P s f) fun q => qy q.1 q.2.1 q.2.2 (ev x) (kc K H V) := by
 unfold kc;rw [aV]; simp only [cx, Prod.exists]
 congr 1; funext o; congr 1; funext g; congr 1; funext n; congr 1
 unfold qy; split <;> simp_all
@[go_sem ↓] theorem I2 (t : TypeId) (x i : Operand) : cx P ev H V K (.indexAddr t x i) = ju P t (ev x) (ev i) (kc K H V) := rfl
@[go_sem ↓] theorem U7 (t : TypeId) (x i : Operand) : cx P ev H V K (.index t x i) = eJ P t (ev x) (ev i) (kc K H V) := rfl
@[go_sem ↓] theorem OL (x : Operand) (i : Nat) : cx P ev H V K (.extract x i) = GG i (ev x) (kc K H V) := by
 unfold kc;simp only [cx]; unfold GG; split <;> simp_all
@[go_sem ↓] theorem VA (t : TypeId) (parts : Array (Nat × Operand)) : cx P ev H V K (.build t parts) = bv (eM P t) fun q => bv (kP q.1 (q.2.map .v) (parts.toList.map fun p => (p.1, ev p.2))) fun cs => K (.agg cs) H V := by
 rw [aV]; simp only [cx, Prod.exists, aV]
 congr 1; funext o; congr 1; funext g
 simp only [exists_and_left]
@[go_sem ↓] theorem HS (t : TypeId) (len : Nat) (parts : Array (Nat × Operand)) : cx P ev H V K (.buildSlice t len parts) = bv (aZ P t) fun q => parts.toList.map (·.1) = List.range len /\ (parts.toList.all fun p => (ev p.2).cells.length == q.2 && aJ (ev p.2).cells) = true /\ len * q.2 <= 1048576 ∧
 K (.sl .ti q.2 (parts.toList.map fun p => (ev p.2).cells)) H V := by
 rw [aV]; simp only [cx, Prod.exists]
@[go_sem ↓] theorem vU (f : Operand) (args : Array Operand) (tys : Array TypeId) : cx P ev H V K (.call ⟨.value f, args, tys⟩) = fm P H V (ev f) (args.toList.map ev) K := by
 simp only [cx]; unfold fm; split <;> simp_all
@[go_sem ↓] theorem adD (x : Operand) (t : TypeId) : cx P ev H V K (.call ⟨.builtin .len, #[x], #[t]⟩) = lm P t (ev x) fun r => K r H V := by
 simp [cx]
@[go_sem ↓] theorem QV (x y : Operand) (t tx : TypeId) : cx P ev H V K (.call ⟨.builtin .append, #[x, y], #[t, tx]⟩) = tW P t tx (ev x) (ev y) H V K := by
 simp [cx];exact ⟨fun ⟨_, _, ⟨h1, h2⟩, _, _, ⟨h3, h4⟩, h⟩ => by subst h1 h2 h3 h4; exact h, fun h => ⟨_, _, ⟨rfl, rfl⟩, _, _, ⟨rfl, rfl⟩, h⟩⟩
end
section
@[go_sem] theorem lC {α : Type} (a : α) (K : α -> Prop) : bv (some a) K = K a := rfl
@[go_sem] theorem ac4 (t : Bool) (x y : CV) (K : CV -> Prop) : vq (.v (.bool t)) x y K = K (vR t x y) := rfl
@[go_sem] theorem ady (x y : CV) : vR true x y = x := rfl
@[go_sem] theorem adz (x y : CV) : vR false x y = y := rfl
@[go_sem] theorem ST (g : Bool) (n b o : Nat) (H : Hp) (K : CV -> Prop) : oq g n (.ptr b o) H K = dN H b fun cs => ld g n cs o K := rfl
@[go_sem] theorem PW (g : Bool) (n o : Nat) (cs : List CV) (H : Hp) (K : CV -> Prop) : oq g n (.eptr cs o) H K = ld g n cs o K := rfl
@[go_sem] theorem PS (n b o : Nat) (y : CV) (H : Hp) (K : Hp -> Prop) : lU n (.ptr b o) y H K = dN H b fun cs => aJ y.cells = true /\ y.cells.length = n /\ o + n <= cs.length /\ K (H.set b (some (cs.take o ++ y.cells ++ cs.drop (o + n)))) := rfl
@[go_sem] theorem X5 (b o : Nat) (K : CV -> Prop) : tH (.ptr b o) K = K (.ptr b o) := rfl
@[go_sem] theorem SR (cs : List CV) (o : Nat) (K : CV -> Prop) : tH (.eptr cs o) K = K (.eptr cs o) := rfl
@[go_sem] theorem ac7 (f : Nat) (cs : List CV) (K : CV -> Prop) : tH (.bm f cs) K = K (.bm f cs) := rfl
@[go_sem] theorem ac5 (b : Nat) (K : CV -> Prop) : tH (.yl b) K = K (.yl b) := rfl
@[go_sem] theorem X7 (z : Value) (H : Hp) (b : Nat) (n : Int) (K : CV -> Prop) : vt z H (.mv b) (.v (.int .i64 n)) K = IW H b fun ks vs => K (mD z ks vs n) := rfl
@[go_sem] theorem X6 (H : Hp) (y : CV) (b : Nat) (n : Int) (K : Hp -> Prop) : vr H y (.mv b) (.v (.int .i64 n)) K = IW H b fun ks vs => K (H.set b (some [tC ks vs n y])) := rfl
@[go_sem] theorem SQ (H : Hp) (b : Nat) (K : CV -> Hp -> Prop) : qv H (.mv b) K = IW H b fun ks _ => K (.it H.length) (H ++ [some [.obji b ks.length []]]) := rfl
@[go_sem] theorem QY (P : Program) (t : TypeId) (cs : List CV) (k : IntKind) (j : Int) (K : CV -> Prop) : eJ P t (.agg cs) (.v (.int k j)) K = bv (iQ P t) fun q => xC q.1 q.2.1 q.2.2 (.agg cs) (.v (.int k j)) K := by
 rw [aV]; simp only [eJ, Prod.exists, xC]
@[go_sem] theorem QX (P : Program) (t : TypeId) (s : ByteArray) (k : IntKind) (j : Int) (K : CV -> Prop) : eJ P t (.v (.string s)) (.v (.int k j)) K = (P.underlying t = some .string /\ 0 <= j /\ ∃ h : j.toNat < s.size, K (.v (.int .u8 (s[j.toNat].toNat : Int)))) := rfl
@[go_sem] theorem adF (f : Int -> Int -> Int) (k k' : IntKind) (a b : Int) (K : CV -> Prop) : xX f (.v (.int k a)) (.v (.int k' b)) K = (k = k' /\ K (.v (.int k (f a b)))) := rfl
@[go_sem] theorem SU (b o n sz' sz : Nat) (ys : List (List CV)) (H : Hp) (V : List Nat) (K : CV -> Hp -> List Nat -> Prop) : GI (.bsl b o n sz') sz ys H V K = (sz' = sz /\ ys.length <= n /\ dN H b fun cs => aJ ys.flatten = true /\ o + ys.length * sz <= cs.length ∧
 K (.v (.int .i64 ys.length)) (H.set b (some (cs.take o ++ ys.flatten ++ cs.drop (o + ys.length * sz)))) V) := rfl
@[go_sem] theorem aaC (P : Program) (t tx : TypeId) (x y : CV) (H : Hp) (V : List Nat) (K : CV -> Hp -> List Nat -> Prop) : lw P t tx x y H V K = bv (aZ P t) fun q => (aZ P tx).isSome = true /\ ko H q.2 y fun ys => GI x q.2 ys H V K := by
 rw [aV]; simp only [Prod.exists, lw]
 congr 1; funext e; congr 1; funext sz; congr 2
 congr 1; funext ys
 unfold GI; split <;> simp_all [gv]
@[go_sem] theorem YJ (P : Program) (H : Hp) (V : List Nat) (g : Nat) (first args : List CV) (K : CV -> Hp -> List Nat -> Prop) : fm P H V (.bm g first) args K = CC P g (first ++ args) H V K := rfl
@[go_sem] theorem YH (P : Program) (H : Hp) (V : List Nat) (b : Nat) (args : List CV) (K : CV -> Hp -> List Nat -> Prop) : fm P H V (.yl b) args K = YC P b args H V K := rfl
@[go_sem] theorem ac6 (f : Nat) (cs : List CV) (K : CV -> Prop) : tH (.fn f cs) K = K (.fn f cs) := rfl
@[go_sem] theorem SW (k k' : IntKind) (n : Int) (K : CV -> Prop) : qz (some k) (.v (.int k' n)) K = K (.v (.int k (k.wrap n))) := rfl
@[go_sem] theorem YD (tk : Tk) (sz : Nat) (xs : List (List CV)) (K : CV -> Prop) : qz none (.sl tk sz xs) K = ∃ bs : List UInt8, xs = bs.map u8 /\ K (.v (.string ⟨bs.toArray⟩)) := rfl
@[go_sem] theorem SV (K : CV -> Prop) : qz none (.v (.slice none 0 0)) K = K (.v (.string .empty)) := rfl
@[go_sem] theorem ac3 (n sz sz' : Nat) (tk : Tk) (xs : List (List CV)) (K : CV -> Prop) : GC n sz (.sl tk sz' xs) K = (sz' = sz /\ n <= xs.length /\ K (.eptr (xs.take n).flatten 0)) := rfl
@[go_sem] theorem P0 (o b o' : Nat) (K : CV -> Prop) : nN o (.ptr b o') K = K (.ptr b (o' + o)) := rfl
@[go_sem] theorem NU (o o' : Nat) (cs : List CV) (K : CV -> Prop) : nN o (.eptr cs o') K = K (.eptr cs (o' + o)) := rfl
@[go_sem] theorem PZ (o : Nat) (g : Bool) (n : Nat) (cs : List CV) (K : CV -> Prop) : qy o g n (.agg cs) K = ld g n cs o K := rfl
@[go_sem] theorem PY (len : Nat) (g : Bool) (n : Nat) (cs : List CV) (k : IntKind) (j : Int) (K : CV -> Prop) : xC len g n (.agg cs) (.v (.int k j)) K = (0 <= j /\ j < len /\ ld g n cs (j.toNat * n) K) := rfl
@[go_sem] theorem YB (i : Nat) (cs : List CV) (K : CV -> Prop) : GG i (.tup cs) K = ∃ h : i < cs.length, K cs[i] := rfl
@[go_sem] theorem ac8 (sz : Nat) (zs : List Value) (H : Hp) (k k' : IntKind) (n n' : Int) (K : CV -> Hp -> Prop) : NR sz zs H (.v (.int k n)) (.v (.int k' n')) K =
 (n = n' /\ 0 <= n /\ n <= 1099511627776 /\ K (.bsl H.length 0 n.toNat sz) (H ++ [some ((List.replicate n.toNat (zs.map CV.v)).flatten)])) := rfl
@[go_sem] theorem YI (P : Program) (H : Hp) (V : List Nat) (g : Nat) (caps args : List CV) (K : CV -> Hp -> List Nat -> Prop) : fm P H V (.fn g caps) args K = CC P g (args ++ caps) H V K := rfl
@[go_sem] theorem ae9 (n : Nat) (cs : List CV) (o : Nat) (K : CV -> Prop) : ld true n cs o K = (o + n <= cs.length /\ K (.agg ((cs.drop o).take n))) := rfl
@[go_sem] theorem ae8 (n : Nat) (cs : List CV) (o : Nat) (K : CV -> Prop) : ld false n cs o K = ∃ h : o < cs.length, K cs[o] := rfl
@[go_sem] theorem aaF (P : Program) (op : BinOp) (t : TypeId) (k k' : IntKind) (a b : Int) (K : CV -> Prop) : kq P op t (.v (.int k a)) (.v (.int k' b)) K = (oh op k k' /\ fk op k a b K) := rfl
@[go_sem] theorem VL (P : Program) (op : BinOp) (t : TypeId) (a b : Bool) (K : CV -> Prop) : kq P op t (.v (.bool a)) (.v (.bool b)) K = (P.underlying t = some .bool /\ d6 op (a == b) K) := rfl
@[go_sem] theorem aaD (P : Program) (op : BinOp) (t : TypeId) (a b : ByteArray) (K : CV -> Prop) : kq P op t (.v (.string a)) (.v (.string b)) K = d6 op (a.toList == b.toList) K := rfl
@[go_sem] theorem aaE (P : Program) (op : BinOp) (t : TypeId) (tk : Tk) (sz : Nat) (xs : List (List CV)) (K : CV -> Prop) : kq P op t (.sl tk sz xs) (.v (.slice none 0 0)) K = ((aZ P t).isSome = true /\ ∀ b : Bool, (b = true -> xs = []) -> d6 op b K) := rfl
@[go_sem] theorem OU (P : Program) (op : BinOp) (t : TypeId) (K : CV -> Prop) : kq P op t (.v (.slice none 0 0)) (.v (.slice none 0 0)) K = ((aZ P t).isSome = true /\ d6 op true K) := rfl
@[go_sem] theorem aaG (P : Program) (op : BinOp) (t : TypeId) (cs ds : List CV) (K : CV -> Prop) : kq P op t (.agg cs) (.agg ds) K = ∃ ks, uf P t ks /\ oP ks cs /\ oP ks ds /\ ∀ b : Bool, (b = true ↔ cs = ds) -> d6 op b K := rfl
attribute [go_sem] fk.eq_1 fk.eq_2 fk.eq_3 fk.eq_4 fk.eq_5 fk.eq_6 fk.eq_7 fk.eq_8 fk.eq_9 fk.eq_10 fk.eq_11 fk.eq_12 fk.eq_13 fk.eq_14 fk.eq_15 fk.eq_16 fk.eq_17
@[go_sem] theorem UM (b : Bool) (K : CV -> Prop) : d6 .eql b K = K (.v (.bool b)) := rfl
@[go_sem] theorem UL (b : Bool) (K : CV -> Prop) : d6 .neq b K = K (.v (.bool (!b))) := rfl
@[go_sem] theorem ads (b : Bool) (K : CV -> Prop) : wG .not (.v (.bool b)) K = K (.v (.bool (!b))) := rfl
@[go_sem] theorem adr (k : IntKind) (n : Int) (K : CV -> Prop) : wG .xor (.v (.int k n)) K = K (.v (.int k (cr .xor k (if k.signed then -1 else k.max) n))) := rfl
@[go_sem] theorem adt (k : IntKind) (n : Int) (K : CV -> Prop) : wG .neg (.v (.int k n)) K = K (.v (.int k (k.wrap (0 - n)))) := rfl
@[go_sem] theorem PA (op : BinOp) (k : IntKind) : oh op k k = True := by cases op <;> simp [oh]
@[go_sem] theorem SG (k k' : IntKind) : oh .shl k k' = True := rfl
@[go_sem] theorem SF (k k' : IntKind) : oh .shr k k' = True := rfl
@[go_sem] theorem adH (P : Program) (t : TypeId) (tk : Tk) (sz : Nat) (xs : List (List CV)) (k : IntKind) (n : Int) (K : CV -> Prop) : ju P t (.sl tk sz xs) (.v (.int k n)) K = ((aZ P t).map (·.2) = some sz /\ 0 <= n /\ ∃ h : n.toNat < xs.length, K (.eptr xs[n.toNat] 0)) := rfl
@[go_sem] theorem aat (P : Program) (t : TypeId) (b o n' sz : Nat) (k : IntKind) (n : Int) (K : CV -> Prop) : ju P t (.bsl b o n' sz) (.v (.int k n)) K = ((aZ P t).map (·.2) = some sz /\ 0 <= n /\ n < n' /\ K (.ptr b (o + n.toNat * sz))) := rfl
@[go_sem] theorem aau (P : Program) (t : TypeId) (b n' sz : Nat) (k : IntKind) (n : Int) (K : CV -> Prop) : ju P t (.bsa b n' sz) (.v (.int k n)) K = ((aZ P t).map (·.2) = some sz /\ 0 <= n /\ n < n' /\ K (.ptr b (n.toNat * sz))) := rfl
@[go_sem] theorem aas (P : Program) (t : TypeId) (b o : Nat) (k : IntKind) (n : Int) (K : CV -> Prop) : ju P t (.ptr b o) (.v (.int k n)) K = bv (iQ P t) fun q => 0 <= n /\ n < q.1 /\ K (.ptr b (o + n.toNat * q.2.2)) := by
 rw [aV]; simp [ju]
@[go_sem] theorem VE (P : Program) (t : TypeId) (cs : List CV) (o : Nat) (k : IntKind) (n : Int) (K : CV -> Prop) : ju P t (.eptr cs o) (.v (.int k n)) K = bv (iQ P t) fun q => 0 <= n /\ n < q.1 /\ K (.eptr cs (o + n.toNat * q.2.2)) := by
 rw [aV]; simp [ju]
@[go_sem] theorem adG (P : Program) (t : TypeId) (tk : Tk) (sz : Nat) (xs : List (List CV)) (K : CV -> Prop) : lm P t (.sl tk sz xs) K = ((aZ P t).isSome = true /\ K (.v (.int .i64 xs.length))) := rfl
@[go_sem] theorem aaq (P : Program) (t : TypeId) (b n sz : Nat) (K : CV -> Prop) : lm P t (.bsa b n sz) K = ((aZ P t).isSome = true /\ K (.v (.int .i64 n))) := rfl
@[go_sem] theorem aap (P : Program) (t : TypeId) (b o n sz : Nat) (K : CV -> Prop) : lm P t (.bsl b o n sz) K = ((aZ P t).isSome = true /\ K (.v (.int .i64 n))) := rfl
@[go_sem] theorem aao (P : Program) (t : TypeId) (K : CV -> Prop) : lm P t (.v (.slice none 0 0)) K = ((aZ P t).isSome = true /\ K (.v (.int .i64 0))) := rfl
@[go_sem] theorem aan (P : Program) (t : TypeId) (s : ByteArray) (K : CV -> Prop) : lm P t (.v (.string s)) K = (P.underlying t = some .string /\ K (.v (.int .i64 s.size))) := rfl
@[go_sem] theorem aaN : m5 none = True := rfl
@[go_sem] theorem adS (k : IntKind) (n : Int) : m5 (some (.v (.int k n))) = (0 <= n) := rfl
@[go_sem] theorem aaJ (d : Nat) : bU none d = d := rfl
@[go_sem] theorem adN (k : IntKind) (n : Int) (d : Nat) : bU (some (.v (.int k n))) d = n.toNat := rfl
section
variable (P : Program) (t : TypeId) (tk : Tk) (sz : Nat) (xs : List (List CV)) (lo : Option CV) (h q : CV) (K : CV -> Prop)
@[go_sem] theorem UZ : cY P t (.sl tk sz xs) lo none none K = (m5 lo /\ (aZ P t).map (·.2) = some sz /\ bU lo 0 <= xs.length /\ K (.sl tk sz (xs.drop (bU lo 0)))) := by
 simp [cY, m5, bU]
@[go_sem] theorem OC : cY P t (.sl tk sz xs) lo (some h) none K = (m5 lo /\ m5 (some h) /\ (aZ P t).map (·.2) = some sz /\ bU lo 0 <= bU (some h) xs.length /\ bU (some h) xs.length <= xs.length /\ K (.sl .sh sz ((xs.take (bU (some h) 0)).drop (bU lo 0)))) := by
 simp [cY, m5]
@[go_sem] theorem MG : cY P t (.sl tk sz xs) lo (some h) (some q) K = (m5 lo /\ m5 (some h) /\ m5 (some q) /\ (aZ P t).map (·.2) = some sz /\ bU lo 0 <= bU (some h) xs.length /\ bU (some h) xs.length <= xs.length /\ bU (some q) 0 = bU (some h) 0 /\ K (.sl .ti sz ((xs.take (bU (some h) 0)).drop (bU lo 0)))) := rfl
variable (hi mx : Option CV) (b o n : Nat)
@[go_sem] theorem QN : cY P t (.v (.slice none 0 0)) lo hi mx K = (m5 lo /\ m5 hi /\ m5 mx /\ (aZ P t).isSome = true /\ mx.isNone = true /\ bU lo 0 = 0 /\ bU hi 0 = 0 /\ K (.v (.slice none 0 0))) := rfl
@[go_sem] theorem QM : cY P t (.ptr b o) lo hi mx K = (m5 lo /\ m5 hi /\ m5 mx /\ mx.isNone = true /\ bv (iQ P t) fun q => bU lo 0 <= bU hi q.1 /\ bU hi q.1 <= q.1 /\ K (.bsl b (o + bU lo 0 * q.2.2) (bU hi q.1 - bU lo 0) q.2.2)) := by
 rw [aV]; simp [cY]
@[go_sem] theorem QO : cY P t (.bsl b o n sz) lo hi mx K = (m5 lo /\ m5 hi /\ m5 mx /\ mx.isNone = true /\ (aZ P t).map (·.2) = some sz /\ bU lo 0 <= bU hi n /\ bU hi n <= n /\ K (.bsl b (o + bU lo 0 * sz) (bU hi n - bU lo 0) sz)) := rfl
end
def xG (x : CV) (sz : Nat) (ys : List (List CV)) (H : Hp) (V : List Nat) (K : CV -> Hp -> List Nat -> Prop) : Prop :=
 match x with
 | .sl .ti sz' xs => sz' = sz /\ xs.length + ys.length <= 1099511627776 /\ K (.sl (.own V.length 0) sz (xs ++ ys)) H (V ++ [0])
 | .v (.slice none 0 0) => ys.length <= 1099511627776 /\ K (.sl (.own V.length 0) sz ys) H (V ++ [0])
 | .bsa b n sz' => sz' = sz /\ n + ys.length <= 1099511627776 /\ ∃ cs, H[b]? = some (some cs) /\ cs.length = n * sz /\ K (.bsa H.length (n + ys.length) sz) (H.set b none ++ [some (cs ++ ys.flatten)]) V
 | .sl (.own k v) sz' xs => sz' = sz /\ V[k]? = some v /\ xs.length + ys.length <= 1099511627776 /\ K (.sl (.own k (v + 1)) sz (xs ++ ys)) H (V.set k (v + 1))
 | _ => False
@[go_sem] theorem adJ (P : Program) (t tx : TypeId) (x y : CV) (H : Hp) (V : List Nat) (K : CV -> Hp -> List Nat -> Prop) : tW P t tx x y H V K = bv (aZ P t) fun q => rI P H tx q.1 q.2 y fun ys => xG x q.2 ys H V K := by
 rw [aV]; simp only [Prod.exists]; rfl
section
variable (sz : Nat) (xs ys : List (List CV)) (H : Hp) (V : List Nat) (K : CV -> Hp -> List Nat -> Prop) (K' : List (List CV) -> Prop)
@[go_sem] theorem adh (sz' : Nat) : xG (.sl .ti sz' xs) sz ys H V K = (sz' = sz /\ xs.length + ys.length <= 1099511627776 /\ K (.sl (.own V.length 0) sz (xs ++ ys)) H (V ++ [0])) := rfl
@[go_sem] theorem YL : xG (.v (.slice none 0 0)) sz ys H V K = (ys.length <= 1099511627776 /\ K (.sl (.own V.length 0) sz ys) H (V ++ [0])) := rfl
@[go_sem] theorem YM (sz' b n : Nat) : xG (.bsa b n sz') sz ys H V K = (sz' = sz /\ n + ys.length <= 1099511627776 /\ dN H b fun cs => cs.length = n * sz /\ K (.bsa H.length (n + ys.length) sz) (H.set b none ++ [some (cs ++ ys.flatten)]) V) := by
 rw [gv]; rfl
@[go_sem] theorem YK (sz' k v : Nat) : xG (.sl (.own k v) sz' xs) sz ys H V K = (sz' = sz /\ V[k]? = some v /\ xs.length + ys.length <= 1099511627776 /\ K (.sl (.own k (v + 1)) sz (xs ++ ys)) H (V.set k (v + 1))) := rfl
@[go_sem] theorem aeb (P : Program) (tx e : TypeId) (tk : Tk) (sz' : Nat) : rI P H tx e sz (.sl tk sz' ys) K' = ((aZ P tx).isSome = true /\ ko H sz (.sl tk sz' ys) K') := rfl
@[go_sem] theorem aaO (P : Program) (tx e : TypeId) : rI P H tx e sz (.v (.slice none 0 0)) K' = ((aZ P tx).isSome = true /\ ko H sz (.v (.slice none 0 0)) K') := rfl
@[go_sem] theorem aaP (P : Program) (tx e : TypeId) (b o n sz' : Nat) : rI P H tx e sz (.bsl b o n sz') K' = ((aZ P tx).isSome = true /\ ko H sz (.bsl b o n sz') K') := rfl
@[go_sem] theorem adu (tk : Tk) (sz' : Nat) : ko H sz (.sl tk sz' ys) K' = (sz' = sz /\ K' ys) := rfl
@[go_sem] theorem Z3 : ko H sz (.v (.slice none 0 0)) K' = K' [] := rfl
@[go_sem] theorem Z4 (b o n sz' : Nat) : ko H sz (.bsl b o n sz') K' = (sz' = sz /\ dN H b fun cs => o + n * sz <= cs.length /\ K' (aY sz n (cs.drop o))) := by
 rw [gv]; rfl
end
def br (p yes no : Prop) : Prop := (p -> yes) /\ (¬p -> no)
@[congr] theorem aaM {p p' yes no : Prop} (h : p = p') : br p yes no = br p' yes no := by subst h; rfl
@[go_sem] theorem adQ (yes no : Prop) : br True yes no = yes := by simp [br]
@[go_sem] theorem aaL (yes no : Prop) : br False yes no = no := by simp [br]
@[go_sem low] theorem aaK (p yes no : Prop) : br p yes no = ((p -> yes) /\ (¬p -> no)) := rfl
@[go_sem] theorem aav (want : Bool) (vs : Array Value) (yes no : Prop) : nY want (.v (.tuple vs)) yes no = no := rfl
@[go_sem] theorem VK (b : Bool) (yes no : Prop) : iE (.v (.bool b)) yes no = br (b = true) yes no := by cases b <;> simp [iE, br]
@[go_sem] theorem ZZ (d n : Nat) : kv (some d) n = (d < n) := rfl
@[go_sem] theorem Z0 (n : Nat) : kv none n = True := rfl
@[go_sem] theorem R4 (d : Nat) (c : CV) (T : Tm) : bQ (some d) c T = (d, c) :: T := rfl
@[go_sem] theorem R5 (c : CV) (T : Tm) : bQ none c T = T := rfl
@[go_sem] theorem adm (T : Tm) (t : Nat) : em T (.tmp t) = bt T t := rfl
@[go_sem] theorem UK (T : Tm) (v : Value) : em T (.const v) = .v v := rfl
@[go_sem] theorem ZW (T : Tm) (f : FuncId) : em T (.func f) = .fn f [] := rfl
@[go_sem] theorem WM (n : Nat) : bt [] n = .any := rfl
@[go_sem] theorem R8 (k : Nat) (c : CV) (r : Tm) (n : Nat) : bt ((k, c) :: r) n = if n = k then c else bt r n := rfl
@[go_sem] theorem VJ (cs : List CV) : (CV.agg cs).cells = cs := rfl
@[go_sem] theorem adI (v : Value) : (CV.v v).cells = [.v v] := rfl
@[go_sem] theorem aax (tk : Tk) (sz : Nat) (xs : List (List CV)) : (CV.sl tk sz xs).cells = [.sl tk sz xs] := rfl
@[go_sem] theorem VG (b o n sz : Nat) : (CV.bsl b o n sz).cells = [.bsl b o n sz] := rfl
@[go_sem] theorem VF (b o : Nat) : (CV.ptr b o).cells = [.ptr b o] := rfl
@[go_sem] theorem aaA (f : Nat) (cs : List CV) : (CV.fn f cs).cells = [.fn f cs] := rfl
@[go_sem] theorem aaB (f : Nat) (cs : List CV) : (CV.bm f cs).cells = [.bm f cs] := rfl
@[go_sem] theorem aaw (b : Nat) : (CV.yl b).cells = [.yl b] := rfl
@[go_sem] theorem aay (b : Nat) : (CV.mv b).cells = [.mv b] := rfl
@[go_sem] theorem aaz (b : Nat) : (CV.it b).cells = [.it b] := rfl
@[go_sem] theorem VH (b n sz : Nat) : (CV.bsa b n sz).cells = [.bsa b n sz] := rfl
@[go_sem] theorem ae4 (f : Nat) (cs : List CV) : (CV.bm f cs).one = true := rfl
@[go_sem] theorem aeZ (b : Nat) : (CV.yl b).one = true := rfl
@[go_sem] theorem ae1 (b : Nat) : (CV.mv b).one = true := rfl
@[go_sem] theorem ae2 (b : Nat) : (CV.it b).one = true := rfl
@[go_sem] theorem ab6 (b n sz : Nat) : (CV.bsa b n sz).one = true := rfl
@[go_sem] theorem RN : aJ [] = true := rfl
@[go_sem] theorem ww (c : CV) (cs : List CV) : aJ (c :: cs) = (c.one && aJ cs) := rfl
@[go_sem] theorem ae0 (tk : Tk) (sz : Nat) (xs : List (List CV)) : (CV.sl tk sz xs).one = true := rfl
@[go_sem] theorem ab5 (b o n sz : Nat) : (CV.bsl b o n sz).one = true := rfl
@[go_sem] theorem ab3 (b o : Nat) : (CV.ptr b o).one = true := rfl
@[go_sem] theorem ae3 (f : Nat) (cs : List CV) : (CV.fn f cs).one = true := rfl
@[go_sem] theorem ab4 (k : IntKind) (n : Int) : (CV.v (.int k n)).one = true := rfl
@[go_sem] theorem XD (b : Bool) : (CV.v (.bool b)).one = true := rfl
@[go_sem] theorem PI (b : ByteArray) : (CV.v (.string b)).one = true := rfl
@[go_sem] theorem SO (a : Option Addr) (n c : Nat) : (CV.v (.slice a n c)).one = true := rfl
end
section
variable (P : Program) (n nb nv : Nat) (ops rest : List Oper) (T : Tm) (H : Hp) (V : List Nat) (K : Tm -> Hp -> List Nat -> Prop) (Q : Exit -> Tm -> Hp -> List Nat -> Prop)
end
section
variable (P : Program) (n : Nat) (ds : List (Option Tmp))
def gt : List (Option Tmp) -> Nat -> Option Nat
 | [], _ => none
 | d :: _, 0 => d
 | _ :: r, j + 1 => gt r j
def bS : List Oper -> Tm -> Hp -> List Nat -> (Tm -> Hp -> List Nat -> Prop) -> Prop
 | [], T, H, V, K => K T H V
 | ⟨d, op, _, _, _, none⟩ :: r, T, H, V, K => kv d n /\ cx P (em T) H V (fun c H' V' => bS r (bQ d c T) H' V' K) op
 | ⟨d, op, _, _, _, some (j, want)⟩ :: r, T, H, V, K => kv d n ∧
  match gt ds j with
  | none => False
  | some g =>
   match bt T g with
   | .v (.bool b) => br (b = want) (cx P (em ((g, .v (.bool want)) :: T)) H V (fun c H' V' => bS r (bQ d c ((g, .v (.bool want)) :: T)) H' V' K) op) (bS r (bQ d (.v undef) ((g, .v (.bool (!want))) :: T)) H V K)
   | .v (.tuple _) => bS r (bQ d (.v undef) T) H V K
   | _ => False
def sG (d : Option Tmp) (r : List Oper) (T : Tm) (K : Tm -> Hp -> List Nat -> Prop) : CV -> Hp -> List Nat -> Prop := fun c H V => bS P n ds r (bQ d c T) H V K
def IX (d : Option Tmp) (op : Op) (want : Bool) (r : List Oper) (T : Tm) (H : Hp) (V : List Nat) (K : Tm -> Hp -> List Nat -> Prop) : Option Nat -> Prop
 | some g => gvL d op want r T H V K g (bt T g)
 | none => False
where
 gvL (d : Option Tmp) (op : Op) (want : Bool) (r : List Oper) (T : Tm) (H : Hp) (V : List Nat) (K : Tm -> Hp -> List Nat -> Prop) (g : Nat) : CV -> Prop
 | .v (.bool b) => br (b = want) (cx P (em ((g, .v (.bool want)) :: T)) H V (fun c H' V' => bS P n ds r (bQ d c ((g, .v (.bool want)) :: T)) H' V' K) op) (bS P n ds r (bQ d (.v undef) ((g, .v (.bool (!want))) :: T)) H V K)
 | .v (.tuple _) => bS P n ds r (bQ d (.v undef) T) H V K
 | _ => False
end
theorem NY : ∀ (ops : List Oper) (j : Nat), gt (ops.map (·.dst)) j = kE ops j
 | [], j => by simp [gt, kE]
 | o :: r, 0 => by simp [gt, kE]
 | o :: r, j + 1 => by
  rw [map_cons, gt, NY r j]; simp [kE]
theorem bF (P : Program) (n : Nat) (ops : List Oper) : ∀ (l : List Oper) (T : Tm) (H : Hp) (V : List Nat) (K : Tm -> Hp -> List Nat -> Prop), crun P n ops l T H V K = bS P n (ops.map (·.dst)) l T H V K
 | [], T, H, V, K => rfl
 | ⟨d, op, ty, pos, after, none⟩ :: r, T, H, V, K => by
  rw [crun, bS];simp only [bF P n ops r]
 | ⟨d, op, ty, pos, after, some (j, want)⟩ :: r, T, H, V, K => by
  rw [crun, bS, NY];simp only [bF P n ops r]
  congr 1
  cases kE ops j with
  | none => rfl
  | some g =>
   dsimp only;generalize bt T g = x
   cases x with
   | v x =>
    cases x with
    | bool b => cases b <;> cases want <;> simp [nY, br]
    | _ => rfl
   | _ => rfl
section
variable (P : Program) (n nb nv : Nat) (ops : List Oper) (ds : List (Option Tmp)) (rest : List Oper) (T : Tm) (H : Hp) (V : List Nat) (K : Tm -> Hp -> List Nat -> Prop) (Q : Exit -> Tm -> Hp -> List Nat -> Prop)
@[go_sem ↓] theorem U2 : bS P n ds [] T H V K = K T H V := rfl
@[go_sem] theorem OH (d : Option Tmp) (op : Op) (ty : TypeId) (pos : String) (after : Array Edge) : bS P n ds (⟨d, op, ty, pos, after, none⟩ :: rest) T H V K = (kv d n /\ cx P (em T) H V (sG P n ds d rest T K) op) := rfl
@[go_sem ↓] theorem aal (d : Option Tmp) (c : CV) : sG P n ds d rest T K c H V = bS P n ds rest (bQ d c T) H V K := rfl
@[go_sem] theorem OI (d : Option Tmp) (op : Op) (ty : TypeId) (pos : String) (after : Array Edge) (j : Nat) (want : Bool) : bS P n ds (⟨d, op, ty, pos, after, some (j, want)⟩ :: rest) T H V K = (kv d n /\ IX P n ds d op want rest T H V K (gt ds j)) := by
 rw [bS]
 congr 1
 cases gt ds j with
 | none => rfl
 | some g =>
  simp only [IX]
  cases bt T g with
  | v x => cases x <;> rfl
  | _ => rfl
@[go_sem] theorem YS (d : Option Tmp) (op : Op) (want : Bool) (g : Nat) : IX P n ds d op want rest T H V K (some g) = IX.gvL P n ds d op want rest T H V K g (bt T g) := rfl
@[go_sem] theorem ag3 (d : Option Tmp) (op : Op) (want b : Bool) (g : Nat) : IX.gvL P n ds d op want rest T H V K g (.v (.bool b)) = br (b = want) (cx P (em ((g, .v (.bool want)) :: T)) H V (sG P n ds d rest ((g, .v (.bool want)) :: T) K) op) (bS P n ds rest (bQ d (.v undef) ((g, .v (.bool (!want))) :: T)) H V K) := rfl
@[go_sem] theorem ag2 (d : Option Tmp) (op : Op) (want : Bool) (g : Nat) (vs : Array Value) : IX.gvL P n ds d op want rest T H V K g (.v (.tuple vs)) = bS P n ds rest (bQ d (.v undef) T) H V K := rfl
def gC (P : Program) (n : Nat) (ds : List (Option Tmp)) (l : List Oper) (T : Tm) (H : Hp) (V : List Nat) (K : Tm -> Hp -> List Nat -> Prop) : Prop := bS P n ds l T H V K
@[go_sem] theorem Z8 (l : List Oper) : gC P n ds l T H V K = bS P n ds l T H V K := rfl
@[go_sem] theorem afE (j : Nat) : gt [] j = none := rfl
@[go_sem] theorem adi (d : Option Tmp) (r : List (Option Tmp)) : gt (d :: r) 0 = d := rfl
@[go_sem] theorem adj (d : Option Tmp) (r : List (Option Tmp)) (j : Nat) : gt (d :: r) (j + 1) = gt r j := rfl
@[go_sem] theorem WK : CV.v undef = .v (.tuple #[]) := rfl
@[go_sem ↓] theorem aei : Wp P n nb nv .skip Q T H V = Q .normal T H V := rfl
@[go_sem ↓] theorem VQ (id : Nat) (ops : List Oper) : Wp P n nb nv (.region id ops.toArray false) Q T H V = gC P n (ops.map (·.dst)) ops T H V (Q .normal) := by
 show crun P n ops.toArray.toList ops.toArray.toList T H V (Q .normal) = _;rw [gC, <- bF]
@[go_sem ↓] theorem af2 (a b : Code) : Wp P n nb nv (.seq a b) Q T H V = Wp P n nb nv a (uq (Wp P n nb nv b Q) Q) T H V := rfl
@[go_sem ↓] theorem ael (c : Operand) (a b : Code) : Wp P n nb nv (.cond c a b) Q T H V = iE (em T c) (Wp P n nb nv a Q T H V) (Wp P n nb nv b Q T H V) := rfl
@[go_sem ↓] theorem aaY (id : Nat) (c : Code) : Wp P n nb nv (.block id c) Q T H V = Wp P n nb nv c (DS id Q) T H V := rfl
@[go_sem ↓] theorem aaV (c : Code) : Wp P n nb nv (.scope c) Q T H V = Wp P n nb nv c (NK Q) T H V := rfl
@[go_sem ↓] theorem aaW (l : Nat) : Wp P n nb nv (.label l) Q T H V = Q .normal T H V := rfl
@[go_sem ↓] theorem agz : NK Q .normal = Q .normal := rfl
@[go_sem ↓] theorem agy : NK Q .ret = Q .ret := rfl
@[go_sem ↓] theorem agA (id : Nat) : NK Q (.exit id) = Q (.exit id) := rfl
@[go_sem ↓] theorem aej (c : Code) : Wp P n nb nv (.loop c) Q T H V = Wl n nb nv (Wp P n nb nv c) Q T H V := rfl
@[go_sem ↓] theorem af3 : Wp P n nb nv .ret Q T H V = Q .ret T H V := rfl
@[go_sem ↓] theorem aek (id : Nat) : Wp P n nb nv (.exit id) Q T H V = Q (.exit id) T H V := rfl
@[go_sem ↓] theorem agp : uq K Q .normal = K := rfl
@[go_sem ↓] theorem ago : uq K Q .ret = Q .ret := rfl
@[go_sem ↓] theorem agq (id : Nat) : uq K Q (.exit id) = Q (.exit id) := rfl
@[go_sem ↓] theorem ahm (id : Nat) : DS id Q .normal = Q .normal := rfl
@[go_sem ↓] theorem ahl (id : Nat) : DS id Q .ret = Q .ret := rfl
@[go_sem ↓] theorem ahn (id id' : Nat) : DS id Q (.exit id') = if id' = id then Q .normal else Q (.exit id') := rfl
end
section
variable {P : Program} {n nb nv : Nat} {T T' : Tm} {H H' : Hp} {V V' : List Nat}
@[congr] theorem OJ {ds : List (Option Tmp)} {l : List Oper} {K : Tm -> Hp -> List Nat -> Prop} (h1 : T = T') (h2 : H = H') (h3 : V = V') : bS P n ds l T H V K = bS P n ds l T' H' V' K := by subst h1 h2 h3; rfl
@[congr] theorem OE {ds ds' : List (Option Tmp)} {l : List Oper} {K : Tm -> Hp -> List Nat -> Prop} (h0 : ds = ds') (h1 : T = T') (h2 : H = H') (h3 : V = V') : gC P n ds l T H V K = gC P n ds' l T' H' V' K := by subst h0 h1 h2 h3; rfl
@[congr] theorem S3 {ds : List (Option Tmp)} {d : Option Tmp} {op : Op} {want : Bool} {r : List Oper} {K : Tm -> Hp -> List Nat -> Prop} {g g' : Option Nat} (h1 : T = T') (h2 : H = H') (h3 : V = V') (h4 : g = g') : IX P n ds d op want r T H V K g = IX P n ds d op want r T' H' V' K g' := by subst h1 h2 h3 h4; rfl
@[congr] theorem S2 {ds : List (Option Tmp)} {d : Option Tmp} {op : Op} {want : Bool} {r : List Oper} {K : Tm -> Hp -> List Nat -> Prop} {g : Nat} {c c' : CV} (h1 : T = T') (h2 : H = H') (h3 : V = V') (h4 : c = c') : IX.gvL P n ds d op want r T H V K g c = IX.gvL P n ds d op want r T' H' V' K g c' := by subst h1 h2 h3 h4; rfl
@[congr] theorem aaX {c : Code} {Q : Exit -> Tm -> Hp -> List Nat -> Prop} (h1 : T = T') (h2 : H = H') (h3 : V = V') : Wp P n nb nv c Q T H V = Wp P n nb nv c Q T' H' V' := by subst h1 h2 h3; rfl
@[congr] theorem abf {f : FuncId} {args args' : List CV} {R : CV -> Hp -> List Nat -> Prop} (h0 : args = args') (h1 : H = H') (h2 : V = V') : CC P f args H V R = CC P f args' H' V' R := by subst h0 h1 h2; rfl
@[congr] theorem NF {α : Type} {o o' : Option α} {K : α -> Prop} (h : o = o') : bv o K = bv o' K := by subst h; rfl
variable {x x' y y' z z' : CV} {K : CV -> Prop}
@[congr] theorem NP (h1 : x = x') (h2 : y = y') (h3 : z = z') : vq x y z K = vq x' y' z' K := by subst h1 h2 h3; rfl
@[congr] theorem S1 {b b' : Nat} {K : List CV -> Prop} (h1 : H = H') (h2 : b = b') : dN H b K = dN H' b' K := by subst h1 h2; rfl
@[congr] theorem NT {g g' : Bool} {n n' : Nat} (h0 : g = g') (h1 : n = n') (h2 : x = x') (h3 : H = H') : oq g n x H K = oq g' n' x' H' K := by subst h0 h1 h2 h3; rfl
@[congr] theorem K0 {n n' : Nat} {K : Hp -> Prop} (h1 : n = n') (h2 : x = x') (h4 : y = y') (h3 : H = H') : lU n x y H K = lU n' x' y' H' K := by subst h1 h2 h3 h4; rfl
@[congr] theorem PU (h1 : x = x') : tH x K = tH x' K := by subst h1; rfl
@[congr] theorem NV {k k' : Option IntKind} (h0 : k = k') (h1 : x = x') : qz k x K = qz k' x' K := by subst h0 h1; rfl
@[congr] theorem PT {a a' b b' : Nat} (h1 : a = a') (h2 : b = b') (h3 : x = x') : GC a b x K = GC a' b' x' K := by subst h1 h2 h3; rfl
@[congr] theorem LC {a a' : Nat} (h1 : a = a') (h3 : x = x') : nN a x K = nN a' x' K := by subst h1 h3; rfl
@[congr] theorem LB {a a' b b' : Nat} {g g' : Bool} (h1 : a = a') (h2 : g = g') (h4 : b = b') (h3 : x = x') : qy a g b x K = qy a' g' b' x' K := by subst h1 h2 h3 h4; rfl
@[congr] theorem aaT {b b' : Nat} {args args' : List CV} {R : CV -> Hp -> List Nat -> Prop} (h3 : b = b') (h0 : args = args') (h1 : H = H') (h2 : V = V') : YC P b args H V R = YC P b' args' H' V' R := by subst h0 h1 h2 h3; rfl
@[congr] theorem MT {t : TypeId} (h3 : x = x') (h5 : y = y') : eJ P t x y K = eJ P t x' y' K := by subst h3 h5; rfl
@[congr] theorem VD {f : Int -> Int -> Int} (h3 : x = x') (h5 : y = y') : xX f x y K = xX f x' y' K := by subst h3 h5; rfl
@[congr] theorem OS {t tx : TypeId} {R : CV -> Hp -> List Nat -> Prop} (h1 : x = x') (h2 : y = y') (h3 : H = H') (h4 : V = V') : lw P t tx x y H V R = lw P t tx x' y' H' V' R := by subst h1 h2 h3 h4; rfl
@[congr] theorem NS {v : Value} (h1 : H = H') (h3 : x = x') (h5 : y = y') : vt v H x y K = vt v H' x' y' K := by subst h1 h3 h5; rfl
@[congr] theorem NQ {K : Hp -> Prop} (h1 : H = H') (h3 : x = x') (h5 : y = y') (h6 : z = z') : vr H z x y K = vr H' z' x' y' K := by subst h1 h3 h5 h6; rfl
@[congr] theorem LA {K : CV -> Hp -> Prop} (h1 : H = H') (h3 : x = x') : qv H x K = qv H' x' K := by subst h1 h3; rfl
@[congr] theorem OR {s : Bool} {K : CV -> Hp -> Prop} (h3 : x = x') (h1 : H = H') : oC x s H K = oC x' s H' K := by subst h1 h3; rfl
@[congr] theorem MX (h3 : x = x') (h1 : H = H') : iO x H K = iO x' H' K := by subst h1 h3; rfl
@[congr] theorem SE {Q : Exit -> Tm -> Hp -> List Nat -> Prop} {e : Exit} : NK Q e T H V = NK Q e T H V := rfl
@[congr] theorem P2 {i : Nat} (h1 : x = x') : GG i x K = GG i x' K := by subst h1; rfl
@[congr] theorem PV {sz sz' : Nat} {zs zs' : List Value} {z z' : Bool} {K : CV -> Hp -> List Nat -> Prop} (h0 : z = z') (h1 : sz = sz') (h2 : zs = zs') (h3 : H = H') (h6 : V = V') (h4 : x = x') (h5 : y = y') : CH P sz zs z H V x y K = CH P sz' zs' z' H' V' x' y' K := by subst h0 h1 h2 h3 h4 h5 h6; rfl
@[congr] theorem SS {sz sz' : Nat} {zs zs' : List Value} {K : CV -> Hp -> Prop} (h1 : sz = sz') (h2 : zs = zs') (h3 : H = H') (h4 : x = x') (h5 : y = y') : NR sz zs H x y K = NR sz' zs' H' x' y' K := by subst h1 h2 h3 h4 h5; rfl
@[congr] theorem NX {args args' : List CV} {R : CV -> Hp -> List Nat -> Prop} (h0 : args = args') (h1 : H = H') (h2 : V = V') (h3 : x = x') : fm P H V x args R = fm P H' V' x' args' R := by subst h0 h1 h2 h3; rfl
@[congr] theorem XX {g g' : Bool} {n n' o o' : Nat} {cs cs' : List CV} (h0 : g = g') (h1 : n = n') (h2 : cs = cs') (h3 : o = o') : ld g n cs o K = ld g' n' cs' o' K := by subst h0 h1 h2 h3; rfl
@[congr] theorem RC {op : BinOp} {t : TypeId} (h1 : x = x') (h2 : y = y') : kq P op t x y K = kq P op t x' y' K := by subst h1 h2; rfl
@[congr] theorem PR {op : BinOp} {k : IntKind} {a a' b b' : Int} (h1 : a = a') (h2 : b = b') : fk op k a b K = fk op k a' b' K := by subst h1 h2; rfl
@[congr] theorem N0 {op : BinOp} {b b' : Bool} (h1 : b = b') : d6 op b K = d6 op b' K := by subst h1; rfl
@[congr] theorem UY {op : UnOp} (h1 : x = x') : wG op x K = wG op x' K := by subst h1; rfl
@[congr] theorem QZ {t : TypeId} (h1 : x = x') (h2 : y = y') : ju P t x y K = ju P t x' y' K := by subst h1 h2; rfl
@[congr] theorem QW {t : TypeId} (h1 : x = x') : lm P t x K = lm P t x' K := by subst h1; rfl
@[congr] theorem MH {t : TypeId} {lo lo' hi hi' mx mx' : Option CV} (h1 : x = x') (h2 : lo = lo') (h3 : hi = hi') (h4 : mx = mx') : cY P t x lo hi mx K = cY P t x' lo' hi' mx' K := by subst h1 h2 h3 h4; rfl
@[congr] theorem RD {t tx : TypeId} {R : CV -> Hp -> List Nat -> Prop} (h1 : x = x') (h2 : y = y') (h3 : H = H') (h4 : V = V') : tW P t tx x y H V R = tW P t tx x' y' H' V' R := by subst h1 h2 h3 h4; rfl
@[congr] theorem P4 {sz sz' : Nat} {ys ys' : List (List CV)} {R : CV -> Hp -> List Nat -> Prop} (h1 : x = x') (h0 : sz = sz') (h2 : ys = ys') (h3 : H = H') (h4 : V = V') : xG x sz ys H V R = xG x' sz' ys' H' V' R := by subst h1 h0 h2 h3 h4; rfl
@[congr] theorem QL {sz sz' : Nat} {R : List (List CV) -> Prop} (h1 : x = x') (h0 : sz = sz') (h3 : H = H') : ko H sz x R = ko H' sz' x' R := by subst h1 h0 h3; rfl
@[congr] theorem I4 {yes no : Prop} (h1 : x = x') : iE x yes no = iE x' yes no := by subst h1; rfl
@[congr] theorem R7 {N : Tm -> Hp -> List Nat -> Prop} {Q : Exit -> Tm -> Hp -> List Nat -> Prop} {e : Exit} : uq N Q e T H V = uq N Q e T H V := rfl
end
end
section
section
variable (P : Program) (nb nv : Nat) (res : List ResultVar) (R : CV -> Hp -> List Nat -> Prop) (T : Tm) (H : Hp) (V : List Nat) (K : List CV -> Prop)
@[go_sem] theorem af5 : Rt P nb nv res R .ret T H V = eh P res T H fun cs => ao nb nv R (one cs) H V := rfl
@[go_sem] theorem VV : Rt P nb nv res R .normal T H V = eh P res T H fun cs => ao nb nv R (one cs) H V := rfl
@[go_sem] theorem W0 : eh P [] T H K = K [] := rfl
@[go_sem] theorem WZ (t : Nat) (r : List ResultVar) : eh P (.tmp t :: r) T H K = eh P r T H fun cs => K (bt T t :: cs) := rfl
def ot (H : Hp) : CV -> (Nat -> Nat -> List CV -> Prop) -> Prop
 | .ptr b o, K => dN H b fun cs => K b o cs
 | _, _ => False
@[go_sem] theorem SH (a ty : Nat) (r : List ResultVar) : eh P (.cell a ty :: r) T H K = bv (bH P ty) fun q => ot H (bt T a) fun _ o cs => ld q.1 q.2 cs o fun c => eh P r T H fun ds => K (c :: ds) := by
 rw [aV]; simp only [Prod.exists]; rw [eh]
 congr 1; funext g; congr 1; funext n; congr 1
 cases bt T a <;> simp only [ot, gv]
@[go_sem] theorem SZ (b o : Nat) (K : Nat -> Nat -> List CV -> Prop) : ot H (.ptr b o) K = dN H b fun cs => K b o cs := rfl
@[go_sem] theorem agK (c : CV) : one [c] = c := rfl
@[go_sem] theorem agL : one [] = .tup [] := rfl
@[go_sem] theorem agJ (c d : CV) (cs : List CV) : one (c :: d :: cs) = .tup (c :: d :: cs) := rfl
end
section
variable {P : Program} {nb nv : Nat} {T T' : Tm} {H H' : Hp} {V V' : List Nat}
@[congr] theorem aa6 {res : List ResultVar} {R : CV -> Hp -> List Nat -> Prop} {e : Exit} (h1 : T = T') (h2 : H = H') (h3 : V = V') : Rt P nb nv res R e T H V = Rt P nb nv res R e T' H' V' := by subst h1 h2 h3; rfl
@[congr] theorem NW {x x' : CV} {K : Nat -> Nat -> List CV -> Prop} (h1 : H = H') (h2 : x = x') : ot H x K = ot H' x' K := by subst h1 h2; rfl
@[congr] theorem VZ {R : CV -> Hp -> List Nat -> Prop} {r r' : CV} (h0 : r = r') (h1 : H = H') (h2 : V = V') : ao nb nv R r H V = ao nb nv R r' H' V' := by subst h0 h1 h2; rfl
end
section
variable {α : Type} (H L : List α) (j : Nat) (x : α)
@[go_sem] theorem fL : (H ++ L)[H.length]? = L[0]? := by rw [getElem?_append_right (le_refl _), Nat.sub_self]
@[go_sem] theorem qY : (H ++ L)[H.length + j]? = L[j]? := by rw [getElem?_append_right (by omega)]; congr 1; omega
theorem IB {b : Nat} {y : α} (h : H[b]? = some y) : (H ++ L)[b]? = some y := by rw [getElem?_append_left (List.getElem?_eq_some_iff.1 h).1]; exact h
end
theorem gb {H : Hp} {b : Nat} {cs : List CV} (h : H[b]? = some (some cs)) (K : List CV -> Prop) : dN H b K = K cs := by simp [dN, h]
@[go_sem] theorem LF (H : Hp) (cs : List CV) (L : Hp) (K : List CV -> Prop) : dN (H ++ some cs :: L) H.length K = K cs := gb (by simp) K
def Pu (r : CV) (H : Hp) (V : List Nat) : CV -> Hp -> List Nat -> Prop := fun r' H' V' => r' = r /\ H = H' /\ V = V'
theorem ao.pure {nb nv : Nat} {R : CV -> Hp -> List Nat -> Prop} {r r' : CV} {H H' : Hp} {V V' : List Nat} (hR : R r' H V) (hH : H'.take nb = H) (hV : V'.take nv = V) (hle : Le r r') (hok : aK nb nv r')
 (oH : ∀ (b : Nat) cs, H[b]? = some (some cs) -> okL nb nv cs) : ao nb nv R r H' V' := by
 refine ⟨r', H, V, ?_, hR⟩;refine cL.trans (T' := [(0, r')]) (H' := H') (V' := V') (cL.forget fun p hp => ?_) ?_
 · simp at hp; subst hp; exact hle
 · have := cL.cut (n := 1) (nb := nb) (nv := nv) (T := [(0, r')]) (H := H') (V := V') nb nv (le_refl _) (le_refl _) (fun p hp => by simp at hp; subst hp; exact hok) (by rw [hH]; exact oH)
   rwa [hH, hV] at this
theorem ao.keep {nb nv : Nat} {R : CV -> Hp -> List Nat -> Prop} {r r' : CV} {H H' : Hp} {V' V'' : List Nat} (j : Nat) (hR : R r' H V'') (hj : nv <= j) (hH : H'.take nb = H) (hV : V'.take j = V'') (hle : Le r r') (hok : aK nb j r')
 (oH : ∀ (b : Nat) cs, H[b]? = some (some cs) -> okL nb nv cs) : ao nb nv R r H' V' := by
 refine ⟨r', H, V'', ?_, hR⟩;refine cL.trans (T' := [(0, r')]) (H' := H') (V' := V') (cL.forget fun p hp => ?_) ?_
 · simp at hp; subst hp; exact hle
 · have := cL.cut (n := 1) (nb := nb) (nv := nv) (T := [(0, r')]) (H := H') (V := V') nb j (le_refl _) hj (fun p hp => by simp at hp; subst hp; exact hok) (by
    rw [hH];intro b cs hb;exact aO (le_refl _) hj (oH b cs hb))
   rwa [hH, hV] at this
theorem cL.tok {n nb nv sz : Nat} {x : CV} {xs : List (List CV)} {H : Hp} {V : List Nat} (hsz : 0 < sz) (hx : (x = .v (.slice none 0 0) /\ xs = []) \/ x = .sl .ti sz xs) : cL n nb nv [(0, x)] H V [(0, .sl (.own V.length 0) sz xs)] H (V ++ [0]) := by
 intro D m w a m0 w0 V0 h1 h2 h3 he hs;obtain ⟨s1, s2⟩ := kz hs.inv;refine ⟨_, ⟨s1, fun k => ?_, hs.size, hs.df⟩, he.trans s2⟩;simp only [bt]
 by_cases hk : k = 0
 · rw [if_pos hk]
   have ht := (dC.mono s2 hs.tm) k;simp only [bt, if_pos hk] at ht;have aC : ∀ u : Nat, (V ++ [0])[V.length]? = some 0 := fun _ => by rw [fL]; rfl
   rcases hx with ⟨rfl, rfl⟩ | rfl
   · rw [ag] at ht; rw [ag]
     exact ⟨none, 0, ht, le_refl _, ⟨0, aC 0, le_refl _, fun _ => .inl rfl⟩, hsz, .inl rfl⟩
   · rw [ag] at ht; rw [ag]
     obtain ⟨base, cap, q1, q2, q3, q4, q5⟩ := ht;exact ⟨base, cap, q1, q2, ⟨0, aC 0, le_refl _, fun _ => .inl q3⟩, q4, q5⟩
 · rw [if_neg hk, ag]; trivial
theorem ao.tok {nb nv sz : Nat} {R : CV -> Hp -> List Nat -> Prop} {r : CV} {xs : List (List CV)} {H H' : Hp} {V V' : List Nat} (hR : R (.sl (.own V.length 0) sz xs) H (V ++ [0])) (hsz : 0 < sz) (hx : (r = .v (.slice none 0 0) /\ xs = []) \/ r = .sl .ti sz xs) (hH : H'.take nb = H) (hV : V'.take nv = V)
 (hok : aK nb nv r) (oH : ∀ (b : Nat) cs, H[b]? = some (some cs) -> okL nb nv cs) : ao nb nv R r H' V' := by
 refine ⟨_, H, V ++ [0], ?_, hR⟩;have := cL.cut (n := 1) (nb := nb) (nv := nv) (T := [(0, r)]) (H := H') (V := V') nb nv (le_refl _) (le_refl _) (fun p hp => by simp at hp; subst hp; exact hok) (by rw [hH]; exact oH);rw [hH, hV] at this;exact this.trans (cL.tok hsz hx)
def oT (T : Tm) : Tm -> Prop
 | [] => True
 | (k, c) :: r => Le (bt T k) c /\ oT T r
theorem oT.get {T : Tm} : ∀ {T' : Tm}, oT T T' -> ∀ p ∈ T', Le (bt T p.1) p.2
 | [], _, p, hp => by cases hp
 | (k, c) :: r, h, p, hp => by
  rcases mem_cons.1 hp with rfl | hp
  · exact h.1
  · exact oT.get h.2 p hp
@[go_sem] theorem aem (T : Tm) : oT T [] = True := rfl
@[go_sem] theorem aa1 (T : Tm) (k : Nat) (c : CV) (r : Tm) : oT T ((k, c) :: r) = (Le (bt T k) c /\ oT T r) := rfl
@[go_sem] theorem aeu (c : CV) : Le c c = True := eq_true (.refl c)
@[go_sem] theorem ahp (tk : Tk) (sz : Nat) (xs : List (List CV)) : Le (.sl tk sz xs) (.sl .sh sz xs) = True := eq_true (.sh tk sz xs)
def Sh (n nb nv : Nat) (T : Tm) (H : Hp) (V : List Nat) (s : Tm × Hp × List Nat) : Prop := cL n nb nv T H V s.1 s.2.1 s.2.2
theorem ae {n nb nv : Nat} {T T' : Tm} {H H' : Hp} {V V' : List Nat} (h : oT T T') (hH : H = H') (hV : V = V') : Sh n nb nv T H V (T', H', V') := by
 subst hH hV;exact cL.forget (oT.get h)
theorem Sh.cut {n nb nv : Nat} {T T' : Tm} {H H' : Hp} {V V' : List Nat} (i j : Nat) (h : oT T T') (hi : nb <= i) (hj : nv <= j) (hT : ∀ p ∈ T', aK i j p.2) (hH : ∀ (b : Nat) cs, H'[b]? = some (some cs) -> okL i j cs) (eH : H.take i = H') (eV : V.take j = V') : Sh n nb nv T H V (T', H', V') := by
 subst eH eV;exact (cL.forget (oT.get h)).trans (cL.cut i j hi hj hT hH)
theorem al {P : Program} {n nb nv : Nat} {c : Code} {Q : Exit -> Tm -> Hp -> List Nat -> Prop} {T : Tm} {H : Hp} {V : List Nat} {α : Type} (S : α -> Tm × Hp × List Nat) (ok : α -> Prop) (μ : α -> Nat) (x0 : α)
 (h0 : ok x0) (he : Sh n nb nv T H V (S x0)) (hr : ∀ x, ok x -> ac P n nb nv c (uq (fun T H V => ∃ x', ok x' /\ μ x' < μ x /\ Sh n nb nv T H V (S x')) Q) (S x).1 (S x).2.1 (S x).2.2) : ac P n nb nv (.loop c) Q T H V := by
 intro ro D m w a m0 w0 V0 h1 h2 h3 hx hs;obtain ⟨m1, s1, s2⟩ := he D m w a m0 w0 V0 h1 h2 h3 hx hs;refine j6 (fun k a w => ∃ x m, ok x /\ μ x = k /\ St D n m w a (S x).1 (S x).2.1 (S x).2.2 /\ bh m0 w0 V0 m w (S x).2.2) (μ x0) ⟨x0, m1, h0, rfl, s1, s2⟩ ?_;rintro k a' w' ⟨x, m2, k0, rfl, k2, k3⟩;refine wpIn_mono (hr x k0 ro D m2 w' a' m0 w0 V0 h1 h2 h3 k3 k2) fun e a3 w3 ⟨T3, H3, V3, m3, q1, q2, q3⟩ => ?_
 cases e with
 | normal =>
  obtain ⟨x', r1, r2, r3⟩ := q1;obtain ⟨m4, t1, t2⟩ := r3 D m3 w3 a3 m0 w0 V0 h1 h2 h3 q3 q2;exact ⟨μ x', r2, x', m4, r1, rfl, t1, t2⟩
 | _ => exact ⟨T3, H3, V3, m3, q1, q2, q3⟩
theorem af {P : Program} {n nb nv id : Nat} {c : Code} {Q : Exit -> Tm -> Hp -> List Nat -> Prop} {T : Tm} {H : Hp} {V : List Nat} (h : ac P n nb nv c (DS id Q) T H V) : ac P n nb nv (.block id c) Q T H V := by
 intro ro D m w a m0 w0 V0 h1 h2 h3 hx hs;refine wpIn_block (wpIn_mono (h ro D m w a m0 w0 V0 h1 h2 h3 hx hs) fun e a' w' ⟨T', H', V', m', k1, k2⟩ => ?_)
 cases e with
 | exit id' =>
  simp only [DS] at k1;simp only [Exit.inBlock]
  split
  · rename_i hid; rw [if_pos hid] at k1; exact ⟨T', H', V', m', k1, k2⟩
  · rename_i hid; rw [if_neg hid] at k1; exact ⟨T', H', V', m', k1, k2⟩
 | _ => exact ⟨T', H', V', m', k1, k2⟩
theorem am {P : Program} {n nb nv : Nat} {x y : Code} {Q : Exit -> Tm -> Hp -> List Nat -> Prop} {T : Tm} {H : Hp} {V : List Nat} {α : Type} (S : α -> Tm × Hp × List Nat) (ok : α -> Prop)
 (h1 : ac P n nb nv x (uq (fun T H V => ∃ s, ok s /\ Sh n nb nv T H V (S s)) Q) T H V) (h2 : ∀ s, ok s -> ac P n nb nv y Q (S s).1 (S s).2.1 (S s).2.2) : ac P n nb nv (.seq x y) Q T H V :=
 aa (h1.mono fun e T H V k => by
  cases e with
  | normal => obtain ⟨s, k1, k2⟩ := k; exact ac.ghost k2 (h2 s k1)
  | _ => exact k)
theorem ab {P : Program} {n nb nv : Nat} {c : Code} {Q : Exit -> Tm -> Hp -> List Nat -> Prop} {T : Tm} {H : Hp} {V : List Nat} (h : Wp P n nb nv c Q T H V) : ac P n nb nv c Q T H V := Wp.sound c h
@[congr] theorem VU {P : Program} {n nb nv : Nat} {c : Code} {Q : Exit -> Tm -> Hp -> List Nat -> Prop} {T T' : Tm} {H H' : Hp} {V V' : List Nat} (h1 : T = T') (h2 : H = H') (h3 : V = V') : ac P n nb nv c Q T H V = ac P n nb nv c Q T' H' V' := by subst h1 h2 h3; rfl
@[congr] theorem aa5 {n nb nv : Nat} {T T' : Tm} {H H' : Hp} {V V' : List Nat} {s s' : Tm × Hp × List Nat} (h1 : T = T') (h2 : H = H') (h3 : V = V') (h4 : s = s') : Sh n nb nv T H V s = Sh n nb nv T' H' V' s' := by subst h1 h2 h3 h4; rfl
def Fr (sz : Nat) (xs : List (List CV)) (H : Hp) (V : List Nat) : CV -> Hp -> List Nat -> Prop := fun r H' V' => ∃ v, r = .sl (.own V.length v) sz xs /\ H = H' /\ V ++ [v] = V'
def Ow (k sz : Nat) (xs : List (List CV)) (H : Hp) (V : List Nat) : CV -> Hp -> List Nat -> Prop := fun r H' V' => ∃ v, r = .sl (.own k v) sz xs /\ H = H' /\ V.set k v = V'
section
variable {r r0 : CV} {H H' : Hp} {V V' : List Nat} {sz : Nat} {xs : List (List CV)}
theorem ao.pu (hle : Le r r0) (hok : aK H.length V.length r0) (oH : ∀ (b : Nat) cs, H[b]? = some (some cs) -> okL H.length V.length cs) (hH : H'.take H.length = H) (hV : V'.take V.length = V) : ao H.length V.length (Pu r0 H V) r H' V' :=
 ao.pure ⟨rfl, rfl, rfl⟩ hH hV hle hok oH
theorem ao.fr {v : Nat} {W : List Nat} (hok : fO H.length V.length xs) (oH : ∀ (b : Nat) cs, H[b]? = some (some cs) -> okL H.length V.length cs) (hH : H'.take H.length = H) : ao H.length V.length (Fr sz xs H V) (.sl (.own V.length v) sz xs) H' (V ++ v :: W) :=
 ao.keep (V'' := V ++ [v]) (V.length + 1) ⟨v, rfl, rfl, rfl⟩ (Nat.le_succ _) hH (by rw [take_append, take_of_length_le (Nat.le_succ _)]; simp) (.refl _) (by rw [aK]; exact ⟨Nat.lt_succ_self _, ql (le_refl _) (Nat.le_succ _) hok⟩) oH
theorem ao.frtok (hsz : 0 < sz) (hx : (r = .v (.slice none 0 0) /\ xs = []) \/ r = .sl .ti sz xs) (hok : fO H.length V.length xs) (oH : ∀ (b : Nat) cs, H[b]? = some (some cs) -> okL H.length V.length cs) (hH : H'.take H.length = H) (hV : V'.take V.length = V) : ao H.length V.length (Fr sz xs H V) r H' V' :=
 ao.tok ⟨0, rfl, rfl, rfl⟩ hsz hx hH hV (by rcases hx with ⟨rfl, _⟩ | rfl <;> rw [aK] <;> first | trivial | exact ⟨trivial, hok⟩) oH
theorem ao.ow {k v : Nat} {W : List Nat} (hk : k < V.length) (hok : fO H.length V.length xs) (oH : ∀ (b : Nat) cs, H[b]? = some (some cs) -> okL H.length V.length cs) (hH : H'.take H.length = H) : ao H.length V.length (Ow k sz xs H V) (.sl (.own k v) sz xs) H' (V.set k v ++ W) :=
 ao.keep (V'' := V.set k v) V.length ⟨v, rfl, rfl, rfl⟩ (le_refl _) hH (by rw [take_append, take_of_length_le (by simp)]; simp) (.refl _) (by rw [aK]; exact ⟨hk, hok⟩) oH
theorem ao.ow0 {k v : Nat} (hk : k < V.length) (hok : fO H.length V.length xs) (oH : ∀ (b : Nat) cs, H[b]? = some (some cs) -> okL H.length V.length cs) (hH : H'.take H.length = H) : ao H.length V.length (Ow k sz xs H V) (.sl (.own k v) sz xs) H' (V.set k v) := by
 have := ao.ow (sz := sz) (v := v) (W := []) hk hok oH hH
 rwa [append_nil] at this
end
theorem fj {jb jv : Nat} {α : Type} (f : α -> List CV) (l : List α) (h : ∀ a, okL jb jv (f a)) : fO jb jv (l.map f) := by
 rw [tz];intro e he c hc;obtain ⟨a, _, rfl⟩ := mem_map.1 he;exact co.1 (h a) c hc
theorem gu (l : List CV) (n : Nat) (h : Nat.ble l.length n = true) : l.length <= n := Nat.le_of_ble_eq_true h
theorem aj {P : Program} {H : Hp} {V : List Nat} {f : FuncId} {fn : Func} {c : Code} {args : List CV} {R : CV → Hp → List Nat → Prop} (hf : P.funcs[f]? = some fn) (hb : fn.body = some c)
 (h : okL H.length V.length args → (∀ (b : Nat) cs, H[b]? = some (some cs) → okL H.length V.length cs) → ac P fn.ntmps H.length V.length c (Rt P H.length V.length fn.results.toList R) (ai 0 args) H V) (hn : (fn.name == "runtime.NumGoroutine") = false := by kernel_rfl) (ha : Nat.ble args.length fn.ntmps = true := by exact rfl) : CC P f args H V R := DM hf hb hn (Nat.le_of_ble_eq_true ha) h
theorem ah {P : Program} {H : Hp} {V : List Nat} {f : FuncId} {args : List CV} {r : CV} {K : CV → Hp → List Nat → Prop} (h : CC P f args H V (Pu r H V)) (k : K r H V) : CC P f args H V K := CC.mono h (by rintro _ _ _ ⟨rfl, rfl, rfl⟩; exact k)
theorem Le.of_eq {c d : CV} (h : c = d) : Le c d := by subst h; exact .refl c
theorem Le.int {k : IntKind} {a b : Int} (h : a = b) : Le (.v (.int k a)) (.v (.int k b)) := .of_eq (by rw [h])
section
variable {H H' : Hp} {V V' : List Nat} {sz : Nat} {xs ys : List (List CV)}
theorem ao.own {k v : Nat} (hk : k < V.length) (hx : ys = xs) (hok : fO H.length V.length xs) (oH : ∀ (b : Nat) cs, H[b]? = some (some cs) -> okL H.length V.length cs) (hH : H'.take H.length = H) : ao H.length V.length (Ow k sz xs H V) (.sl (.own k v) sz ys) H' (V.set k v) := by
 subst hx; exact ao.ow0 hk hok oH hH
theorem ao.fresh {v : Nat} {W : List Nat} (hx : ys = xs) (hok : fO H.length V.length xs) (oH : ∀ (b : Nat) cs, H[b]? = some (some cs) -> okL H.length V.length cs) (hH : H'.take H.length = H) : ao H.length V.length (Fr sz xs H V) (.sl (.own V.length v) sz ys) H' (V ++ v :: W) := by
 subst hx; exact ao.fr hok oH hH
end
end
end Go.Proofs.YtfflhepmkhlppaaGreatDoor
