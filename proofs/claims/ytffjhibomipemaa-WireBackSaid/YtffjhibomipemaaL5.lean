/-
  A PROGRAM LOGIC, PART 5: append.
-/
import Derived.Test.YtffjhibomipemaaL4
import Derived.Deep.AppendSrc
namespace Go.Proofs.Ytffjhibomipemaa

section
variable {P : Program} {m : Gh} {w : World} {H : Hp} {V : List Nat}

theorem chunks_length (sz : Nat) : ∀ (n : Nat) (cs : List CV), (chunks sz n cs).length = n
  | 0, _ => rfl
  | n + 1, cs => by simp [chunks, chunks_length sz n]
theorem chunks_flatten (sz : Nat) : ∀ (n : Nat) (cs : List CV), (chunks sz n cs).flatten = cs.take (n * sz)
  | 0, _ => by simp [chunks]
  | n + 1, cs => by
    rw [chunks, List.flatten_cons, chunks_flatten sz n, Nat.succ_mul, Nat.add_comm (n * sz)]
    rw [List.take_add]
theorem chunks_get (sz : Nat) : ∀ (n : Nat) (cs : List CV) (j : Nat) (e : List CV), n * sz ≤ cs.length → (chunks sz n cs)[j]? = some e → e.length = sz
  | 0, _, _, _, _, h => by simp [chunks] at h
  | n + 1, cs, j, e, hl, h => by
    rw [Nat.succ_mul] at hl
    cases j with
    | zero => simp [chunks] at h; subst h; simp; omega
    | succ j => exact chunks_get sz n (cs.drop sz) j e (by simp; omega) (by simpa [chunks] using h)

/-- What the source yields. -/
theorem csrc_run {tx e' : TypeId} {sz sz' : Nat} (ht : slTy P tx = some (e', sz')) (hsz : 0 < sz) (hi : Inv m w H V) {y : CV} {u : Value} (hu : RelV m w V y u) {K : List (List CV) → Prop} (h : csrc H sz y K) :
    ∃ (ys : List (List CV)) (news : List Value), K ys ∧ Src P sz tx u ys.length news w ∧ RelL m w V ys.flatten news ∧ ∀ (j : Nat) e, ys[j]? = some e → e.length = sz := by
  obtain ⟨_, _, hk, _⟩ := slTy_some ht
  have src0 : ∀ (base : Option Addr) (cap : Nat), Src P sz tx (.slice base 0 cap) 0 [] w := fun base cap => by
    cases base with
    | none => exact Src.ofNil (P := P) w hk cap
    | some a => exact Src.ofSlice (P := P) w hk a 0 cap [] (by simp) (by simp) (by simp)
  cases y <;> simp only [csrc] at h
  case sl tk sz0 ys =>
    obtain ⟨rfl, h⟩ := h
    rw [RelV] at hu
    obtain ⟨base, cap, rfl, h1, h2, h3, h4⟩ := hu
    rcases h4 with rfl | ⟨k, o, rfl, h5, h6⟩
    · exact ⟨[], [], h, src0 base cap, by rw [List.flatten_nil, RelL], by simp⟩
    · obtain ⟨g1, g2⟩ := relE_flat h6
      obtain ⟨us, q1, q2, q3⟩ := relC_vals g1
      exact ⟨ys, us, h, Src.ofSlice (P := P) w hk ⟨k, o, none⟩ _ cap us (by rw [relL_length q1, g2]) (fun j u hu => by rw [addr_add]; exact q2 j u hu) q3, q1, fun j e he => (relE_get h6 j e he).1⟩
  case v x =>
    split at h
    · rename_i he; cases he
    · rename_i he
      cases he
      rw [RelV] at hu; subst hu
      exact ⟨[], [], h, src0 none 0, by rw [List.flatten_nil, RelL], by simp⟩
    · rename_i he; cases he
    · exact h.elim
  case bsl b o n sz0 =>
    obtain ⟨rfl, cs, hb, hl, h⟩ := h
    rw [RelV] at hu
    obtain ⟨base, cap, k, rfl, h1, h2, hk', h3⟩ := hu
    rcases h3 with rfl | rfl
    · exact ⟨[], [], by simpa [chunks] using h, src0 base cap, by rw [List.flatten_nil, RelL], by simp⟩
    · obtain ⟨k', c, e, g1, g2, g3, g4, g5⟩ := hi.alive b cs hb
      rw [hk'] at g1; cases g1
      obtain ⟨us, q1, q2, q3⟩ := relC_vals (relC_take (relC_drop g5 o) (n * sz0))
      refine ⟨_, us, h, ?_, by rw [chunks_flatten]; exact q1, fun j e he => chunks_get sz0 n _ j e (by simp; omega) he⟩
      rw [chunks_length]
      refine Src.ofSlice (P := P) w hk ⟨k, o, none⟩ _ cap us (by rw [relL_length q1]; simp; omega) (fun j u hu => ?_) q3
      rw [addr_add]
      simpa using q2 j u hu

theorem run_append_zero {t tx ty e : TypeId} {i : TypeInfo} (ht : P.underlying t = some (.slice e)) (hi : P.info? e = some i) (base : Option Addr) (len cap : Nat) (hc : len ≤ cap) {u : Value} (hs : Src P i.size tx u 0 [] w) :
    (Builtin.append_ #[t, tx] ty #[.slice base len cap, u]).run P w = .ok (.slice base len cap) w := by
  cases base <;> rcases hs.kind with ⟨e', hk⟩ | hk <;> simp [Builtin.append_, run_underlying ht, run_underlying hk, sizeOf, typeInfo, hi, hs.len, hc, hs.cells, storeCells]

theorem run_append_place {t tx ty e : TypeId} {i : TypeInfo} (ht : P.underlying t = some (.slice e)) (hi : P.info? e = some i) (k o len cap : Nat) {c : Array Value} {ec : TypeId} (hc : w.heap[k]? = some (.cells c ec (0, 0)))
    {u : Value} {n : Nat} {news : List Value} (hs : Src P i.size tx u n news w) (hr : len + n ≤ cap) (hf : o + len * i.size + news.length ≤ c.size) :
    (Builtin.append_ #[t, tx] ty #[.slice (some ⟨k, o, none⟩) len cap, u]).run P w =
      .ok (.slice (some ⟨k, o, none⟩) (len + n) cap) (w.setRow k (c.toList.take (o + len * i.size) ++ news ++ c.toList.drop (o + len * i.size + news.length)).toArray) := by
  have hst := run_storeCells_at P k (o + len * i.size) ec news 0 c w hc (by simpa using hf) hs.one
  simp only [Nat.add_zero] at hst
  rcases hs.kind with ⟨e', hk⟩ | hk <;> simp [Builtin.append_, run_underlying ht, run_underlying hk, sizeOf, typeInfo, hi, hs.len, hr, hs.cells, addr_add, hst]

/-- Elements behind elements. -/
theorem relE_append {k sz : Nat} {es fs : List (List CV)} {a : Nat} (h : RelE m w V k sz es a) (h' : RelE m w V k sz fs (a + es.length * sz)) : RelE m w V k sz (es ++ fs) a :=
  relE_mk fun j c hc => by
    rw [List.getElem?_append] at hc
    split at hc
    · exact relE_get h _ c hc
    · rename_i hj
      have := relE_get h' _ c hc
      rw [Nat.add_assoc, ← Nat.add_mul] at this
      rwa [show es.length + (j - es.length) = j from by omega] at this

/-- Cells one behind the other, taken as elements. -/
theorem relE_of_flat {k sz : Nat} : ∀ {es : List (List CV)} {a : Nat}, (∀ (j : Nat) e, es[j]? = some e → e.length = sz) → RelC m w V k es.flatten a → RelE m w V k sz es a
  | [], _, _, _ => by rw [RelE]; trivial
  | e :: es, a, hl, h => by
    rw [RelE]
    have h0 := hl 0 e rfl
    rw [List.flatten_cons] at h
    refine ⟨h0, ?_, relE_of_flat (fun j x hx => hl (j + 1) x (by simpa using hx)) ?_⟩
    · have := relC_take h e.length
      simpa using this
    · have := relC_drop h e.length
      rw [h0] at this
      simpa [h0] using this

/-- A list of cells in a block. -/
theorem relC_row {m' : Gh} {w' : World} {V' : List Nat} (hx : Ext m w V m' w' V') {k a : Nat} {c : Array Value} {e : TypeId} {fr : Nat × Nat} (hc : w'.heap[k]? = some (.cells c e fr)) {cs : List CV} {us : List Value} (hr : RelL m w V cs us)
    (h1 : ∀ u ∈ us, u.oneCell' = true) (hat : ∀ (j : Nat), j < us.length → c[a + j]? = us[j]?) : RelC m' w' V' k cs a :=
  relC_mk fun j x hj => by
    obtain ⟨u, q1, q2⟩ := relL_get hr j x hj
    exact ⟨u, by rw [cell_of_row w' _ _ c e fr hc, hat j (List.getElem?_eq_some_iff.1 q1).1]; exact q1, RelV.mono hx _ _ q2, h1 u (List.mem_of_getElem? q1)⟩

theorem capp_run {t tx ty : TypeId} (hi : Inv m w H V) {x y : CV} {u uy : Value} (hx : RelV m w V x u) (hy : RelV m w V y uy) {K : CV → Hp → List Nat → Prop} (h : capp P t tx x y H V K) :
    ∃ u' w' m' c H' V', (Builtin.append_ #[t, tx] ty #[u, uy]).run P w = .ok u' w' ∧ K c H' V' ∧ Inv m' w' H' V' ∧ RelV m' w' V' c u' ∧ Ext m w V m' w' V' := by
  obtain ⟨e, sz, ht, htx, h⟩ := h
  obtain ⟨ex, szx, htx⟩ := sl1 htx
  obtain ⟨i, z, hu, hinf, hsz, hpos, hb0, hb1, hz, hzs⟩ := slTy_some ht
  obtain ⟨ys, news, hK, hsrc, hnews, hlen⟩ := csrc_run htx hpos hi hy h
  clear h
  subst hsz
  have hnl := hsrc.newsLen
  -- the old cells, and how the value reads
  have old : ∀ (xs : List (List CV)) (base : Option Addr) (cap : Nat), (xs = [] ∨ ∃ k o, base = some ⟨k, o, none⟩ ∧ o + xs.length * i.size ≤ m.lim k ∧ RelE m w V k i.size xs o) →
      ∃ olds : List Value, (Builtin.firstCells i.size xs.length (.slice base xs.length cap)).run P w.drew = .ok olds.toArray w.drew ∧ RelL m w V xs.flatten olds ∧ (∀ u ∈ olds, u.oneCell' = true) ∧ olds.length = xs.length * i.size ∧
        ∀ (j : Nat) e, xs[j]? = some e → e.length = i.size := by
    intro xs base cap h
    rcases h with rfl | ⟨k, o, rfl, h1, h2⟩
    · refine ⟨[], ?_, by rw [List.flatten_nil, RelL], by simp, by simp, by simp⟩
      cases base with
      | none => exact run_firstCells_none w.drew i.size 0 0 cap
      | some a => exact run_firstCells_some w.drew i.size 0 a 0 cap [] (by simp) (by simp)
    · obtain ⟨g1, g2⟩ := relE_flat h2
      obtain ⟨us, q1, q2, q3⟩ := relC_vals g1
      exact ⟨us, run_firstCells_some w.drew i.size xs.length ⟨k, o, none⟩ xs.length cap us (by rw [relL_length q1, g2]) (fun j u hu => by rw [addr_add]; exact q2 j u hu), q1, q3, by rw [relL_length q1, g2], fun j e he => (relE_get h2 j e he).1⟩
  -- a new block
  have grow : ∀ (xs : List (List CV)) (base : Option Addr) (cap : Nat) (olds : List Value), (Builtin.firstCells i.size xs.length (.slice base xs.length cap)).run P w.drew = .ok olds.toArray w.drew → olds.length = xs.length * i.size →
      cap < xs.length + ys.length → xs.length + ys.length ≤ 1099511627776 →
      ∃ (c : Array Value) (cap' : Nat), (Builtin.append_ #[t, tx] ty #[.slice base xs.length cap, uy]).run P w = .ok (.slice (some ⟨w.heap.size, 0, none⟩) (xs.length + ys.length) cap') (w.drew.alloc (.cells c e)) ∧
        xs.length + ys.length ≤ cap' ∧ cap' * i.size ≤ c.size ∧ ∀ j, j < olds.length + news.length → c[j]? = (olds ++ news)[j]? := by
    intro xs base cap olds ho hol hg hbd
    have hfit : (xs.length + ys.length) * i.bytes ≤ 140737488355328 := Nat.le_trans (Nat.mul_le_mul hbd hb1) (by decide)
    have hrun := run_append_grow_src (P := P) w t tx ty e i z hu hinf hz base xs.length cap olds ho uy ys.length news hsrc hg (by omega) (growslice_fits hg hfit)
    refine ⟨_, _, hrun, grownCap_ge _ _ _ _, ?_, fun j hj => ?_⟩
    · have hge := grownCap_ge w (xs.length + ys.length) cap e
      simp only [Array.size_append, List.size_toArray, List.length_append, size_zeroCells, hzs, hol, hnl, ← Nat.add_mul]
      rw [Nat.add_sub_cancel' hge]
      exact Nat.le_refl _
    · rw [Array.getElem?_append_left (by simp; omega)]
      simp
  -- the elements in the new block
  have elems : ∀ (xs : List (List CV)) (olds : List Value) (c : Array Value) (m' : Gh) (w' : World) (V' : List Nat), Ext m w V m' w' V' → w'.heap[w.heap.size]? = some (.cells c e (0, 0)) → RelL m w V xs.flatten olds → (∀ u ∈ olds, u.oneCell' = true) →
      (∀ (j : Nat) e, xs[j]? = some e → e.length = i.size) → (∀ j, j < olds.length + news.length → c[j]? = (olds ++ news)[j]?) → RelE m' w' V' w.heap.size i.size (xs ++ ys) 0 := by
    intro xs olds c m' w' V' hx hc hr h1 hl hat
    refine relE_of_flat (fun j x hj => ?_) ?_
    · rw [List.getElem?_append] at hj
      split at hj
      · exact hl _ x hj
      · exact hlen _ x hj
    · rw [List.flatten_append]
      refine relC_row hx hc (relL_append hr hnews) (fun u hu => ?_) (fun j hj => ?_)
      · rcases List.mem_append.1 hu with hu | hu
        · exact h1 u hu
        · exact hsrc.one u hu
      · rw [Nat.zero_add]; exact hat j (by simpa using hj)
  -- a slice that may be appended to, tight: a new token
  have tight : ∀ (xs : List (List CV)) (base : Option Addr), (xs = [] ∨ ∃ k o, base = some ⟨k, o, none⟩ ∧ o + xs.length * i.size ≤ m.lim k ∧ RelE m w V k i.size xs o) → xs.length + ys.length ≤ 1099511627776 →
      K (.sl (.own V.length 0) i.size (xs ++ ys)) H (V ++ [0]) →
      ∃ u' w' m' c H' V', (Builtin.append_ #[t, tx] ty #[.slice base xs.length xs.length, uy]).run P w = .ok u' w' ∧ K c H' V' ∧ Inv m' w' H' V' ∧ RelV m' w' V' c u' ∧ Ext m w V m' w' V' := by
    intro xs base hb hbd hk
    obtain ⟨olds, o1, o2, o3, o4, o5⟩ := old xs base xs.length hb
    by_cases hn : ys.length = 0
    · have hys : ys = [] := List.length_eq_zero_iff.1 hn
      subst hys
      have hnews0 : news = [] := by rw [← List.length_eq_zero_iff, hnl]; simp
      subst hnews0
      obtain ⟨s1, s2⟩ := step_tok hi
      refine ⟨_, _, _, _, _, _, run_append_zero hu hinf base xs.length xs.length (Nat.le_refl _) hsrc, hk, s1, ?_, s2⟩
      rw [RelV]
      refine ⟨base, xs.length, by simp, by simp, ⟨0, by simp, Nat.le_refl _, fun _ => .inl (by simp)⟩, hpos, ?_⟩
      rcases hb with rfl | ⟨k, o, rfl, h1, h2⟩
      · exact .inl (by simp)
      · exact .inr ⟨k, o, rfl, by simpa using Nat.le_trans h1 (s2.lim k), by simpa using RelE.mono s2 k i.size xs o h1 h2⟩
    · obtain ⟨c, cap', g1, g2, g3, g4⟩ := grow xs base xs.length olds o1 o4 (by omega) hbd
      have hsize : (xs.length + ys.length) * i.size ≤ c.size := Nat.le_trans (Nat.mul_le_mul_right _ g2) g3
      have hp := Pushed.drewAlloc w (.cells c e)
      obtain ⟨s1, s2⟩ := step_fresh hi hp ((xs.length + ys.length) * i.size) hsize
      refine ⟨_, _, _, _, _, _, g1, hk, s1, ?_, s2⟩
      rw [RelV]
      refine ⟨_, cap', by simp, by simpa using g2, ⟨0, by simp, Nat.le_refl _, fun _ => .inr ⟨w.heap.size, 0, c, e, rfl, ?_, ?_, hp.new, by simpa using g3⟩⟩, hpos, .inr ⟨w.heap.size, 0, rfl, ?_, elems xs olds c _ _ _ s2 hp.new o2 o3 o5 g4⟩⟩
      · simp [← hi.tiplen]
      · simp
      · simp
  cases x
  case any => exact False.elim hK
  case agg => exact False.elim hK
  case tup => exact False.elim hK
  case bsl => exact False.elim hK
  case ptr => exact False.elim hK
  case eptr => exact False.elim hK
  case fn => exact False.elim hK
  case sl tk sz' xs =>
    rw [RelV] at hx
    obtain ⟨base, cap, rfl, h1, h2, h3, h4⟩ := hx
    cases tk with
    | sh => exact hK.elim
    | ti =>
      obtain ⟨rfl, hbd, hk⟩ := hK
      have h2 : cap = xs.length := h2
      subst h2
      exact tight xs base h4 hbd hk
    | own tk v =>
      obtain ⟨rfl, hv, hbd, hk⟩ := hK
      obtain ⟨v', q1, q2, q3⟩ := (h2 : OwnOk m w V tk v i.size xs.length cap base)
      rw [hv] at q1; cases q1
      have q3 := q3 rfl
      have htV : tk < V.length := (List.getElem?_eq_some_iff.1 hv).1
      obtain ⟨olds, o1, o2, o3, o4, o5⟩ := old xs base cap h4
      by_cases hroom : xs.length + ys.length ≤ cap
      · by_cases hn : ys.length = 0
        · have hys : ys = [] := List.length_eq_zero_iff.1 hn
          subst hys
          have hnews0 : news = [] := by rw [← List.length_eq_zero_iff, hnl]; simp
          subst hnews0
          obtain ⟨s1, s2⟩ := step_bump hi hv
          refine ⟨_, _, _, _, _, _, run_append_zero hu hinf base xs.length cap h1 hsrc, hk, s1, ?_, s2⟩
          rw [RelV]
          refine ⟨base, cap, by simp, by simpa using h1, ⟨v + 1, by simp [htV], Nat.le_refl _, fun _ => by simpa using q3⟩, hpos, ?_⟩
          rcases h4 with rfl | ⟨k, o, rfl, h1, h2⟩
          · exact .inl (by simp)
          · exact .inr ⟨k, o, rfl, by simpa using h1, by simpa using RelE.mono s2 k i.size xs o h1 h2⟩
        · rcases q3 with q3 | ⟨k, o, c, ec, rfl, ht1, ht2, ht3, ht4⟩
          · omega
          · have hcs : o + xs.length * i.size + news.length ≤ c.size := by
              rw [hnl]
              have := Nat.mul_le_mul_right i.size hroom
              rw [Nat.add_mul] at this
              omega
            obtain ⟨s1, s2⟩ := step_place (us := news) hi hv ht1 ht3 (by rw [← ht2]; exact hcs)
            have hrun := run_append_place (ty := ty) hu hinf k o xs.length cap ht3 hsrc hroom hcs
            rw [ht2] at hrun
            have hnew := setRow_heap w k c (c.toList.take (m.lim k) ++ news ++ c.toList.drop (m.lim k + news.length)).toArray ec (0, 0) ht3
            refine ⟨_, _, _, _, _, _, hrun, hk, s1, ?_, s2⟩
            rw [RelV]
            refine ⟨_, cap, by simp, by simpa using hroom, ⟨v + 1, by simp [htV], Nat.le_refl _, fun _ => .inr ⟨k, o, _, ec, rfl, ht1, ?_, hnew, ?_⟩⟩, hpos, .inr ⟨k, o, rfl, ?_, ?_⟩⟩
            · simp [hnl, Nat.add_mul]; omega
            · simp [List.length_take]; omega
            · simp [hnl, Nat.add_mul]; omega
            · have hE : RelE m w V k i.size xs o := by
                rcases h4 with rfl | ⟨k', o', hb', _, h6⟩
                · rw [RelE]; trivial
                · cases hb'; exact h6
              refine relE_append (RelE.mono s2 k i.size xs o (by omega) hE) (relE_of_flat hlen ?_)
              rw [ht2]
              refine relC_row s2 hnew hnews hsrc.one (fun j hj => ?_)
              rw [List.getElem?_toArray, splice_get _ _ _ _ (by simp; omega), if_neg (by omega), if_pos (by omega)]
              congr 1; omega
      · obtain ⟨c, cap', g1, g2, g3, g4⟩ := grow xs base cap olds o1 o4 (by omega) hbd
        have hsize : (xs.length + ys.length) * i.size ≤ c.size := Nat.le_trans (Nat.mul_le_mul_right _ g2) g3
        have hp := Pushed.drewAlloc w (.cells c e)
        obtain ⟨s1, s2⟩ := step_move hi hv hp ((xs.length + ys.length) * i.size) hsize
        refine ⟨_, _, _, _, _, _, g1, hk, s1, ?_, s2⟩
        rw [RelV]
        refine ⟨_, cap', by simp, by simpa using g2, ⟨v + 1, by simp [htV], Nat.le_refl _, fun _ => .inr ⟨w.heap.size, 0, c, e, rfl, ?_, ?_, hp.new, by simpa using g3⟩⟩, hpos, .inr ⟨w.heap.size, 0, rfl, ?_, elems xs olds c _ _ _ s2 hp.new o2 o3 o5 g4⟩⟩
        · simp [hi.tiplen, htV]
        · simp
        · simp
  case v x =>
    split at hK
    · rename_i he; cases he
    · rename_i he
      cases he
      rw [RelV] at hx; subst hx
      obtain ⟨hbd, hk⟩ := hK
      exact tight [] none (.inl rfl) (by simpa using hbd) (by simpa using hk)
    all_goals rename_i he; first | cases he | exact hK.elim
end
end Go.Proofs.Ytffjhibomipemaa
