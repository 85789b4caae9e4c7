import Derived.Test.YtdiblbjchhjccaaDoorA4
import Derived.ProofKit
import Derived.OpenShut
import Derived.Below
set_option linter.unusedSimpArgs false
set_option linter.unusedVariables false
set_option linter.unusedSectionVars false
namespace Go.Proofs.YtdiblbjchhjccaaDoor
open Go.RowKit

/-- The ghost state at the beginning of a call: all blocks are fixed; no boxes, no tokens. -/
def gh0 (w : World) : Gh where
  lim k := match w.heap[k]? with
    | some (.cells c _ _) => c.size
    | _ => 0
  box := []
  tip := []

theorem gh0_inv (w : World) : Inv (gh0 w) w [] [] where
  boxlen := rfl
  tiplen := rfl
  limv k h := by
    simp only [gh0] at h ⊢
    split at h
    · rename_i c e fr hc
      exact ⟨c, e, fr, hc, by simp⟩
    · omega
  tips := by intro t k h; simp [gh0] at h
  boxes := by intro b k h; simp [gh0] at h
  uniq := by intro b b' k cs cs' h; simp at h
  live := by intro b cs h; simp at h

theorem gh0_lim {w : World} {k o : Nat} {u : Value} (h : w.cell? ⟨k, o, none⟩ = some u) : o < (gh0 w).lim k := by
  simp only [World.cell?] at h
  simp only [gh0]
  split at h
  · rename_i c e fr hc
    simp only [hc]
    simp at h
    obtain ⟨h, _⟩ := Array.getElem?_eq_some_iff.1 h
    exact h
  · cases h

/-- What a law gives: true, and below nothing is changed. -/
theorem law_calls {P : Program} {f : FuncId} {args : Array Value} {W : World} {cs : List CV} {R : CV → Hp → List Nat → Prop} (hrel : RelL (gh0 W) W [] cs args.toList) (h : CC P f cs [] [] R)
    (hR : ∀ r H V, R r H V → r = .v (.bool true)) : Calls P f args W fun e W' => e = .returned (.bool true) ∧ Below W.heap.size W W' := by
  have := h.2 (gh0 W) W args.toList (gh0_inv W) hrel
  rw [Array.toArray_toList] at this
  refine this.mono ?_
  rintro e w' ⟨u, m', r, H', V', rfl, hr, _, hu, hx⟩
  obtain rfl := hR _ _ _ hr
  rw [RelV] at hu
  subst hu
  exact ⟨rfl, hx.os, hx.tape, hx.output, hx.size, fun k hk => hx.same k hk (by simp [gh0]) (by simp [gh0])⟩

/-- The cells of a value of type t that came in: S holds of their contents. -/
def Opens (P : Program) (t : TypeId) (S : List CV → Prop) : Prop :=
  ∀ (H : Type) (enc : TypeId × Value → H) (w : World) (base : Nat) (spare : Nat → Bool) (held : Bool) (fuel : Nat) (us : List Value) (x : DataW H × List MemPlace),
    DataW.trod enc P w base spare held fuel t us = some x → ∃ cs, S cs ∧ RelL (gh0 w) w [] cs us ∧ ∀ u ∈ us, u.oneCell' = true

theorem relL_one {m : Gh} {w : World} {V : List Nat} {c : CV} {u : Value} (h : RelV m w V c u) : RelL m w V [c] [u] := by
  rw [RelL]; exact ⟨u, [], rfl, h, by rw [RelL]⟩

theorem relL_one' {m : Gh} {w : World} {V : List Nat} {c : CV} {u : Value} (h : RelL m w V [c] [u]) : RelV m w V c u := by
  rw [RelL] at h; obtain ⟨_, _, h1, h2, _⟩ := h; cases h1; exact h2

theorem relL_nil {m : Gh} {w : World} {V : List Nat} : RelL m w V [] [] := by rw [RelL]
theorem relL_mk2 {m : Gh} {w : World} {V : List Nat} {c : CV} {u : Value} {cs : List CV} {us : List Value} (h : RelV m w V c u) (h2 : RelL m w V cs us) : RelL m w V (c :: cs) (u :: us) := by
  rw [RelL]; exact ⟨u, us, rfl, h, h2⟩
variable {P : Program} {t e : TypeId}
theorem Opens.int {k : IntKind} (ht : P.underlying t = some (.int k)) : Opens P t fun cs => ∃ n, cs = [.v (.int k n)] ∧ (Lit.int k n).wf = true := by
  intro H enc w base spare held fuel us x h
  obtain ⟨n, rfl, _, hw⟩ := DataW.trod_int ht h
  exact ⟨_, ⟨n, rfl, hw⟩, relL_one (by rw [RelV]), by simp [Value.oneCell']⟩

theorem Opens.bool (ht : P.underlying t = some .bool) : Opens P t fun cs => ∃ b, cs = [.v (.bool b)] := by
  intro H enc w base spare held fuel us x h
  obtain ⟨n, rfl, _⟩ := DataW.trod_bool ht h
  exact ⟨_, ⟨n, rfl⟩, relL_one (by rw [RelV]), by simp [Value.oneCell']⟩

theorem Opens.string (ht : P.underlying t = some .string) : Opens P t fun cs => ∃ s : ByteArray, cs = [.v (.string s)] ∧ s.size ≤ maxLen := by
  intro H enc w base spare held fuel us x h
  obtain ⟨n, rfl, _, hs⟩ := DataW.trod_string ht h
  exact ⟨_, ⟨n, rfl, hs⟩, relL_one (by rw [RelV]), by simp [Value.oneCell']⟩

theorem cells_get {w : World} {base : Nat} {a : Addr} {n : Nat} {us : List Value} (h : w.cells? base a n = some us) : us.length = n ∧ ∀ j, j < n → w.cell? (a.add j) = us[j]? := by
  unfold World.cells? at h
  split at h
  · exact ⟨by simpa using mapM_some_length h, fun j hj => mapM_some_get h j j (by simp [hj])⟩
  · cases h

theorem add_none {a : Addr} (ha : a.spot = none) (i : Nat) : a.add i = ⟨a.block, a.off + i, none⟩ := by
  cases a with
  | mk b o s =>
    simp only at ha
    subst ha
    unfold Addr.add
    split <;> simp_all

theorem Opens.slice {sz : Nat} {S : List CV → Prop} (ht : P.underlying t = some (.slice e)) (hs : P.cellsOf e = sz) (h0 : 0 < sz) (he : Opens P e S) :
    Opens P t fun cs => ∃ xs, cs = [.sl .sh sz xs] ∧ xs.length ≤ maxLen ∧ ∀ x ∈ xs, S x := by
  intro H enc w base spare held fuel us x h
  rcases DataW.trod_slice ht h with ⟨rfl, _⟩ | ⟨a, len, cap, elems, rest, n, _, rfl, rfl, hb, hl, hm, hlen, hel, hsp, hns⟩
  · refine ⟨_, ⟨[], rfl, by simp, by simp⟩, relL_one ?_, by simp [Value.oneCell']⟩
    rw [RelV]
    exact ⟨none, 0, rfl, by simp, trivial, h0, .inl rfl⟩
  · have key : ∀ i, i < len → ∃ (cs : List CV) (vs : List Value), S cs ∧ RelL (gh0 w) w [] cs vs ∧ (∀ u ∈ vs, u.oneCell' = true) ∧ vs.length = sz ∧ ∀ j, j < sz → w.cell? ((a.add (i * sz)).add j) = vs[j]? := by
      intro i hi
      have h1 := hel i hi
      rw [List.getElem?_eq_getElem (by omega)] at h1
      obtain ⟨vs, h2, h3⟩ := Option.bind_eq_some_iff.1 h1
      obtain ⟨cs, h4, h5, h6⟩ := he _ enc w base spare held n vs _ h3
      rw [hs] at h2
      obtain ⟨h7, h8⟩ := cells_get h2
      exact ⟨cs, vs, h4, h5, h6, h7, h8⟩
    by_cases hz : len = 0
    · subst hz
      refine ⟨_, ⟨[], rfl, by simp, by simp⟩, relL_one ?_, by simp [Value.oneCell']⟩
      rw [RelV]
      exact ⟨some a, cap, rfl, by simp, trivial, h0, .inl rfl⟩
    · have hsp : a.spot = none := by
        obtain ⟨cs, vs, _, _, _, h7, h8⟩ := key 0 (by omega)
        have h9 := h8 0 h0
        rw [List.getElem?_eq_getElem (by omega)] at h9
        have : (a.add (0 * sz)).add 0 = a := by simp [Addr.add]
        rw [this] at h9
        simp only [World.cell?] at h9
        split at h9
        · split at h9
          · cases h9
          · rename_i h; simpa using h
        · cases h9
      let g : Nat → List CV := fun i => if h : i < len then Classical.choose (key i h) else []
      have hg : ∀ i (h : i < len), ∃ (vs : List Value), S (g i) ∧ RelL (gh0 w) w [] (g i) vs ∧ (∀ u ∈ vs, u.oneCell' = true) ∧ vs.length = sz ∧ ∀ j, j < sz → w.cell? ((a.add (i * sz)).add j) = vs[j]? := by
        intro i h
        have := Classical.choose_spec (key i h)
        simp only [g, h, dif_pos]
        exact this
      have cell : ∀ i j, i < len → j < sz → ∃ u, w.cell? ⟨a.block, a.off + i * sz + j, none⟩ = some u := by
        intro i j hi hj
        obtain ⟨vs, _, _, _, h7, h8⟩ := hg i hi
        have h9 := h8 j hj
        rw [List.getElem?_eq_getElem (by omega), add_none hsp, add_none rfl] at h9
        exact ⟨_, h9⟩
      refine ⟨_, ⟨(List.range len).map g, rfl, by simp; omega, ?_⟩, relL_one ?_, by simp [Value.oneCell']⟩
      · intro x hx
        obtain ⟨i, hi, rfl⟩ := List.mem_map.1 hx
        obtain ⟨_, h4, _⟩ := hg i (by simpa using hi)
        exact h4
      · rw [RelV]
        refine ⟨some a, cap, by simp, by simp; omega, trivial, h0, .inr ⟨a.block, a.off, by cases a; simp_all, ?_, relE_mk fun j c hc => ?_⟩⟩
        · obtain ⟨u, hu⟩ := cell (len - 1) (sz - 1) (by omega) (by omega)
          have := gh0_lim hu
          simp only [List.length_map, List.length_range]
          have h1 : len * sz = (len - 1) * sz + sz := by
            rw [← Nat.succ_mul]; congr 1; omega
          omega
        · simp only [List.getElem?_map, Option.map_eq_some_iff] at hc
          obtain ⟨i, hi, rfl⟩ := hc
          obtain ⟨hi', hi⟩ := List.getElem?_eq_some_iff.1 hi
          simp at hi hi'
          subst hi
          obtain ⟨vs, h4, h5, h6, h7, h8⟩ := hg j hi'
          have hl := relL_length h5
          refine ⟨by omega, relC_mk fun q c hc => ?_⟩
          obtain ⟨u, hu, hv⟩ := relL_get h5 q c hc
          have hq : q < sz := by
            have := (List.getElem?_eq_some_iff.1 hc).1
            omega
          have h9 := h8 q hq
          rw [hu, add_none hsp, add_none rfl] at h9
          exact ⟨u, h9, hv, h6 u (List.mem_of_getElem? hu)⟩

/-- Fields, from cell o on, of a struct of N cells. -/
def OpensF (P : Program) (N : Nat) (fs : List Field) (o : Nat) (S : List CV → Prop) : Prop :=
  ∀ (H : Type) (enc : TypeId × Value → H) (w : World) (base : Nat) (spare : Nat → Bool) (held : Bool) (fuel : Nat) (us : List Value), us.length = N →
    (∀ f ∈ fs, ∃ x, DataW.trod enc P w base spare held fuel f.type ((us.drop f.offset).take (P.cellsOf f.type)) = some x) →
    ∃ cs, S cs ∧ RelL (gh0 w) w [] cs (us.drop o) ∧ ∀ u ∈ us.drop o, u.oneCell' = true

theorem OpensF.nil {N : Nat} : OpensF P N [] N fun cs => cs = [] := by
  intro H enc w base spare held fuel us hl h
  subst hl
  exact ⟨_, rfl, by rw [List.drop_length, RelL], by simp⟩

theorem OpensF.cons {N : Nat} {f : Field} {fs : List Field} {o n : Nat} {S S' : List CV → Prop} (ho : f.offset = o) (hn : P.cellsOf f.type = n) (h1 : Opens P f.type S) (h2 : OpensF P N fs (o + n) S') :
    OpensF P N (f :: fs) o fun cs => ∃ a b, cs = a ++ b ∧ S a ∧ S' b := by
  intro H enc w base spare held fuel us hl h
  obtain ⟨x, hx⟩ := h f (by simp)
  rw [ho, hn] at hx
  obtain ⟨a, ha, ra, oa⟩ := h1 _ enc w base spare held fuel _ _ hx
  obtain ⟨b, hb, rb, ob⟩ := h2 _ enc w base spare held fuel us hl fun g hg => h g (List.mem_cons_of_mem _ hg)
  have hd : us.drop o = (us.drop o).take n ++ us.drop (o + n) := by
    rw [← List.drop_drop, List.take_append_drop]
  refine ⟨_, ⟨a, b, rfl, ha, hb⟩, ?_, ?_⟩
  · rw [hd]; exact relL_append ra rb
  · rw [hd]
    intro u hu
    rcases List.mem_append.1 hu with h | h
    · exact oa u h
    · exact ob u h

theorem Opens.struct {fs : Array Field} {S : List CV → Prop} (ht : P.underlying t = some (.struct fs)) {N : Nat} (hN : P.cellsOf t = N) (h : OpensF P N fs.toList 0 S) : Opens P t S := by
  intro H enc w base spare held fuel us x hx
  obtain ⟨xs, n, _, _, hl, hl2, hf⟩ := DataW.trod_struct ht hx
  obtain ⟨cs, h1, h2, h3⟩ := h _ enc w base spare held n us (by omega) (by
    intro f hf'
    obtain ⟨i, hi⟩ := List.getElem?_of_mem hf'
    have := hf i f (by simpa using hi)
    have hi' : i < fs.size := by
      have := (List.getElem?_eq_some_iff.1 hi).1
      simpa using this
    rw [this, List.getElem?_eq_getElem (by omega)]
    exact ⟨_, rfl⟩)
  exact ⟨cs, h1, by simpa using h2, by simpa using h3⟩

theorem Opens.array {n sz : Nat} {S : List CV → Prop} (ht : P.underlying t = some (.array n e)) (hs : P.cellsOf e = sz) (hN : P.cellsOf t = n * sz) (he : Opens P e S) :
    Opens P t fun cs => ∃ xs : List (List CV), cs = xs.flatten ∧ xs.length = n ∧ ∀ x ∈ xs, S x := by
  intro H enc w base spare held fuel us x hx
  obtain ⟨xs, m, _, _, hl, hl2, hf⟩ := DataW.trod_array ht hx
  rw [hN] at hl
  rw [hs] at hf
  have key : ∀ q, q ≤ n → ∃ ys : List (List CV), ys.length = q ∧ (∀ x ∈ ys, S x) ∧ RelL (gh0 w) w [] ys.flatten (us.drop ((n - q) * sz)) ∧ ∀ u ∈ us.drop ((n - q) * sz), u.oneCell' = true := by
    intro q
    induction q with
    | zero =>
      intro _
      refine ⟨[], rfl, by simp, ?_, ?_⟩
      · rw [Nat.sub_zero, List.drop_of_length_le (by omega), List.flatten_nil, RelL]
      · rw [Nat.sub_zero, List.drop_of_length_le (by omega)]; simp
    | succ q ih =>
      intro hq
      obtain ⟨ys, h1, h2, h3, h4⟩ := ih (by omega)
      have hx := hf (n - (q + 1)) (by omega)
      rw [List.getElem?_eq_getElem (by omega)] at hx
      obtain ⟨a, ha, ra, oa⟩ := he _ enc w base spare held m _ _ hx
      have hd : us.drop ((n - (q + 1)) * sz) = (us.drop ((n - (q + 1)) * sz)).take sz ++ us.drop ((n - q) * sz) := by
        have : (n - q) * sz = (n - (q + 1)) * sz + sz := by
          rw [← Nat.succ_mul]; congr 1; omega
        rw [this, ← List.drop_drop, List.take_append_drop]
      refine ⟨a :: ys, by simp [h1], by simpa using ⟨ha, h2⟩, ?_, ?_⟩
      · rw [hd, List.flatten_cons]; exact relL_append ra h3
      · rw [hd]
        intro u hu
        rcases List.mem_append.1 hu with h | h
        · exact oa u h
        · exact h4 u h
  obtain ⟨ys, h1, h2, h3, h4⟩ := key n (Nat.le_refl _)
  rw [Nat.sub_self, Nat.zero_mul, List.drop_zero] at h3 h4
  exact ⟨_, ⟨ys, rfl, h1, h2⟩, h3, h4⟩

theorem Opens.mono {S S' : List CV → Prop} (h : Opens P t S) (hs : ∀ cs, S cs → S' cs) : Opens P t S' := by
  intro H enc w base spare held fuel us x hx
  obtain ⟨cs, h1, h2, h3⟩ := h _ enc w base spare held fuel us x hx
  exact ⟨cs, hs cs h1, h2, h3⟩

variable {H : Type} {enc : TypeId × Value → H} {w : World} {base : Nat} {spare : Nat → Bool} {held : Bool}
/-- An argument of one cell. -/
theorem Opens.arg {S : List CV → Prop} (h : Opens P t S) {v : Value} {d : DataW H} {p : List MemPlace} (hv : v.cells.toList = [v]) (hd : DataW.Trod enc P w base spare held t v d p) :
    ∃ c, S [c] ∧ RelV (gh0 w) w [] c v := by
  obtain ⟨fuel, hf⟩ := hd
  rw [hv] at hf
  obtain ⟨cs, h1, h2, _⟩ := h _ enc w base spare held fuel _ _ hf
  have := relL_length h2
  match cs, this with
  | [c], _ => exact ⟨c, h1, relL_one' h2⟩
/-- A struct or an array. -/
theorem Opens.args {S : List CV → Prop} (h : Opens P t S) {us : Array Value} {d : DataW H} {p : List MemPlace} (hd : DataW.Trod enc P w base spare held t (.agg us) d p) :
    ∃ cs, S cs ∧ RelV (gh0 w) w [] (.agg cs) (.agg us) := by
  obtain ⟨fuel, hf⟩ := hd
  obtain ⟨cs, h1, h2, _⟩ := h _ enc w base spare held fuel _ _ hf
  refine ⟨cs, h1, ?_⟩
  rw [RelV]
  refine ⟨us.toList, by simp, ?_⟩
  simpa [Value.cells] using h2

/-- All arguments read as they did. -/
theorem trodAll_below (hl : laidOutB P = true) {W W' : World} (hb : Below W.heap.size W W') : ∀ {ts : List TypeId} {vs : List Value} {ds : List (DataW H)} {p : List MemPlace},
    (ts.all fun t => P.readableRec t && decide (t < P.types.size)) = true → DataW.TrodAll enc P W 0 (fun _ => true) true ts vs ds p → DataW.TrodAll enc P W' 0 (fun b => decide (b < W.heap.size)) true ts vs ds p
  | [], [], [], p, _, h => h
  | t :: ts, v :: vs, d :: ds, p, ht, h => by
    obtain ⟨p, q, h1, h2, rfl⟩ := h
    simp only [List.all_cons, Bool.and_eq_true, decide_eq_true_eq] at ht
    refine ⟨p, q, Below.trod hl ht.1.1 ht.1.2 h1 hb ?_, trodAll_below hl hb ht.2 h2, rfl⟩
    obtain ⟨m, hm⟩ := h1
    exact DataW.trod_lt m _ _ _ hm
  | [], [], _ :: _, _, _, h => h.elim
  | [], _ :: _, _, _, _, h => h.elim
  | _ :: _, [], _, _, _, h => h.elim
  | _ :: _, _ :: _, [], _, _, h => h.elim
end Go.Proofs.YtdiblbjchhjccaaDoor
