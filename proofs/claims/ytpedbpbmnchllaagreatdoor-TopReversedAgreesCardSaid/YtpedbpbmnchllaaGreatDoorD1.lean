import Derived.WalkKit
import Derived.RangeFuncIn
import Derived.Deep.AppendSrc
set_option linter.unusedSimpArgs false
set_option linter.unusedVariables false
set_option linter.unusedSectionVars false
namespace Go.Proofs.YtpedbpbmnchllaaGreatDoor

inductive Tk where
  | sh
  | ti
  | own (t v : Nat)

inductive CV where
  | any
  | v (x : Value)
  | agg (cs : List CV)
  | tup (cs : List CV)
  | sl (tk : Tk) (sz : Nat) (xs : List (List CV))
  | bsl (b o n sz : Nat)
  | ptr (b o : Nat)
  | eptr (cs : List CV) (o : Nat)
  | fn (f : Nat) (caps : List CV)
  /-- a bound method: its first arguments -/
  | bm (f : Nat) (first : List CV)
  /-- the function 'yield' of the loop whose record is box b -/
  | yl (b : Nat)
  /-- a map, an iterator over one: box b -/
  | mv (b : Nat)
  | it (b : Nat)
  /-- a slice that is all of box b, and may be appended to -/
  | bsa (b n sz : Nat)
  /-- what stands in a box that is no row of cells: a loop's record, a map, an iterator over a map -/
  | objl (st : LoopState) (pd : Option Code) (n : Nat) (ps : Array Nat) (aS bd : Code) (ks : List Nat) (cs : List CV)
  | objm (ks : List Int) (vs : List CV)
  | obji (mb n : Nat) (seen : List Nat)

structure Gh where
  lim : Nat → Nat
  box : List Nat
  tip : List (Option Nat)

def OwnOk (m : Gh) (w : World) (V : List Nat) (t v sz len cap : Nat) (base : Option Addr) : Prop :=
  ∃ v', V[t]? = some v' ∧ v ≤ v' ∧ (v = v' → cap = len ∨ ∃ k o c e, base = some ⟨k, o, none⟩ ∧ m.tip[t]? = some (some k) ∧ o + len * sz = m.lim k ∧
    w.heap[k]? = some (.cells c e (0, 0)) ∧ o + cap * sz ≤ c.size)

def TkOk (m : Gh) (w : World) (V : List Nat) (tk : Tk) (sz len cap : Nat) (base : Option Addr) : Prop :=
  match tk with
  | .sh => True
  | .ti => cap = len
  | .own t v => OwnOk m w V t v sz len cap base

def IsRow (w : World) (k : Nat) : Prop := ∃ c e fr, w.heap[k]? = some (.cells c e fr)
mutual
def RelV (m : Gh) (w : World) (V : List Nat) : CV → Value → Prop
  | .any, _ => True
  | .v x, u => u = x
  | .agg cs, u => ∃ us, u = .agg (List.toArray us) ∧ RelL m w V cs us
  | .tup cs, u => ∃ us, u = .tuple (List.toArray us) ∧ RelL m w V cs us
  | .sl tk sz xs, u => ∃ base cap, u = .slice base xs.length cap ∧ xs.length ≤ cap ∧ TkOk m w V tk sz xs.length cap base ∧ 0 < sz ∧
      (xs = [] ∨ ∃ k o, base = some ⟨k, o, none⟩ ∧ o + xs.length * sz ≤ m.lim k ∧ RelE m w V k sz xs o)
  | .bsl b o n sz, u => ∃ base cap k, u = .slice base n cap ∧ n ≤ cap ∧ 0 < sz ∧ m.box[b]? = some k ∧ (n = 0 ∨ base = some ⟨k, o, none⟩) ∧ IsRow w k
  | .ptr b o, u => ∃ k, m.box[b]? = some k ∧ u = .pointer (some ⟨k, o, none⟩) ∧ IsRow w k
  | .bm f first, u => ∃ us, u = .func (.func f) (List.toArray us) #[] ∧ RelL m w V first us
  | .yl b, u => ∃ k, m.box[b]? = some k ∧ u = .func (.yield k) #[] #[]
  | .mv b, u => ∃ k, m.box[b]? = some k ∧ u = .map (some k)
  | .it b, u => ∃ k, m.box[b]? = some k ∧ u = .pointer (some ⟨k, 0, none⟩)
  | .bsa b n sz, u => ∃ k cap c e, u = .slice (some ⟨k, 0, none⟩) n cap ∧ n ≤ cap ∧ 0 < sz ∧ m.box[b]? = some k ∧ w.heap[k]? = some (.cells c e (0, 0)) ∧ cap * sz ≤ c.size
  | .objl .., _ => False
  | .objm .., _ => False
  | .obji .., _ => False
  | .eptr cs o, u => ∃ k a, u = .pointer (some ⟨k, a + o, none⟩) ∧ a + cs.length ≤ m.lim k ∧ RelC m w V k cs a
  | .fn f caps, u => ∃ us, u = .func (.func f) #[] (List.toArray us) ∧ RelL m w V caps us
def RelL (m : Gh) (w : World) (V : List Nat) : List CV → List Value → Prop
  | [], us => us = []
  | c :: cs, us => ∃ u r, us = u :: r ∧ RelV m w V c u ∧ RelL m w V cs r
def RelC (m : Gh) (w : World) (V : List Nat) (k : Nat) : List CV → Nat → Prop
  | [], _ => True
  | c :: cs, o => (∃ u, w.cell? ⟨k, o, none⟩ = some u ∧ RelV m w V c u ∧ u.oneCell' = true) ∧ RelC m w V k cs (o + 1)
def RelE (m : Gh) (w : World) (V : List Nat) (k sz : Nat) : List (List CV) → Nat → Prop
  | [], _ => True
  | e :: es, o => e.length = sz ∧ RelC m w V k e o ∧ RelE m w V k sz es (o + sz)
end


theorem relC_get {m : Gh} {w : World} {V : List Nat} {k : Nat} : ∀ {cs : List CV} {o : Nat}, RelC m w V k cs o → ∀ (j : Nat) c, cs[j]? = some c →
    ∃ u, w.cell? ⟨k, o + j, none⟩ = some u ∧ RelV m w V c u ∧ u.oneCell' = true
  | [], _, _, j, c, hc => by simp at hc
  | x :: cs, o, h, j, c, hc => by
    rw [RelC] at h
    cases j with
    | zero => simp at hc; subst hc; exact h.1
    | succ j =>
      simp at hc
      obtain ⟨u, h1, h2⟩ := relC_get h.2 j c hc
      exact ⟨u, by rw [← h1]; congr 2; omega, h2⟩

theorem relC_mk {m : Gh} {w : World} {V : List Nat} {k : Nat} : ∀ {cs : List CV} {o : Nat}, (∀ (j : Nat) c, cs[j]? = some c →
    ∃ u, w.cell? ⟨k, o + j, none⟩ = some u ∧ RelV m w V c u ∧ u.oneCell' = true) → RelC m w V k cs o
  | [], _, _ => by rw [RelC]; trivial
  | x :: cs, o, h => by
    rw [RelC]
    refine ⟨by simpa using h 0 x rfl, relC_mk fun j c hc => ?_⟩
    obtain ⟨u, h1, h2⟩ := h (j + 1) c (by simpa using hc)
    exact ⟨u, by rw [← h1]; congr 2; omega, h2⟩

theorem relE_get {m : Gh} {w : World} {V : List Nat} {k sz : Nat} : ∀ {es : List (List CV)} {o : Nat}, RelE m w V k sz es o → ∀ j e, es[j]? = some e →
    e.length = sz ∧ RelC m w V k e (o + j * sz)
  | [], _, _, j, c, hc => by simp at hc
  | x :: es, o, h, j, e, he => by
    rw [RelE] at h
    cases j with
    | zero => simp at he; subst he; simpa using ⟨h.1, h.2.1⟩
    | succ j =>
      simp at he
      have := relE_get h.2.2 j e he
      rwa [Nat.add_assoc, Nat.add_comm sz, ← Nat.succ_mul] at this

theorem relE_mk {m : Gh} {w : World} {V : List Nat} {k sz : Nat} : ∀ {es : List (List CV)} {o : Nat}, (∀ j e, es[j]? = some e →
    e.length = sz ∧ RelC m w V k e (o + j * sz)) → RelE m w V k sz es o
  | [], _, _ => by rw [RelE]; trivial
  | x :: es, o, h => by
    rw [RelE]
    have h0 := h 0 x rfl
    simp only [Nat.zero_mul, Nat.add_zero] at h0
    refine ⟨h0.1, h0.2, relE_mk fun j e he => ?_⟩
    have := h (j + 1) e (by simpa using he)
    rwa [Nat.succ_mul, Nat.add_comm (j * sz), ← Nat.add_assoc] at this

theorem relL_get {m : Gh} {w : World} {V : List Nat} : ∀ {cs : List CV} {us : List Value}, RelL m w V cs us → ∀ (j : Nat) c, cs[j]? = some c → ∃ u, us[j]? = some u ∧ RelV m w V c u
  | [], _, _, j, c, hc => by simp at hc
  | x :: cs, us, h, j, c, hc => by
    rw [RelL] at h
    obtain ⟨u, r, rfl, h1, h2⟩ := h
    cases j with
    | zero => simp at hc; subst hc; exact ⟨u, rfl, h1⟩
    | succ j => simp at hc; simpa using relL_get h2 j c hc

theorem relL_length {m : Gh} {w : World} {V : List Nat} : ∀ {cs : List CV} {us : List Value}, RelL m w V cs us → us.length = cs.length
  | [], _, h => by rw [RelL] at h; subst h; rfl
  | x :: cs, us, h => by
    rw [RelL] at h
    obtain ⟨u, r, rfl, h1, h2⟩ := h
    simp [relL_length h2]

theorem relL_mk {m : Gh} {w : World} {V : List Nat} : ∀ {cs : List CV} {us : List Value}, us.length = cs.length → (∀ (j : Nat) c u, cs[j]? = some c → us[j]? = some u → RelV m w V c u) → RelL m w V cs us
  | [], us, h, _ => by rw [RelL]; exact List.length_eq_zero_iff.1 h
  | x :: cs, us, h, hr => by
    rw [RelL]
    cases us with
    | nil => simp at h
    | cons u r => exact ⟨u, r, rfl, hr 0 x u rfl rfl, relL_mk (by simpa using h) fun j c v hc hv => hr (j + 1) c v (by simpa using hc) (by simpa using hv)⟩

theorem relL_append {m : Gh} {w : World} {V : List Nat} : ∀ {cs ds : List CV} {us vs : List Value}, RelL m w V cs us → RelL m w V ds vs → RelL m w V (cs ++ ds) (us ++ vs)
  | [], _, us, _, h, h' => by rw [RelL] at h; subst h; simpa using h'
  | x :: cs, ds, us, vs, h, h' => by
    rw [RelL] at h
    obtain ⟨u, r, rfl, h1, h2⟩ := h
    rw [List.cons_append, RelL]
    exact ⟨u, r ++ vs, rfl, h1, relL_append h2 h'⟩

structure Ext (m : Gh) (w : World) (V : List Nat) (m' : Gh) (w' : World) (V' : List Nat) : Prop where
  os : w'.os = w.os
  tape : w'.tape = w.tape
  output : w'.output = w.output
  size : w.heap.size ≤ w'.heap.size
  shape : ∀ (k : Nat) c e fr, w.heap[k]? = some (.cells c e fr) → ∃ c', w'.heap[k]? = some (.cells c' e fr) ∧ c'.size = c.size
  lim : ∀ k, m.lim k ≤ m'.lim k
  prot : ∀ k o, o < m.lim k → w'.cell? ⟨k, o, none⟩ = w.cell? ⟨k, o, none⟩
  dfr : ∀ (k : Nat) ds, w.heap[k]? = some (.deferred ds) → w'.heap[k]? = some (.deferred ds)
  same : ∀ k, k < w.heap.size → (∀ b : Nat, m.box[b]? ≠ some k) → (∀ t : Nat, m.tip[t]? ≠ some (some k)) → w'.heap[k]? = w.heap[k]?
  box : ∀ (b k : Nat), m.box[b]? = some k → m'.box[b]? = some k
  boxnew : ∀ (b k : Nat), m'.box[b]? = some k → (∃ b0 : Nat, m.box[b0]? = some k) ∨ w.heap.size ≤ k
  tipnew : ∀ (t k : Nat), m'.tip[t]? = some (some k) → m.tip[t]? = some (some k) ∨ w.heap.size ≤ k
  tok : ∀ (t v : Nat), V[t]? = some v → ∃ v', V'[t]? = some v' ∧ v ≤ v' ∧ (v = v' → m'.tip[t]? = m.tip[t]? ∧ ∀ k, m.tip[t]? = some (some k) → m'.lim k = m.lim k)

theorem Ext.refl (m : Gh) (w : World) (V : List Nat) : Ext m w V m w V :=
  ⟨rfl, rfl, rfl, Nat.le_refl _, fun _ c _ _ h => ⟨c, h, rfl⟩, fun _ => Nat.le_refl _, fun _ _ _ => rfl, fun _ _ h => h, fun _ _ _ _ => rfl, fun _ _ h => h, fun b _ h => .inl ⟨b, h⟩, fun _ _ h => .inl h,
    fun _ v h => ⟨v, h, Nat.le_refl _, fun _ => ⟨rfl, fun _ _ => rfl⟩⟩⟩

theorem Ext.trans {m m' m'' : Gh} {w w' w'' : World} {V V' V'' : List Nat} (h : Ext m w V m' w' V') (g : Ext m' w' V' m'' w'' V'') : Ext m w V m'' w'' V'' where
  os := g.os.trans h.os
  tape := g.tape.trans h.tape
  output := g.output.trans h.output
  size := Nat.le_trans h.size g.size
  shape k c e fr hc := by
    obtain ⟨c', h1, h2⟩ := h.shape k c e fr hc
    obtain ⟨c'', h3, h4⟩ := g.shape k c' e fr h1
    exact ⟨c'', h3, h4.trans h2⟩
  lim k := Nat.le_trans (h.lim k) (g.lim k)
  prot k o ho := (g.prot k o (Nat.lt_of_lt_of_le ho (h.lim k))).trans (h.prot k o ho)
  dfr k ds hk := g.dfr k ds (h.dfr k ds hk)
  same k hk hb ht := by
    refine (g.same k (Nat.lt_of_lt_of_le hk h.size) (fun b hb' => ?_) (fun t ht' => ?_)).trans (h.same k hk hb ht)
    · rcases h.boxnew b k hb' with ⟨b0, h1⟩ | h1
      · exact hb b0 h1
      · omega
    · rcases h.tipnew t k ht' with h1 | h1
      · exact ht t h1
      · omega
  box b k hb := g.box b k (h.box b k hb)
  boxnew b k hb := by
    rcases g.boxnew b k hb with ⟨b0, h1⟩ | h1
    · exact h.boxnew b0 k h1
    · exact .inr (Nat.le_trans h.size h1)
  tipnew t k ht := by
    rcases g.tipnew t k ht with h1 | h1
    · exact h.tipnew t k h1
    · exact .inr (Nat.le_trans h.size h1)
  tok t v hv := by
    obtain ⟨v', h1, h2, h3⟩ := h.tok t v hv
    obtain ⟨v'', g1, g2, g3⟩ := g.tok t v' h1
    refine ⟨v'', g1, Nat.le_trans h2 g2, fun e => ?_⟩
    obtain ⟨p1, p2⟩ := h3 (by omega)
    obtain ⟨q1, q2⟩ := g3 (by omega)
    exact ⟨q1.trans p1, fun k hk => (q2 k (p1.trans hk)).trans (p2 k hk)⟩

section mono
variable {m m' : Gh} {w w' : World} {V V' : List Nat} (hx : Ext m w V m' w' V')
include hx
theorem IsRow.mono {k : Nat} (h : IsRow w k) : IsRow w' k := by
  obtain ⟨c, e, fr, h⟩ := h
  obtain ⟨c', h', _⟩ := hx.shape k c e fr h
  exact ⟨c', e, fr, h'⟩
theorem OwnOk.mono {t v sz len cap : Nat} {base : Option Addr} (h : OwnOk m w V t v sz len cap base) : OwnOk m' w' V' t v sz len cap base := by
  obtain ⟨v0, h1, h2, h3⟩ := h
  obtain ⟨v1, g1, g2, g3⟩ := hx.tok t v0 h1
  refine ⟨v1, g1, Nat.le_trans h2 g2, fun e => ?_⟩
  obtain ⟨p1, p2⟩ := g3 (by omega)
  rcases h3 (by omega) with h | ⟨k, o, c, e', hb, ht, hl, hc, hs⟩
  · exact .inl h
  · obtain ⟨c', hc', hs'⟩ := hx.shape k c e' _ hc
    exact .inr ⟨k, o, c', e', hb, p1.trans ht, by rw [p2 k ht]; exact hl, hc', by rw [hs']; exact hs⟩
theorem TkOk.mono {tk : Tk} {sz len cap : Nat} {base : Option Addr} (h : TkOk m w V tk sz len cap base) : TkOk m' w' V' tk sz len cap base := by
  cases tk with
  | sh => trivial
  | ti => exact h
  | own t v => exact OwnOk.mono hx h

end mono
section mono
variable {m m' : Gh} {w w' : World} {V V' : List Nat}
mutual
theorem RelV.mono (hx : Ext m w V m' w' V') : ∀ (c : CV) (u : Value), RelV m w V c u → RelV m' w' V' c u
  | .any, _, _ => by rw [RelV]; trivial
  | .v x, u, h => by rw [RelV] at h ⊢; exact h
  | .agg cs, u, h => by rw [RelV] at h ⊢; obtain ⟨us, h1, h2⟩ := h; exact ⟨us, h1, RelL.mono hx cs us h2⟩
  | .tup cs, u, h => by rw [RelV] at h ⊢; obtain ⟨us, h1, h2⟩ := h; exact ⟨us, h1, RelL.mono hx cs us h2⟩
  | .sl tk sz xs, u, h => by
    rw [RelV] at h ⊢
    obtain ⟨base, cap, h1, h2, h3, h4, h5⟩ := h
    refine ⟨base, cap, h1, h2, h3.mono hx, h4, ?_⟩
    rcases h5 with h5 | ⟨k, o, hb, hl, he⟩
    · exact .inl h5
    · exact .inr ⟨k, o, hb, Nat.le_trans hl (hx.lim k), RelE.mono hx k sz xs o hl he⟩
  | .bsl b o n sz, u, h => by
    rw [RelV] at h ⊢
    obtain ⟨base, cap, k, h1, h2, h3, h4, h5, h6⟩ := h
    exact ⟨base, cap, k, h1, h2, h3, hx.box b k h4, h5, h6.mono hx⟩
  | .ptr b o, u, h => by rw [RelV] at h ⊢; obtain ⟨k, h1, h2, h3⟩ := h; exact ⟨k, hx.box b k h1, h2, h3.mono hx⟩
  | .bm f caps, u, h => by rw [RelV] at h ⊢; obtain ⟨us, h1, h2⟩ := h; exact ⟨us, h1, RelL.mono hx caps us h2⟩
  | .yl b, u, h => by rw [RelV] at h ⊢; obtain ⟨k, h1, h2⟩ := h; exact ⟨k, hx.box b k h1, h2⟩
  | .mv b, u, h => by rw [RelV] at h ⊢; obtain ⟨k, h1, h2⟩ := h; exact ⟨k, hx.box b k h1, h2⟩
  | .it b, u, h => by rw [RelV] at h ⊢; obtain ⟨k, h1, h2⟩ := h; exact ⟨k, hx.box b k h1, h2⟩
  | .bsa b n sz, u, h => by
    rw [RelV] at h ⊢
    obtain ⟨k, cap, c, e, h1, h2, h3, h4, h5, h6⟩ := h
    obtain ⟨c', h7, h8⟩ := hx.shape k c e _ h5
    exact ⟨k, cap, c', e, h1, h2, h3, hx.box b k h4, h7, by rw [h8]; exact h6⟩
  | .objl .., u, h => by rw [RelV] at h; exact h.elim
  | .objm .., u, h => by rw [RelV] at h; exact h.elim
  | .obji .., u, h => by rw [RelV] at h; exact h.elim
  | .eptr cs o, u, h => by rw [RelV] at h ⊢; obtain ⟨k, a, h1, h2, h3⟩ := h; exact ⟨k, a, h1, Nat.le_trans h2 (hx.lim k), RelC.mono hx k cs a h2 h3⟩
  | .fn f caps, u, h => by rw [RelV] at h ⊢; obtain ⟨us, h1, h2⟩ := h; exact ⟨us, h1, RelL.mono hx caps us h2⟩
theorem RelL.mono (hx : Ext m w V m' w' V') : ∀ (cs : List CV) (us : List Value), RelL m w V cs us → RelL m' w' V' cs us
  | [], us, h => by rw [RelL] at h ⊢; exact h
  | c :: cs, us, h => by rw [RelL] at h ⊢; obtain ⟨u, r, h1, h2, h3⟩ := h; exact ⟨u, r, h1, RelV.mono hx c u h2, RelL.mono hx cs r h3⟩
theorem RelC.mono (hx : Ext m w V m' w' V') (k : Nat) : ∀ (cs : List CV) (o : Nat), o + cs.length ≤ m.lim k → RelC m w V k cs o → RelC m' w' V' k cs o
  | [], o, _, h => by rw [RelC]; trivial
  | c :: cs, o, hl, h => by
    rw [RelC] at h ⊢
    obtain ⟨⟨u, h1, h2⟩, h3⟩ := h
    simp only [List.length_cons] at hl
    exact ⟨⟨u, by rw [hx.prot k o (by omega)]; exact h1, RelV.mono hx c u h2.1, h2.2⟩, RelC.mono hx k cs (o + 1) (by omega) h3⟩
theorem RelE.mono (hx : Ext m w V m' w' V') (k sz : Nat) : ∀ (es : List (List CV)) (o : Nat), o + es.length * sz ≤ m.lim k → RelE m w V k sz es o → RelE m' w' V' k sz es o
  | [], o, _, h => by rw [RelE]; trivial
  | e :: es, o, hl, h => by
    rw [RelE] at h ⊢
    obtain ⟨h1, h2, h3⟩ := h
    simp only [List.length_cons, Nat.succ_mul] at hl
    exact ⟨h1, RelC.mono hx k e o (by omega) h2, RelE.mono hx k sz es (o + sz) (by omega) h3⟩
end
end mono

def RelK (m : Gh) (w : World) (V : List Nat) (tmps : Array Value) : List Nat → List CV → Prop
  | k :: ks, c :: cs => RelV m w V c (tmps.getD k undef) ∧ RelK m w V tmps ks cs
  | [], [] => True
  | _, _ => False
theorem RelK.mono {m m' : Gh} {w w' : World} {V V' : List Nat} (hx : Ext m w V m' w' V') {tmps : Array Value} : ∀ {ks : List Nat} {cs : List CV}, RelK m w V tmps ks cs → RelK m' w' V' tmps ks cs
  | _ :: _, _ :: _, h => ⟨RelV.mono hx _ _ h.1, RelK.mono hx h.2⟩
  | [], [], _ => trivial
  | [], _ :: _, h => h.elim
  | _ :: _, [], h => h.elim
def RelO (m : Gh) (w : World) (V : List Nat) (k : Nat) : CV → Prop
  | .objl st pd n ps aS bd ks cs => ∃ tmps fn df, w.heap[k]? = some (.loop { state := st, pending := pd, fn := fn, tmps := tmps, params := ps, assign := aS, body := bd, defers := df }) ∧ tmps.size = n ∧ RelK m w V tmps ks cs
  | .objm ks vs => ∃ (es : Array MapEntry), w.heap[k]? = some (.map es es.size) ∧ es.size = ks.length ∧ vs.length = ks.length ∧
      ∀ (i : Nat) e, es[i]? = some e → e.born = i ∧ (∃ n, ks[i]? = some n ∧ e.key = .int .i64 n) ∧ ∃ c, vs[i]? = some c ∧ RelV m w V c e.val
  | .obji mb n seen => ∃ km st, m.box[mb]? = some km ∧ w.heap[k]? = some (.mapIter (some km) n seen.toArray st) ∧ st = n
  | _ => False
inductive Live (m : Gh) (w : World) (V : List Nat) (b : Nat) (cs : List CV) : Prop
  | row (k : Nat) (c : Array Value) (e : TypeId) (h1 : m.box[b]? = some k) (h2 : w.heap[k]? = some (.cells c e (0, 0))) (h3 : cs.length ≤ c.size) (h4 : m.lim k = 0) (h5 : RelC m w V k cs 0)
  | obj (k : Nat) (x : CV) (h1 : m.box[b]? = some k) (h2 : cs = [x]) (h3 : RelO m w V k x)
theorem RelO.notRow {m : Gh} {w : World} {V : List Nat} {k : Nat} {x : CV} (h : RelO m w V k x) : ¬ IsRow w k := by
  rintro ⟨c, e, fr, hk⟩
  cases x with
  | objl => obtain ⟨_, _, _, h, _⟩ := h; rw [hk] at h; cases h
  | objm => obtain ⟨_, h, _⟩ := h; rw [hk] at h; cases h
  | obji => obtain ⟨_, _, _, h, _⟩ := h; rw [hk] at h; cases h
  | _ => exact h.elim
theorem RelO.lt {m : Gh} {w : World} {V : List Nat} {k : Nat} {x : CV} (h : RelO m w V k x) : k < w.heap.size := by
  cases x with
  | objl => obtain ⟨_, _, _, h, _⟩ := h; exact (Array.getElem?_eq_some_iff.1 h).1
  | objm => obtain ⟨_, h, _⟩ := h; exact (Array.getElem?_eq_some_iff.1 h).1
  | obji => obtain ⟨_, _, _, h, _⟩ := h; exact (Array.getElem?_eq_some_iff.1 h).1
  | _ => exact h.elim
theorem RelO.mono {m m' : Gh} {w w' : World} {V V' : List Nat} (hx : Ext m w V m' w' V') {k : Nat} (hk : w'.heap[k]? = w.heap[k]?) {x : CV} (h : RelO m w V k x) : RelO m' w' V' k x := by
  cases x with
  | objl => obtain ⟨t, f, d, h1, h2, h3⟩ := h; exact ⟨t, f, d, by rw [hk]; exact h1, h2, h3.mono hx⟩
  | objm =>
    obtain ⟨es, h1, h2, h3, h4⟩ := h
    refine ⟨es, by rw [hk]; exact h1, h2, h3, fun i e he => ?_⟩
    obtain ⟨g1, g2, c, g3, g4⟩ := h4 i e he
    exact ⟨g1, g2, c, g3, RelV.mono hx _ _ g4⟩
  | obji => obtain ⟨km, st, h1, h2, h3⟩ := h; exact ⟨km, st, hx.box _ _ h1, by rw [hk]; exact h2, h3⟩
  | _ => exact h.elim

def dbT : List Nat := [0, 1, 56, 2, 57, 49, 28, 3, 61, 58, 42, 50, 38, 29, 17, 4, 62, 47, 59, 36, 45, 43, 51, 22, 53, 39, 33, 30, 24, 18, 12, 5, 63, 55, 48, 27, 60, 41, 37, 16, 46, 35, 44, 21, 52, 32, 23, 11, 54, 26, 40, 15, 34, 20, 31, 10, 25, 14, 19, 9, 13, 8, 7, 6]
theorem dbT_len : dbT.length = 64 := rfl
def gtab : Nat → Option (List Nat)
  | 0 => some dbT
  | _ => none
def gtabC (ns : List Nat) : List CV := ns.map fun (n : Nat) => .v (.int .u8 (n : Int))
def gcv (g : Nat) : CV :=
  match gtab g with
  | some ns => .eptr (gtabC ns) 0
  | none => .any
def Glob (m : Gh) (w : World) : Prop := ∀ g ns, gtab g = some ns → ns.length ≤ m.lim g ∧ ∀ (j n : Nat), ns[j]? = some n → w.cell? ⟨g, j, none⟩ = some (.int .u8 (n : Int))
theorem Glob.mono {m m' : Gh} {w w' : World} {V V' : List Nat} (hx : Ext m w V m' w' V') (h : Glob m w) : Glob m' w' := fun g ns hg => by
  obtain ⟨h1, h2⟩ := h g ns hg
  refine ⟨Nat.le_trans h1 (hx.lim g), fun j n hj => ?_⟩
  rw [hx.prot g j (by have := (List.getElem?_eq_some_iff.1 hj).1; omega)]
  exact h2 j n hj
theorem gcv_rel {m : Gh} {w : World} {V : List Nat} (h : Glob m w) (g : Nat) : RelV m w V (gcv g) (.pointer (some ⟨g, 0, none⟩)) := by
  unfold gcv
  split
  · rename_i ns hg
    obtain ⟨h1, h2⟩ := h g ns hg
    rw [RelV]
    refine ⟨g, 0, rfl, by rw [gtabC, List.length_map]; omega, relC_mk fun j c hc => ?_⟩
    rw [gtabC, List.getElem?_map] at hc
    obtain ⟨n, hn, rfl⟩ := Option.map_eq_some_iff.1 hc
    exact ⟨_, by rw [Nat.zero_add]; exact h2 j n hn, by rw [RelV], rfl⟩
  · rw [RelV]; trivial
structure Inv (m : Gh) (w : World) (H : List (Option (List CV))) (V : List Nat) : Prop where
  glob : Glob m w
  boxlen : m.box.length = H.length
  tiplen : m.tip.length = V.length
  limv : ∀ k, 0 < m.lim k → ∃ c e fr, w.heap[k]? = some (.cells c e fr) ∧ m.lim k ≤ c.size
  tips : ∀ (t k : Nat), m.tip[t]? = some (some k) → (∃ c e, w.heap[k]? = some (.cells c e (0, 0))) ∧ (∀ b : Nat, m.box[b]? ≠ some k) ∧ ∀ t' : Nat, m.tip[t']? = some (some k) → t' = t
  boxes : ∀ (b k : Nat), m.box[b]? = some k → k < w.heap.size
  uniq : ∀ (b b' k : Nat) cs cs', H[b]? = some (some cs) → H[b']? = some (some cs') → m.box[b]? = some k → m.box[b']? = some k → b' = b
  live : ∀ (b : Nat) cs, H[b]? = some (some cs) → Live m w V b cs

def CV.cells : CV → List CV
  | .agg cs => cs
  | c => [c]
def CV.one : CV → Bool
  | .v x => x.oneCell'
  | .sl .. | .bsl .. | .ptr .. | .eptr .. | .fn .. | .bm .. | .yl .. | .mv .. | .it .. | .bsa .. => true
  | _ => false

theorem RelV.one {m : Gh} {w : World} {V : List Nat} {c : CV} {u : Value} (h : RelV m w V c u) (h1 : c.one = true) : u.oneCell' = true := by
  cases c <;> simp only [CV.one, Bool.false_eq_true] at h1 <;> rw [RelV] at h
  case v x => subst h; exact h1
  case sl => obtain ⟨b, c, h, _⟩ := h; subst h; rfl
  case bsl => obtain ⟨b, c, k, h, _⟩ := h; subst h; rfl
  case ptr => obtain ⟨k, _, h, _⟩ := h; subst h; rfl
  case bm => obtain ⟨us, h, _⟩ := h; subst h; rfl
  case yl => obtain ⟨k, _, h⟩ := h; subst h; rfl
  case mv => obtain ⟨k, _, h⟩ := h; subst h; rfl
  case it => obtain ⟨k, _, h⟩ := h; subst h; rfl
  case bsa => obtain ⟨k, cap, c, e, h, _⟩ := h; subst h; rfl
  case eptr => obtain ⟨k, a, h, _⟩ := h; subst h; rfl
  case fn => obtain ⟨us, h, _⟩ := h; subst h; rfl

theorem oneCell_cells {u : Value} (h : u.oneCell' = true) : u.cells = #[u] := by
  cases u <;> first | rfl | simp [Value.oneCell'] at h
def allOne (cs : List CV) : Bool := cs.all CV.one

theorem relL_allOne {m : Gh} {w : World} {V : List Nat} : ∀ {cs : List CV} {us : List Value}, RelL m w V cs us → allOne cs = true → ∀ u ∈ us, u.oneCell' = true
  | [], us, h, _ => by rw [RelL] at h; subst h; simp
  | c :: cs, us, h, h1 => by
    rw [RelL] at h
    obtain ⟨u, r, rfl, h2, h3⟩ := h
    simp [allOne] at h1
    intro x hx
    rcases List.mem_cons.1 hx with rfl | hx
    · exact h2.one h1.1
    · exact relL_allOne h3 (by simpa [allOne] using h1.2) x hx

theorem RelV.cells {m : Gh} {w : World} {V : List Nat} {c : CV} {u : Value} (h : RelV m w V c u) (h1 : allOne c.cells = true) : RelL m w V c.cells u.cells.toList := by
  cases c
  case agg cs => rw [RelV] at h; obtain ⟨us, rfl, h2⟩ := h; simpa [CV.cells, Value.cells] using h2
  case any => simp [allOne, CV.cells, CV.one] at h1
  case tup => simp [allOne, CV.cells, CV.one] at h1
  all_goals
    have := h.one (by first | rfl | simpa [allOne, CV.cells] using h1)
    rw [oneCell_cells this]
    simp only [CV.cells, RelL]
    exact ⟨u, [], rfl, h, rfl⟩
end Go.Proofs.YtpedbpbmnchllaaGreatDoor
namespace Go.Proofs.YtpedbpbmnchllaaGreatDoor

theorem splice_get {α : Type} (l d : List α) (o j : Nat) (h : o ≤ l.length) :
    (l.take o ++ d ++ l.drop (o + d.length))[j]? = if j < o then l[j]? else if j < o + d.length then d[j - o]? else l[j]? := by
  by_cases h1 : j < o
  · rw [if_pos h1, List.getElem?_append_left (by simp; omega), List.getElem?_append_left (by simp; omega), List.getElem?_take, if_pos h1]
  · rw [if_neg h1]
    by_cases h2 : j < o + d.length
    · rw [if_pos h2, List.getElem?_append_left (by simp; omega), List.getElem?_append_right (by simp; omega)]
      congr 1; simp; omega
    · rw [if_neg h2, List.getElem?_append_right (by simp; omega), List.getElem?_drop]
      congr 1; simp; omega

theorem Inv.lim_new {m : Gh} {w : World} {H : List (Option (List CV))} {V : List Nat} (hi : Inv m w H V) {k : Nat} (hk : w.heap.size ≤ k) : m.lim k = 0 := by
  rcases Nat.eq_zero_or_pos (m.lim k) with h | h
  · exact h
  · obtain ⟨c, e, fr, h1, _⟩ := hi.limv k h
    have := (Array.getElem?_eq_some_iff.1 h1).1
    omega

theorem Inv.tip_lt {m : Gh} {w : World} {H : List (Option (List CV))} {V : List Nat} (hi : Inv m w H V) {t k : Nat} (h : m.tip[t]? = some (some k)) : k < w.heap.size := by
  obtain ⟨⟨c, e, h1⟩, _⟩ := hi.tips t k h
  exact (Array.getElem?_eq_some_iff.1 h1).1

structure Pushed (w w' : World) (o : Obj) : Prop where
  os : w'.os = w.os
  tape : w'.tape = w.tape
  output : w'.output = w.output
  heap : w'.heap = w.heap.push o

theorem Pushed.alloc (w : World) (o : Obj) : Pushed w (w.alloc o) o := ⟨rfl, rfl, rfl, rfl⟩
theorem Pushed.drewAlloc (w : World) (o : Obj) : Pushed w (w.drew.alloc o) o := ⟨rfl, rfl, rfl, rfl⟩

section
variable {w w' : World} {o : Obj} (hp : Pushed w w' o)
include hp
theorem Pushed.old {k : Nat} (h : k < w.heap.size) : w'.heap[k]? = w.heap[k]? := by rw [hp.heap, Array.getElem?_push, if_neg (by omega)]
theorem Pushed.new : w'.heap[w.heap.size]? = some o := by rw [hp.heap, Array.getElem?_push, if_pos rfl]
theorem Pushed.size : w'.heap.size = w.heap.size + 1 := by rw [hp.heap, Array.size_push]
theorem Pushed.some {k : Nat} {x : Obj} (h : w.heap[k]? = some x) : w'.heap[k]? = some x := by rw [hp.old (Array.getElem?_eq_some_iff.1 h).1, h]
theorem Pushed.cell {k o' : Nat} (h : k < w.heap.size) : w'.cell? ⟨k, o', none⟩ = w.cell? ⟨k, o', none⟩ := World.cell?_of_block (hp.old h)
end

theorem relC_box {m m' : Gh} {w w' : World} {V V' : List Nat} (hx : Ext m w V m' w' V') {k : Nat} (hk : w'.heap[k]? = w.heap[k]?) {cs : List CV} {o : Nat} (h : RelC m w V k cs o) : RelC m' w' V' k cs o :=
  relC_mk fun j c hc => by
    obtain ⟨u, g1, g2, g3⟩ := relC_get h j c hc
    exact ⟨u, by rw [World.cell?_of_block (w := w) (a := ⟨k, o + j, none⟩) hk]; exact g1, RelV.mono hx _ _ g2, g3⟩

theorem Live.mono {m m' : Gh} {w w' : World} {V V' : List Nat} (hx : Ext m w V m' w' V') {b : Nat} {cs : List CV} (h : Live m w V b cs) (hk : ∀ k, m.box[b]? = some k → w'.heap[k]? = w.heap[k]? ∧ m'.lim k = m.lim k) : Live m' w' V' b cs := by
  cases h with
  | row k c e h1 h2 h3 h4 h5 => exact .row k c e (hx.box _ _ h1) (by rw [(hk k h1).1]; exact h2) h3 (by rw [(hk k h1).2]; exact h4) (relC_box hx (hk k h1).1 h5)
  | obj k x h1 h2 h3 => exact .obj k x (hx.box _ _ h1) h2 (h3.mono hx (hk k h1).1)
theorem Inv.alive {m : Gh} {w : World} {H : List (Option (List CV))} {V : List Nat} (hi : Inv m w H V) {b k : Nat} {cs : List CV} (hb : H[b]? = some (some cs)) (hk : m.box[b]? = some k) (hr : IsRow w k) :
    ∃ c e, w.heap[k]? = some (.cells c e (0, 0)) ∧ cs.length ≤ c.size ∧ m.lim k = 0 ∧ RelC m w V k cs 0 := by
  cases hi.live b cs hb with
  | row k' c e h1 h2 h3 h4 h5 => rw [hk] at h1; cases h1; exact ⟨c, e, h2, h3, h4, h5⟩
  | obj k' x h1 h2 h3 => rw [hk] at h1; cases h1; exact absurd hr h3.notRow
theorem Inv.boxOf {m : Gh} {w : World} {H : List (Option (List CV))} {V : List Nat} (hi : Inv m w H V) {b : Nat} {cs : List CV} (hb : H[b]? = some (some cs)) : ∃ k, m.box[b]? = some k := by
  cases hi.live b cs hb with
  | row k _ _ h1 => exact ⟨k, h1⟩
  | obj k _ h1 => exact ⟨k, h1⟩
theorem Inv.drew {m : Gh} {w : World} {H : List (Option (List CV))} {V : List Nat} (hi : Inv m w H V) : Inv m w.drew H V ∧ Ext m w V m w.drew V := by
  have hx : Ext m w V m w.drew V := ⟨rfl, rfl, rfl, Nat.le_refl _, fun _ c _ _ h => ⟨c, h, rfl⟩, fun _ => Nat.le_refl _, fun _ _ _ => rfl, fun _ _ h => h, fun _ _ _ _ => rfl, fun _ _ h => h, fun b _ h => .inl ⟨b, h⟩, fun _ _ h => .inl h,
    fun _ v h => ⟨v, h, Nat.le_refl _, fun _ => ⟨rfl, fun _ _ => rfl⟩⟩⟩
  exact ⟨⟨hi.glob.mono hx, hi.boxlen, hi.tiplen, hi.limv, hi.tips, hi.boxes, hi.uniq, fun b cs h => (hi.live b cs h).mono hx fun k _ => ⟨rfl, rfl⟩⟩, hx⟩

theorem step_row {m : Gh} {w w' : World} {H : List (Option (List CV))} {V : List Nat} {cs : Array Value} {e : TypeId} (hi : Inv m w H V) (hp : Pushed w w' (.cells cs e)) (n : Nat) (hn : n ≤ cs.size) :
    let m' : Gh := { m with lim := fun k => if k = w.heap.size then n else m.lim k }
    Inv m' w' H V ∧ Ext m w V m' w' V := by
  intro m'
  have hx : Ext m w V m' w' V := by
    refine ⟨hp.os, hp.tape, hp.output, by rw [hp.size]; omega, fun k c e fr h => ⟨c, hp.some h, rfl⟩, fun k => ?_, fun k o ho => ?_, fun k ds h => hp.some h, fun k hk _ _ => hp.old hk, fun _ _ h => h, fun b _ h => .inl ⟨b, h⟩, fun _ _ h => .inl h,
      fun t v h => ⟨v, h, Nat.le_refl _, fun _ => ⟨rfl, fun k hk => ?_⟩⟩⟩
    · show m.lim k ≤ if k = w.heap.size then n else m.lim k
      split
      · rename_i h; rw [hi.lim_new (by omega)]; omega
      · exact Nat.le_refl _
    · refine hp.cell ?_
      rcases Nat.lt_or_ge k w.heap.size with h | h
      · exact h
      · rw [hi.lim_new h] at ho; omega
    · have := hi.tip_lt hk
      show (if k = w.heap.size then n else m.lim k) = m.lim k
      rw [if_neg (by omega)]
  refine ⟨⟨hi.glob.mono hx, hi.boxlen, hi.tiplen, fun k hk => ?_, fun t k h => ?_, fun b k h => ?_, hi.uniq, fun b c h => ?_⟩, hx⟩
  · by_cases h : k = w.heap.size
    · subst h; exact ⟨cs, e, (0, 0), hp.new, by simpa [m'] using hn⟩
    · have h' : 0 < m.lim k := by simpa [m', h] using hk
      obtain ⟨c, e', fr, h1, h2⟩ := hi.limv k h'
      exact ⟨c, e', fr, hp.some h1, by simpa [m', h] using h2⟩
  · obtain ⟨⟨c, e', h1⟩, h2⟩ := hi.tips t k h
    exact ⟨⟨c, e', hp.some h1⟩, h2⟩
  · have := hi.boxes b k h
    rw [hp.size]; omega
  · refine (hi.live b c h).mono hx fun k hk => ⟨hp.old (hi.boxes b k hk), ?_⟩
    have := hi.boxes b k hk
    show (if k = w.heap.size then n else m.lim k) = _
    rw [if_neg (by omega)]

theorem step_tok {m : Gh} {w : World} {H : List (Option (List CV))} {V : List Nat} (hi : Inv m w H V) :
    let m' : Gh := { m with tip := m.tip ++ [none] }
    Inv m' w H (V ++ [0]) ∧ Ext m w V m' w (V ++ [0]) := by
  intro m'
  have htip : ∀ (t k : Nat), m'.tip[t]? = some (some k) → m.tip[t]? = some (some k) := fun t k h => by
    have h' : (m.tip ++ [none])[t]? = some (some k) := h
    rw [List.getElem?_append] at h'
    split at h'
    · exact h'
    · have : t - m.tip.length = 0 ∨ 0 < t - m.tip.length := by omega
      rcases this with h0 | h0
      · rw [h0] at h'; simp at h'
      · rw [List.getElem?_eq_none (by simp; omega)] at h'; cases h'
  have hx : Ext m w V m' w (V ++ [0]) := by
    refine ⟨rfl, rfl, rfl, Nat.le_refl _, fun k c e fr h => ⟨c, h, rfl⟩, fun _ => Nat.le_refl _, fun _ _ _ => rfl, fun _ _ h => h, fun _ _ _ _ => rfl, fun _ _ h => h, fun b _ h => .inl ⟨b, h⟩, fun t k h => .inl (htip t k h), fun t v h => ⟨v, ?_, Nat.le_refl _, fun _ => ⟨?_, fun _ _ => rfl⟩⟩⟩
    · rw [List.getElem?_append_left (List.getElem?_eq_some_iff.1 h).1]; exact h
    · show (m.tip ++ [none])[t]? = _
      rw [List.getElem?_append_left (by rw [hi.tiplen]; exact (List.getElem?_eq_some_iff.1 h).1)]
  refine ⟨⟨hi.glob.mono hx, hi.boxlen, by simp [m', hi.tiplen], hi.limv, fun t k h => ?_, hi.boxes, hi.uniq, fun b c h => ?_⟩, hx⟩
  · obtain ⟨h1, h2, h3⟩ := hi.tips t k (htip t k h)
    exact ⟨h1, h2, fun t' h' => h3 t' (htip t' k h')⟩
  · exact (hi.live b c h).mono hx fun k _ => ⟨rfl, rfl⟩

theorem step_move {m : Gh} {w w' : World} {H : List (Option (List CV))} {V : List Nat} {cs : Array Value} {e : TypeId} {t v : Nat} (hi : Inv m w H V) (hv : V[t]? = some v) (hp : Pushed w w' (.cells cs e)) (n : Nat) (hn : n ≤ cs.size) :
    let m' : Gh := { m with lim := fun k => if k = w.heap.size then n else m.lim k, tip := m.tip.set t (some w.heap.size) }
    Inv m' w' H (V.set t (v + 1)) ∧ Ext m w V m' w' (V.set t (v + 1)) := by
  intro m'
  have htV : t < V.length := (List.getElem?_eq_some_iff.1 hv).1
  have hmt : ∀ s : Nat, m'.tip[s]? = if t = s then some (some w.heap.size) else m.tip[s]? := fun s => by
    show (m.tip.set t (some w.heap.size))[s]? = _
    rw [List.getElem?_set]
    by_cases h : t = s
    · subst h; simp [hi.tiplen, htV]
    · simp [h]
  have hml : ∀ k, m'.lim k = if k = w.heap.size then n else m.lim k := fun k => rfl
  have hx : Ext m w V m' w' (V.set t (v + 1)) := by
    refine ⟨hp.os, hp.tape, hp.output, by rw [hp.size]; omega, fun k c e fr h => ⟨c, hp.some h, rfl⟩, fun k => ?_, fun k o ho => ?_, fun k ds h => hp.some h, fun k hk _ _ => hp.old hk, fun _ _ h => h, fun b _ h => .inl ⟨b, h⟩, fun s k h => ?_,
      fun s x h => ?_⟩
    · rw [hml]
      split
      · rename_i h; rw [hi.lim_new (by omega)]; omega
      · exact Nat.le_refl _
    · refine hp.cell ?_
      rcases Nat.lt_or_ge k w.heap.size with h | h
      · exact h
      · rw [hi.lim_new h] at ho; omega
    · rw [hmt] at h
      split at h
      · simp at h; exact .inr (by omega)
      · exact .inl h
    · by_cases hst : t = s
      · subst hst
        rw [hv] at h; cases h
        exact ⟨v + 1, by simp [htV], by omega, fun e => by omega⟩
      · refine ⟨x, by rw [List.getElem?_set_ne hst]; exact h, Nat.le_refl _, fun _ => ⟨by rw [hmt, if_neg hst], fun k hk => ?_⟩⟩
        have := hi.tip_lt hk
        rw [hml, if_neg (by omega)]
  refine ⟨⟨hi.glob.mono hx, hi.boxlen, by simp [m', hi.tiplen], fun k hk => ?_, fun s k h => ?_, fun b k h => ?_, hi.uniq, fun b c h => ?_⟩, hx⟩
  · by_cases h : k = w.heap.size
    · subst h; exact ⟨cs, e, (0, 0), hp.new, by simpa [m'] using hn⟩
    · have h' : 0 < m.lim k := by simpa [m', h] using hk
      obtain ⟨c, e', fr, h1, h2⟩ := hi.limv k h'
      exact ⟨c, e', fr, hp.some h1, by simpa [m', h] using h2⟩
  · rw [hmt] at h
    by_cases hst : t = s
    · subst hst
      simp at h; subst h
      refine ⟨⟨cs, e, hp.new⟩, fun b hb => ?_, fun t' h' => ?_⟩
      · have := hi.boxes b _ hb; omega
      · rw [hmt] at h'
        split at h'
        · rename_i h; exact h.symm
        · have := hi.tip_lt h'; omega
    · rw [if_neg hst] at h
      obtain ⟨⟨c, e', h1⟩, h2, h3⟩ := hi.tips s k h
      refine ⟨⟨c, e', hp.some h1⟩, h2, fun t' h' => ?_⟩
      rw [hmt] at h'
      split at h'
      · simp at h'; have := hi.tip_lt h; omega
      · exact h3 t' h'
  · have := hi.boxes b k h
    rw [hp.size]; omega
  · refine (hi.live b c h).mono hx fun k hk => ⟨hp.old (hi.boxes b k hk), ?_⟩
    have := hi.boxes b k hk
    rw [hml, if_neg (by omega)]

theorem step_box {m : Gh} {w w' : World} {H : List (Option (List CV))} {V : List Nat} {us : Array Value} {e : TypeId} {cs : List CV} (hi : Inv m w H V) (hp : Pushed w w' (.cells us e)) (hc : RelL m w V cs us.toList) (h1 : ∀ u ∈ us.toList, u.oneCell' = true) :
    let m' : Gh := { m with box := m.box ++ [w.heap.size] }
    Inv m' w' (H ++ [some cs]) V ∧ Ext m w V m' w' V := by
  intro m'
  have hmb : ∀ b : Nat, m'.box[b]? = if b = m.box.length then some w.heap.size else m.box[b]? := fun b => by
    show (m.box ++ [w.heap.size])[b]? = _
    rw [List.getElem?_append]
    by_cases h : b < m.box.length
    · rw [if_pos h, if_neg (by omega)]
    · rw [if_neg h]
      by_cases h' : b = m.box.length
      · subst h'; simp
      · rw [if_neg h', List.getElem?_eq_none (by simp; omega), List.getElem?_eq_none (by omega)]
  have hx : Ext m w V m' w' V := by
    refine ⟨hp.os, hp.tape, hp.output, by rw [hp.size]; omega, fun k c e fr h => ⟨c, hp.some h, rfl⟩, fun k => Nat.le_refl _, fun k o ho => ?_, fun k ds h => hp.some h, fun k hk _ _ => hp.old hk, fun b k h => ?_, fun b k h => ?_, fun _ _ h => .inl h,
      fun t v h => ⟨v, h, Nat.le_refl _, fun _ => ⟨rfl, fun k hk => rfl⟩⟩⟩
    · refine hp.cell ?_
      rcases Nat.lt_or_ge k w.heap.size with h | h
      · exact h
      · rw [hi.lim_new h] at ho; omega
    · have := (List.getElem?_eq_some_iff.1 h).1
      rw [hmb, if_neg (by omega)]; exact h
    · rw [hmb] at h
      split at h
      · simp at h; exact .inr (by omega)
      · exact .inl ⟨b, h⟩
  refine ⟨⟨hi.glob.mono hx, by simp [m', hi.boxlen], hi.tiplen, fun k hk => ?_, fun t k h => ?_, fun b k h => ?_, fun b b' k c c' h h' g g' => ?_, fun b c h => ?_⟩, hx⟩
  · obtain ⟨c, e', fr, h1, h2⟩ := hi.limv k hk
    exact ⟨c, e', fr, hp.some h1, h2⟩
  · obtain ⟨⟨c, e', h1⟩, h2, h3⟩ := hi.tips t k h
    refine ⟨⟨c, e', hp.some h1⟩, fun b hb => ?_, h3⟩
    rw [hmb] at hb
    split at hb
    · simp at hb; have := hi.tip_lt h; omega
    · exact h2 b hb
  · rw [hmb] at h
    split at h
    · simp at h; rw [hp.size]; omega
    · have := hi.boxes b k h; rw [hp.size]; omega
  · rw [hmb] at g g'
    have old : ∀ (b : Nat) c, (H ++ [some cs])[b]? = some (some c) → ¬ b = m.box.length → H[b]? = some (some c) := fun b c h hb => by
      rw [List.getElem?_append] at h
      split at h
      · exact h
      · rw [List.getElem?_eq_none (by have := hi.boxlen; simp; omega)] at h; cases h
    split at g
    · rename_i hb
      simp at g
      split at g'
      · omega
      · have := hi.boxes b' k g'; omega
    · split at g'
      · simp at g'; have := hi.boxes b k g; omega
      · exact hi.uniq b b' k _ _ (old _ _ h (by assumption)) (old _ _ h' (by assumption)) g g'
  · by_cases hb : b = H.length
    · subst hb
      simp at h; subst h
      refine .row w.heap.size us e (by rw [hmb, if_pos hi.boxlen.symm]) hp.new (by have := relL_length hc; simp at this; omega) (hi.lim_new (Nat.le_refl _)) (relC_mk fun j c hj => ?_)
      obtain ⟨u, q1, q2⟩ := relL_get hc j c hj
      refine ⟨u, ?_, RelV.mono hx _ _ q2, h1 u (List.mem_of_getElem? q1)⟩
      rw [cell_of_row w' _ _ us e (0, 0) hp.new, Nat.zero_add]
      simpa using q1
    · rw [List.getElem?_append] at h
      split at h
      · exact (hi.live b c h).mono hx fun k hk => ⟨hp.old (hi.boxes b k hk), rfl⟩
      · rw [List.getElem?_eq_none (by simp; omega)] at h; cases h

theorem step_store {m : Gh} {w : World} {H : List (Option (List CV))} {V : List Nat} {b k : Nat} {cs ds : List CV} {c : Array Value} {e : TypeId} {us : List Value} {o : Nat} (hi : Inv m w H V) (hb : H[b]? = some (some cs)) (hk : m.box[b]? = some k)
    (hc : w.heap[k]? = some (.cells c e (0, 0))) (hd : RelL m w V ds us) (h1' : ∀ u ∈ us, u.oneCell' = true) (ho : o + ds.length ≤ cs.length) :
    let w' := w.setRow k (c.toList.take o ++ us ++ c.toList.drop (o + us.length)).toArray
    Inv m w' (H.set b (some (cs.take o ++ ds ++ cs.drop (o + ds.length)))) V ∧ Ext m w V m w' V := by
  intro w'
  obtain ⟨c', e', h2, h3, h4, h5⟩ := hi.alive hb hk ⟨c, e, _, hc⟩
  rw [hc] at h2; cases h2
  have hul := relL_length hd
  have hnew : w'.heap[k]? = some (.cells (c.toList.take o ++ us ++ c.toList.drop (o + us.length)).toArray e (0, 0)) := setRow_heap w k c _ e (0, 0) hc
  have hoth : ∀ j, j ≠ k → w'.heap[j]? = w.heap[j]? := fun j hj => setRow_other w k j _ hj
  have hsz : (c.toList.take o ++ us ++ c.toList.drop (o + us.length)).toArray.size = c.size := by
    simp [List.length_take]; omega
  have hx : Ext m w V m w' V := by
    refine ⟨rfl, rfl, rfl, by simp [w'], fun j c0 e0 fr h => ?_, fun _ => Nat.le_refl _, fun j o' ho' => ?_, fun j ds h => ?_, fun j hj hb' _ => hoth j (fun e => hb' b (by rw [e]; exact hk)), fun _ _ h => h, fun b _ h => .inl ⟨b, h⟩, fun _ _ h => .inl h,
      fun t v h => ⟨v, h, Nat.le_refl _, fun _ => ⟨rfl, fun k hk => rfl⟩⟩⟩
    · by_cases hj : j = k
      · subst hj; rw [hc] at h; cases h; exact ⟨_, hnew, hsz⟩
      · exact ⟨c0, by rw [hoth j hj]; exact h, rfl⟩
    · have hj : j ≠ k := fun e => by subst e; omega
      exact World.cell?_of_block (w := w) (a := ⟨j, o', none⟩) (hoth j hj)
    · have hj : j ≠ k := fun e => by rw [e, hc] at h; cases h
      rw [hoth j hj]; exact h
  refine ⟨⟨hi.glob.mono hx, by simp [hi.boxlen], hi.tiplen, fun j hj => ?_, fun t j h => ?_, fun b' j h => ?_, fun b1 b2 j c1 c2 g1 g2 q1 q2 => ?_, fun b' c0 h => ?_⟩, hx⟩
  · obtain ⟨c0, e0, fr, g1, g2⟩ := hi.limv j hj
    have hjk : j ≠ k := fun e => by subst e; omega
    exact ⟨c0, e0, fr, by rw [hoth j hjk]; exact g1, g2⟩
  · obtain ⟨⟨c0, e0, g1⟩, g2⟩ := hi.tips t j h
    have hjk : j ≠ k := fun e => g2.1 b (by rw [e]; exact hk)
    exact ⟨⟨c0, e0, by rw [hoth j hjk]; exact g1⟩, g2⟩
  · have g1 := hi.boxes b' j h
    simpa [w'] using g1
  · have old : ∀ (b1 : Nat) c1, (H.set b (some (cs.take o ++ ds ++ cs.drop (o + ds.length))))[b1]? = some (some c1) → ∃ c, H[b1]? = some (some c) := fun b1 c1 g => by
      by_cases e : b = b1
      · subst e; exact ⟨_, hb⟩
      · rw [List.getElem?_set_ne e] at g; exact ⟨_, g⟩
    obtain ⟨_, e1⟩ := old b1 c1 g1
    obtain ⟨_, e2⟩ := old b2 c2 g2
    exact hi.uniq b1 b2 j _ _ e1 e2 q1 q2
  · by_cases hbb : b = b'
    · subst hbb
      rw [List.getElem?_set_self (List.getElem?_eq_some_iff.1 hb).1] at h
      cases h
      refine .row k _ e hk hnew (by rw [hsz]; simp [List.length_take]; omega) h4 (relC_mk fun j x hj => ?_)
      rw [cell_of_row w' _ _ _ e (0, 0) hnew, Nat.zero_add]
      have hcell : ∀ (j : Nat) x, cs[j]? = some x → ∃ u, c.toList[j]? = some u ∧ RelV m w' V x u ∧ u.oneCell' = true := fun j x hj => by
        obtain ⟨u, q1, q2, q3⟩ := relC_get h5 j x hj
        rw [cell_of_row w _ _ c e (0, 0) hc, Nat.zero_add] at q1
        exact ⟨u, by rw [Array.getElem?_toList]; exact q1, RelV.mono hx _ _ q2, q3⟩
      have hlc : o ≤ c.toList.length := by simp; omega
      rw [splice_get _ _ _ _ (by omega)] at hj
      rw [List.getElem?_toArray, splice_get _ _ _ _ hlc, hul]
      by_cases h1 : j < o
      · rw [if_pos h1] at hj ⊢; exact hcell j x hj
      · rw [if_neg h1] at hj ⊢
        by_cases h2 : j < o + ds.length
        · rw [if_pos h2] at hj ⊢
          obtain ⟨u, q1, q2⟩ := relL_get hd _ x hj
          exact ⟨u, q1, RelV.mono hx _ _ q2, h1' u (List.mem_of_getElem? q1)⟩
        · rw [if_neg h2] at hj ⊢; exact hcell j x hj
    · rw [List.getElem?_set_ne hbb] at h
      refine (hi.live b' c0 h).mono hx fun k' g1 => ⟨hoth k' fun e => ?_, rfl⟩
      exact hbb (hi.uniq b' b k' _ _ h hb g1 (by rw [e]; exact hk))

theorem step_place {m : Gh} {w : World} {H : List (Option (List CV))} {V : List Nat} {t v k : Nat} {c : Array Value} {e : TypeId} {us : List Value} (hi : Inv m w H V) (hv : V[t]? = some v) (hk : m.tip[t]? = some (some k))
    (hc : w.heap[k]? = some (.cells c e (0, 0))) (ho : m.lim k + us.length ≤ c.size) :
    let w' := w.setRow k (c.toList.take (m.lim k) ++ us ++ c.toList.drop (m.lim k + us.length)).toArray
    let m' : Gh := { m with lim := fun j => if j = k then m.lim k + us.length else m.lim j }
    Inv m' w' H (V.set t (v + 1)) ∧ Ext m w V m' w' (V.set t (v + 1)) := by
  intro w' m'
  have htV : t < V.length := (List.getElem?_eq_some_iff.1 hv).1
  have hml : ∀ j, m'.lim j = if j = k then m.lim k + us.length else m.lim j := fun j => rfl
  have hnew : w'.heap[k]? = some (.cells (c.toList.take (m.lim k) ++ us ++ c.toList.drop (m.lim k + us.length)).toArray e (0, 0)) := setRow_heap w k c _ e (0, 0) hc
  have hoth : ∀ j, j ≠ k → w'.heap[j]? = w.heap[j]? := fun j hj => setRow_other w k j _ hj
  have hsz : (c.toList.take (m.lim k) ++ us ++ c.toList.drop (m.lim k + us.length)).toArray.size = c.size := by
    simp [List.length_take]; omega
  obtain ⟨_, hnb, hdist⟩ := hi.tips t k hk
  have hx : Ext m w V m' w' (V.set t (v + 1)) := by
    refine ⟨rfl, rfl, rfl, by simp [w'], fun j c0 e0 fr h => ?_, fun j => ?_, fun j o' ho' => ?_, fun j ds h => ?_, fun j hj _ ht' => hoth j (fun e => ht' t (by rw [e]; exact hk)), fun _ _ h => h, fun b _ h => .inl ⟨b, h⟩, fun _ _ h => .inl h,
      fun s x h => ?_⟩
    · by_cases hj : j = k
      · subst hj; rw [hc] at h; cases h; exact ⟨_, hnew, hsz⟩
      · exact ⟨c0, by rw [hoth j hj]; exact h, rfl⟩
    · rw [hml]; split
      · rename_i h; subst h; omega
      · exact Nat.le_refl _
    · by_cases hj : j = k
      · subst hj
        rw [cell_of_row w' _ _ _ e (0, 0) hnew, cell_of_row w _ _ _ e (0, 0) hc]
        rw [List.getElem?_toArray, splice_get _ _ _ _ (by simp; omega), if_pos ho']
        simp
      · exact World.cell?_of_block (w := w) (a := ⟨j, o', none⟩) (hoth j hj)
    · have hj : j ≠ k := fun e => by rw [e, hc] at h; cases h
      rw [hoth j hj]; exact h
    · by_cases hst : t = s
      · subst hst
        rw [hv] at h; cases h
        exact ⟨v + 1, by simp [htV], by omega, fun e => by omega⟩
      · refine ⟨x, by rw [List.getElem?_set_ne hst]; exact h, Nat.le_refl _, fun _ => ⟨rfl, fun j hj => ?_⟩⟩
        have hjk : j ≠ k := fun e => hst (by subst e; exact (hdist s hj).symm)
        rw [hml, if_neg hjk]
  refine ⟨⟨hi.glob.mono hx, hi.boxlen, by simp [m', hi.tiplen], fun j hj => ?_, fun s j h => ?_, fun b j h => ?_, hi.uniq, fun b c0 h => ?_⟩, hx⟩
  · by_cases hjk : j = k
    · subst hjk
      exact ⟨_, e, (0, 0), hnew, by rw [hml, if_pos rfl, hsz]; exact ho⟩
    · rw [hml, if_neg hjk] at hj ⊢
      obtain ⟨c0, e0, fr, g1, g2⟩ := hi.limv j hj
      exact ⟨c0, e0, fr, by rw [hoth j hjk]; exact g1, g2⟩
  · obtain ⟨⟨c0, e0, g1⟩, g2⟩ := hi.tips s j h
    by_cases hjk : j = k
    · subst hjk; exact ⟨⟨_, e, hnew⟩, g2⟩
    · exact ⟨⟨c0, e0, by rw [hoth j hjk]; exact g1⟩, g2⟩
  · have g1 := hi.boxes b j h
    simpa [w'] using g1
  · refine (hi.live b c0 h).mono hx fun k' g1 => ?_
    have hkk : k' ≠ k := fun e => hnb b (by rw [← e]; exact g1)
    exact ⟨hoth k' hkk, by rw [hml, if_neg hkk]⟩

theorem step_fresh {m : Gh} {w w' : World} {H : List (Option (List CV))} {V : List Nat} {cs : Array Value} {e : TypeId} (hi : Inv m w H V) (hp : Pushed w w' (.cells cs e)) (n : Nat) (hn : n ≤ cs.size) :
    let m' : Gh := { m with lim := fun k => if k = w.heap.size then n else m.lim k, tip := m.tip ++ [some w.heap.size] }
    Inv m' w' H (V ++ [0]) ∧ Ext m w V m' w' (V ++ [0]) := by
  intro m'
  have hmt : ∀ s : Nat, m'.tip[s]? = if s = m.tip.length then some (some w.heap.size) else m.tip[s]? := fun s => by
    show (m.tip ++ [some w.heap.size])[s]? = _
    rw [List.getElem?_append]
    by_cases h : s < m.tip.length
    · rw [if_pos h, if_neg (by omega)]
    · rw [if_neg h]
      by_cases h' : s = m.tip.length
      · subst h'; simp
      · rw [if_neg h', List.getElem?_eq_none (by simp; omega), List.getElem?_eq_none (by omega)]
  have hml : ∀ k, m'.lim k = if k = w.heap.size then n else m.lim k := fun k => rfl
  have hx : Ext m w V m' w' (V ++ [0]) := by
    refine ⟨hp.os, hp.tape, hp.output, by rw [hp.size]; omega, fun k c e fr h => ⟨c, hp.some h, rfl⟩, fun k => ?_, fun k o ho => ?_, fun k ds h => hp.some h, fun k hk _ _ => hp.old hk, fun _ _ h => h, fun b _ h => .inl ⟨b, h⟩, fun s k h => ?_,
      fun s x h => ⟨x, ?_, Nat.le_refl _, fun _ => ⟨?_, fun k hk => ?_⟩⟩⟩
    · rw [hml]
      split
      · rename_i h; rw [hi.lim_new (by omega)]; omega
      · exact Nat.le_refl _
    · refine hp.cell ?_
      rcases Nat.lt_or_ge k w.heap.size with h | h
      · exact h
      · rw [hi.lim_new h] at ho; omega
    · rw [hmt] at h
      split at h
      · simp at h; exact .inr (by omega)
      · exact .inl h
    · rw [List.getElem?_append_left (List.getElem?_eq_some_iff.1 h).1]; exact h
    · have := (List.getElem?_eq_some_iff.1 h).1
      rw [hmt, if_neg (by rw [hi.tiplen]; omega)]
    · have := hi.tip_lt hk
      rw [hml, if_neg (by omega)]
  refine ⟨⟨hi.glob.mono hx, hi.boxlen, by simp [m', hi.tiplen], fun k hk => ?_, fun s k h => ?_, fun b k h => ?_, hi.uniq, fun b c h => ?_⟩, hx⟩
  · by_cases h : k = w.heap.size
    · subst h; exact ⟨cs, e, (0, 0), hp.new, by simpa [m'] using hn⟩
    · have h' : 0 < m.lim k := by simpa [m', h] using hk
      obtain ⟨c, e', fr, h1, h2⟩ := hi.limv k h'
      exact ⟨c, e', fr, hp.some h1, by simpa [m', h] using h2⟩
  · rw [hmt] at h
    by_cases hst : s = m.tip.length
    · rw [if_pos hst] at h
      simp at h; subst h
      refine ⟨⟨cs, e, hp.new⟩, fun b hb => ?_, fun t' h' => ?_⟩
      · have := hi.boxes b _ hb; omega
      · rw [hmt] at h'
        split at h'
        · omega
        · have := hi.tip_lt h'; omega
    · rw [if_neg hst] at h
      obtain ⟨⟨c, e', h1⟩, h2, h3⟩ := hi.tips s k h
      refine ⟨⟨c, e', hp.some h1⟩, h2, fun t' h' => ?_⟩
      rw [hmt] at h'
      split at h'
      · simp at h'; have := hi.tip_lt h; omega
      · exact h3 t' h'
  · have := hi.boxes b k h
    rw [hp.size]; omega
  · refine (hi.live b c h).mono hx fun k hk => ⟨hp.old (hi.boxes b k hk), ?_⟩
    have := hi.boxes b k hk
    rw [hml, if_neg (by omega)]

theorem step_bump {m : Gh} {w : World} {H : List (Option (List CV))} {V : List Nat} {t v : Nat} (hi : Inv m w H V) (hv : V[t]? = some v) :
    Inv m w H (V.set t (v + 1)) ∧ Ext m w V m w (V.set t (v + 1)) := by
  have htV : t < V.length := (List.getElem?_eq_some_iff.1 hv).1
  have hx : Ext m w V m w (V.set t (v + 1)) := by
    refine ⟨rfl, rfl, rfl, Nat.le_refl _, fun k c e fr h => ⟨c, h, rfl⟩, fun _ => Nat.le_refl _, fun _ _ _ => rfl, fun _ _ h => h, fun _ _ _ _ => rfl, fun _ _ h => h, fun b _ h => .inl ⟨b, h⟩, fun t k h => .inl h, fun s x h => ?_⟩
    by_cases hst : t = s
    · subst hst
      rw [hv] at h; cases h
      exact ⟨v + 1, by simp [htV], by omega, fun e => by omega⟩
    · exact ⟨x, by rw [List.getElem?_set_ne hst]; exact h, Nat.le_refl _, fun _ => ⟨rfl, fun _ _ => rfl⟩⟩
  refine ⟨⟨hi.glob.mono hx, hi.boxlen, by simp [hi.tiplen], hi.limv, hi.tips, hi.boxes, hi.uniq, fun b c h => ?_⟩, hx⟩
  exact (hi.live b c h).mono hx fun k _ => ⟨rfl, rfl⟩
theorem step_boxP {m : Gh} {w w' : World} {H : List (Option (List CV))} {V : List Nat} {us : Array Value} {vs : List Value} {e : TypeId} {cs : List CV} (hvs : vs.length ≤ us.size) (hpre : ∀ j, j < vs.length → us[j]? = vs[j]?) (hi : Inv m w H V) (hp : Pushed w w' (.cells us e)) (hc : RelL m w V cs vs) (h1 : ∀ u ∈ vs, u.oneCell' = true) :
    let m' : Gh := { m with box := m.box ++ [w.heap.size] }
    Inv m' w' (H ++ [some cs]) V ∧ Ext m w V m' w' V := by
  intro m'
  have hmb : ∀ b : Nat, m'.box[b]? = if b = m.box.length then some w.heap.size else m.box[b]? := fun b => by
    show (m.box ++ [w.heap.size])[b]? = _
    rw [List.getElem?_append]
    by_cases h : b < m.box.length
    · rw [if_pos h, if_neg (by omega)]
    · rw [if_neg h]
      by_cases h' : b = m.box.length
      · subst h'; simp
      · rw [if_neg h', List.getElem?_eq_none (by simp; omega), List.getElem?_eq_none (by omega)]
  have hx : Ext m w V m' w' V := by
    refine ⟨hp.os, hp.tape, hp.output, by rw [hp.size]; omega, fun k c e fr h => ⟨c, hp.some h, rfl⟩, fun k => Nat.le_refl _, fun k o ho => ?_, fun k ds h => hp.some h, fun k hk _ _ => hp.old hk, fun b k h => ?_, fun b k h => ?_, fun _ _ h => .inl h,
      fun t v h => ⟨v, h, Nat.le_refl _, fun _ => ⟨rfl, fun k hk => rfl⟩⟩⟩
    · refine hp.cell ?_
      rcases Nat.lt_or_ge k w.heap.size with h | h
      · exact h
      · rw [hi.lim_new h] at ho; omega
    · have := (List.getElem?_eq_some_iff.1 h).1
      rw [hmb, if_neg (by omega)]; exact h
    · rw [hmb] at h
      split at h
      · simp at h; exact .inr (by omega)
      · exact .inl ⟨b, h⟩
  refine ⟨⟨hi.glob.mono hx, by simp [m', hi.boxlen], hi.tiplen, fun k hk => ?_, fun t k h => ?_, fun b k h => ?_, fun b b' k c c' h h' g g' => ?_, fun b c h => ?_⟩, hx⟩
  · obtain ⟨c, e', fr, h1, h2⟩ := hi.limv k hk
    exact ⟨c, e', fr, hp.some h1, h2⟩
  · obtain ⟨⟨c, e', h1⟩, h2, h3⟩ := hi.tips t k h
    refine ⟨⟨c, e', hp.some h1⟩, fun b hb => ?_, h3⟩
    rw [hmb] at hb
    split at hb
    · simp at hb; have := hi.tip_lt h; omega
    · exact h2 b hb
  · rw [hmb] at h
    split at h
    · simp at h; rw [hp.size]; omega
    · have := hi.boxes b k h; rw [hp.size]; omega
  · rw [hmb] at g g'
    have old : ∀ (b : Nat) c, (H ++ [some cs])[b]? = some (some c) → ¬ b = m.box.length → H[b]? = some (some c) := fun b c h hb => by
      rw [List.getElem?_append] at h
      split at h
      · exact h
      · rw [List.getElem?_eq_none (by have := hi.boxlen; simp; omega)] at h; cases h
    split at g
    · rename_i hb
      simp at g
      split at g'
      · omega
      · have := hi.boxes b' k g'; omega
    · split at g'
      · simp at g'; have := hi.boxes b k g; omega
      · exact hi.uniq b b' k _ _ (old _ _ h (by assumption)) (old _ _ h' (by assumption)) g g'
  · by_cases hb : b = H.length
    · subst hb
      simp at h; subst h
      refine .row w.heap.size us e (by rw [hmb, if_pos hi.boxlen.symm]) hp.new (by have := relL_length hc; omega) (hi.lim_new (Nat.le_refl _)) (relC_mk fun j c hj => ?_)
      obtain ⟨u, q1, q2⟩ := relL_get hc j c hj
      refine ⟨u, ?_, RelV.mono hx _ _ q2, h1 u (List.mem_of_getElem? q1)⟩
      rw [cell_of_row w' _ _ us e (0, 0) hp.new, Nat.zero_add, hpre j (List.getElem?_eq_some_iff.1 q1).1]
      exact q1
    · rw [List.getElem?_append] at h
      split at h
      · exact (hi.live b c h).mono hx fun k hk => ⟨hp.old (hi.boxes b k hk), rfl⟩
      · rw [List.getElem?_eq_none (by simp; omega)] at h; cases h

theorem Inv.kill {m : Gh} {w : World} {H : List (Option (List CV))} {V : List Nat} (hi : Inv m w H V) (b : Nat) : Inv m w (H.set b none) V := by
  have old : ∀ (b1 : Nat) c1, (H.set b none)[b1]? = some (some c1) → H[b1]? = some (some c1) := fun b1 c1 g => by
    by_cases e : b = b1
    · subst e
      by_cases hl : b < H.length
      · rw [List.getElem?_set_self hl] at g; cases g
      · rw [List.getElem?_eq_none (by simp; omega)] at g; cases g
    · rw [List.getElem?_set_ne e] at g; exact g
  exact ⟨hi.glob, by simp [hi.boxlen], hi.tiplen, hi.limv, hi.tips, hi.boxes, fun b1 b2 k c1 c2 g1 g2 => hi.uniq b1 b2 k c1 c2 (old _ _ g1) (old _ _ g2), fun b1 c1 g => hi.live b1 c1 (old _ _ g)⟩

theorem step_stretch {m : Gh} {w : World} {H : List (Option (List CV))} {V : List Nat} {b k : Nat} {cs ds : List CV} {c : Array Value} {e : TypeId} {us : List Value} (hi : Inv m w H V) (hb : H[b]? = some (some cs)) (hk : m.box[b]? = some k)
    (hc : w.heap[k]? = some (.cells c e (0, 0))) (hd : RelL m w V ds us) (h1' : ∀ u ∈ us, u.oneCell' = true) (ho : cs.length + us.length ≤ c.size) :
    let w' := w.setRow k (c.toList.take cs.length ++ us ++ c.toList.drop (cs.length + us.length)).toArray
    let m' : Gh := { m with box := m.box ++ [k] }
    Inv m' w' (H.set b none ++ [some (cs ++ ds)]) V ∧ Ext m w V m' w' V ∧ w'.heap[k]? = some (.cells (c.toList.take cs.length ++ us ++ c.toList.drop (cs.length + us.length)).toArray e (0, 0)) := by
  intro w' m'
  obtain ⟨c', e', h2, h3, h4, h5⟩ := hi.alive hb hk ⟨c, e, _, hc⟩
  rw [hc] at h2; cases h2
  have hul := relL_length hd
  have hnew : w'.heap[k]? = some (.cells (c.toList.take cs.length ++ us ++ c.toList.drop (cs.length + us.length)).toArray e (0, 0)) := setRow_heap w k c _ e (0, 0) hc
  have hoth : ∀ j, j ≠ k → w'.heap[j]? = w.heap[j]? := fun j hj => setRow_other w k j _ hj
  have hsz : (c.toList.take cs.length ++ us ++ c.toList.drop (cs.length + us.length)).toArray.size = c.size := by
    simp [List.length_take]; omega
  have hmb : ∀ b : Nat, m'.box[b]? = if b = m.box.length then some k else m.box[b]? := fun b => by
    show (m.box ++ [k])[b]? = _
    rw [List.getElem?_append]
    by_cases h : b < m.box.length
    · rw [if_pos h, if_neg (by omega)]
    · rw [if_neg h]
      by_cases h' : b = m.box.length
      · subst h'; simp
      · rw [if_neg h', List.getElem?_eq_none (by simp; omega), List.getElem?_eq_none (by omega)]
  have hx : Ext m w V m' w' V := by
    refine ⟨rfl, rfl, rfl, by simp [w'], fun j c0 e0 fr h => ?_, fun _ => Nat.le_refl _, fun j o' ho' => ?_, fun j ds h => ?_, fun j hj hb' _ => hoth j (fun e => hb' b (by rw [e]; exact hk)), fun b1 j h => ?_, fun b1 j h => ?_, fun _ _ h => .inl h,
      fun t v h => ⟨v, h, Nat.le_refl _, fun _ => ⟨rfl, fun k hk => rfl⟩⟩⟩
    · by_cases hj : j = k
      · subst hj; rw [hc] at h; cases h; exact ⟨_, hnew, hsz⟩
      · exact ⟨c0, by rw [hoth j hj]; exact h, rfl⟩
    · have hj : j ≠ k := fun e => by subst e; omega
      exact World.cell?_of_block (w := w) (a := ⟨j, o', none⟩) (hoth j hj)
    · have hj : j ≠ k := fun e => by rw [e, hc] at h; cases h
      rw [hoth j hj]; exact h
    · have := (List.getElem?_eq_some_iff.1 h).1
      rw [hmb, if_neg (by omega)]; exact h
    · rw [hmb] at h
      split at h
      · simp at h; subst h; exact .inl ⟨b, hk⟩
      · exact .inl ⟨b1, h⟩
  have hbl : b < H.length := (List.getElem?_eq_some_iff.1 hb).1
  have old : ∀ (b1 : Nat) c1, (H.set b none ++ [some (cs ++ ds)])[b1]? = some (some c1) → (b1 = H.length ∧ c1 = cs ++ ds) ∨ (b1 ≠ b ∧ H[b1]? = some (some c1)) := fun b1 c1 g => by
    rw [List.getElem?_append] at g
    split at g
    · rename_i hl
      by_cases e : b = b1
      · subst e; rw [List.getElem?_set_self hbl] at g; cases g
      · rw [List.getElem?_set_ne e] at g; exact .inr ⟨fun h => e h.symm, g⟩
    · rename_i hl
      simp at hl
      by_cases e : b1 = H.length
      · subst e; simp at g; exact .inl ⟨rfl, g.symm⟩
      · rw [List.getElem?_eq_none (by simp; omega)] at g; cases g
  have hboxl : ∀ b1 : Nat, b1 < H.length → m'.box[b1]? = m.box[b1]? := fun b1 h => by rw [hmb, if_neg (by rw [hi.boxlen]; omega)]
  have hboxn : m'.box[H.length]? = some k := by rw [hmb, if_pos hi.boxlen.symm]
  have lt : ∀ (b1 : Nat) c1, H[b1]? = some (some c1) → b1 < H.length := fun b1 c1 h => (List.getElem?_eq_some_iff.1 h).1
  refine ⟨⟨hi.glob.mono hx, by simp [m', hi.boxlen], hi.tiplen, fun j hj => ?_, fun t j h => ?_, fun b' j h => ?_, fun b1 b2 j c1 c2 g1 g2 q1 q2 => ?_, fun b' c0 h => ?_⟩, hx, hnew⟩
  · obtain ⟨c0, e0, fr, g1, g2⟩ := hi.limv j hj
    have hjk : j ≠ k := fun e => by subst e; exact absurd hj (by show ¬ 0 < m.lim j; omega)
    exact ⟨c0, e0, fr, by rw [hoth j hjk]; exact g1, g2⟩
  · obtain ⟨⟨c0, e0, g1⟩, g2, g3⟩ := hi.tips t j h
    have hjk : j ≠ k := fun e => g2 b (by rw [e]; exact hk)
    refine ⟨⟨c0, e0, by rw [hoth j hjk]; exact g1⟩, fun b1 hb1 => ?_, g3⟩
    rw [hmb] at hb1
    split at hb1
    · simp at hb1; exact hjk hb1.symm
    · exact g2 b1 hb1
  · rw [hmb] at h
    split at h
    · simp at h; subst h; simpa [w'] using hi.boxes b k hk
    · simpa [w'] using hi.boxes b' j h
  · rcases old b1 c1 g1 with ⟨rfl, _⟩ | ⟨n1, g1⟩ <;> rcases old b2 c2 g2 with ⟨rfl, _⟩ | ⟨n2, g2⟩
    · rfl
    · rw [hboxn] at q1; cases q1
      rw [hboxl b2 (lt _ _ g2)] at q2
      exact absurd (hi.uniq b b2 k _ _ hb g2 hk q2) n2
    · rw [hboxn] at q2; cases q2
      rw [hboxl b1 (lt _ _ g1)] at q1
      exact absurd (hi.uniq b b1 k _ _ hb g1 hk q1) n1
    · rw [hboxl b1 (lt _ _ g1)] at q1
      rw [hboxl b2 (lt _ _ g2)] at q2
      exact hi.uniq b1 b2 j _ _ g1 g2 q1 q2
  · rcases old b' c0 h with ⟨rfl, rfl⟩ | ⟨n1, g1⟩
    · refine .row k _ e hboxn hnew (by rw [hsz, List.length_append]; omega) h4 (relC_mk fun j x hj => ?_)
      rw [cell_of_row w' _ _ _ e (0, 0) hnew, Nat.zero_add, List.getElem?_toArray, splice_get _ _ _ _ (by simp; omega)]
      rw [List.getElem?_append] at hj
      by_cases hl : j < cs.length
      · rw [if_pos hl] at hj ⊢
        obtain ⟨u, q1, q2, q3⟩ := relC_get h5 j x hj
        rw [cell_of_row w _ _ c e (0, 0) hc, Nat.zero_add] at q1
        exact ⟨u, by rw [Array.getElem?_toList]; exact q1, RelV.mono hx _ _ q2, q3⟩
      · rw [if_neg hl] at hj ⊢
        have hl2 : j - cs.length < ds.length := (List.getElem?_eq_some_iff.1 hj).1
        rw [if_pos (by omega)]
        obtain ⟨u, q1, q2⟩ := relL_get hd _ x hj
        exact ⟨u, q1, RelV.mono hx _ _ q2, h1' u (List.mem_of_getElem? q1)⟩
    · refine (hi.live b' c0 g1).mono hx fun k' g3 => ⟨hoth k' fun e => ?_, rfl⟩
      exact n1 (hi.uniq b b' k _ _ hb g1 hk (by rw [← e]; exact g3))
theorem step_obj {m : Gh} {w w' : World} {H : List (Option (List CV))} {V : List Nat} {o : Obj} {x : CV} (hi : Inv m w H V) (hp : Pushed w w' o)
    (ho : let m' : Gh := { m with box := m.box ++ [w.heap.size] }
      Ext m w V m' w' V → RelO m' w' V w.heap.size x) :
    let m' : Gh := { m with box := m.box ++ [w.heap.size] }
    Inv m' w' (H ++ [some [x]]) V ∧ Ext m w V m' w' V := by
  intro m'
  have hmb : ∀ b : Nat, m'.box[b]? = if b = m.box.length then some w.heap.size else m.box[b]? := fun b => by
    show (m.box ++ [w.heap.size])[b]? = _
    rw [List.getElem?_append]
    by_cases h : b < m.box.length
    · rw [if_pos h, if_neg (by omega)]
    · rw [if_neg h]
      by_cases h' : b = m.box.length
      · subst h'; simp
      · rw [if_neg h', List.getElem?_eq_none (by simp; omega), List.getElem?_eq_none (by omega)]
  have hx : Ext m w V m' w' V := by
    refine ⟨hp.os, hp.tape, hp.output, by rw [hp.size]; omega, fun k c e fr h => ⟨c, hp.some h, rfl⟩, fun k => Nat.le_refl _, fun k o ho => ?_, fun k ds h => hp.some h, fun k hk _ _ => hp.old hk, fun b k h => ?_, fun b k h => ?_, fun _ _ h => .inl h,
      fun t v h => ⟨v, h, Nat.le_refl _, fun _ => ⟨rfl, fun k hk => rfl⟩⟩⟩
    · refine hp.cell ?_
      rcases Nat.lt_or_ge k w.heap.size with h | h
      · exact h
      · rw [hi.lim_new h] at ho; omega
    · have := (List.getElem?_eq_some_iff.1 h).1
      rw [hmb, if_neg (by omega)]; exact h
    · rw [hmb] at h
      split at h
      · simp at h; exact .inr (by omega)
      · exact .inl ⟨b, h⟩
  have ho := ho hx
  refine ⟨⟨hi.glob.mono hx, by simp [m', hi.boxlen], hi.tiplen, fun k hk => ?_, fun t k h => ?_, fun b k h => ?_, fun b b' k c c' h h' g g' => ?_, fun b c h => ?_⟩, hx⟩
  · obtain ⟨c, e', fr, h1, h2⟩ := hi.limv k hk
    exact ⟨c, e', fr, hp.some h1, h2⟩
  · obtain ⟨⟨c, e', h1⟩, h2, h3⟩ := hi.tips t k h
    refine ⟨⟨c, e', hp.some h1⟩, fun b hb => ?_, h3⟩
    rw [hmb] at hb
    split at hb
    · simp at hb; have := hi.tip_lt h; omega
    · exact h2 b hb
  · rw [hmb] at h
    split at h
    · simp at h; rw [hp.size]; omega
    · have := hi.boxes b k h; rw [hp.size]; omega
  · rw [hmb] at g g'
    have old : ∀ (b : Nat) c, (H ++ [some [x]])[b]? = some (some c) → ¬ b = m.box.length → H[b]? = some (some c) := fun b c h hb => by
      rw [List.getElem?_append] at h
      split at h
      · exact h
      · rw [List.getElem?_eq_none (by have := hi.boxlen; simp; omega)] at h; cases h
    split at g
    · simp at g
      split at g'
      · omega
      · have := hi.boxes b' k g'; omega
    · split at g'
      · simp at g'; have := hi.boxes b k g; omega
      · exact hi.uniq b b' k _ _ (old _ _ h (by assumption)) (old _ _ h' (by assumption)) g g'
  · by_cases hb : b = H.length
    · subst hb
      simp at h; subst h
      exact .obj w.heap.size x (by rw [hmb, if_pos hi.boxlen.symm]) rfl ho
    · rw [List.getElem?_append] at h
      split at h
      · exact (hi.live b c h).mono hx fun k hk => ⟨hp.old (hi.boxes b k hk), rfl⟩
      · rw [List.getElem?_eq_none (by simp; omega)] at h; cases h
theorem step_setObj {m : Gh} {w : World} {H : List (Option (List CV))} {V : List Nat} {b k : Nat} {x y : CV} {o : Obj} (hi : Inv m w H V) (hb : H[b]? = some (some [x])) (hk : m.box[b]? = some k) (hx0 : RelO m w V k x) (hno : ∀ c e fr, o ≠ .cells c e fr)
    (ho : let w' : World := { w with heap := w.heap.setIfInBounds k o }
      Ext m w V m w' V → w'.heap[k]? = some o → RelO m w' V k y) :
    let w' : World := { w with heap := w.heap.setIfInBounds k o }
    Inv m w' (H.set b (some [y])) V ∧ Ext m w V m w' V := by
  intro w'
  have hlt := hx0.lt
  have hnr := hx0.notRow
  have hnd : ∀ ds, w.heap[k]? ≠ some (.deferred ds) := fun ds h => by
    cases x with
    | objl => obtain ⟨_, _, _, g, _⟩ := hx0; rw [h] at g; cases g
    | objm => obtain ⟨_, g, _⟩ := hx0; rw [h] at g; cases g
    | obji => obtain ⟨_, _, _, g, _⟩ := hx0; rw [h] at g; cases g
    | _ => exact hx0.elim
  have hnew : w'.heap[k]? = some o := by simp [w', hlt]
  have hoth : ∀ j, j ≠ k → w'.heap[j]? = w.heap[j]? := fun j hj => by simp [w', Array.getElem?_setIfInBounds, Ne.symm hj]
  have hx : Ext m w V m w' V := by
    refine ⟨rfl, rfl, rfl, by simp [w'], fun j c0 e0 fr h => ?_, fun _ => Nat.le_refl _, fun j o' ho' => ?_, fun j ds h => ?_, fun j hj hb' _ => hoth j (fun e => hb' b (by rw [e]; exact hk)), fun _ _ h => h, fun b _ h => .inl ⟨b, h⟩, fun _ _ h => .inl h,
      fun t v h => ⟨v, h, Nat.le_refl _, fun _ => ⟨rfl, fun k hk => rfl⟩⟩⟩
    · have hj : j ≠ k := fun e => hnr ⟨c0, e0, fr, by rw [← e]; exact h⟩
      exact ⟨c0, by rw [hoth j hj]; exact h, rfl⟩
    · have hj : j ≠ k := fun e => by
        subst e
        obtain ⟨c, e, fr, h, _⟩ := hi.limv j (by omega)
        exact hnr ⟨c, e, fr, h⟩
      exact World.cell?_of_block (w := w) (a := ⟨j, o', none⟩) (hoth j hj)
    · have hj : j ≠ k := fun e => hnd ds (by rw [← e]; exact h)
      rw [hoth j hj]; exact h
  refine ⟨⟨hi.glob.mono hx, by simp [hi.boxlen], hi.tiplen, fun j hj => ?_, fun t j h => ?_, fun b' j h => ?_, fun b1 b2 j c1 c2 g1 g2 q1 q2 => ?_, fun b' c0 h => ?_⟩, hx⟩
  · obtain ⟨c0, e0, fr, g1, g2⟩ := hi.limv j hj
    have hjk : j ≠ k := fun e => hnr ⟨c0, e0, fr, by rw [← e]; exact g1⟩
    exact ⟨c0, e0, fr, by rw [hoth j hjk]; exact g1, g2⟩
  · obtain ⟨⟨c0, e0, g1⟩, g2⟩ := hi.tips t j h
    have hjk : j ≠ k := fun e => g2.1 b (by rw [e]; exact hk)
    exact ⟨⟨c0, e0, by rw [hoth j hjk]; exact g1⟩, g2⟩
  · have g1 := hi.boxes b' j h
    simpa [w'] using g1
  · have old : ∀ (b1 : Nat) c1, (H.set b (some [y]))[b1]? = some (some c1) → ∃ c, H[b1]? = some (some c) := fun b1 c1 g => by
      by_cases e : b = b1
      · subst e; exact ⟨_, hb⟩
      · rw [List.getElem?_set_ne e] at g; exact ⟨_, g⟩
    obtain ⟨_, e1⟩ := old b1 c1 g1
    obtain ⟨_, e2⟩ := old b2 c2 g2
    exact hi.uniq b1 b2 j _ _ e1 e2 q1 q2
  · by_cases hbb : b = b'
    · subst hbb
      rw [List.getElem?_set_self (List.getElem?_eq_some_iff.1 hb).1] at h
      cases h
      exact .obj k y hk rfl (ho hx hnew)
    · rw [List.getElem?_set_ne hbb] at h
      refine (hi.live b' c0 h).mono hx fun k' g1 => ⟨hoth k' fun e => ?_, rfl⟩
      exact hbb (hi.uniq b' b k' _ _ h hb g1 (by rw [e]; exact hk))
end Go.Proofs.YtpedbpbmnchllaaGreatDoor
namespace Go.Proofs.YtpedbpbmnchllaaGreatDoor

abbrev Hp := List (Option (List CV))

def CC (P : Program) (f : FuncId) (args : List CV) (H : Hp) (V : List Nat) (R : CV → Hp → List Nat → Prop) : Prop :=
  (∃ fn, P.funcs[f]? = some fn ∧ fn.body.isSome = true ∧ (fn.name == "runtime.NumGoroutine") = false) ∧
  ∀ (m : Gh) (w : World) (us : List Value), Inv m w H V → RelL m w V args us →
    Calls P f us.toArray w fun e w' => ∃ u m' r H' V', e = .returned u ∧ R r H' V' ∧ Inv m' w' H' V' ∧ RelV m' w' V' r u ∧ Ext m w V m' w' V'

def YC (P : Program) (b : Nat) (args : List CV) (H : Hp) (V : List Nat) (K : CV → Hp → List Nat → Prop) : Prop :=
  ∀ (m : Gh) (w : World) (us : List Value) (k : Nat), Inv m w H V → RelL m w V args us → m.box[b]? = some k →
    ∃ fn tmps assign body, (Instr.yield k us.toArray).run P w = .ok (.round k fn tmps assign body) w ∧
      RoundIn Fence.wide 0 P k fn tmps assign body w (fun e w' => ∃ t m' H' V', e = .returned (.bool t) ∧ K (.v (.bool t)) H' V' ∧ Inv m' w' H' V' ∧ Ext m w V m' w' V')
theorem YC.mono {P : Program} {b : Nat} {args : List CV} {H : Hp} {V : List Nat} {K K' : CV → Hp → List Nat → Prop} (h : YC P b args H V K) (hr : ∀ r H' V', K r H' V' → K' r H' V') : YC P b args H V K' :=
  fun m w us k hi hu hk =>
    let ⟨fn, tmps, aS, bd, h1, h2⟩ := h m w us k hi hu hk
    ⟨fn, tmps, aS, bd, h1, h2.mono fun _ _ ⟨t, m', H', V', a, b, c⟩ => ⟨t, m', H', V', a, hr _ _ _ b, c⟩⟩
theorem CC.mono {P : Program} {f : FuncId} {args : List CV} {H : Hp} {V : List Nat} {R R' : CV → Hp → List Nat → Prop} (h : CC P f args H V R) (hr : ∀ r H' V', R r H' V' → R' r H' V') : CC P f args H V R' :=
  ⟨h.1, fun m w us hi hu => (h.2 m w us hi hu).mono fun _ _ ⟨u, m', r, H', V', h1, h2, h3⟩ => ⟨u, m', r, H', V', h1, hr _ _ _ h2, h3⟩⟩

def szOf (P : Program) (t : TypeId) : Option Nat := (P.info? t).map (·.size)
def slTy (P : Program) (t : TypeId) : Option (TypeId × Nat) :=
  match P.underlying t with
  | some (.slice e) => (P.info? e).bind fun i => if 0 < i.size && 0 < i.bytes && decide (i.bytes ≤ 128) && (match i.zero with | some z => z.cells.size == i.size | none => false) then some (e, i.size) else none
  | _ => none
def ldTy (P : Program) (t : TypeId) : Option (Bool × Nat) :=
  match P.underlying t with
  | some d => (P.info? t).map fun i => ((match d with | .struct _ | .array _ _ => true | _ => false), i.size)
  | none => none
def fdTy (P : Program) (s : TypeId) (f : Nat) : Option (Nat × Bool × Nat) :=
  match P.underlying s with
  | some (.struct fs) => (fs[f]?).bind fun fd => (ldTy P fd.type).bind fun x => if x.2 = 0 then none else some (fd.offset, x.1, x.2)
  | _ => none
def arTy (P : Program) (t : TypeId) : Option (Nat × Bool × Nat) :=
  match P.underlying t with
  | some (.array n e) => (ldTy P e).bind fun x => if x.2 = 0 || n ≤ 1 then none else some (n, x.1, x.2)
  | _ => none
def zcTy (P : Program) (t : TypeId) : Option (List Value) := (P.info? t).bind fun i => i.zero.bind fun z => if z.cells.toList.all (·.oneCell') then some z.cells.toList else none
def bdTy (P : Program) (t : TypeId) : Option (List (Nat × Nat) × List Value) :=
  match P.underlying t with
  | some (.struct fs) => (fs.toList.mapM fun f => (szOf P f.type).map fun n => (f.offset, n)).bind fun ps => (zcTy P t).map fun zs => (ps, zs)
  | some (.array n e) => (szOf P e).bind fun k => (zcTy P t).map fun zs => ((List.range n).map fun i => (i * k, k), zs)
  | _ => none
def u8 (b : UInt8) : List CV := [.v (.int .u8 (b.toNat : Int))]
def cvTy (P : Program) (s d : TypeId) : Option (Option IntKind) :=
  match P.underlying d with
  | some (.int k) => (P.underlying s).map fun _ => some k
  | some .string => (match P.underlying s with | some (.slice e) => (match P.underlying e with | some (.int .u8) => some none | _ => none) | _ => none)
  | _ => none
def FlatEq (P : Program) (t : TypeId) (ks : List IntKind) : Prop :=
  P.eqGuardType P.depth t = false ∧ ∀ (w : World) (zs zs' : List Int), zs.length = ks.length → zs'.length = ks.length →
    (Op.equal t (.agg ((ks.zip zs).map fun p => .int p.1 p.2).toArray) (.agg ((ks.zip zs').map fun p => .int p.1 p.2).toArray)).run P w = .ok (decide (zs = zs')) w

def fits : List IntKind → List CV → Prop
  | [], cs => cs = []
  | k :: ks, cs => ∃ z r, cs = .v (.int k z) :: r ∧ fits ks r

def bitop (op : BinOp) (k : IntKind) (a b : Int) : Int :=
  k.wrap ((match op with
    | .and => BitVec.ofInt k.bits a &&& BitVec.ofInt k.bits b
    | .or => BitVec.ofInt k.bits a ||| BitVec.ofInt k.bits b
    | .xor => BitVec.ofInt k.bits a ^^^ BitVec.ofInt k.bits b
    | _ => BitVec.ofInt k.bits a &&& ~~~(BitVec.ofInt k.bits b)).toNat)

def shl (k : IntKind) (a b : Int) : Int := k.wrap (a * 2 ^ (min b.toNat k.bits))
def shr (k : IntKind) (a b : Int) : Int := a.fdiv (2 ^ (min b.toNat k.bits))

def ld (g : Bool) (n : Nat) (cs : List CV) (o : Nat) (K : CV → Prop) : Prop :=
  match g with
  | true => o + n ≤ cs.length ∧ K (.agg ((cs.drop o).take n))
  | false => ∃ h : o < cs.length, K cs[o]

def ibin (op : BinOp) (k : IntKind) (a b : Int) (K : CV → Prop) : Prop :=
  match op with
  | .add => K (.v (.int k (k.wrap (a + b))))
  | .sub => K (.v (.int k (k.wrap (a - b))))
  | .mul => K (.v (.int k (k.wrap (a * b))))
  | .quo => b ≠ 0 ∧ K (.v (.int k (k.wrap (a.tdiv b))))
  | .rem => b ≠ 0 ∧ K (.v (.int k (a.tmod b)))
  | .and => K (.v (.int k (bitop .and k a b)))
  | .or => K (.v (.int k (bitop .or k a b)))
  | .xor => K (.v (.int k (bitop .xor k a b)))
  | .andNot => K (.v (.int k (bitop .andNot k a b)))
  | .shl => 0 ≤ b ∧ K (.v (.int k (shl k a b)))
  | .shr => 0 ≤ b ∧ K (.v (.int k (shr k a b)))
  | .eql => K (.v (.bool (decide (a = b))))
  | .neq => K (.v (.bool (!decide (a = b))))
  | .lss => K (.v (.bool (decide (a < b))))
  | .leq => K (.v (.bool (decide (a ≤ b))))
  | .gtr => K (.v (.bool (decide (b < a))))
  | .geq => K (.v (.bool (decide (b ≤ a))))

def sameK (op : BinOp) (k k' : IntKind) : Prop := match op with | .shl | .shr => True | _ => k = k'

def eqNeq (op : BinOp) (b : Bool) (K : CV → Prop) : Prop :=
  match op with
  | .eql => K (.v (.bool b))
  | .neq => K (.v (.bool (!b)))
  | _ => False

def cbin (P : Program) (op : BinOp) (t : TypeId) (x y : CV) (K : CV → Prop) : Prop :=
  match x, y with
  | .v (.int k a), .v (.int k' b) => sameK op k k' ∧ ibin op k a b K
  | .v (.bool a), .v (.bool b) => P.underlying t = some .bool ∧ eqNeq op (a == b) K
  | .v (.string a), .v (.string b) => eqNeq op (a.toList == b.toList) K
  | .sl _ _ xs, .v (.slice none 0 0) => (slTy P t).isSome = true ∧ ∀ b : Bool, (b = true → xs = []) → eqNeq op b K
  | .v (.slice none 0 0), .v (.slice none 0 0) => (slTy P t).isSome = true ∧ eqNeq op true K
  | .agg cs, .agg ds => ∃ ks, FlatEq P t ks ∧ fits ks cs ∧ fits ks ds ∧ ∀ b : Bool, (b = true ↔ cs = ds) → eqNeq op b K
  | _, _ => False

def cun (op : UnOp) (x : CV) (K : CV → Prop) : Prop :=
  match x with
  | .v (.bool b) =>
    match op with
    | .not => K (.v (.bool (!b)))
    | _ => False
  | .v (.int k n) =>
    match op with
    | .neg => K (.v (.int k (k.wrap (0 - n))))
    | .xor => K (.v (.int k (bitop .xor k (if k.signed then -1 else k.max) n)))
    | _ => False
  | _ => False

def bok : Option CV → Prop
  | none => True
  | some (.v (.int _ n)) => 0 ≤ n
  | _ => False
def bvl (x : Option CV) (d : Nat) : Nat :=
  match x with
  | some (.v (.int _ n)) => n.toNat
  | _ => d

def chunks (sz : Nat) : Nat → List CV → List (List CV)
  | 0, _ => []
  | n + 1, cs => cs.take sz :: chunks sz n (cs.drop sz)

def cslice (P : Program) (t : TypeId) (x : CV) (lo hi mx : Option CV) (K : CV → Prop) : Prop :=
  bok lo ∧ bok hi ∧ bok mx ∧
  match x with
  | .sl tk sz xs => (slTy P t).map (·.2) = some sz ∧ bvl lo 0 ≤ bvl hi xs.length ∧ bvl hi xs.length ≤ xs.length ∧
      match hi, mx with
      | none, none => K (.sl tk sz (xs.drop (bvl lo 0)))
      | some h, none => K (.sl .sh sz ((xs.take (bvl (some h) 0)).drop (bvl lo 0)))
      | some h, some q => bvl (some q) 0 = bvl (some h) 0 ∧ K (.sl .ti sz ((xs.take (bvl (some h) 0)).drop (bvl lo 0)))
      | none, some _ => False
  | .v (.slice none 0 0) => (slTy P t).isSome = true ∧ mx.isNone = true ∧ bvl lo 0 = 0 ∧ bvl hi 0 = 0 ∧ K (.v (.slice none 0 0))
  | .ptr b o => mx.isNone = true ∧ ∃ n g sz, arTy P t = some (n, g, sz) ∧ bvl lo 0 ≤ bvl hi n ∧ bvl hi n ≤ n ∧ K (.bsl b (o + bvl lo 0 * sz) (bvl hi n - bvl lo 0) sz)
  | .bsl b o n sz => mx.isNone = true ∧ (slTy P t).map (·.2) = some sz ∧ bvl lo 0 ≤ bvl hi n ∧ bvl hi n ≤ n ∧ K (.bsl b (o + bvl lo 0 * sz) (bvl hi n - bvl lo 0) sz)
  | .eptr cs o => mx.isNone = true ∧ ∃ n g sz, arTy P t = some (n, g, sz) ∧ bvl lo 0 ≤ bvl hi n ∧ bvl hi n ≤ n ∧ o + n * sz ≤ cs.length ∧ K (.sl .sh sz (chunks sz (bvl hi n - bvl lo 0) (cs.drop (o + bvl lo 0 * sz))))
  | _ => False

def cidx (P : Program) (t : TypeId) (x i : CV) (K : CV → Prop) : Prop :=
  match x, i with
  | .sl _ sz xs, .v (.int _ n) => (slTy P t).map (·.2) = some sz ∧ 0 ≤ n ∧ ∃ h : n.toNat < xs.length, K (.eptr xs[n.toNat] 0)
  | .bsl b o n' sz, .v (.int _ n) => (slTy P t).map (·.2) = some sz ∧ 0 ≤ n ∧ n < n' ∧ K (.ptr b (o + n.toNat * sz))
  | .ptr b o, .v (.int _ n) => ∃ len g sz, arTy P t = some (len, g, sz) ∧ 0 ≤ n ∧ n < len ∧ K (.ptr b (o + n.toNat * sz))
  | .eptr cs o, .v (.int _ n) => ∃ len g sz, arTy P t = some (len, g, sz) ∧ 0 ≤ n ∧ n < len ∧ K (.eptr cs (o + n.toNat * sz))
  | .bsa b n' sz, .v (.int _ n) => (slTy P t).map (·.2) = some sz ∧ 0 ≤ n ∧ n < n' ∧ K (.ptr b (n.toNat * sz))
  | _, _ => False

def cfill (ps : List (Nat × Nat)) (cs : List CV) : List (Nat × CV) → Option (List CV)
  | [] => some cs
  | (i, v) :: r =>
    match ps[i]? with
    | some (o, n) => if v.cells.length = n ∧ o + n ≤ cs.length ∧ allOne v.cells = true then cfill ps (cs.take o ++ v.cells ++ cs.drop (o + n)) r else none
    | none => none

def csrc (H : Hp) (sz : Nat) (y : CV) (K : List (List CV) → Prop) : Prop :=
  match y with
  | .sl _ sz' ys => sz' = sz ∧ K ys
  | .v (.slice none 0 0) => K []
  | .bsl b o n sz' => sz' = sz ∧ ∃ cs, H[b]? = some (some cs) ∧ o + n * sz ≤ cs.length ∧ K (chunks sz n (cs.drop o))
  | _ => False

def azTy (P : Program) (t : TypeId) : Bool := match P.underlying t with | some (.int _) => true | _ => false
def asrc (P : Program) (H : Hp) (tx e : TypeId) (sz : Nat) (y : CV) (K : List (List CV) → Prop) : Prop :=
  match y with
  | .v (.int _ n) => azTy P tx = true ∧ 0 ≤ n ∧ n ≤ 1099511627776 ∧ ∃ zs, zcTy P e = some zs ∧ K (List.replicate n.toNat (zs.map CV.v))
  | y => (slTy P tx).isSome = true ∧ csrc H sz y K

def capp (P : Program) (t tx : TypeId) (x y : CV) (H : Hp) (V : List Nat) (K : CV → Hp → List Nat → Prop) : Prop :=
  ∃ e sz, slTy P t = some (e, sz) ∧ asrc P H tx e sz y fun ys =>
    match x with
    | .sl .ti sz' xs => sz' = sz ∧ xs.length + ys.length ≤ 1099511627776 ∧ K (.sl (.own V.length 0) sz (xs ++ ys)) H (V ++ [0])
    | .v (.slice none 0 0) => ys.length ≤ 1099511627776 ∧ K (.sl (.own V.length 0) sz ys) H (V ++ [0])
    | .bsa b n sz' => sz' = sz ∧ n + ys.length ≤ 1099511627776 ∧ ∃ cs, H[b]? = some (some cs) ∧ cs.length = n * sz ∧ K (.bsa H.length (n + ys.length) sz) (H.set b none ++ [some (cs ++ ys.flatten)]) V
    | .sl (.own k v) sz' xs => sz' = sz ∧ V[k]? = some v ∧ xs.length + ys.length ≤ 1099511627776 ∧ K (.sl (.own k (v + 1)) sz (xs ++ ys)) H (V.set k (v + 1))
    | _ => False

def clen (P : Program) (t : TypeId) (x : CV) (K : CV → Prop) : Prop :=
  match x with
  | .sl _ _ xs => (slTy P t).isSome = true ∧ K (.v (.int .i64 xs.length))
  | .bsl _ _ n _ => (slTy P t).isSome = true ∧ K (.v (.int .i64 n))
  | .bsa _ n _ => (slTy P t).isSome = true ∧ K (.v (.int .i64 n))
  | .v (.slice none 0 0) => (slTy P t).isSome = true ∧ K (.v (.int .i64 0))
  | .v (.string s) => P.underlying t = some .string ∧ K (.v (.int .i64 s.size))
  | _ => False

def ccopy (P : Program) (t tx : TypeId) (x y : CV) (H : Hp) (V : List Nat) (K : CV → Hp → List Nat → Prop) : Prop :=
  ∃ e sz, slTy P t = some (e, sz) ∧ (slTy P tx).isSome = true ∧ csrc H sz y fun ys =>
    match x with
    | .bsl b o n sz' => sz' = sz ∧ ys.length ≤ n ∧ ∃ cs, H[b]? = some (some cs) ∧ allOne ys.flatten = true ∧ o + ys.length * sz ≤ cs.length ∧
        K (.v (.int .i64 ys.length)) (H.set b (some (cs.take o ++ ys.flatten ++ cs.drop (o + ys.length * sz)))) V
    | _ => False

def cmm (f : Int → Int → Int) (x y : CV) (K : CV → Prop) : Prop :=
  match x, y with
  | .v (.int k a), .v (.int k' b) => k = k' ∧ K (.v (.int k (f a b)))
  | _, _ => False

def cindex (P : Program) (t : TypeId) (x i : CV) (K : CV → Prop) : Prop :=
  match x, i with
  | .agg cs, .v (.int _ j) => ∃ len g n, arTy P t = some (len, g, n) ∧ 0 ≤ j ∧ j < len ∧ ld g n cs (j.toNat * n) K
  | .v (.string s), .v (.int _ j) => P.underlying t = some .string ∧ 0 ≤ j ∧ ∃ h : j.toNat < s.size, K (.v (.int .u8 (s[j.toNat].toNat : Int)))
  | _, _ => False

def mpTy (P : Program) (t : TypeId) : Option Value :=
  match P.underlying t with
  | some (.map k e) => (match P.underlying k, (P.info? e).bind (·.zero) with | some (.int .i64), some z => some z | _, _ => none)
  | _ => none

def keyAt (ks : List Int) (n : Int) : Option Nat := ks.findIdx? (· == n)
def zval : Value → CV
  | .agg us => .agg (us.toList.map CV.v)
  | z => .v z
theorem zval_rel {m : Gh} {w : World} {V : List Nat} (z : Value) : RelV m w V (zval z) z := by
  cases z
  case agg us =>
    rw [zval, RelV]
    exact ⟨us.toList, by simp, relL_mk (by simp) fun j c u hc hu => by rw [List.getElem?_map, hu] at hc; cases hc; rw [RelV]⟩
  all_goals (simp only [zval]; rw [RelV])
def mlook (z : Value) (ks : List Int) (vs : List CV) (n : Int) : CV :=
  match keyAt ks n with
  | some i => (vs[i]?).getD .any
  | none => zval z
def mput (ks : List Int) (vs : List CV) (n : Int) (c : CV) : CV :=
  match keyAt ks n with
  | some i => .objm ks (vs.set i c)
  | none => .objm (ks ++ [n]) (vs ++ [c])
def mlk (ok : Bool) (z : Value) (ks : List Int) (vs : List CV) (n : Int) : CV :=
  match ok with
  | false => mlook z ks vs n
  | true => .tup [mlook z ks vs n, .v (.bool (keyAt ks n).isSome)]
def clook (P : Program) (t : TypeId) (x i : CV) (ok : Bool) (H : Hp) (K : CV → Prop) : Prop :=
  ∃ z, mpTy P t = some z ∧ True ∧
  match x, i with
  | .mv b, .v (.int .i64 n) => ∃ ks vs, H[b]? = some (some [.objm ks vs]) ∧ K (mlk ok z ks vs n)
  | _, _ => False
def cmput (P : Program) (t : TypeId) (x i y : CV) (H : Hp) (K : Hp → Prop) : Prop :=
  (mpTy P t).isSome = true ∧ True ∧
  match x, i with
  | .mv b, .v (.int .i64 n) => ∃ ks vs, H[b]? = some (some [.objm ks vs]) ∧ K (H.set b (some [mput ks vs n y]))
  | _, _ => False
def crange (P : Program) (t : TypeId) (x : CV) (H : Hp) (K : CV → Hp → Prop) : Prop :=
  (mpTy P t).isSome = true ∧
  match x with
  | .mv b => ∃ ks vs, H[b]? = some (some [.objm ks vs]) ∧ K (.it H.length) (H ++ [some [.obji b ks.length []]])
  | _ => False
def cnext (x : CV) (str : Bool) (H : Hp) (K : CV → Hp → Prop) : Prop :=
  str = false ∧
  match x with
  | .it q => ∃ b n seen ks vs, H[q]? = some (some [.obji b n seen]) ∧ H[b]? = some (some [.objm ks vs]) ∧ ks.length = n ∧ (∀ i ∈ seen, i < n) ∧
      ((∀ i, i < n → i ∈ seen) → K (.tup [.v (.bool false)]) H) ∧
      ∀ i (h : i < n), i ∉ seen → K (.tup [.v (.bool true), .v (.int .i64 (ks[i]?.getD 0)), (vs[i]?).getD .any]) (H.set q (some [.obji b n (seen ++ [i])]))
  | _ => False
def centry (x : CV) (H : Hp) (K : CV → Prop) : Prop :=
  match x with
  | .it q => ∃ b n seen i ks vs, H[q]? = some (some [.obji b n (seen ++ [i])]) ∧ H[b]? = some (some [.objm ks vs]) ∧ ks.length = n ∧ i < n ∧ K (.tup [.v (.int .i64 (ks[i]?.getD 0)), (vs[i]?).getD .any])
  | _ => False

def cpick (t : Bool) (x y : CV) : CV :=
  match t with
  | true => x
  | false => y

def isZ : Operand → Bool
  | .const (.int _ n) => n == 0
  | _ => false
def cop (P : Program) (ev : Operand → CV) (H : Hp) (V : List Nat) (K : CV → Hp → List Nat → Prop) : Op → Prop
  | .move x => K (ev x) H V
  | .assign x => K (ev x) H V
  | .pick c x y => match ev c with | .v (.bool t) => K (cpick t (ev x) (ev y)) H V | _ => False
  | .alloc e => ∃ zs, zcTy P e = some zs ∧ K (.ptr H.length 0) (H ++ [some (zs.map .v)]) V
  | .box _ x => allOne (ev x).cells = true ∧ K (.ptr H.length 0) (H ++ [some (ev x).cells]) V
  | .load t a => ∃ g n, ldTy P t = some (g, n) ∧
      match ev a with
      | .ptr b o => ∃ cs, H[b]? = some (some cs) ∧ ld g n cs o fun c => K c H V
      | .eptr cs o => ld g n cs o fun c => K c H V
      | _ => False
  | .store t a x => ∃ g n, ldTy P t = some (g, n) ∧
      match ev a with
      | .ptr b o => ∃ cs, H[b]? = some (some cs) ∧ allOne (ev x).cells = true ∧ (ev x).cells.length = n ∧ o + n ≤ cs.length ∧ K .any (H.set b (some (cs.take o ++ (ev x).cells ++ cs.drop (o + n)))) V
      | _ => False
  | .nilCheck x => match ev x with
      | .ptr b o => K (.ptr b o) H V
      | .eptr cs o => K (.eptr cs o) H V
      | .fn f caps => K (.fn f caps) H V
      | .bm f caps => K (.bm f caps) H V
      | .yl b => K (.yl b) H V
      | _ => False
  | .binOp op t x y _ => cbin P op t (ev x) (ev y) fun c => K c H V
  | .unOp op _ x => cun op (ev x) fun c => K c H V
  | .convert s d x => ∃ k, cvTy P s d = some k ∧
      match k, ev x with
      | some k, .v (.int _ n) => K (.v (.int k (k.wrap n))) H V
      | none, .sl _ _ xs => ∃ bs : List UInt8, xs = bs.map u8 ∧ K (.v (.string ⟨bs.toArray⟩)) H V
      | none, .v (.slice none 0 0) => K (.v (.string .empty)) H V
      | _, _ => False
  | .sliceToArrayPointer t x => ∃ n g sz, arTy P t = some (n, g, sz) ∧ match ev x with | .sl _ sz' xs => sz' = sz ∧ n ≤ xs.length ∧ K (.eptr (xs.take n).flatten 0) H V | _ => False
  | .makeFunc fn first captured => match fn, first.toList, captured.toList with
      | .func f, [], _ => K (.fn f (captured.toList.map ev)) H V
      | .func f, _, [] => K (.bm f (first.toList.map ev)) H V
      | _, _, _ => False
  | .slice t x lo hi mx => cslice P t (ev x) (lo.map ev) (hi.map ev) (mx.map ev) fun c => K c H V
  | .fieldAddr s x f => ∃ o g n, fdTy P s f = some (o, g, n) ∧
      match ev x with
      | .ptr b o' => K (.ptr b (o' + o)) H V
      | .eptr cs o' => K (.eptr cs (o' + o)) H V
      | _ => False
  | .field s x f => ∃ o g n, fdTy P s f = some (o, g, n) ∧ match ev x with | .agg cs => ld g n cs o fun c => K c H V | _ => False
  | .indexAddr t x i => cidx P t (ev x) (ev i) fun c => K c H V
  | .index t x i => cindex P t (ev x) (ev i) fun c => K c H V
  | .makeMap t r => r = none ∧ (mpTy P t).isSome = true ∧ K (.mv H.length) (H ++ [some [.objm [] []]]) V
  | .lookup t x i ok => clook P t (ev x) (ev i) ok H fun c => K c H V
  | .mapUpdate t x i y => cmput P t (ev x) (ev i) (ev y) H fun H' => K .any H' V
  | .range t x => crange P t (ev x) H fun c H' => K c H' V
  | .next x str => cnext (ev x) str H fun c H' => K c H' V
  | .entry x => centry (ev x) H fun c => K c H V
  | .extract x i => match ev x with | .tup cs => ∃ h : i < cs.length, K cs[i] H V | _ => False
  | .build t parts => ∃ ps zs cs, bdTy P t = some (ps, zs) ∧ cfill ps (zs.map .v) (parts.toList.map fun p => (p.1, ev p.2)) = some cs ∧ K (.agg cs) H V
  | .buildSlice t len parts => ∃ e sz, slTy P t = some (e, sz) ∧ parts.toList.map (·.1) = List.range len ∧ (parts.toList.all fun p => (ev p.2).cells.length == sz && allOne (ev p.2).cells) = true ∧ len * sz ≤ 1048576 ∧
      K (.sl .ti sz (parts.toList.map fun p => (ev p.2).cells)) H V
  | .makeSlice t l c => ∃ e sz, slTy P t = some (e, sz) ∧ ∃ zs, zcTy P e = some zs ∧
      match isZ l with
      | true => (match ev c with
        | .v (.int _ n) => 0 ≤ n ∧ n ≤ 1099511627776 ∧ K (.sl (.own V.length 0) sz []) H (V ++ [0])
        | _ => False)
      | false => match ev l, ev c with
        | .v (.int _ n), .v (.int _ n') => n = n' ∧ 0 ≤ n ∧ n ≤ 1099511627776 ∧ K (.bsl H.length 0 n.toNat sz) (H ++ [some ((List.replicate n.toNat (zs.map CV.v)).flatten)]) V
        | _, _ => False
  | .call c => match c.callee with
      | .value f => match ev f with
          | .fn g caps => CC P g (c.args.toList.map ev ++ caps) H V K
          | .bm g first => CC P g (first ++ c.args.toList.map ev) H V K
          | .yl b => YC P b (c.args.toList.map ev) H V K
          | _ => False
      | .builtin .copy => ∃ t tx x y, c.argTypes = #[t, tx] ∧ c.args = #[x, y] ∧ ccopy P t tx (ev x) (ev y) H V K
      | .builtin .min => ∃ x y, c.args = #[x, y] ∧ cmm min (ev x) (ev y) fun r => K r H V
      | .builtin .max => ∃ x y, c.args = #[x, y] ∧ cmm max (ev x) (ev y) fun r => K r H V
      | .builtin .len => ∃ t x, c.argTypes = #[t] ∧ c.args = #[x] ∧ clen P t (ev x) fun r => K r H V
      | .builtin .append => ∃ t tx x y, c.argTypes = #[t, tx] ∧ c.args = #[x, y] ∧ capp P t tx (ev x) (ev y) H V K
      | _ => False
  | _ => False
end Go.Proofs.YtpedbpbmnchllaaGreatDoor
namespace Go.Proofs.YtpedbpbmnchllaaGreatDoor

theorem addr_add (k o j : Nat) : (⟨k, o, none⟩ : Addr).add j = ⟨k, o + j, none⟩ := by unfold Addr.add; split <;> simp_all

section
variable {P : Program} {m : Gh} {w : World} {V : List Nat}

theorem relC_vals {k : Nat} : ∀ {cs : List CV} {o : Nat}, RelC m w V k cs o → ∃ us : List Value, RelL m w V cs us ∧ (∀ (j : Nat) u, us[j]? = some u → w.cell? ⟨k, o + j, none⟩ = some u) ∧ ∀ u ∈ us, u.oneCell' = true
  | [], _, _ => ⟨[], by rw [RelL], by simp, by simp⟩
  | c :: cs, o, h => by
    rw [RelC] at h
    obtain ⟨⟨u, h1, h2, h3⟩, h4⟩ := h
    obtain ⟨us, g1, g2, g3⟩ := relC_vals h4
    refine ⟨u :: us, by rw [RelL]; exact ⟨u, us, rfl, h2, g1⟩, fun j x hx => ?_, fun x hx => ?_⟩
    · cases j with
      | zero => simp at hx; subst hx; exact h1
      | succ j => rw [← g2 j x (by simpa using hx)]; congr 2; omega
    · rcases List.mem_cons.1 hx with rfl | hx
      · exact h3
      · exact g3 x hx

theorem relC_drop {k : Nat} {cs : List CV} {a : Nat} (h : RelC m w V k cs a) (o : Nat) : RelC m w V k (cs.drop o) (a + o) :=
  relC_mk fun j c hc => by
    rw [List.getElem?_drop] at hc
    rw [Nat.add_assoc]
    exact relC_get h _ c hc
theorem relC_take {k : Nat} {cs : List CV} {a : Nat} (h : RelC m w V k cs a) (n : Nat) : RelC m w V k (cs.take n) a :=
  relC_mk fun j c hc => by
    rw [List.getElem?_take] at hc
    split at hc
    · exact relC_get h _ c hc
    · cases hc
theorem relE_drop {k sz : Nat} {es : List (List CV)} {a : Nat} (h : RelE m w V k sz es a) (o : Nat) : RelE m w V k sz (es.drop o) (a + o * sz) :=
  relE_mk fun j c hc => by
    rw [List.getElem?_drop] at hc
    have := relE_get h _ c hc
    rwa [Nat.add_mul, ← Nat.add_assoc] at this
theorem relE_take {k sz : Nat} {es : List (List CV)} {a : Nat} (h : RelE m w V k sz es a) (n : Nat) : RelE m w V k sz (es.take n) a :=
  relE_mk fun j c hc => by
    rw [List.getElem?_take] at hc
    split at hc
    · exact relE_get h _ c hc
    · cases hc
theorem relC_append {k : Nat} {cs ds : List CV} {a : Nat} (h : RelC m w V k cs a) (h' : RelC m w V k ds (a + cs.length)) : RelC m w V k (cs ++ ds) a :=
  relC_mk fun j c hc => by
    rw [List.getElem?_append] at hc
    split at hc
    · exact relC_get h _ c hc
    · obtain ⟨u, h1, h2⟩ := relC_get h' _ c hc
      exact ⟨u, by rw [← h1]; congr 2; omega, h2⟩
theorem relE_flat {k sz : Nat} : ∀ {es : List (List CV)} {a : Nat}, RelE m w V k sz es a → RelC m w V k es.flatten a ∧ es.flatten.length = es.length * sz
  | [], _, _ => ⟨by rw [List.flatten_nil, RelC]; trivial, by simp⟩
  | e :: es, a, h => by
    rw [RelE] at h
    obtain ⟨h1, h2, h3⟩ := h
    obtain ⟨g1, g2⟩ := relE_flat h3
    rw [List.flatten_cons]
    exact ⟨relC_append h2 (by rw [h1]; exact g1), by simp [g2, h1, Nat.succ_mul, Nat.add_comm]⟩
theorem relL_drop {cs : List CV} {us : List Value} (h : RelL m w V cs us) (n : Nat) : RelL m w V (cs.drop n) (us.drop n) := by
  have hl := relL_length h
  refine relL_mk (by simp [hl]) fun j c u hc hu => ?_
  rw [List.getElem?_drop] at hc hu
  obtain ⟨x, h1, h2⟩ := relL_get h _ c hc
  rw [h1] at hu; cases hu; exact h2
theorem relL_take {cs : List CV} {us : List Value} (h : RelL m w V cs us) (n : Nat) : RelL m w V (cs.take n) (us.take n) := by
  have hl := relL_length h
  refine relL_mk (by simp [hl]) fun j c u hc hu => ?_
  rw [List.getElem?_take] at hc hu
  split at hc
  · rename_i hj
    rw [if_pos hj] at hu
    obtain ⟨x, h1, h2⟩ := relL_get h _ c hc
    rw [h1] at hu; cases hu; exact h2
  · cases hc

theorem ldTy_some {t : TypeId} {g : Bool} {n : Nat} (h : ldTy P t = some (g, n)) : ∃ d i, P.underlying t = some d ∧ P.info? t = some i ∧ i.size = n ∧ (match d with | .struct _ | .array _ _ => true | _ => false) = g := by
  unfold ldTy at h
  split at h
  · rename_i d hd
    cases hi : P.info? t with
    | none => simp [hi] at h
    | some i => simp [hi] at h; exact ⟨d, i, hd, rfl, h.2, h.1⟩
  · cases h

theorem isAgg_run {t : TypeId} {g : Bool} {n : Nat} (h : ldTy P t = some (g, n)) (w : World) : (isAgg t).run P w = .ok g w := by
  obtain ⟨d, i, hd, _, _, hg⟩ := ldTy_some h
  unfold isAgg
  rw [Sem.run_bind, run_underlying hd w]
  cases d <;> simp_all
theorem sizeOf_run {t : TypeId} {g : Bool} {n : Nat} (h : ldTy P t = some (g, n)) (w : World) : (sizeOf t).run P w = .ok n w := by
  obtain ⟨d, i, _, hi, hs, _⟩ := ldTy_some h
  simp [sizeOf, typeInfo, hi, hs]

theorem ld_run {t : TypeId} {g : Bool} {n : Nat} (ht : ldTy P t = some (g, n)) {k a o : Nat} {cs : List CV} {K : CV → Prop} (hc : RelC m w V k cs a) (h : ld g n cs o K) :
    ∃ c u, (loadVar t ⟨k, a + o, none⟩).run P w = .ok u w ∧ RelV m w V c u ∧ K c := by
  cases g with
  | true =>
    obtain ⟨h1, h2⟩ := h
    obtain ⟨us, g1, g2, g3⟩ := relC_vals (relC_take (relC_drop hc o) n)
    have hl : us.length = n := by rw [relL_length g1]; simp; omega
    refine ⟨_, .agg us.toArray, ?_, ?_, h2⟩
    · have := run_loadCells_list (P := P) w ⟨k, a + o, none⟩ us (fun j v hv => by rw [addr_add]; exact g2 j v hv)
      rw [hl] at this
      simp [loadVar, isAgg_run ht, sizeOf_run ht, this]
    · rw [RelV]; exact ⟨us, rfl, g1⟩
  | false =>
    obtain ⟨h1, h2⟩ := h
    obtain ⟨u, g1, g2, _⟩ := relC_get hc o cs[o] (List.getElem?_eq_getElem h1)
    exact ⟨_, u, by simp [loadVar, isAgg_run ht, load, Sem.run, g1], g2, h2⟩

theorem part_run {t : TypeId} {g : Bool} {n : Nat} (ht : ldTy P t = some (g, n)) {o : Nat} {cs : List CV} {us : List Value} {K : CV → Prop} (hc : RelL m w V cs us) (h : ld g n cs o K) :
    ∃ c u, (part t us.toArray o).run P w = .ok u w ∧ RelV m w V c u ∧ K c := by
  have hl := relL_length hc
  cases g with
  | true =>
    obtain ⟨h1, h2⟩ := h
    refine ⟨_, .agg (us.toArray.extract o (o + n)), by simp [part, isAgg_run ht, sizeOf_run ht], ?_, h2⟩
    rw [RelV]
    exact ⟨(us.drop o).take n, by simp [List.extract], relL_take (relL_drop hc o) n⟩
  | false =>
    obtain ⟨h1, h2⟩ := h
    obtain ⟨u, g1, g2⟩ := relL_get hc o cs[o] (List.getElem?_eq_getElem h1)
    exact ⟨_, u, by simp [part, isAgg_run ht, g1], g2, h2⟩

theorem fdTy_some {s : TypeId} {f o : Nat} {g : Bool} {n : Nat} (h : fdTy P s f = some (o, g, n)) : ∃ fs fd, P.underlying s = some (.struct fs) ∧ fs[f]? = some fd ∧ fd.offset = o ∧ ldTy P fd.type = some (g, n) ∧ n ≠ 0 := by
  unfold fdTy at h
  split at h
  · rename_i fs hs
    cases hf : fs[f]? with
    | none => simp [hf] at h
    | some fd =>
      rcases hl : ldTy P fd.type with _ | ⟨x1, x2⟩
      · simp [hf, hl] at h
      · simp [hf, hl] at h
        obtain ⟨h0, h1, rfl, rfl⟩ := h
        exact ⟨fs, fd, hs, hf, h1, hl, h0⟩
  · cases h

theorem fieldAt_run {s : TypeId} {f o : Nat} {g : Bool} {n : Nat} (h : fdTy P s f = some (o, g, n)) (k a : Nat) : (Instr.fieldAt s (.pointer (some ⟨k, a, none⟩)) f).run P w = .ok (.pointer (some ⟨k, a + o, none⟩)) w := by
  obtain ⟨fs, fd, h1, h2, h3, h4, h5⟩ := fdTy_some h
  simp [Instr.fieldAt, run_underlying h1, h2, Instr.sureAddr, fieldPlace, sizeOf_run h4, h5, addr_add, h3]

theorem field_run {s : TypeId} {f o : Nat} {g : Bool} {n : Nat} (h : fdTy P s f = some (o, g, n)) {cs : List CV} {us : List Value} {K : CV → Prop} (hc : RelL m w V cs us) (hl : ld g n cs o K) :
    ∃ c u, (Instr.field s (.agg us.toArray) f).run P w = .ok u w ∧ RelV m w V c u ∧ K c := by
  obtain ⟨fs, fd, h1, h2, h3, h4, h5⟩ := fdTy_some h
  obtain ⟨c, u, g1, g2, g3⟩ := part_run (P := P) h4 hc hl
  exact ⟨c, u, by simp [Instr.field, run_underlying h1, h2, asAgg, h3, g1], g2, g3⟩

theorem arTy_some {t : TypeId} {len : Nat} {g : Bool} {n : Nat} (h : arTy P t = some (len, g, n)) : ∃ e, P.underlying t = some (.array len e) ∧ ldTy P e = some (g, n) ∧ n ≠ 0 ∧ 1 < len := by
  unfold arTy at h
  split at h
  · rename_i l e hs
    rcases hl : ldTy P e with _ | ⟨x1, x2⟩
    · simp [hl] at h
    · simp [hl] at h
      obtain ⟨⟨h0, h0'⟩, rfl, rfl, rfl⟩ := h
      exact ⟨e, hs, hl, h0, h0'⟩
  · cases h

theorem slTy_some {t e : TypeId} {sz : Nat} (h : slTy P t = some (e, sz)) : ∃ i z, P.underlying t = some (.slice e) ∧ P.info? e = some i ∧ i.size = sz ∧ 0 < sz ∧ 0 < i.bytes ∧ i.bytes ≤ 128 ∧ i.zero = some z ∧ z.cells.size = sz := by
  unfold slTy at h
  split at h
  · rename_i e' hs
    cases hi : P.info? e' with
    | none => simp [hi] at h
    | some i =>
      cases hz : i.zero with
      | none => simp [hi, hz] at h
      | some z =>
        simp [hi, hz] at h
        obtain ⟨⟨⟨⟨h1, h2⟩, h3⟩, h4⟩, rfl, rfl⟩ := h
        exact ⟨i, z, hs, hi, rfl, h1, h2, h3, hz, h4⟩
  · cases h

theorem slSize_run {t e : TypeId} {sz : Nat} (h : slTy P t = some (e, sz)) (w : World) : (sizeOf e).run P w = .ok sz w := by
  obtain ⟨i, z, _, hi, hs, _⟩ := slTy_some h
  simp [sizeOf, typeInfo, hi, hs]

theorem sl2 {t : TypeId} {sz : Nat} (h : (slTy P t).map (·.2) = some sz) : ∃ e, slTy P t = some (e, sz) := by
  cases hs : slTy P t with
  | none => simp [hs] at h
  | some x => simp [hs] at h; exact ⟨x.1, by rw [← h]⟩
theorem sl1 {t : TypeId} (h : (slTy P t).isSome = true) : ∃ e sz, slTy P t = some (e, sz) := by
  obtain ⟨x, hx⟩ := Option.isSome_iff_exists.1 h
  exact ⟨x.1, x.2, hx⟩

theorem indexAt_sl {t e : TypeId} {sz : Nat} (h : slTy P t = some (e, sz)) (k a len cap : Nat) (ik : IntKind) (i : Int) (h0 : 0 ≤ i) (h1 : i < len) :
    (Instr.indexAt t (.slice (some ⟨k, a, none⟩) len cap) (.int ik i)).run P w = .ok (.pointer (some ⟨k, a + i.toNat * sz, none⟩)) w := by
  obtain ⟨_, _, hu, _⟩ := slTy_some h
  simp [Instr.indexAt, asIntOf, run_underlying hu, h0, h1, slSize_run h, addr_add]
theorem indexAt_ar {t : TypeId} {len : Nat} {g : Bool} {n : Nat} (h : arTy P t = some (len, g, n)) (k a : Nat) (ik : IntKind) (i : Int) (h0 : 0 ≤ i) (h1 : i < len) :
    (Instr.indexAt t (.pointer (some ⟨k, a, none⟩)) (.int ik i)).run P w = .ok (.pointer (some ⟨k, a + i.toNat * n, none⟩)) w := by
  obtain ⟨e, hu, hl, _⟩ := arTy_some h
  simp [Instr.indexAt, asIntOf, run_underlying hu, h0, h1, Instr.sureAddr, sizeOf_run hl, addr_add]

theorem ibin_run {op : BinOp} {t : TypeId} {k k' : IntKind} {a b : Int} {K : CV → Prop} (hk : sameK op k k') (h : ibin op k a b K) :
    ∃ x, (binOp op t (.int k a) (.int k' b)).run P w = .ok x w ∧ K (.v x) := by
  cases op <;> simp only [sameK] at hk <;> (try subst hk) <;> simp only [ibin] at h
  case add => exact ⟨_, by simp [binOp, Op.intArith], h⟩
  case sub => exact ⟨_, by simp [binOp, Op.intArith], h⟩
  case mul => exact ⟨_, by simp [binOp, Op.intArith], h⟩
  case quo => exact ⟨_, by simp [binOp, Op.intDiv, h.1], h.2⟩
  case rem => exact ⟨_, by simp [binOp, Op.intDiv, h.1], h.2⟩
  case and => exact ⟨_, by simp only [binOp, Op.intBits]; simp; rfl, h⟩
  case or => exact ⟨_, by simp only [binOp, Op.intBits]; simp; rfl, h⟩
  case xor => exact ⟨_, by simp only [binOp, Op.intBits]; simp; rfl, h⟩
  case andNot => exact ⟨_, by simp only [binOp, ne_eq, not_true_eq_false, ↓reduceIte, Op.intBits]; rfl, h⟩
  case shl => exact ⟨_, by have : ¬ b < 0 := by omega
                           simp [binOp, Op.shift, this, Go.Proofs.YtpedbpbmnchllaaGreatDoor.shl], h.2⟩
  case shr => exact ⟨_, by have : ¬ b < 0 := by omega
                           simp [binOp, Op.shift, this, Go.Proofs.YtpedbpbmnchllaaGreatDoor.shr], h.2⟩
  case eql => exact ⟨.bool (decide (a = b)), by simp [binOp, Op.intCmp]; rfl, h⟩
  case neq => exact ⟨.bool (!decide (a = b)), by simp [binOp, Op.intCmp, bne]; rfl, h⟩
  case lss => exact ⟨_, by simp [binOp, Op.intCmp], h⟩
  case leq => exact ⟨_, by simp [binOp, Op.intCmp], h⟩
  case gtr => exact ⟨_, by simp [binOp, Op.intCmp], h⟩
  case geq => exact ⟨_, by simp [binOp, Op.intCmp], h⟩

end
end Go.Proofs.YtpedbpbmnchllaaGreatDoor
namespace Go.Proofs.YtpedbpbmnchllaaGreatDoor

section
variable {P : Program} {m : Gh} {w : World} {H : Hp} {V : List Nat}

theorem chunks_length (sz : Nat) : ∀ (n : Nat) (cs : List CV), (chunks sz n cs).length = n
  | 0, _ => rfl
  | n + 1, cs => by simp [chunks, chunks_length sz n]
theorem chunks_flatten (sz : Nat) : ∀ (n : Nat) (cs : List CV), (chunks sz n cs).flatten = cs.take (n * sz)
  | 0, _ => by simp [chunks]
  | n + 1, cs => by
    rw [chunks, List.flatten_cons, chunks_flatten sz n, Nat.succ_mul, Nat.add_comm (n * sz)]
    rw [List.take_add]
theorem chunks_get (sz : Nat) : ∀ (n : Nat) (cs : List CV) (j : Nat) (e : List CV), n * sz ≤ cs.length → (chunks sz n cs)[j]? = some e → e.length = sz
  | 0, _, _, _, _, h => by simp [chunks] at h
  | n + 1, cs, j, e, hl, h => by
    rw [Nat.succ_mul] at hl
    cases j with
    | zero => simp [chunks] at h; subst h; simp; omega
    | succ j => exact chunks_get sz n (cs.drop sz) j e (by simp; omega) (by simpa [chunks] using h)

theorem csrc_run {tx e' : TypeId} {sz sz' : Nat} (ht : slTy P tx = some (e', sz')) (hsz : 0 < sz) (hi : Inv m w H V) {y : CV} {u : Value} (hu : RelV m w V y u) {K : List (List CV) → Prop} (h : csrc H sz y K) :
    ∃ (ys : List (List CV)) (news : List Value), K ys ∧ Src P sz tx u ys.length news w ∧ RelL m w V ys.flatten news ∧ ∀ (j : Nat) e, ys[j]? = some e → e.length = sz := by
  obtain ⟨_, _, hk, _⟩ := slTy_some ht
  have src0 : ∀ (base : Option Addr) (cap : Nat), Src P sz tx (.slice base 0 cap) 0 [] w := fun base cap => by
    cases base with
    | none => exact Src.ofNil (P := P) w hk cap
    | some a => exact Src.ofSlice (P := P) w hk a 0 cap [] (by simp) (by simp) (by simp)
  cases y <;> simp only [csrc] at h
  case sl tk sz0 ys =>
    obtain ⟨rfl, h⟩ := h
    rw [RelV] at hu
    obtain ⟨base, cap, rfl, h1, h2, h3, h4⟩ := hu
    rcases h4 with rfl | ⟨k, o, rfl, h5, h6⟩
    · exact ⟨[], [], h, src0 base cap, by rw [List.flatten_nil, RelL], by simp⟩
    · obtain ⟨g1, g2⟩ := relE_flat h6
      obtain ⟨us, q1, q2, q3⟩ := relC_vals g1
      exact ⟨ys, us, h, Src.ofSlice (P := P) w hk ⟨k, o, none⟩ _ cap us (by rw [relL_length q1, g2]) (fun j u hu => by rw [addr_add]; exact q2 j u hu) q3, q1, fun j e he => (relE_get h6 j e he).1⟩
  case v x =>
    split at h
    · rename_i he; cases he
    · rename_i he
      cases he
      rw [RelV] at hu; subst hu
      exact ⟨[], [], h, src0 none 0, by rw [List.flatten_nil, RelL], by simp⟩
    · rename_i he; cases he
    · exact h.elim
  case bsl b o n sz0 =>
    obtain ⟨rfl, cs, hb, hl, h⟩ := h
    rw [RelV] at hu
    obtain ⟨base, cap, k, rfl, h1, h2, hk', h3, hrow⟩ := hu
    rcases h3 with rfl | rfl
    · exact ⟨[], [], by simpa [chunks] using h, src0 base cap, by rw [List.flatten_nil, RelL], by simp⟩
    · obtain ⟨c, e, g2, g3, g4, g5⟩ := hi.alive hb hk' hrow
      obtain ⟨us, q1, q2, q3⟩ := relC_vals (relC_take (relC_drop g5 o) (n * sz0))
      refine ⟨_, us, h, ?_, by rw [chunks_flatten]; exact q1, fun j e he => chunks_get sz0 n _ j e (by simp; omega) he⟩
      rw [chunks_length]
      refine Src.ofSlice (P := P) w hk ⟨k, o, none⟩ _ cap us (by rw [relL_length q1]; simp; omega) (fun j u hu => ?_) q3
      rw [addr_add]
      simpa using q2 j u hu

theorem run_append_zero {t tx ty e : TypeId} {i : TypeInfo} (ht : P.underlying t = some (.slice e)) (hi : P.info? e = some i) (base : Option Addr) (len cap : Nat) (hc : len ≤ cap) {u : Value} (hs : Src P i.size tx u 0 [] w) :
    (Builtin.append_ #[t, tx] ty #[.slice base len cap, u]).run P w = .ok (.slice base len cap) w := by
  cases base <;> rcases hs.kind with ⟨e', hk⟩ | hk <;> simp [Builtin.append_, run_underlying ht, run_underlying hk, sizeOf, typeInfo, hi, hs.len, hc, hs.cells, storeCells]

theorem run_append_place {t tx ty e : TypeId} {i : TypeInfo} (ht : P.underlying t = some (.slice e)) (hi : P.info? e = some i) (k o len cap : Nat) {c : Array Value} {ec : TypeId} (hc : w.heap[k]? = some (.cells c ec (0, 0)))
    {u : Value} {n : Nat} {news : List Value} (hs : Src P i.size tx u n news w) (hr : len + n ≤ cap) (hf : o + len * i.size + news.length ≤ c.size) :
    (Builtin.append_ #[t, tx] ty #[.slice (some ⟨k, o, none⟩) len cap, u]).run P w =
      .ok (.slice (some ⟨k, o, none⟩) (len + n) cap) (w.setRow k (c.toList.take (o + len * i.size) ++ news ++ c.toList.drop (o + len * i.size + news.length)).toArray) := by
  have hst := run_storeCells_at P k (o + len * i.size) ec news 0 c w hc (by simpa using hf) hs.one
  simp only [Nat.add_zero] at hst
  rcases hs.kind with ⟨e', hk⟩ | hk <;> simp [Builtin.append_, run_underlying ht, run_underlying hk, sizeOf, typeInfo, hi, hs.len, hr, hs.cells, addr_add, hst]

structure SrcG (P : Program) (t tx ty e : TypeId) (i : TypeInfo) (z : Value) (u : Value) (n : Nat) (news : List Value) (w : World) : Prop where
  newsLen : news.length = n * i.size
  one : ∀ x ∈ news, x.oneCell' = true
  zero : n = 0 → ∀ (base : Option Addr) (len cap : Nat), len ≤ cap → (Builtin.append_ #[t, tx] ty #[.slice base len cap, u]).run P w = .ok (.slice base len cap) w
  place : ∀ (k o len cap : Nat) (c : Array Value) (ec : TypeId), w.heap[k]? = some (.cells c ec (0, 0)) → len + n ≤ cap → o + len * i.size + news.length ≤ c.size →
    (Builtin.append_ #[t, tx] ty #[.slice (some ⟨k, o, none⟩) len cap, u]).run P w =
      .ok (.slice (some ⟨k, o, none⟩) (len + n) cap) (w.setRow k (c.toList.take (o + len * i.size) ++ news ++ c.toList.drop (o + len * i.size + news.length)).toArray)
  grow : ∀ (base : Option Addr) (sLen sCap : Nat) (olds : List Value), (Builtin.firstCells i.size sLen (.slice base sLen sCap)).run P w.drew = .ok olds.toArray w.drew → sLen ≤ sCap → sCap < sLen + n → sLen + n ≤ 1099511627776 →
    (Builtin.append_ #[t, tx] ty #[.slice base sLen sCap, u]).run P w =
      .ok (.slice (some ⟨w.heap.size, 0, none⟩) (sLen + n) (grownCap w (sLen + n) sCap e))
        (w.drew.alloc (.cells ((olds ++ news).toArray ++ Builtin.zeroCells z.cells (grownCap w (sLen + n) sCap e - (sLen + n))) e))
theorem SrcG.of_src {t tx ty e : TypeId} {i : TypeInfo} {z : Value} (hu : P.underlying t = some (.slice e)) (hinf : P.info? e = some i) (hz : i.zero = some z) (hb1 : i.bytes ≤ 128) {u : Value} {n : Nat} {news : List Value} (hs : Src P i.size tx u n news w) : SrcG P t tx ty e i z u n news w where
  newsLen := hs.newsLen
  one := hs.one
  zero h base len cap hc := by
    subst h
    have hn : news = [] := by rw [← List.length_eq_zero_iff, hs.newsLen]; simp
    subst hn
    exact run_append_zero hu hinf base len cap hc hs
  place k o len cap c ec hc hr hf := run_append_place hu hinf k o len cap hc hs hr hf
  grow base sLen sCap olds ho _ hg hbd := by
    have hfit : (sLen + n) * i.bytes ≤ 140737488355328 := Nat.le_trans (Nat.mul_le_mul hbd hb1) (by decide)
    exact run_append_grow_src (P := P) w t tx ty e i z hu hinf hz base sLen sCap olds ho u n news hs hg (by omega) (growslice_fits hg hfit)
theorem zeros_list (l : List Value) : ∀ (j : Nat), (List.range (j * l.length)).map (fun x => l.toArray[x % l.length]!) = (List.replicate j l).flatten
  | 0 => by simp
  | j + 1 => by
    rw [Nat.succ_mul, List.range_add, List.map_append, zeros_list l j, List.replicate_succ', List.flatten_append]
    congr 1
    simp only [List.map_map, List.flatten_cons, List.flatten_nil, List.append_nil]
    apply List.ext_getElem (by simp)
    intro k h1 h2
    simp at h1
    simp [Nat.add_comm, Nat.add_mul_mod_self_right, Nat.mod_eq_of_lt h1, h1]
theorem zeroCells_list (z : Value) (n : Nat) : (Builtin.zeroCells z.cells n).toList = (List.replicate n z.cells.toList).flatten := by
  rw [← zeros_list]
  simp [Builtin.zeroCells]
theorem SrcG.of_int {t tx ty e : TypeId} {i : TypeInfo} {z : Value} {k : IntKind} (hu : P.underlying t = some (.slice e)) (hinf : P.info? e = some i) (hz : i.zero = some z) (hzs : z.cells.size = i.size) (hpos : 0 < i.size) (hb0 : 0 < i.bytes) (hb1 : i.bytes ≤ 128) (hx : azTy P tx = true) (hone : ∀ x ∈ z.cells.toList, x.oneCell' = true) {n : Int} (h0 : 0 ≤ n) (hn : n ≤ 1099511627776) :
    SrcG P t tx ty e i z (.int k n) n.toNat (List.replicate n.toNat z.cells.toList).flatten w := by
  obtain ⟨k', hk⟩ : ∃ k', P.underlying tx = some (.int k') := by
    unfold azTy at hx
    split at hx
    · rename_i k' h; exact ⟨k', h⟩
    · cases hx
  have hnl : (List.replicate n.toNat z.cells.toList).flatten.length = n.toNat * i.size := by simp [hzs]
  have w1 : IntKind.i64.wrap n = n := IntWalk.i64_in _ ⟨by omega, by omega⟩
  have h1 : (List.replicate n.toNat z.cells.toList).flatten.toArray = Builtin.zeroCells z.cells n.toNat := by rw [← zeroCells_list]
  have h48 : ¬ (281474976710656 < n * (i.bytes : Int)) := by
    have := Int.mul_le_mul hn (show (i.bytes : Int) ≤ 128 by omega) (by omega) (by omega)
    omega
  have hn0 : ¬ n < 0 := by omega
  have hz0 : n.toNat = 0 ∨ ¬ (n.toNat * i.size = 0) := by
    rcases Nat.eq_zero_or_pos n.toNat with h | h
    · exact .inl h
    · exact .inr (by have := Nat.mul_pos h hpos; omega)
  refine ⟨hnl, fun x hx => ?_, fun h base len cap hc => ?_, fun kk o len cap c ec hc hr hf => ?_, fun base sLen sCap olds ho hsc hg hbd => ?_⟩
  · obtain ⟨l, hl, hxl⟩ := List.mem_flatten.1 hx
    rw [(List.mem_replicate.1 hl).2] at hxl
    exact hone x hxl
  · have ez : (List.replicate n.toNat z.cells.toList).flatten = [] := by rw [h]; rfl
    cases base <;> simp [Builtin.append_, run_underlying hu, run_underlying hk, sizeOf, typeInfo, hinf, asInt, asIntOf, w1, hn0, h48, h, hc, storeCells]
  · have hst := run_storeCells_at P kk (o + len * i.size) ec (List.replicate n.toNat z.cells.toList).flatten 0 c w hc (by simpa using hf) (fun x hx => by
      obtain ⟨l, hl, hxl⟩ := List.mem_flatten.1 hx
      rw [(List.mem_replicate.1 hl).2] at hxl
      exact hone x hxl)
    simp only [Nat.add_zero] at hst
    rcases hz0 with h | h
    · have ez : (List.replicate n.toNat z.cells.toList).flatten = [] := by rw [h]; rfl
      rw [ez] at hst ⊢
      have hst' : w = w.setRow kk (c.toList.take (o + len * i.size) ++ [] ++ c.toList.drop (o + len * i.size + ([] : List Value).length)).toArray := by
        simp only [storeCells, Sem.run_pure] at hst
        injection hst
      rw [← hst']
      have hr' : len ≤ cap := by omega
      simp [Builtin.append_, run_underlying hu, run_underlying hk, sizeOf, typeInfo, hinf, asInt, asIntOf, w1, hn0, h48, h, hr', storeCells, addr_add]
    · simp [Builtin.append_, run_underlying hu, run_underlying hk, sizeOf, typeInfo, hinf, asInt, asIntOf, w1, hn0, h48, h, hr, addr_add, zeroValue, hz, zeroCells_list, hst]
  · have h63' : ¬ (9223372036854775807 < ((sLen : Int) + max n 0)) := by omega
    have hfit : (sLen + n.toNat) * i.bytes ≤ 140737488355328 := Nat.le_trans (Nat.mul_le_mul hbd hb1) (by decide)
    have hff := growslice_fits hg hfit
    have h48' : ¬ (281474976710656 < Builtin.nextslicecap (sLen + n.toNat) sCap * i.bytes) := by omega
    have hng : ¬ (sLen + n.toNat ≤ sCap) := by omega
    have hnz : ¬ (n.toNat * i.size = 0) := by
      have := Nat.mul_pos (show 0 < n.toNat by omega) hpos
      omega
    simp [Builtin.append_, run_underlying hu, run_underlying hk, sizeOf, typeInfo, zeroValue, hinf, hz, asInt, asIntOf, w1, hn0, h48, hng, h63', h48', Question.forced, ho, newRow, grownCap, hnz]
    rw [show (olds ++ (List.replicate n.toNat z.cells.toList).flatten).toArray = olds.toArray ++ Builtin.zeroCells z.cells n.toNat by rw [← h1]; simp, Array.append_assoc]

theorem relE_append {k sz : Nat} {es fs : List (List CV)} {a : Nat} (h : RelE m w V k sz es a) (h' : RelE m w V k sz fs (a + es.length * sz)) : RelE m w V k sz (es ++ fs) a :=
  relE_mk fun j c hc => by
    rw [List.getElem?_append] at hc
    split at hc
    · exact relE_get h _ c hc
    · rename_i hj
      have := relE_get h' _ c hc
      rw [Nat.add_assoc, ← Nat.add_mul] at this
      rwa [show es.length + (j - es.length) = j from by omega] at this

theorem relE_of_flat {k sz : Nat} : ∀ {es : List (List CV)} {a : Nat}, (∀ (j : Nat) e, es[j]? = some e → e.length = sz) → RelC m w V k es.flatten a → RelE m w V k sz es a
  | [], _, _, _ => by rw [RelE]; trivial
  | e :: es, a, hl, h => by
    rw [RelE]
    have h0 := hl 0 e rfl
    rw [List.flatten_cons] at h
    refine ⟨h0, ?_, relE_of_flat (fun j x hx => hl (j + 1) x (by simpa using hx)) ?_⟩
    · have := relC_take h e.length
      simpa using this
    · have := relC_drop h e.length
      rw [h0] at this
      simpa [h0] using this

theorem relC_row {m' : Gh} {w' : World} {V' : List Nat} (hx : Ext m w V m' w' V') {k a : Nat} {c : Array Value} {e : TypeId} {fr : Nat × Nat} (hc : w'.heap[k]? = some (.cells c e fr)) {cs : List CV} {us : List Value} (hr : RelL m w V cs us)
    (h1 : ∀ u ∈ us, u.oneCell' = true) (hat : ∀ (j : Nat), j < us.length → c[a + j]? = us[j]?) : RelC m' w' V' k cs a :=
  relC_mk fun j x hj => by
    obtain ⟨u, q1, q2⟩ := relL_get hr j x hj
    exact ⟨u, by rw [cell_of_row w' _ _ c e fr hc, hat j (List.getElem?_eq_some_iff.1 q1).1]; exact q1, RelV.mono hx _ _ q2, h1 u (List.mem_of_getElem? q1)⟩

theorem zcTy_some' {t : TypeId} {zs : List Value} (h : zcTy P t = some zs) : ∃ i z, P.info? t = some i ∧ i.zero = some z ∧ z.cells.toList = zs ∧ ∀ u ∈ zs, u.oneCell' = true := by
  unfold zcTy at h
  cases hi : P.info? t with
  | none => simp [hi] at h
  | some i =>
    cases hz : i.zero with
    | none => simp [hi, hz] at h
    | some z =>
      simp only [hi, hz, Option.bind_some, Option.ite_none_right_eq_some, Option.some.injEq] at h
      obtain ⟨h1, rfl⟩ := h
      exact ⟨i, z, rfl, hz, rfl, fun u hu => List.all_eq_true.1 h1 u hu⟩
theorem relL_vals' : ∀ (zs : List Value), RelL m w V (zs.map CV.v) zs
  | [] => by rw [List.map_nil, RelL]
  | z :: zs => by rw [List.map_cons, RelL]; exact ⟨z, zs, rfl, by rw [RelV], relL_vals' zs⟩
theorem asrc_run {t tx ty e : TypeId} {i : TypeInfo} {z : Value} (hu : P.underlying t = some (.slice e)) (hinf : P.info? e = some i) (hz : i.zero = some z) (hzs : z.cells.size = i.size) (hpos : 0 < i.size) (hb0 : 0 < i.bytes) (hb1 : i.bytes ≤ 128)
    (hi : Inv m w H V) {y : CV} {u : Value} (hy : RelV m w V y u) {K : List (List CV) → Prop} (h : asrc P H tx e i.size y K) :
    ∃ (ys : List (List CV)) (news : List Value), K ys ∧ SrcG P t tx ty e i z u ys.length news w ∧ RelL m w V ys.flatten news ∧ ∀ (j : Nat) e, ys[j]? = some e → e.length = i.size := by
  have sl : (slTy P tx).isSome = true ∧ csrc H i.size y K → ∃ (ys : List (List CV)) (news : List Value), K ys ∧ SrcG P t tx ty e i z u ys.length news w ∧ RelL m w V ys.flatten news ∧ ∀ (j : Nat) e, ys[j]? = some e → e.length = i.size := fun ⟨htx, h⟩ => by
    obtain ⟨ex, szx, htx⟩ := sl1 htx
    obtain ⟨ys, news, hK, hsrc, hnews, hlen⟩ := csrc_run htx hpos hi hy h
    exact ⟨ys, news, hK, .of_src hu hinf hz hb1 hsrc, hnews, hlen⟩
  unfold asrc at h
  split at h
  · rename_i k n
    obtain ⟨hx, h0, hn, zs, hzc, hk⟩ := h
    rw [RelV] at hy; subst hy
    obtain ⟨i', z', q1, q2, q3, q4⟩ := zcTy_some' hzc
    rw [hinf] at q1; cases q1
    rw [hz] at q2; cases q2
    subst q3
    refine ⟨_, (List.replicate n.toNat z.cells.toList).flatten, hk, ?_, ?_, fun j e he => ?_⟩
    · rw [List.length_replicate]
      exact .of_int hu hinf hz hzs hpos hb0 hb1 hx q4 h0 hn
    · have hfl : (List.replicate n.toNat (z.cells.toList.map CV.v)).flatten = ((List.replicate n.toNat z.cells.toList).flatten).map CV.v := by
        rw [List.map_flatten]; simp
      rw [hfl]; exact relL_vals' _
    · rw [List.getElem?_replicate] at he
      split at he
      · cases he; simp [hzs]
      · cases he
  · exact sl h
theorem capp_run {t tx ty : TypeId} (hi : Inv m w H V) {x y : CV} {u uy : Value} (hx : RelV m w V x u) (hy : RelV m w V y uy) {K : CV → Hp → List Nat → Prop} (h : capp P t tx x y H V K) :
    ∃ u' w' m' c H' V', (Builtin.append_ #[t, tx] ty #[u, uy]).run P w = .ok u' w' ∧ K c H' V' ∧ Inv m' w' H' V' ∧ RelV m' w' V' c u' ∧ Ext m w V m' w' V' := by
  obtain ⟨e, sz, ht, h⟩ := h
  obtain ⟨i, z, hu, hinf, hsz, hpos, hb0, hb1, hz, hzs⟩ := slTy_some ht
  subst hsz
  obtain ⟨ys, news, hK, hsrc, hnews, hlen⟩ := asrc_run (ty := ty) hu hinf hz hzs hpos hb0 hb1 hi hy h
  clear h
  have hnl := hsrc.newsLen
  have old : ∀ (xs : List (List CV)) (base : Option Addr) (cap : Nat), (xs = [] ∨ ∃ k o, base = some ⟨k, o, none⟩ ∧ o + xs.length * i.size ≤ m.lim k ∧ RelE m w V k i.size xs o) →
      ∃ olds : List Value, (Builtin.firstCells i.size xs.length (.slice base xs.length cap)).run P w.drew = .ok olds.toArray w.drew ∧ RelL m w V xs.flatten olds ∧ (∀ u ∈ olds, u.oneCell' = true) ∧ olds.length = xs.length * i.size ∧
        ∀ (j : Nat) e, xs[j]? = some e → e.length = i.size := by
    intro xs base cap h
    rcases h with rfl | ⟨k, o, rfl, h1, h2⟩
    · refine ⟨[], ?_, by rw [List.flatten_nil, RelL], by simp, by simp, by simp⟩
      cases base with
      | none => exact run_firstCells_none w.drew i.size 0 0 cap
      | some a => exact run_firstCells_some w.drew i.size 0 a 0 cap [] (by simp) (by simp)
    · obtain ⟨g1, g2⟩ := relE_flat h2
      obtain ⟨us, q1, q2, q3⟩ := relC_vals g1
      exact ⟨us, run_firstCells_some w.drew i.size xs.length ⟨k, o, none⟩ xs.length cap us (by rw [relL_length q1, g2]) (fun j u hu => by rw [addr_add]; exact q2 j u hu), q1, q3, by rw [relL_length q1, g2], fun j e he => (relE_get h2 j e he).1⟩
  have grow : ∀ (xs : List (List CV)) (base : Option Addr) (cap : Nat) (olds : List Value), (Builtin.firstCells i.size xs.length (.slice base xs.length cap)).run P w.drew = .ok olds.toArray w.drew → olds.length = xs.length * i.size →
      xs.length ≤ cap → cap < xs.length + ys.length → xs.length + ys.length ≤ 1099511627776 →
      ∃ (c : Array Value) (cap' : Nat), (Builtin.append_ #[t, tx] ty #[.slice base xs.length cap, uy]).run P w = .ok (.slice (some ⟨w.heap.size, 0, none⟩) (xs.length + ys.length) cap') (w.drew.alloc (.cells c e)) ∧
        xs.length + ys.length ≤ cap' ∧ cap' * i.size ≤ c.size ∧ ∀ j, j < olds.length + news.length → c[j]? = (olds ++ news)[j]? := by
    intro xs base cap olds ho hol hsc hg hbd
    have hrun := hsrc.grow base xs.length cap olds ho hsc hg hbd
    refine ⟨_, _, hrun, grownCap_ge _ _ _ _, ?_, fun j hj => ?_⟩
    · have hge := grownCap_ge w (xs.length + ys.length) cap e
      simp only [Array.size_append, List.size_toArray, List.length_append, size_zeroCells, hzs, hol, hnl, ← Nat.add_mul]
      rw [Nat.add_sub_cancel' hge]
      exact Nat.le_refl _
    · rw [Array.getElem?_append_left (by simp; omega)]
      simp
  have elems : ∀ (xs : List (List CV)) (olds : List Value) (c : Array Value) (m' : Gh) (w' : World) (V' : List Nat), Ext m w V m' w' V' → w'.heap[w.heap.size]? = some (.cells c e (0, 0)) → RelL m w V xs.flatten olds → (∀ u ∈ olds, u.oneCell' = true) →
      (∀ (j : Nat) e, xs[j]? = some e → e.length = i.size) → (∀ j, j < olds.length + news.length → c[j]? = (olds ++ news)[j]?) → RelE m' w' V' w.heap.size i.size (xs ++ ys) 0 := by
    intro xs olds c m' w' V' hx hc hr h1 hl hat
    refine relE_of_flat (fun j x hj => ?_) ?_
    · rw [List.getElem?_append] at hj
      split at hj
      · exact hl _ x hj
      · exact hlen _ x hj
    · rw [List.flatten_append]
      refine relC_row hx hc (relL_append hr hnews) (fun u hu => ?_) (fun j hj => ?_)
      · rcases List.mem_append.1 hu with hu | hu
        · exact h1 u hu
        · exact hsrc.one u hu
      · rw [Nat.zero_add]; exact hat j (by simpa using hj)
  have tight : ∀ (xs : List (List CV)) (base : Option Addr), (xs = [] ∨ ∃ k o, base = some ⟨k, o, none⟩ ∧ o + xs.length * i.size ≤ m.lim k ∧ RelE m w V k i.size xs o) → xs.length + ys.length ≤ 1099511627776 →
      K (.sl (.own V.length 0) i.size (xs ++ ys)) H (V ++ [0]) →
      ∃ u' w' m' c H' V', (Builtin.append_ #[t, tx] ty #[.slice base xs.length xs.length, uy]).run P w = .ok u' w' ∧ K c H' V' ∧ Inv m' w' H' V' ∧ RelV m' w' V' c u' ∧ Ext m w V m' w' V' := by
    intro xs base hb hbd hk
    obtain ⟨olds, o1, o2, o3, o4, o5⟩ := old xs base xs.length hb
    by_cases hn : ys.length = 0
    · have hys : ys = [] := List.length_eq_zero_iff.1 hn
      subst hys
      have hnews0 : news = [] := by rw [← List.length_eq_zero_iff, hnl]; simp
      subst hnews0
      obtain ⟨s1, s2⟩ := step_tok hi
      refine ⟨_, _, _, _, _, _, hsrc.zero rfl base xs.length xs.length (Nat.le_refl _), hk, s1, ?_, s2⟩
      rw [RelV]
      refine ⟨base, xs.length, by simp, by simp, ⟨0, by simp, Nat.le_refl _, fun _ => .inl (by simp)⟩, hpos, ?_⟩
      rcases hb with rfl | ⟨k, o, rfl, h1, h2⟩
      · exact .inl (by simp)
      · exact .inr ⟨k, o, rfl, by simpa using Nat.le_trans h1 (s2.lim k), by simpa using RelE.mono s2 k i.size xs o h1 h2⟩
    · obtain ⟨c, cap', g1, g2, g3, g4⟩ := grow xs base xs.length olds o1 o4 (Nat.le_refl _) (by omega) hbd
      have hsize : (xs.length + ys.length) * i.size ≤ c.size := Nat.le_trans (Nat.mul_le_mul_right _ g2) g3
      have hp := Pushed.drewAlloc w (.cells c e)
      obtain ⟨s1, s2⟩ := step_fresh hi hp ((xs.length + ys.length) * i.size) hsize
      refine ⟨_, _, _, _, _, _, g1, hk, s1, ?_, s2⟩
      rw [RelV]
      refine ⟨_, cap', by simp, by simpa using g2, ⟨0, by simp, Nat.le_refl _, fun _ => .inr ⟨w.heap.size, 0, c, e, rfl, ?_, ?_, hp.new, by simpa using g3⟩⟩, hpos, .inr ⟨w.heap.size, 0, rfl, ?_, elems xs olds c _ _ _ s2 hp.new o2 o3 o5 g4⟩⟩
      · simp [← hi.tiplen]
      · simp
      · simp
  cases x
  case any => exact False.elim hK
  case agg => exact False.elim hK
  case tup => exact False.elim hK
  case bsl => exact False.elim hK
  case ptr => exact False.elim hK
  case eptr => exact False.elim hK
  case fn => exact False.elim hK
  case bm => exact False.elim hK
  case yl => exact False.elim hK
  case mv => exact False.elim hK
  case it => exact False.elim hK
  case objl => exact False.elim hK
  case objm => exact False.elim hK
  case obji => exact False.elim hK
  case bsa b n sz' =>
    obtain ⟨rfl, hbd, cs, hb, hcl, hk⟩ := hK
    rw [RelV] at hx
    obtain ⟨k, cap, c, ec, rfl, h1, h2, hbk, hc, hcap⟩ := hx
    obtain ⟨c', e', g2, g3, g4, g5⟩ := hi.alive hb hbk ⟨c, ec, _, hc⟩
    rw [hc] at g2; cases g2
    obtain ⟨us, o1, o2, o3⟩ := relC_vals g5
    have hul := relL_length o1
    by_cases hroom : n + ys.length ≤ cap
    · have hcs : 0 + n * i.size + news.length ≤ c.size := by
        rw [hnl]
        have := Nat.mul_le_mul_right i.size hroom
        rw [Nat.add_mul] at this
        omega
      have hrun := hsrc.place k 0 n cap c ec hc hroom hcs
      rw [Nat.zero_add, ← hcl] at hrun
      obtain ⟨s1, s2, s3⟩ := step_stretch hi hb hbk hc hnews hsrc.one (by rw [hcl]; omega)
      refine ⟨_, _, _, _, _, _, hrun, hk, s1, ?_, s2⟩
      rw [RelV]
      refine ⟨k, cap, _, ec, rfl, hroom, hpos, ?_, s3, ?_⟩
      · show (m.box ++ [k])[H.length]? = _
        rw [← hi.boxlen]; simp
      · simp [List.length_take]; omega
    · have hol : us.length = (chunks i.size n cs).length * i.size := by rw [chunks_length, hul, hcl]
      obtain ⟨c2, cap', q1, q2, q3, q4⟩ := grow (chunks i.size n cs) (some ⟨k, 0, none⟩) cap us (by
          rw [chunks_length]
          exact run_firstCells_some w.drew i.size n ⟨k, 0, none⟩ n cap us (by rw [hul, hcl]) (fun j u hu => by rw [addr_add]; exact o2 j u hu)) hol (by rw [chunks_length]; exact h1) (by rw [chunks_length]; omega) (by rw [chunks_length]; exact hbd)
      rw [chunks_length] at q1 q2
      have hp := Pushed.drewAlloc w (.cells c2 e)
      have hsize : us.length + news.length ≤ c2.size := by
        rw [hul, hcl, hnl, ← Nat.add_mul]
        exact Nat.le_trans (Nat.mul_le_mul_right _ q2) q3
      obtain ⟨s1, s2⟩ := step_boxP (vs := us ++ news) (by simpa using hsize) (fun j hj => q4 j (by simpa using hj)) (hi.kill b) hp (relL_append o1 hnews) (fun u hu => by
        rcases List.mem_append.1 hu with hu | hu
        · exact o3 u hu
        · exact hsrc.one u hu)
      refine ⟨_, _, _, _, _, _, q1, hk, s1, ?_, s2⟩
      rw [RelV]
      refine ⟨w.heap.size, cap', c2, e, rfl, q2, hpos, ?_, hp.new, q3⟩
      show (m.box ++ [w.heap.size])[H.length]? = _
      rw [← hi.boxlen]; simp
  case sl tk sz' xs =>
    rw [RelV] at hx
    obtain ⟨base, cap, rfl, h1, h2, h3, h4⟩ := hx
    cases tk with
    | sh => exact hK.elim
    | ti =>
      obtain ⟨rfl, hbd, hk⟩ := hK
      have h2 : cap = xs.length := h2
      subst h2
      exact tight xs base h4 hbd hk
    | own tk v =>
      obtain ⟨rfl, hv, hbd, hk⟩ := hK
      obtain ⟨v', q1, q2, q3⟩ := (h2 : OwnOk m w V tk v i.size xs.length cap base)
      rw [hv] at q1; cases q1
      have q3 := q3 rfl
      have htV : tk < V.length := (List.getElem?_eq_some_iff.1 hv).1
      obtain ⟨olds, o1, o2, o3, o4, o5⟩ := old xs base cap h4
      by_cases hroom : xs.length + ys.length ≤ cap
      · by_cases hn : ys.length = 0
        · have hys : ys = [] := List.length_eq_zero_iff.1 hn
          subst hys
          have hnews0 : news = [] := by rw [← List.length_eq_zero_iff, hnl]; simp
          subst hnews0
          obtain ⟨s1, s2⟩ := step_bump hi hv
          refine ⟨_, _, _, _, _, _, hsrc.zero rfl base xs.length cap h1, hk, s1, ?_, s2⟩
          rw [RelV]
          refine ⟨base, cap, by simp, by simpa using h1, ⟨v + 1, by simp [htV], Nat.le_refl _, fun _ => by simpa using q3⟩, hpos, ?_⟩
          rcases h4 with rfl | ⟨k, o, rfl, h1, h2⟩
          · exact .inl (by simp)
          · exact .inr ⟨k, o, rfl, by simpa using h1, by simpa using RelE.mono s2 k i.size xs o h1 h2⟩
        · rcases q3 with q3 | ⟨k, o, c, ec, rfl, ht1, ht2, ht3, ht4⟩
          · omega
          · have hcs : o + xs.length * i.size + news.length ≤ c.size := by
              rw [hnl]
              have := Nat.mul_le_mul_right i.size hroom
              rw [Nat.add_mul] at this
              omega
            obtain ⟨s1, s2⟩ := step_place (us := news) hi hv ht1 ht3 (by rw [← ht2]; exact hcs)
            have hrun := hsrc.place k o xs.length cap c ec ht3 hroom hcs
            rw [ht2] at hrun
            have hnew := setRow_heap w k c (c.toList.take (m.lim k) ++ news ++ c.toList.drop (m.lim k + news.length)).toArray ec (0, 0) ht3
            refine ⟨_, _, _, _, _, _, hrun, hk, s1, ?_, s2⟩
            rw [RelV]
            refine ⟨_, cap, by simp, by simpa using hroom, ⟨v + 1, by simp [htV], Nat.le_refl _, fun _ => .inr ⟨k, o, _, ec, rfl, ht1, ?_, hnew, ?_⟩⟩, hpos, .inr ⟨k, o, rfl, ?_, ?_⟩⟩
            · simp [hnl, Nat.add_mul]; omega
            · simp [List.length_take]; omega
            · simp [hnl, Nat.add_mul]; omega
            · have hE : RelE m w V k i.size xs o := by
                rcases h4 with rfl | ⟨k', o', hb', _, h6⟩
                · rw [RelE]; trivial
                · cases hb'; exact h6
              refine relE_append (RelE.mono s2 k i.size xs o (by omega) hE) (relE_of_flat hlen ?_)
              rw [ht2]
              refine relC_row s2 hnew hnews hsrc.one (fun j hj => ?_)
              rw [List.getElem?_toArray, splice_get _ _ _ _ (by simp; omega), if_neg (by omega), if_pos (by omega)]
              congr 1; omega
      · obtain ⟨c, cap', g1, g2, g3, g4⟩ := grow xs base cap olds o1 o4 h1 (by omega) hbd
        have hsize : (xs.length + ys.length) * i.size ≤ c.size := Nat.le_trans (Nat.mul_le_mul_right _ g2) g3
        have hp := Pushed.drewAlloc w (.cells c e)
        obtain ⟨s1, s2⟩ := step_move hi hv hp ((xs.length + ys.length) * i.size) hsize
        refine ⟨_, _, _, _, _, _, g1, hk, s1, ?_, s2⟩
        rw [RelV]
        refine ⟨_, cap', by simp, by simpa using g2, ⟨v + 1, by simp [htV], Nat.le_refl _, fun _ => .inr ⟨w.heap.size, 0, c, e, rfl, ?_, ?_, hp.new, by simpa using g3⟩⟩, hpos, .inr ⟨w.heap.size, 0, rfl, ?_, elems xs olds c _ _ _ s2 hp.new o2 o3 o5 g4⟩⟩
        · simp [hi.tiplen, htV]
        · simp
        · simp
  case v x =>
    split at hK
    · rename_i he; cases he
    · rename_i he
      cases he
      rw [RelV] at hx; subst hx
      obtain ⟨hbd, hk⟩ := hK
      exact tight [] none (.inl rfl) (by simpa using hbd) (by simpa using hk)
    all_goals rename_i he; first | cases he | exact hK.elim
end
end Go.Proofs.YtpedbpbmnchllaaGreatDoor
namespace Go.Proofs.YtpedbpbmnchllaaGreatDoor

section
variable {P : Program}

abbrev fen (ro : Option Nat) : Fence := { Fence.wide with round := ro }
theorem wp_val {ro : Option Nat} {o : Oper} {a : Act} {w w' : World} {u : Value} {Kw : Act → World → Prop} {Q : Exit → Act → World → Prop} (hd : ∀ c, o.op ≠ .defer c) (hr : (execOp a.eval o).run P w = .ok (.value u) w') (h : Kw (a.put o.dst u) w') : o.wpIn (fen ro) 0 P a w Kw Q :=
  ⟨fun _ _ => trivial, by rw [Oper.semAt_eq _ _ _ hd, hr]; exact h⟩
theorem wp_none {ro : Option Nat} {o : Oper} {a : Act} {w w' : World} {Kw : Act → World → Prop} {Q : Exit → Act → World → Prop} (hd : ∀ c, o.op ≠ .defer c) (hr : (execOp a.eval o).run P w = .ok .skip w') (h : Kw (a.put o.dst undef) w') : o.wpIn (fen ro) 0 P a w Kw Q :=
  ⟨fun _ _ => trivial, by rw [Oper.semAt_eq _ _ _ hd, hr]; exact h⟩

variable {m : Gh} {w : World} {H : Hp} {V : List Nat}

theorem relL_map {ev : Operand → CV} {ρ : Operand → Value} (hev : ∀ x, RelV m w V (ev x) (ρ x)) : ∀ (l : List Operand), RelL m w V (l.map ev) (l.map ρ)
  | [] => by rw [List.map_nil, RelL]; rfl
  | x :: l => by rw [List.map_cons, RelL]; exact ⟨ρ x, l.map ρ, rfl, hev x, relL_map hev l⟩

theorem relL_vals : ∀ (zs : List Value), RelL m w V (zs.map CV.v) zs
  | [] => by rw [List.map_nil, RelL]
  | z :: zs => by rw [List.map_cons, RelL]; exact ⟨z, zs, rfl, by rw [RelV], relL_vals zs⟩

theorem zcTy_some {t : TypeId} {zs : List Value} (h : zcTy P t = some zs) : ∃ i z, P.info? t = some i ∧ i.zero = some z ∧ z.cells.toList = zs ∧ ∀ u ∈ zs, u.oneCell' = true := by
  unfold zcTy at h
  cases hi : P.info? t with
  | none => simp [hi] at h
  | some i =>
    cases hz : i.zero with
    | none => simp [hi, hz] at h
    | some z =>
      simp only [hi, hz, Option.bind_some, Option.ite_none_right_eq_some, Option.some.injEq] at h
      obtain ⟨h1, rfl⟩ := h
      exact ⟨i, z, rfl, hz, rfl, fun u hu => List.all_eq_true.1 h1 u hu⟩

theorem fits_vals : ∀ {ks : List IntKind} {cs : List CV} {us : List Value}, fits ks cs → RelL m w V cs us → ∃ zs : List Int, zs.length = ks.length ∧ us = (ks.zip zs).map (fun p => Value.int p.1 p.2) ∧ cs = (ks.zip zs).map (fun p => CV.v (.int p.1 p.2))
  | [], cs, us, h, hr => by
    simp only [fits] at h; subst h
    rw [RelL] at hr; subst hr
    exact ⟨[], rfl, rfl, rfl⟩
  | k :: ks, cs, us, h, hr => by
    simp only [fits] at h
    obtain ⟨z, r, rfl, h⟩ := h
    rw [RelL] at hr
    obtain ⟨u, us', rfl, h1, h2⟩ := hr
    rw [RelV] at h1; subst h1
    obtain ⟨zs, g1, g2, g3⟩ := fits_vals h h2
    exact ⟨z :: zs, by simp [g1], by simp [g2], by simp [g3]⟩

theorem zip_inj : ∀ {ks : List IntKind} {zs zs' : List Int}, zs.length = ks.length → zs'.length = ks.length → (ks.zip zs).map (fun p => CV.v (.int p.1 p.2)) = (ks.zip zs').map (fun p => CV.v (.int p.1 p.2)) → zs = zs'
  | [], zs, zs', h, h', _ => by rw [List.length_eq_zero_iff.1 h, List.length_eq_zero_iff.1 h']
  | k :: ks, zs, zs', h, h', he => by
    cases zs with
    | nil => simp at h
    | cons z zs =>
      cases zs' with
      | nil => simp at h'
      | cons z' zs' =>
        simp only [List.zip_cons_cons, List.map_cons, List.cons.injEq, CV.v.injEq, Value.int.injEq, true_and] at he
        rw [he.1, zip_inj (by simpa using h) (by simpa using h') he.2]

theorem eqNeq_run {op : BinOp} {t : TypeId} {u u' : Value} {b : Bool} {K : CV → Prop} (h1 : binOp .eql t u u' = (Op.equal t u u').bind fun b => .pure (.bool b)) (h2 : binOp .neq t u u' = (Op.equal t u u').bind fun b => .pure (.bool !b))
    (he : (Op.equal t u u').run P w = .ok b w) (h : eqNeq op b K) : ∃ x, (binOp op t u u').run P w = .ok x w ∧ K (.v x) := by
  cases op <;> simp only [eqNeq] at h
  case eql => exact ⟨.bool b, by rw [h1, Sem.run_bind', he]; rfl, h⟩
  case neq => exact ⟨.bool !b, by rw [h2, Sem.run_bind', he]; rfl, h⟩

theorem eqGuard_plain (op : BinOp) (t : TypeId) (x y : Operand) (u u' : Value) (h1 : ∀ cs, u ≠ .agg cs) (h2 : u ≠ .nilIface) : (eqGuard op t x y u u').run P w = .ok () w := by
  unfold eqGuard
  cases op <;> (try simp) <;> cases u <;> first | rfl | (exact absurd rfl (h1 _)) | (exact absurd rfl h2) | (cases u' <;> rfl)

theorem equal_bool {t : TypeId} (h : P.underlying t = some .bool) (a b : Bool) : (Op.equal t (.bool a) (.bool b)).run P w = .ok (a == b) w := by
  have : ∀ d, (Op.equalIn (d + 1) t (.bool a) (.bool b)).run P w = .ok (a == b) w := fun d => by simp [Op.equalIn, run_underlying h]
  exact this 9999
theorem equal_nil {t e : TypeId} (h : P.underlying t = some (.slice e)) (base : Option Addr) (n c : Nat) : (Op.equal t (.slice base n c) (.slice none 0 0)).run P w = .ok base.isNone w := by
  have : ∀ d, (Op.equalIn (d + 1) t (.slice base n c) (.slice none 0 0)).run P w = .ok base.isNone w := fun d => by cases base <;> simp [Op.equalIn, run_underlying h]
  exact this 9999

theorem cbin_run {op : BinOp} {t : TypeId} {x y : CV} {ox oy : Operand} {u u' : Value} (hx : RelV m w V x u) (hy : RelV m w V y u') {K : CV → Prop} (h : cbin P op t x y K) :
    ∃ c r, ((do eqGuard op t ox oy u u'; binOp op t u u' : Sem Value)).run P w = .ok r w ∧ RelV m w V c r ∧ K c := by
  have fin : (∃ r, (binOp op t u u').run P w = .ok r w ∧ K (.v r)) → (eqGuard op t ox oy u u').run P w = .ok () w → ∃ c r, ((do eqGuard op t ox oy u u'; binOp op t u u' : Sem Value)).run P w = .ok r w ∧ RelV m w V c r ∧ K c :=
    fun ⟨r, h1, h2⟩ hg => ⟨.v r, r, by simp [hg, h1], by rw [RelV], h2⟩
  unfold cbin at h
  split at h
  · rw [RelV] at hx; rw [RelV] at hy; subst hx hy
    exact fin (ibin_run h.1 h.2) (eqGuard_plain _ _ _ _ _ _ (by simp) (by simp))
  · rw [RelV] at hx; rw [RelV] at hy; subst hx hy
    refine fin (eqNeq_run rfl rfl ?_ h.2) (eqGuard_plain _ _ _ _ _ _ (by simp) (by simp))
    exact equal_bool h.1 _ _
  · rw [RelV] at hx; rw [RelV] at hy; subst hx hy
    refine fin ?_ (eqGuard_plain _ _ _ _ _ _ (by simp) (by simp))
    cases op <;> simp only [eqNeq] at h
    case eql => exact ⟨_, by simp only [binOp, Op.stringOp]; rfl, h⟩
    case neq => exact ⟨_, by simp only [binOp, Op.stringOp]; rfl, h⟩
  · rename_i tk sz xs
    rw [RelV] at hx; rw [RelV] at hy
    obtain ⟨base, cap, rfl, h1, h2, h3, h4⟩ := hx
    subst hy
    obtain ⟨e, sz', ht⟩ := sl1 h.1
    obtain ⟨_, _, hu, _⟩ := slTy_some ht
    refine fin (eqNeq_run (b := base.isNone) rfl rfl ?_ (h.2 _ fun hb => ?_)) (eqGuard_plain _ _ _ _ _ _ (by simp) (by simp))
    · exact equal_nil hu _ _ _
    · rcases h4 with h4 | ⟨k, o, rfl, _⟩
      · exact h4
      · simp at hb
  · rw [RelV] at hx; rw [RelV] at hy
    subst hx hy
    obtain ⟨e, sz', ht⟩ := sl1 h.1
    obtain ⟨_, _, hu, _⟩ := slTy_some ht
    refine fin (eqNeq_run (b := true) rfl rfl ?_ h.2) (eqGuard_plain _ _ _ _ _ _ (by simp) (by simp))
    exact equal_nil hu _ _ _
  · obtain ⟨ks, hf, h1, h2, h3⟩ := h
    rw [RelV] at hx; rw [RelV] at hy
    obtain ⟨us, rfl, hx⟩ := hx
    obtain ⟨us', rfl, hy⟩ := hy
    obtain ⟨zs, a1, rfl, rfl⟩ := fits_vals h1 hx
    obtain ⟨zs', b1, rfl, rfl⟩ := fits_vals h2 hy
    refine fin (eqNeq_run (b := decide (zs = zs')) rfl rfl (hf.2 w zs zs' a1 b1) (h3 _ ?_)) ?_
    · rw [decide_eq_true_iff]
      exact ⟨fun e => by rw [e], fun e => zip_inj a1 b1 e⟩
    · unfold eqGuard
      cases op <;> simp [hf.1]
  · exact h.elim

theorem cun_run {op : UnOp} {x : CV} {u : Value} (hx : RelV m w V x u) {K : CV → Prop} (h : cun op x K) : ∃ c r, (Op.unary op u).run P w = .ok r w ∧ RelV m w V c r ∧ K c := by
  unfold cun at h
  split at h
  · split at h
    · rw [RelV] at hx; subst hx; exact ⟨_, _, by simp only [Op.unary]; rfl, by rw [RelV], h⟩
    · exact h.elim
  · split at h
    · rw [RelV] at hx; subst hx; exact ⟨_, _, by simp only [Op.unary, Op.intArith]; rfl, by rw [RelV], h⟩
    · rw [RelV] at hx; subst hx; exact ⟨_, _, rfl, by rw [RelV]; rfl, h⟩
    · exact h.elim
  · exact h.elim

theorem cidx_run {t : TypeId} {x i : CV} {u ui : Value} (hx : RelV m w V x u) (hy : RelV m w V i ui) {K : CV → Prop} (h : cidx P t x i K) :
    ∃ c r, (Instr.indexAt t u ui).run P w = .ok r w ∧ RelV m w V c r ∧ K c := by
  unfold cidx at h
  split at h
  · rename_i tk sz xs ik n
    obtain ⟨ht, h0, hlt, hK⟩ := h
    obtain ⟨e, ht⟩ := sl2 ht
    rw [RelV] at hx; rw [RelV] at hy
    subst hy
    obtain ⟨base, cap, rfl, h1, h2, h3, h4⟩ := hx
    rcases h4 with rfl | ⟨k, o, rfl, h5, h6⟩
    · simp at hlt
    · obtain ⟨g1, g2⟩ := relE_get h6 _ _ (List.getElem?_eq_getElem hlt)
      refine ⟨_, _, indexAt_sl ht k o _ cap ik n h0 (by omega), ?_, hK⟩
      rw [RelV]
      refine ⟨k, o + n.toNat * sz, by simp, ?_, g2⟩
      rw [g1]
      have : (n.toNat + 1) * sz ≤ xs.length * sz := Nat.mul_le_mul_right _ hlt
      rw [Nat.succ_mul] at this
      omega
  · rename_i b o n' sz ik n
    obtain ⟨ht, h0, hlt, hK⟩ := h
    obtain ⟨e, ht⟩ := sl2 ht
    rw [RelV] at hx; rw [RelV] at hy
    subst hy
    obtain ⟨base, cap, k, rfl, h1, h2, hk, h3, hr⟩ := hx
    rcases h3 with rfl | rfl
    · omega
    · exact ⟨_, _, indexAt_sl ht k o _ cap ik n h0 hlt, by rw [RelV]; exact ⟨k, hk, rfl, hr⟩, hK⟩
  · rename_i b o ik n
    obtain ⟨len, g, sz, ht, h0, hlt, hK⟩ := h
    rw [RelV] at hx; rw [RelV] at hy
    subst hy
    obtain ⟨k, hk, rfl, hr⟩ := hx
    exact ⟨_, _, indexAt_ar ht k o ik n h0 hlt, by rw [RelV]; exact ⟨k, hk, rfl, hr⟩, hK⟩
  · rename_i cs o ik n
    obtain ⟨len, g, sz, ht, h0, hlt, hK⟩ := h
    rw [RelV] at hx; rw [RelV] at hy
    subst hy
    obtain ⟨k, a, rfl, h1, h2⟩ := hx
    exact ⟨_, _, indexAt_ar ht k (a + o) ik n h0 hlt, by rw [RelV]; exact ⟨k, a, by rw [Nat.add_assoc], h1, h2⟩, hK⟩
  · rename_i b n' sz ik n
    obtain ⟨ht, h0, hlt, hK⟩ := h
    obtain ⟨e, ht⟩ := sl2 ht
    rw [RelV] at hx; rw [RelV] at hy
    subst hy
    obtain ⟨k, cap, c, e', rfl, h1, h2, hk, h3, h4⟩ := hx
    exact ⟨_, _, indexAt_sl ht k 0 _ cap ik n h0 hlt, by rw [RelV]; exact ⟨k, hk, by rw [Nat.zero_add], c, e', _, h3⟩, hK⟩
  · exact h.elim
end
end Go.Proofs.YtpedbpbmnchllaaGreatDoor
namespace Go.Proofs.YtpedbpbmnchllaaGreatDoor

section
variable {P : Program} {m : Gh} {w : World} {H : Hp} {V : List Nat}

theorem bound_run {o : Option Operand} {ev : Operand → CV} {ρ : Operand → Value} (hev : ∀ x, RelV m w V (ev x) (ρ x)) (h : bok (o.map ev)) (d y : Nat) (hy : bvl (o.map ev) d ≤ y) (code : BoundsCode) :
    (match o.map ρ with | some v => Instr.sliceBound v y code | none => (pure d : Sem Nat)).run P w = .ok (bvl (o.map ev) d) w := by
  cases o with
  | none => rfl
  | some x =>
    have hx := hev x
    simp only [Option.map_some] at h hy ⊢
    unfold bok at h
    split at h
    · rename_i he; cases he
    · rename_i k n he
      injection he with he
      rw [he, RelV] at hx
      rw [hx, he]
      rw [he] at hy
      exact run_sliceBound w k n y code h (by simp only [bvl] at hy; omega)
    · exact h.elim

theorem bounds_run {lo hi mx : Option Operand} {ev : Operand → CV} {ρ : Operand → Value} (hev : ∀ x, RelV m w V (ev x) (ρ x)) (h1 : bok (lo.map ev)) (h2 : bok (hi.map ev)) (h3 : bok (mx.map ev)) (isSlice : Bool) (len cap : Nat) (hlc : len ≤ cap)
    (hlh : bvl (lo.map ev) 0 ≤ bvl (hi.map ev) len) (hhn : bvl (hi.map ev) len ≤ len) (hm : mx.isSome = true → hi.isSome = true ∧ bvl (mx.map ev) 0 = bvl (hi.map ev) 0) :
    (Instr.sliceBounds isSlice len cap (lo.map ρ) (hi.map ρ) (mx.map ρ)).run P w = .ok (bvl (lo.map ev) 0, bvl (hi.map ev) len, if mx.isSome then bvl (hi.map ev) len else cap) w := by
  cases mx with
  | none =>
    have ha := fun code => bound_run (P := P) hev h2 len cap (Nat.le_trans hhn hlc) code
    have hb := fun code => bound_run (P := P) hev h1 0 (bvl (hi.map ev) len) hlh code
    cases hi with
    | none =>
      simp only [Option.map_none, bvl] at ha hb hlh hhn ⊢
      cases lo with
      | none => simp [Instr.sliceBounds]
      | some l => simp only [Option.map_some] at hb ⊢; simp [Instr.sliceBounds, hb]
    | some x =>
      simp only [Option.map_some] at ha hb ⊢
      cases lo with
      | none =>
        have hz : bvl none 0 = 0 := rfl
        cases isSlice <;> simp [Instr.sliceBounds, ha, hz]
      | some l => simp only [Option.map_some] at hb ⊢; cases isSlice <;> simp [Instr.sliceBounds, ha, hb]
  | some q =>
    obtain ⟨hs, he⟩ := hm rfl
    cases hi with
    | none => cases hs
    | some x =>
      have hd : ∀ d, bvl (some (ev x)) d = bvl (some (ev x)) 0 := fun d => by
        simp only [Option.map_some] at h2
        unfold bok at h2
        split at h2
        · rename_i he; cases he
        · rename_i k n he; injection he with he; rw [he]; rfl
        · exact h2.elim
      simp only [Option.map_some] at *
      rw [hd len] at *
      have hc := fun code => bound_run (P := P) (o := some q) hev h3 0 cap (by simp only [Option.map_some]; rw [he]; omega) code
      have ha := fun code => bound_run (P := P) (o := some x) hev h2 0 (bvl (some (ev q)) 0) (by simp only [Option.map_some]; rw [he]; exact Nat.le_refl _) code
      have hb := fun code => bound_run (P := P) hev h1 0 (bvl (some (ev x)) 0) hlh code
      simp only [Option.map_some] at ha hb hc
      rw [he] at hc ha
      have hz : bvl none 0 = 0 := rfl
      cases lo with
      | none => simp [Instr.sliceBounds, hc, ha, hz]
      | some l => simp only [Option.map_some] at hb ⊢; simp [Instr.sliceBounds, hc, ha, hb]

theorem relV_dropped {tk : Tk} {sz : Nat} {xs : List (List CV)} {base : Option Addr} {cap l : Nat} (hu : RelV m w V (.sl tk sz xs) (.slice base xs.length cap)) (hl : l ≤ xs.length) :
    RelV m w V (.sl tk sz (xs.drop l)) (.slice (if cap = l then base else base.map (·.add (l * sz))) (xs.length - l) (cap - l)) := by
  rw [RelV] at hu ⊢
  obtain ⟨base', cap', he, h1, h2, h3, h4⟩ := hu
  cases he
  refine ⟨(if cap = l then base else base.map (·.add (l * sz))), cap - l, by simp, by simp; omega, ?_, h3, ?_⟩
  · cases tk with
    | sh => trivial
    | ti => have h2 : cap = xs.length := h2; show cap - l = _; simp [h2]
    | own t v =>
      obtain ⟨v', q1, q2, q3⟩ := (h2 : OwnOk m w V t v sz xs.length cap base)
      refine ⟨v', q1, q2, fun e => ?_⟩
      rcases q3 e with q3 | ⟨k, o, c, ec, rfl, ht1, ht2, ht3, ht4⟩
      · left; simp [q3]
      · by_cases hcl : cap = l
        · left; simp; omega
        · refine .inr ⟨k, o + l * sz, c, ec, by simp [hcl, addr_add], ht1, ?_, ht3, ?_⟩
          · rw [← ht2, List.length_drop, Nat.add_assoc, ← Nat.add_mul]; congr 2; omega
          · rw [Nat.add_assoc, ← Nat.add_mul]
            refine Nat.le_trans (Nat.add_le_add_left (Nat.mul_le_mul_right _ ?_) _) ht4
            omega
  · by_cases hl2 : l = xs.length
    · left; simp [hl2]
    · rcases h4 with rfl | ⟨k, o, rfl, h5, h6⟩
      · left; simp
      · right
        refine ⟨k, o + l * sz, ?_, ?_, relE_drop h6 l⟩
        · rw [if_neg (by omega)]; simp [addr_add]
        · rw [List.length_drop, Nat.add_assoc, ← Nat.add_mul]
          refine Nat.le_trans (Nat.add_le_add_left (Nat.mul_le_mul_right _ ?_) _) h5
          omega

theorem relV_taken {tk : Tk} {sz : Nat} {xs : List (List CV)} {base : Option Addr} {cap n : Nat} (hu : RelV m w V (.sl tk sz xs) (.slice base xs.length cap)) (hl : n ≤ xs.length) (cap' : Nat) (hc : n ≤ cap') :
    RelV m w V (.sl .sh sz (xs.take n)) (.slice base n cap') ∧ (cap' = n → RelV m w V (.sl .ti sz (xs.take n)) (.slice base n cap')) := by
  rw [RelV] at hu
  obtain ⟨base', cap0, he, h1, h2, h3, h4⟩ := hu
  cases he
  have hlen : (xs.take n).length = n := by simp; omega
  have h5 : xs.take n = [] ∨ ∃ k o, base = some ⟨k, o, none⟩ ∧ o + (xs.take n).length * sz ≤ m.lim k ∧ RelE m w V k sz (xs.take n) o := by
    rcases h4 with rfl | ⟨k, o, rfl, h5, h6⟩
    · left; simp
    · right
      refine ⟨k, o, rfl, ?_, relE_take h6 n⟩
      rw [hlen]
      exact Nat.le_trans (Nat.add_le_add_left (Nat.mul_le_mul_right _ hl) _) h5
  constructor
  · rw [RelV]; exact ⟨base, cap', by rw [hlen], by omega, trivial, h3, h5⟩
  · intro e; rw [RelV]; exact ⟨base, cap', by rw [hlen], by omega, by rw [hlen]; exact e, h3, h5⟩

theorem cslice_run {t : TypeId} {x : CV} {u : Value} (hx : RelV m w V x u) {lo hi' mx : Option Operand} {ev : Operand → CV} {ρ : Operand → Value} (hev : ∀ x, RelV m w V (ev x) (ρ x)) {K : CV → Prop}
    (h : cslice P t x (lo.map ev) (hi'.map ev) (mx.map ev) K) : ∃ c r, (Instr.sliceAt t u (lo.map ρ) (hi'.map ρ) (mx.map ρ)).run P w = .ok r w ∧ RelV m w V c r ∧ K c := by
  obtain ⟨b1, b2, b3, h⟩ := h
  split at h
  · rename_i tk sz xs
    obtain ⟨ht, hlh, hhn, h⟩ := h
    obtain ⟨e, ht⟩ := sl2 ht
    obtain ⟨_, _, hu, _⟩ := slTy_some ht
    have hx' := hx
    rw [RelV] at hx
    obtain ⟨base, cap, rfl, h1, h2, h3, h4⟩ := hx
    have run := fun hm => bounds_run (P := P) (mx := mx) hev b1 b2 b3 true xs.length cap h1 hlh hhn hm
    have fin : ∀ l h q, (Instr.sliceBounds true xs.length cap (lo.map ρ) (hi'.map ρ) (mx.map ρ)).run P w = .ok (l, h, q) w →
        (Instr.sliceAt t (.slice base xs.length cap) (lo.map ρ) (hi'.map ρ) (mx.map ρ)).run P w = .ok (.slice (if q = l then base else base.map (·.add (l * sz))) (h - l) (q - l)) w := fun l h q hb => by
      simp [Instr.sliceAt, Instr.slice, run_underlying hu, hb, slSize_run ht]
    cases hi' with
    | none =>
      cases mx with
      | some q => exact h.elim
      | none =>
        refine ⟨_, _, fin _ _ _ (run (by simp)), ?_, h⟩
        exact relV_dropped hx' hlh
    | some y =>
      have hd : ∀ d, bvl (some (ev y)) d = bvl (some (ev y)) 0 := fun d => by
        simp only [Option.map_some] at b2
        unfold bok at b2
        split at b2
        · rename_i he; cases he
        · rename_i k n he; injection he with he; rw [he]; rfl
        · exact b2.elim
      simp only [Option.map_some] at hlh hhn run h
      rw [hd xs.length] at hlh hhn
      have hlen : (xs.take (bvl (some (ev y)) 0)).length = bvl (some (ev y)) 0 := by simp; omega
      cases mx with
      | none =>
        refine ⟨_, _, fin _ _ _ (run (by simp)), ?_, h⟩
        have ht1 := (relV_taken hx' hhn cap (by omega)).1
        have := relV_dropped (l := bvl (lo.map ev) 0) (by rw [hlen]; exact ht1) (by rw [hlen]; exact hlh)
        rw [hlen] at this
        simpa [hd] using this
      | some q =>
        obtain ⟨he, h⟩ := h
        refine ⟨_, _, fin _ _ _ (run (fun _ => ⟨rfl, he⟩)), ?_, h⟩
        have ht1 := (relV_taken hx' hhn (bvl (some (ev y)) 0) (Nat.le_refl _)).2 rfl
        have := relV_dropped (l := bvl (lo.map ev) 0) (by rw [hlen]; exact ht1) (by rw [hlen]; exact hlh)
        rw [hlen] at this
        simpa [hd] using this
  · obtain ⟨ht, hm, hl, hh, h⟩ := h
    obtain ⟨e, sz, ht⟩ := sl1 ht
    obtain ⟨_, _, hu, _⟩ := slTy_some ht
    rw [RelV] at hx; subst hx
    have hmx : mx = none := by cases mx <;> simp_all
    subst hmx
    have run := bounds_run (P := P) (mx := none) hev b1 b2 b3 true 0 0 (Nat.le_refl _) (by omega) (by omega) (by simp)
    refine ⟨_, .slice none 0 0, ?_, by rw [RelV], h⟩
    simp only [hl, hh, Option.map_none] at run
    simp [Instr.sliceAt, Instr.slice, run_underlying hu, run, slSize_run ht]
  · rename_i b o
    obtain ⟨hm, n, g, sz, ht, hlh, hhn, h⟩ := h
    obtain ⟨e, hu, hl, hsz, _⟩ := arTy_some ht
    rw [RelV] at hx
    obtain ⟨k, hk, rfl, hrow⟩ := hx
    have hmx : mx = none := by cases mx <;> simp_all
    subst hmx
    have run := bounds_run (P := P) (mx := none) hev b1 b2 b3 false n n (Nat.le_refl _) hlh hhn (by simp)
    simp only [Option.map_none] at run
    refine ⟨_, .slice (some (if n = bvl (lo.map ev) 0 then ⟨k, o, none⟩ else (⟨k, o, none⟩ : Addr).add (bvl (lo.map ev) 0 * sz))) (bvl (hi'.map ev) n - bvl (lo.map ev) 0) (n - bvl (lo.map ev) 0), by simp [Instr.sliceAt, run_underlying hu, Instr.sureAddr, run, sizeOf_run hl], ?_, h⟩
    rw [RelV]
    refine ⟨_, _, k, rfl, by omega, Nat.pos_of_ne_zero hsz, hk, ?_, hrow⟩
    by_cases hz : bvl (hi'.map ev) n - bvl (lo.map ev) 0 = 0
    · exact .inl hz
    · right
      rw [if_neg (by omega), addr_add]
  · rename_i b o n sz
    obtain ⟨hm, ht, hlh, hhn, h⟩ := h
    obtain ⟨e, ht⟩ := sl2 ht
    obtain ⟨_, _, hu, _, _, hpos, _⟩ := slTy_some ht
    rw [RelV] at hx
    obtain ⟨base, cap, k, rfl, h1, h2, hk, h3, hrow⟩ := hx
    have hmx : mx = none := by cases mx <;> simp_all
    subst hmx
    have run := bounds_run (P := P) (mx := none) hev b1 b2 b3 true n cap h1 hlh hhn (by simp)
    simp only [Option.map_none] at run
    refine ⟨_, .slice (if cap = bvl (lo.map ev) 0 then base else base.map (·.add (bvl (lo.map ev) 0 * sz))) (bvl (hi'.map ev) n - bvl (lo.map ev) 0) (cap - bvl (lo.map ev) 0), by simp [Instr.sliceAt, Instr.slice, run_underlying hu, run, slSize_run ht], ?_, h⟩
    rw [RelV]
    refine ⟨_, _, k, rfl, by omega, hpos, hk, ?_, hrow⟩
    by_cases hz : bvl (hi'.map ev) n - bvl (lo.map ev) 0 = 0
    · exact .inl hz
    · right
      rcases h3 with rfl | rfl
      · omega
      · rw [if_neg (by omega)]; simp [addr_add]
  · rename_i cs o
    obtain ⟨hm, n, g, sz, ht, hlh, hhn, hcs, h⟩ := h
    obtain ⟨e, hu, hl, hsz, _⟩ := arTy_some ht
    rw [RelV] at hx
    obtain ⟨k, a, rfl, hlim, hc⟩ := hx
    have hmx : mx = none := by cases mx <;> simp_all
    subst hmx
    have run := bounds_run (P := P) (mx := none) hev b1 b2 b3 false n n (Nat.le_refl _) hlh hhn (by simp)
    simp only [Option.map_none] at run
    refine ⟨_, .slice (some (if n = bvl (lo.map ev) 0 then ⟨k, a + o, none⟩ else (⟨k, a + o, none⟩ : Addr).add (bvl (lo.map ev) 0 * sz))) (bvl (hi'.map ev) n - bvl (lo.map ev) 0) (n - bvl (lo.map ev) 0), by simp [Instr.sliceAt, run_underlying hu, Instr.sureAddr, run, sizeOf_run hl], ?_, h⟩
    have hmul : (bvl (hi'.map ev) n - bvl (lo.map ev) 0) * sz + bvl (lo.map ev) 0 * sz ≤ n * sz := by
      rw [← Nat.add_mul]; exact Nat.mul_le_mul_right _ (by omega)
    rw [RelV]
    refine ⟨_, _, by rw [chunks_length], by rw [chunks_length]; omega, trivial, Nat.pos_of_ne_zero hsz, ?_⟩
    by_cases hz : bvl (hi'.map ev) n - bvl (lo.map ev) 0 = 0
    · left; rw [hz]; rfl
    · refine .inr ⟨k, a + (o + bvl (lo.map ev) 0 * sz), ?_, by rw [chunks_length]; omega, relE_of_flat (fun j e he => chunks_get sz _ _ j e (by simp; omega) he) ?_⟩
      · rw [if_neg (by omega), addr_add, Nat.add_assoc]
      · rw [chunks_flatten]
        exact relC_take (relC_drop hc _) _
  · exact h.elim
end
end Go.Proofs.YtpedbpbmnchllaaGreatDoor
namespace Go.Proofs.YtpedbpbmnchllaaGreatDoor

section
variable {P : Program} {m : Gh} {w : World} {H : Hp} {V : List Nat}

theorem foldl_splice (off : Nat) : ∀ (vs : List Value) (k : Nat) (cells : Array Value), off + k + vs.length ≤ cells.size →
    ((vs.zipIdx k).foldl (fun (cs : Array Value) p => cs.setIfInBounds (off + p.2) p.1) cells).toList = cells.toList.take (off + k) ++ vs ++ cells.toList.drop (off + k + vs.length)
  | [], k, cells, _ => by simp
  | v :: vs, k, cells, h => by
    simp only [List.length_cons] at h
    rw [List.zipIdx_cons, List.foldl_cons, foldl_splice off vs (k + 1) _ (by simp; omega)]
    have := list_seg_step cells.toList (off + k) v vs (by simp; omega)
    simpa [Array.toList_setIfInBounds, Nat.add_assoc] using this

theorem fill_run {ps : List (Nat × Nat)} {place : Nat → Option (Nat × Nat)} (hp : ∀ i x, ps[i]? = some x → place i = some x) : ∀ (parts : List (Nat × CV)) (vparts : List (Nat × Value)) (cs : List CV) (cells : Array Value) (cs' : List CV),
    cfill ps cs parts = some cs' → RelL m w V cs cells.toList → vparts.length = parts.length → (∀ (j : Nat) p, parts[j]? = some p → ∃ v, vparts[j]? = some (p.1, v) ∧ RelV m w V p.2 v) →
    ∃ cells', Instr.fill place cells vparts = some cells' ∧ RelL m w V cs' cells'.toList
  | [], vparts, cs, cells, cs', h, hr, hl, _ => by
    simp only [cfill] at h; cases h
    have hv : vparts = [] := List.length_eq_zero_iff.1 (by simpa using hl)
    subst hv
    exact ⟨cells, rfl, hr⟩
  | (i, v) :: parts, vparts, cs, cells, cs', h, hr, hl, hv => by
    cases vparts with
    | nil => simp at hl
    | cons q vparts =>
      obtain ⟨u, h1, h2⟩ := hv 0 (i, v) rfl
      simp at h1; subst h1
      simp only [cfill] at h
      cases hps : ps[i]? with
      | none => simp [hps] at h
      | some x =>
        obtain ⟨o, n⟩ := x
        simp only [hps] at h
        split at h
        · rename_i hc
          obtain ⟨c1, c2, c3⟩ := hc
          have hrc := RelV.cells h2 c3
          have hlc := relL_length hrc
          have hls := relL_length hr
          simp only [Array.length_toList] at hlc hls
          have hfold := foldl_splice o u.cells.toList 0 cells (by simp; omega)
          have harr : (u.cells.zipIdx.foldl (fun (cs : Array Value) (p : Value × Nat) => cs.setIfInBounds (o + p.2) p.1) cells).toList = cells.toList.take o ++ u.cells.toList ++ cells.toList.drop (o + n) := by
            rw [← Array.foldl_toList, Array.toList_zipIdx, hfold]
            simp only [Nat.add_zero, Array.length_toList, hlc, c1]
          obtain ⟨cells', g1, g2⟩ := fill_run hp parts vparts _ (u.cells.zipIdx.foldl (fun (cs : Array Value) (p : Value × Nat) => cs.setIfInBounds (o + p.2) p.1) cells) cs' h
            (by rw [harr]; exact relL_append (relL_append (relL_take hr o) hrc) (relL_drop hr (o + n))) (by simpa using hl) (fun j p hj => hv (j + 1) p (by simpa using hj))
          refine ⟨cells', ?_, g2⟩
          simp only [Instr.fill, hp i _ hps]
          rw [if_neg (by simp; omega)]
          exact g1
        · cases h

theorem cfill_all {sz : Nat} : ∀ (es : List (Nat × CV)) (k n : Nat) (A : List CV), A.length = k * sz → es.map (·.1) = List.range' k n → (∀ p ∈ es, p.2.cells.length = sz ∧ allOne p.2.cells = true) →
    cfill ((List.range (k + n)).map fun i => (i * sz, sz)) (A ++ List.replicate (n * sz) .any) es = some (A ++ (es.map (·.2.cells)).flatten)
  | [], k, n, A, hA, hm, _ => by
    have : n = 0 := by cases n with
      | zero => rfl
      | succ n => simp [List.range'_succ] at hm
    subst this
    simp [cfill]
  | (i, v) :: es, k, n, A, hA, hm, he => by
    cases n with
    | zero => simp at hm
    | succ n =>
      simp only [List.map_cons, List.range'_succ, List.cons.injEq] at hm
      obtain ⟨rfl, hm⟩ := hm
      have hv := he (i, v) (by simp)
      have hget : ((List.range (i + (n + 1))).map fun j => (j * sz, sz))[i]? = some (i * sz, sz) := by simp
      simp only [cfill, hget]
      rw [if_pos ⟨hv.1, by simp [hA, Nat.succ_mul], hv.2⟩]
      have ih := cfill_all es (i + 1) n (A ++ v.cells) (by simp [hA, hv.1, Nat.succ_mul]) hm (fun p hp => he p (by simp [hp]))
      rw [show i + 1 + n = i + (n + 1) from by omega] at ih
      have e : (A ++ List.replicate ((n + 1) * sz) CV.any).take (i * sz) ++ v.cells ++ (A ++ List.replicate ((n + 1) * sz) CV.any).drop (i * sz + sz) = A ++ v.cells ++ List.replicate (n * sz) CV.any := by
        rw [List.take_append_of_le_length (by omega), List.take_of_length_le (by omega)]
        congr 1
        rw [List.drop_append, List.drop_of_length_le (by omega)]
        simp [hA, Nat.succ_mul]
      rw [e, ih]
      simp

theorem places_run {g : Field → Sem (Nat × Nat)} (hg : ∀ (f : Field) n, szOf P f.type = some n → (g f).run P w = .ok (f.offset, n) w) : ∀ (fs : List Field) (ps : List (Nat × Nat)), (fs.mapM fun f => (szOf P f.type).map fun n => (f.offset, n)) = some ps →
    (fs.mapM g).run P w = .ok ps w
  | [], ps, h => by simp at h; subst h; simp
  | f :: fs, ps, h => by
    rw [List.mapM_cons] at h
    cases hs : szOf P f.type with
    | none => simp [hs] at h
    | some n =>
      cases hr : (fs.mapM fun f => (szOf P f.type).map fun n => (f.offset, n)) with
      | none => simp [hs, hr] at h
      | some qs =>
        simp [hs, hr] at h; subst h
        have ih := places_run hg fs qs hr
        rw [List.mapM_cons]
        simp only [Sem.run_bind, hg f n hs, Result.andThen_ok, ih, Sem.run_pure]

theorem szOf_run {t : TypeId} {n : Nat} (h : szOf P t = some n) : (sizeOf t).run P w = .ok n w := by
  unfold szOf at h
  cases hi : P.info? t with
  | none => simp [hi] at h
  | some i => simp [hi] at h; simp [sizeOf, typeInfo, hi, h]

theorem build_run {t : TypeId} {ps : List (Nat × Nat)} {zs : List Value} (hb : bdTy P t = some (ps, zs)) {cs : List CV} {parts : Array (Nat × Operand)} {ev : Operand → CV} {ρ : Operand → Value} (hev : ∀ x, RelV m w V (ev x) (ρ x))
    (h : cfill ps (zs.map CV.v) (parts.toList.map fun p => (p.1, ev p.2)) = some cs) :
    ∃ u, (Instr.build t (parts.map fun (i, x) => (i, ρ x))).run P w = .ok u w ∧ RelV m w V (.agg cs) u := by
  have parts_ok : ∀ (j : Nat) p, (parts.toList.map fun p => (p.1, ev p.2))[j]? = some p → ∃ v, (parts.toList.map fun p => (p.1, ρ p.2))[j]? = some (p.1, v) ∧ RelV m w V p.2 v := fun j p hp => by
    rw [List.getElem?_map] at hp ⊢
    cases hq : parts.toList[j]? with
    | none => simp [hq] at hp
    | some q => rw [hq] at hp; simp at hp; subst hp; exact ⟨ρ q.2, by simp, hev q.2⟩
  have zrun : ∀ {zs}, zcTy P t = some zs → ∃ z, (zeroValue t).run P w = .ok z w ∧ z.cells.toList = zs := fun hz => by
    obtain ⟨i, z, h1, h2, h3, _⟩ := zcTy_some hz
    exact ⟨z, by simp [zeroValue, typeInfo, h1, h2], h3⟩
  unfold bdTy at hb
  split at hb
  · rename_i fs hs
    cases hp : (fs.toList.mapM fun f => (szOf P f.type).map fun n => (f.offset, n)) with
    | none => simp [hp] at hb
    | some qs =>
      cases hz : zcTy P t with
      | none => simp [hp, hz] at hb
      | some zs' =>
        simp [hp, hz] at hb
        obtain ⟨rfl, rfl⟩ := hb
        obtain ⟨z, z1, z2⟩ := zrun hz
        obtain ⟨cells', g1, g2⟩ := fill_run (m := m) (w := w) (V := V) (ps := qs) (place := (qs.toArray[·]?)) (fun i x hx => by simpa using hx) _ (parts.toList.map fun p => (p.1, ρ p.2)) _ z.cells cs h (by rw [z2]; exact relL_vals _) (by simp) parts_ok
        refine ⟨.agg cells', ?_, by rw [RelV]; exact ⟨cells'.toList, by simp, g2⟩⟩
        have hpl : (fs.mapM (m := Sem) fun f => do pure (f.offset, ← sizeOf f.type)).run P w = .ok qs.toArray w := by
          rw [Array.mapM_eq_mapM_toList, Sem.run_map, places_run (fun f n hn => by simp [szOf_run hn]) fs.toList qs hp]; rfl
        simp only [Instr.build, Sem.run_bind, z1, Result.andThen_ok, run_underlying hs, hpl, Array.toList_map]
        rw [g1]; rfl
  · rename_i n e hs
    cases hk : szOf P e with
    | none => simp [hk] at hb
    | some k =>
      cases hz : zcTy P t with
      | none => simp [hk, hz] at hb
      | some zs' =>
        simp [hk, hz] at hb
        obtain ⟨rfl, rfl⟩ := hb
        obtain ⟨z, z1, z2⟩ := zrun hz
        obtain ⟨cells', g1, g2⟩ := fill_run (m := m) (w := w) (V := V) (place := fun i => some (i * k, k)) (fun i x hx => by
          rw [List.getElem?_map] at hx
          cases hr : (List.range n)[i]? with
          | none => simp [hr] at hx
          | some y => rw [hr] at hx; simp at hx; have := List.getElem?_eq_some_iff.1 hr; simp at this; rw [← hx, this.2]) _ (parts.toList.map fun p => (p.1, ρ p.2)) _ z.cells cs h (by rw [z2]; exact relL_vals _) (by simp) parts_ok
        refine ⟨.agg cells', ?_, by rw [RelV]; exact ⟨cells'.toList, by simp, g2⟩⟩
        have hsz : (sizeOf e).run P w = .ok k w := szOf_run hk
        simp only [Instr.build, Sem.run_bind, z1, Result.andThen_ok, run_underlying hs, hsz, Array.toList_map]
        rw [g1]; rfl
  · cases hb

theorem buildSlice_run (hi : Inv m w H V) {t e : TypeId} {sz len : Nat} (ht : slTy P t = some (e, sz)) {parts : Array (Nat × Operand)} {ev : Operand → CV} {ρ : Operand → Value} (hev : ∀ x, RelV m w V (ev x) (ρ x))
    (h1 : parts.toList.map (·.1) = List.range len) (h2 : (parts.toList.all fun p => (ev p.2).cells.length == sz && allOne (ev p.2).cells) = true) (h3 : len * sz ≤ 1048576) :
    ∃ u w' m', (Instr.buildSlice t len (parts.map fun (i, x) => (i, ρ x))).run P w = .ok u w' ∧ Inv m' w' H V ∧ RelV m' w' V (.sl .ti sz (parts.toList.map fun p => (ev p.2).cells)) u ∧ Ext m w V m' w' V := by
  obtain ⟨i, z, hu, hinf, hsz, hpos, hb0, hb1, hz, hzs⟩ := slTy_some ht
  have parts_ok : ∀ (j : Nat) p, (parts.toList.map fun p => (p.1, ev p.2))[j]? = some p → ∃ v, (parts.toList.map fun p => (p.1, ρ p.2))[j]? = some (p.1, v) ∧ RelV m w V p.2 v := fun j p hp => by
    rw [List.getElem?_map] at hp ⊢
    cases hq : parts.toList[j]? with
    | none => simp [hq] at hp
    | some q => rw [hq] at hp; simp at hp; subst hp; exact ⟨ρ q.2, by simp, hev q.2⟩
  have h2' : ∀ p ∈ (parts.toList.map fun p => (p.1, ev p.2)), p.2.cells.length = sz ∧ allOne p.2.cells = true := fun p hp => by
    obtain ⟨q, hq, rfl⟩ := List.mem_map.1 hp
    have := List.all_eq_true.1 h2 q hq
    simpa using this
  have hlen : parts.toList.length = len := by have := congrArg List.length h1; simpa using this
  have hcf := cfill_all (sz := sz) (parts.toList.map fun p => (p.1, ev p.2)) 0 len [] (by simp) (by rw [List.map_map, ← List.range_eq_range', ← h1]; rfl) h2'
  simp only [Nat.zero_add, List.nil_append] at hcf
  obtain ⟨zc, hz0⟩ : ∃ zc : Array Value, zc = if len * sz = 0 then #[] else z.cells := ⟨_, rfl⟩
  obtain ⟨cells', g1, g2⟩ := fill_run (m := m) (w := w) (V := V) (place := fun i => some (i * sz, sz)) (fun i x hx => by
      rw [List.getElem?_map] at hx
      cases hr : (List.range len)[i]? with
      | none => simp [hr] at hx
      | some y => rw [hr] at hx; simp at hx; have := List.getElem?_eq_some_iff.1 hr; simp at this; rw [← hx, this.2]) _ (parts.toList.map fun p => (p.1, ρ p.2)) _
    ((Array.range (len * sz)).map (zc[· % zc.size]!)) _ hcf (relL_mk (by simp) fun j c u hc _ => by
      have hm := List.mem_of_getElem? hc
      rw [List.eq_of_mem_replicate hm, RelV]; trivial) (by simp) parts_ok
  rw [List.map_map] at g2
  have hfl : ((fun (x : Nat × CV) => x.2.cells) ∘ fun p : Nat × Operand => (p.1, ev p.2)) = fun p => (ev p.2).cells := rfl
  rw [hfl] at g2
  have hes : ∀ (j : Nat) x, (parts.toList.map fun p => (ev p.2).cells)[j]? = some x → x.length = sz ∧ allOne x = true := fun j x hx => by
    obtain ⟨q, hq, rfl⟩ := List.mem_map.1 (List.mem_of_getElem? hx)
    have := List.all_eq_true.1 h2 q hq
    simpa using this
  have hone : allOne (parts.toList.map fun p => (ev p.2).cells).flatten = true := by
    unfold allOne
    rw [List.all_eq_true]
    intro c hc
    obtain ⟨x, hx, hcx⟩ := List.mem_flatten.1 hc
    obtain ⟨j, hj⟩ := List.getElem?_of_mem hx
    exact List.all_eq_true.1 (hes j x hj).2 c hcx
  have hflen : (parts.toList.map fun p => (ev p.2).cells).flatten.length = len * sz := by
    have : ∀ (l : List (List CV)), (∀ x ∈ l, x.length = sz) → l.flatten.length = l.length * sz := fun l => by
      induction l with
      | nil => simp
      | cons a l ih => intro hl; simp [hl a (by simp), ih (fun x hx => hl x (by simp [hx])), Nat.succ_mul, Nat.add_comm]
    rw [this _ (fun x hx => by obtain ⟨j, hj⟩ := List.getElem?_of_mem hx; exact (hes j x hj).1)]
    simp [hlen]
  have hsize : cells'.size = len * sz := by have := relL_length g2; rw [hflen] at this; simpa using this
  have hp := Pushed.alloc w (.cells cells' e)
  obtain ⟨s1, s2⟩ := step_row hi hp (len * sz) (by omega)
  refine ⟨.slice (some ⟨w.heap.size, 0, none⟩) len len, _, _, ?_, s1, ?_, s2⟩
  · simp only [Instr.buildSlice, Sem.run_bind, run_underlying hu, Result.andThen_ok, slSize_run ht]
    rw [if_neg (by omega)]
    have g1' : Instr.fill (fun i => some (i * sz, sz)) ((Array.range (len * sz)).map (zc[· % zc.size]!)) (List.map (fun x => (x.fst, ρ x.snd)) parts.toList) = some cells' := g1
    by_cases h0 : len * sz = 0
    · rw [if_pos h0] at hz0; subst hz0
      rw [if_pos h0]
      simp only [Array.toList_map, pure_bind]
      rw [g1']
      rfl
    · rw [if_neg h0] at hz0; subst hz0
      rw [if_neg h0]
      have hzr : (zeroValue e).run P w = .ok z w := by simp [zeroValue, typeInfo, hinf, hz]
      simp only [Array.toList_map, pure_bind, Sem.run_bind, hzr, Result.andThen_ok]
      rw [g1']
      rfl
  · rw [RelV]
    refine ⟨_, len, by simp [hlen], by simp [hlen], by show len = _; simp [hlen], hpos, .inr ⟨w.heap.size, 0, rfl, by simp [hlen], ?_⟩⟩
    refine relE_of_flat (fun j x hx => (hes j x hx).1) ?_
    refine relC_row s2 hp.new g2 (relL_allOne g2 hone) (fun j hj => ?_)
    simp
end
end Go.Proofs.YtpedbpbmnchllaaGreatDoor
