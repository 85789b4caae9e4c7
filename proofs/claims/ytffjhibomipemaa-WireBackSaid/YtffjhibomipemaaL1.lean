/-
  A PROGRAM LOGIC, PART 1: values with contents, how they lie in memory, and what a step keeps of them.
-/
import Derived.WalkKit
namespace Go.Proofs.Ytffjhibomipemaa

/-- Whether a slice may be appended to: sh: no (what lies behind it is not known); ti: its capacity is its length; own t v: token t at version v. -/
inductive Tk where
  | sh
  | ti
  | own (t v : Nat)

/-- A value with its contents. A slice carries its elements, each a list of cells. -/
inductive CV where
  | any
  | v (x : Value)
  | agg (cs : List CV)
  | tup (cs : List CV)
  | sl (tk : Tk) (sz : Nat) (xs : List (List CV))
  | bsl (b o n sz : Nat)
  | ptr (b o : Nat)
  | eptr (cs : List CV) (o : Nat)
  | fn (f : Nat) (caps : List CV)

/-- Ghost state: how many cells of a block are fixed for good; the block of each box; the block at whose end a token may append. -/
structure Gh where
  lim : Nat → Nat
  box : List Nat
  tip : List (Option Nat)

def OwnOk (m : Gh) (w : World) (V : List Nat) (t v sz len cap : Nat) (base : Option Addr) : Prop :=
  ∃ v', V[t]? = some v' ∧ v ≤ v' ∧ (v = v' → cap = len ∨ ∃ k o c e, base = some ⟨k, o, none⟩ ∧ m.tip[t]? = some (some k) ∧ o + len * sz = m.lim k ∧
    w.heap[k]? = some (.cells c e (0, 0)) ∧ o + cap * sz ≤ c.size)

def TkOk (m : Gh) (w : World) (V : List Nat) (tk : Tk) (sz len cap : Nat) (base : Option Addr) : Prop :=
  match tk with
  | .sh => True
  | .ti => cap = len
  | .own t v => OwnOk m w V t v sz len cap base

mutual
def RelV (m : Gh) (w : World) (V : List Nat) : CV → Value → Prop
  | .any, _ => True
  | .v x, u => u = x
  | .agg cs, u => ∃ us, u = .agg (List.toArray us) ∧ RelL m w V cs us
  | .tup cs, u => ∃ us, u = .tuple (List.toArray us) ∧ RelL m w V cs us
  | .sl tk sz xs, u => ∃ base cap, u = .slice base xs.length cap ∧ xs.length ≤ cap ∧ TkOk m w V tk sz xs.length cap base ∧ 0 < sz ∧
      (xs = [] ∨ ∃ k o, base = some ⟨k, o, none⟩ ∧ o + xs.length * sz ≤ m.lim k ∧ RelE m w V k sz xs o)
  | .bsl b o n sz, u => ∃ base cap k, u = .slice base n cap ∧ n ≤ cap ∧ 0 < sz ∧ m.box[b]? = some k ∧ (n = 0 ∨ base = some ⟨k, o, none⟩)
  | .ptr b o, u => ∃ k, m.box[b]? = some k ∧ u = .pointer (some ⟨k, o, none⟩)
  | .eptr cs o, u => ∃ k a, u = .pointer (some ⟨k, a + o, none⟩) ∧ a + cs.length ≤ m.lim k ∧ RelC m w V k cs a
  | .fn f caps, u => ∃ us, u = .func (.func f) #[] (List.toArray us) ∧ RelL m w V caps us
def RelL (m : Gh) (w : World) (V : List Nat) : List CV → List Value → Prop
  | [], us => us = []
  | c :: cs, us => ∃ u r, us = u :: r ∧ RelV m w V c u ∧ RelL m w V cs r
def RelC (m : Gh) (w : World) (V : List Nat) (k : Nat) : List CV → Nat → Prop
  | [], _ => True
  | c :: cs, o => (∃ u, w.cell? ⟨k, o, none⟩ = some u ∧ RelV m w V c u ∧ u.oneCell' = true) ∧ RelC m w V k cs (o + 1)
def RelE (m : Gh) (w : World) (V : List Nat) (k sz : Nat) : List (List CV) → Nat → Prop
  | [], _ => True
  | e :: es, o => e.length = sz ∧ RelC m w V k e o ∧ RelE m w V k sz es (o + sz)
end


theorem relC_get {m : Gh} {w : World} {V : List Nat} {k : Nat} : ∀ {cs : List CV} {o : Nat}, RelC m w V k cs o → ∀ (j : Nat) c, cs[j]? = some c →
    ∃ u, w.cell? ⟨k, o + j, none⟩ = some u ∧ RelV m w V c u ∧ u.oneCell' = true
  | [], _, _, j, c, hc => by simp at hc
  | x :: cs, o, h, j, c, hc => by
    rw [RelC] at h
    cases j with
    | zero => simp at hc; subst hc; exact h.1
    | succ j =>
      simp at hc
      obtain ⟨u, h1, h2⟩ := relC_get h.2 j c hc
      exact ⟨u, by rw [← h1]; congr 2; omega, h2⟩

theorem relC_mk {m : Gh} {w : World} {V : List Nat} {k : Nat} : ∀ {cs : List CV} {o : Nat}, (∀ (j : Nat) c, cs[j]? = some c →
    ∃ u, w.cell? ⟨k, o + j, none⟩ = some u ∧ RelV m w V c u ∧ u.oneCell' = true) → RelC m w V k cs o
  | [], _, _ => by rw [RelC]; trivial
  | x :: cs, o, h => by
    rw [RelC]
    refine ⟨by simpa using h 0 x rfl, relC_mk fun j c hc => ?_⟩
    obtain ⟨u, h1, h2⟩ := h (j + 1) c (by simpa using hc)
    exact ⟨u, by rw [← h1]; congr 2; omega, h2⟩

theorem relE_get {m : Gh} {w : World} {V : List Nat} {k sz : Nat} : ∀ {es : List (List CV)} {o : Nat}, RelE m w V k sz es o → ∀ j e, es[j]? = some e →
    e.length = sz ∧ RelC m w V k e (o + j * sz)
  | [], _, _, j, c, hc => by simp at hc
  | x :: es, o, h, j, e, he => by
    rw [RelE] at h
    cases j with
    | zero => simp at he; subst he; simpa using ⟨h.1, h.2.1⟩
    | succ j =>
      simp at he
      have := relE_get h.2.2 j e he
      rwa [Nat.add_assoc, Nat.add_comm sz, ← Nat.succ_mul] at this

theorem relE_mk {m : Gh} {w : World} {V : List Nat} {k sz : Nat} : ∀ {es : List (List CV)} {o : Nat}, (∀ j e, es[j]? = some e →
    e.length = sz ∧ RelC m w V k e (o + j * sz)) → RelE m w V k sz es o
  | [], _, _ => by rw [RelE]; trivial
  | x :: es, o, h => by
    rw [RelE]
    have h0 := h 0 x rfl
    simp only [Nat.zero_mul, Nat.add_zero] at h0
    refine ⟨h0.1, h0.2, relE_mk fun j e he => ?_⟩
    have := h (j + 1) e (by simpa using he)
    rwa [Nat.succ_mul, Nat.add_comm (j * sz), ← Nat.add_assoc] at this

theorem relL_get {m : Gh} {w : World} {V : List Nat} : ∀ {cs : List CV} {us : List Value}, RelL m w V cs us → ∀ (j : Nat) c, cs[j]? = some c → ∃ u, us[j]? = some u ∧ RelV m w V c u
  | [], _, _, j, c, hc => by simp at hc
  | x :: cs, us, h, j, c, hc => by
    rw [RelL] at h
    obtain ⟨u, r, rfl, h1, h2⟩ := h
    cases j with
    | zero => simp at hc; subst hc; exact ⟨u, rfl, h1⟩
    | succ j => simp at hc; simpa using relL_get h2 j c hc

theorem relL_length {m : Gh} {w : World} {V : List Nat} : ∀ {cs : List CV} {us : List Value}, RelL m w V cs us → us.length = cs.length
  | [], _, h => by rw [RelL] at h; subst h; rfl
  | x :: cs, us, h => by
    rw [RelL] at h
    obtain ⟨u, r, rfl, h1, h2⟩ := h
    simp [relL_length h2]

theorem relL_mk {m : Gh} {w : World} {V : List Nat} : ∀ {cs : List CV} {us : List Value}, us.length = cs.length → (∀ (j : Nat) c u, cs[j]? = some c → us[j]? = some u → RelV m w V c u) → RelL m w V cs us
  | [], us, h, _ => by rw [RelL]; exact List.length_eq_zero_iff.1 h
  | x :: cs, us, h, hr => by
    rw [RelL]
    cases us with
    | nil => simp at h
    | cons u r => exact ⟨u, r, rfl, hr 0 x u rfl rfl, relL_mk (by simpa using h) fun j c v hc hv => hr (j + 1) c v (by simpa using hc) (by simpa using hv)⟩

theorem relL_append {m : Gh} {w : World} {V : List Nat} : ∀ {cs ds : List CV} {us vs : List Value}, RelL m w V cs us → RelL m w V ds vs → RelL m w V (cs ++ ds) (us ++ vs)
  | [], _, us, _, h, h' => by rw [RelL] at h; subst h; simpa using h'
  | x :: cs, ds, us, vs, h, h' => by
    rw [RelL] at h
    obtain ⟨u, r, rfl, h1, h2⟩ := h
    rw [List.cons_append, RelL]
    exact ⟨u, r ++ vs, rfl, h1, relL_append h2 h'⟩

/-- What a step, or a call, keeps. -/
structure Ext (m : Gh) (w : World) (V : List Nat) (m' : Gh) (w' : World) (V' : List Nat) : Prop where
  os : w'.os = w.os
  tape : w'.tape = w.tape
  output : w'.output = w.output
  size : w.heap.size ≤ w'.heap.size
  shape : ∀ (k : Nat) c e fr, w.heap[k]? = some (.cells c e fr) → ∃ c', w'.heap[k]? = some (.cells c' e fr) ∧ c'.size = c.size
  lim : ∀ k, m.lim k ≤ m'.lim k
  prot : ∀ k o, o < m.lim k → w'.cell? ⟨k, o, none⟩ = w.cell? ⟨k, o, none⟩
  same : ∀ k, k < w.heap.size → (∀ b : Nat, m.box[b]? ≠ some k) → (∀ t : Nat, m.tip[t]? ≠ some (some k)) → w'.heap[k]? = w.heap[k]?
  box : ∀ (b k : Nat), m.box[b]? = some k → m'.box[b]? = some k
  boxnew : ∀ (b k : Nat), m'.box[b]? = some k → m.box[b]? = some k ∨ w.heap.size ≤ k
  tipnew : ∀ (t k : Nat), m'.tip[t]? = some (some k) → m.tip[t]? = some (some k) ∨ w.heap.size ≤ k
  tok : ∀ (t v : Nat), V[t]? = some v → ∃ v', V'[t]? = some v' ∧ v ≤ v' ∧ (v = v' → m'.tip[t]? = m.tip[t]? ∧ ∀ k, m.tip[t]? = some (some k) → m'.lim k = m.lim k)

theorem Ext.refl (m : Gh) (w : World) (V : List Nat) : Ext m w V m w V :=
  ⟨rfl, rfl, rfl, Nat.le_refl _, fun _ c _ _ h => ⟨c, h, rfl⟩, fun _ => Nat.le_refl _, fun _ _ _ => rfl, fun _ _ _ _ => rfl, fun _ _ h => h, fun _ _ h => .inl h, fun _ _ h => .inl h,
    fun _ v h => ⟨v, h, Nat.le_refl _, fun _ => ⟨rfl, fun _ _ => rfl⟩⟩⟩

theorem Ext.trans {m m' m'' : Gh} {w w' w'' : World} {V V' V'' : List Nat} (h : Ext m w V m' w' V') (g : Ext m' w' V' m'' w'' V'') : Ext m w V m'' w'' V'' where
  os := g.os.trans h.os
  tape := g.tape.trans h.tape
  output := g.output.trans h.output
  size := Nat.le_trans h.size g.size
  shape k c e fr hc := by
    obtain ⟨c', h1, h2⟩ := h.shape k c e fr hc
    obtain ⟨c'', h3, h4⟩ := g.shape k c' e fr h1
    exact ⟨c'', h3, h4.trans h2⟩
  lim k := Nat.le_trans (h.lim k) (g.lim k)
  prot k o ho := (g.prot k o (Nat.lt_of_lt_of_le ho (h.lim k))).trans (h.prot k o ho)
  same k hk hb ht := by
    refine (g.same k (Nat.lt_of_lt_of_le hk h.size) (fun b hb' => ?_) (fun t ht' => ?_)).trans (h.same k hk hb ht)
    · rcases h.boxnew b k hb' with h1 | h1
      · exact hb b h1
      · omega
    · rcases h.tipnew t k ht' with h1 | h1
      · exact ht t h1
      · omega
  box b k hb := g.box b k (h.box b k hb)
  boxnew b k hb := by
    rcases g.boxnew b k hb with h1 | h1
    · exact h.boxnew b k h1
    · exact .inr (Nat.le_trans h.size h1)
  tipnew t k ht := by
    rcases g.tipnew t k ht with h1 | h1
    · exact h.tipnew t k h1
    · exact .inr (Nat.le_trans h.size h1)
  tok t v hv := by
    obtain ⟨v', h1, h2, h3⟩ := h.tok t v hv
    obtain ⟨v'', g1, g2, g3⟩ := g.tok t v' h1
    refine ⟨v'', g1, Nat.le_trans h2 g2, fun e => ?_⟩
    obtain ⟨p1, p2⟩ := h3 (by omega)
    obtain ⟨q1, q2⟩ := g3 (by omega)
    exact ⟨q1.trans p1, fun k hk => (q2 k (p1.trans hk)).trans (p2 k hk)⟩

section mono
variable {m m' : Gh} {w w' : World} {V V' : List Nat} (hx : Ext m w V m' w' V')
include hx
theorem OwnOk.mono {t v sz len cap : Nat} {base : Option Addr} (h : OwnOk m w V t v sz len cap base) : OwnOk m' w' V' t v sz len cap base := by
  obtain ⟨v0, h1, h2, h3⟩ := h
  obtain ⟨v1, g1, g2, g3⟩ := hx.tok t v0 h1
  refine ⟨v1, g1, Nat.le_trans h2 g2, fun e => ?_⟩
  obtain ⟨p1, p2⟩ := g3 (by omega)
  rcases h3 (by omega) with h | ⟨k, o, c, e', hb, ht, hl, hc, hs⟩
  · exact .inl h
  · obtain ⟨c', hc', hs'⟩ := hx.shape k c e' _ hc
    exact .inr ⟨k, o, c', e', hb, p1.trans ht, by rw [p2 k ht]; exact hl, hc', by rw [hs']; exact hs⟩
theorem TkOk.mono {tk : Tk} {sz len cap : Nat} {base : Option Addr} (h : TkOk m w V tk sz len cap base) : TkOk m' w' V' tk sz len cap base := by
  cases tk with
  | sh => trivial
  | ti => exact h
  | own t v => exact OwnOk.mono hx h

end mono
section mono
variable {m m' : Gh} {w w' : World} {V V' : List Nat}
mutual
theorem RelV.mono (hx : Ext m w V m' w' V') : ∀ (c : CV) (u : Value), RelV m w V c u → RelV m' w' V' c u
  | .any, _, _ => by rw [RelV]; trivial
  | .v x, u, h => by rw [RelV] at h ⊢; exact h
  | .agg cs, u, h => by rw [RelV] at h ⊢; obtain ⟨us, h1, h2⟩ := h; exact ⟨us, h1, RelL.mono hx cs us h2⟩
  | .tup cs, u, h => by rw [RelV] at h ⊢; obtain ⟨us, h1, h2⟩ := h; exact ⟨us, h1, RelL.mono hx cs us h2⟩
  | .sl tk sz xs, u, h => by
    rw [RelV] at h ⊢
    obtain ⟨base, cap, h1, h2, h3, h4, h5⟩ := h
    refine ⟨base, cap, h1, h2, h3.mono hx, h4, ?_⟩
    rcases h5 with h5 | ⟨k, o, hb, hl, he⟩
    · exact .inl h5
    · exact .inr ⟨k, o, hb, Nat.le_trans hl (hx.lim k), RelE.mono hx k sz xs o hl he⟩
  | .bsl b o n sz, u, h => by
    rw [RelV] at h ⊢
    obtain ⟨base, cap, k, h1, h2, h3, h4, h5⟩ := h
    exact ⟨base, cap, k, h1, h2, h3, hx.box b k h4, h5⟩
  | .ptr b o, u, h => by rw [RelV] at h ⊢; obtain ⟨k, h1, h2⟩ := h; exact ⟨k, hx.box b k h1, h2⟩
  | .eptr cs o, u, h => by rw [RelV] at h ⊢; obtain ⟨k, a, h1, h2, h3⟩ := h; exact ⟨k, a, h1, Nat.le_trans h2 (hx.lim k), RelC.mono hx k cs a h2 h3⟩
  | .fn f caps, u, h => by rw [RelV] at h ⊢; obtain ⟨us, h1, h2⟩ := h; exact ⟨us, h1, RelL.mono hx caps us h2⟩
theorem RelL.mono (hx : Ext m w V m' w' V') : ∀ (cs : List CV) (us : List Value), RelL m w V cs us → RelL m' w' V' cs us
  | [], us, h => by rw [RelL] at h ⊢; exact h
  | c :: cs, us, h => by rw [RelL] at h ⊢; obtain ⟨u, r, h1, h2, h3⟩ := h; exact ⟨u, r, h1, RelV.mono hx c u h2, RelL.mono hx cs r h3⟩
theorem RelC.mono (hx : Ext m w V m' w' V') (k : Nat) : ∀ (cs : List CV) (o : Nat), o + cs.length ≤ m.lim k → RelC m w V k cs o → RelC m' w' V' k cs o
  | [], o, _, h => by rw [RelC]; trivial
  | c :: cs, o, hl, h => by
    rw [RelC] at h ⊢
    obtain ⟨⟨u, h1, h2⟩, h3⟩ := h
    simp only [List.length_cons] at hl
    exact ⟨⟨u, by rw [hx.prot k o (by omega)]; exact h1, RelV.mono hx c u h2.1, h2.2⟩, RelC.mono hx k cs (o + 1) (by omega) h3⟩
theorem RelE.mono (hx : Ext m w V m' w' V') (k sz : Nat) : ∀ (es : List (List CV)) (o : Nat), o + es.length * sz ≤ m.lim k → RelE m w V k sz es o → RelE m' w' V' k sz es o
  | [], o, _, h => by rw [RelE]; trivial
  | e :: es, o, hl, h => by
    rw [RelE] at h ⊢
    obtain ⟨h1, h2, h3⟩ := h
    simp only [List.length_cons, Nat.succ_mul] at hl
    exact ⟨h1, RelC.mono hx k e o (by omega) h2, RelE.mono hx k sz es (o + sz) (by omega) h3⟩
end
end mono

/-- The ghost state fits the world: H: the boxes' contents (none: let go), V: the tokens' versions. -/
structure Inv (m : Gh) (w : World) (H : List (Option (List CV))) (V : List Nat) : Prop where
  boxlen : m.box.length = H.length
  tiplen : m.tip.length = V.length
  limv : ∀ k, 0 < m.lim k → ∃ c e fr, w.heap[k]? = some (.cells c e fr) ∧ m.lim k ≤ c.size
  tips : ∀ (t k : Nat), m.tip[t]? = some (some k) → (∃ c e, w.heap[k]? = some (.cells c e (0, 0))) ∧ (∀ b : Nat, m.box[b]? ≠ some k) ∧ ∀ t' : Nat, m.tip[t']? = some (some k) → t' = t
  boxes : ∀ (b k : Nat), m.box[b]? = some k → k < w.heap.size ∧ ∀ b' : Nat, m.box[b']? = some k → b' = b
  alive : ∀ (b : Nat) cs, H[b]? = some (some cs) → ∃ k c e, m.box[b]? = some k ∧ w.heap[k]? = some (.cells c e (0, 0)) ∧ cs.length ≤ c.size ∧ m.lim k = 0 ∧ RelC m w V k cs 0

/-- What stands in the cells of a value: a struct's or an array's cells, else the value itself. -/
def CV.cells : CV → List CV
  | .agg cs => cs
  | c => [c]
/-- A value of one cell. -/
def CV.one : CV → Bool
  | .v x => x.oneCell'
  | .sl .. | .bsl .. | .ptr .. | .eptr .. | .fn .. => true
  | _ => false

theorem RelV.one {m : Gh} {w : World} {V : List Nat} {c : CV} {u : Value} (h : RelV m w V c u) (h1 : c.one = true) : u.oneCell' = true := by
  cases c <;> simp only [CV.one, Bool.false_eq_true] at h1 <;> rw [RelV] at h
  case v x => subst h; exact h1
  case sl => obtain ⟨b, c, h, _⟩ := h; subst h; rfl
  case bsl => obtain ⟨b, c, k, h, _⟩ := h; subst h; rfl
  case ptr => obtain ⟨k, _, h⟩ := h; subst h; rfl
  case eptr => obtain ⟨k, a, h, _⟩ := h; subst h; rfl
  case fn => obtain ⟨us, h, _⟩ := h; subst h; rfl

theorem oneCell_cells {u : Value} (h : u.oneCell' = true) : u.cells = #[u] := by
  cases u <;> first | rfl | simp [Value.oneCell'] at h
theorem CV.one_cells {c : CV} (h : c.one = true) : c.cells = [c] := by
  cases c <;> first | rfl | simp [CV.one] at h

/-- All cells of a list are one-cell values. -/
def allOne (cs : List CV) : Bool := cs.all CV.one

theorem relL_allOne {m : Gh} {w : World} {V : List Nat} : ∀ {cs : List CV} {us : List Value}, RelL m w V cs us → allOne cs = true → ∀ u ∈ us, u.oneCell' = true
  | [], us, h, _ => by rw [RelL] at h; subst h; simp
  | c :: cs, us, h, h1 => by
    rw [RelL] at h
    obtain ⟨u, r, rfl, h2, h3⟩ := h
    simp [allOne] at h1
    intro x hx
    rcases List.mem_cons.1 hx with rfl | hx
    · exact h2.one h1.1
    · exact relL_allOne h3 (by simpa [allOne] using h1.2) x hx

/-- The cells of a value, related to the cells of what it is. -/
theorem RelV.cells {m : Gh} {w : World} {V : List Nat} {c : CV} {u : Value} (h : RelV m w V c u) (h1 : allOne c.cells = true) : RelL m w V c.cells u.cells.toList := by
  cases c
  case agg cs => rw [RelV] at h; obtain ⟨us, rfl, h2⟩ := h; simpa [CV.cells, Value.cells] using h2
  case any => simp [allOne, CV.cells, CV.one] at h1
  case tup => simp [allOne, CV.cells, CV.one] at h1
  all_goals
    have := h.one (by first | rfl | simpa [allOne, CV.cells] using h1)
    rw [oneCell_cells this]
    simp only [CV.cells, RelL]
    exact ⟨u, [], rfl, h, rfl⟩
end Go.Proofs.Ytffjhibomipemaa
