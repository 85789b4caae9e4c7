/-
  A PROGRAM LOGIC, PART 15: regions whose order is drawn.
-/
import Derived.Test.YtffjhibomipemaaL14
import Derived.OrdersHeld
namespace Go.Proofs.Ytffjhibomipemaa

section
variable {P : Program} {H : Hp} {V : List Nat}
theorem ld_mono {K K' : CV → Prop} (h : ∀ c, K c → K' c) {g : Bool} {n : Nat} {cs : List CV} {o : Nat} : ld g n cs o K → ld g n cs o K' := by
  unfold ld; split
  · exact fun ⟨a, b⟩ => ⟨a, h _ b⟩
  · exact fun ⟨a, b⟩ => ⟨a, h _ b⟩
theorem eqNeq_mono {K K' : CV → Prop} (h : ∀ c, K c → K' c) {op : BinOp} {b : Bool} : eqNeq op b K → eqNeq op b K' := by
  unfold eqNeq; split <;> first | exact h _ | exact id
theorem ibin_mono {K K' : CV → Prop} (h : ∀ c, K c → K' c) {op : BinOp} {k : IntKind} {a b : Int} : ibin op k a b K → ibin op k a b K' := by
  unfold ibin; split <;> first | exact h _ | exact fun ⟨a, b⟩ => ⟨a, h _ b⟩
theorem cbin_mono {K K' : CV → Prop} (h : ∀ c, K c → K' c) {op : BinOp} {t : TypeId} {x y : CV} : cbin P op t x y K → cbin P op t x y K' := by
  unfold cbin; split
  · exact fun ⟨a, b⟩ => ⟨a, ibin_mono h b⟩
  · exact fun ⟨a, b⟩ => ⟨a, eqNeq_mono h b⟩
  · exact eqNeq_mono h
  · exact fun ⟨a, b⟩ => ⟨a, fun c d => eqNeq_mono h (b c d)⟩
  · exact fun ⟨a, b⟩ => ⟨a, eqNeq_mono h b⟩
  · exact fun ⟨ks, a, b, c, d⟩ => ⟨ks, a, b, c, fun e f => eqNeq_mono h (d e f)⟩
  · exact id
theorem cun_mono {K K' : CV → Prop} (h : ∀ c, K c → K' c) {op : UnOp} {x : CV} : cun op x K → cun op x K' := by
  unfold cun; split <;> first | exact h _ | exact id
theorem cidx_mono {K K' : CV → Prop} (h : ∀ c, K c → K' c) {t : TypeId} {x i : CV} : cidx P t x i K → cidx P t x i K' := by
  unfold cidx; split
  · exact fun ⟨a, b, c, d⟩ => ⟨a, b, c, h _ d⟩
  · exact fun ⟨a, b, c, d⟩ => ⟨a, b, c, h _ d⟩
  · exact fun ⟨l, g, s, a, b, c, d⟩ => ⟨l, g, s, a, b, c, h _ d⟩
  · exact fun ⟨l, g, s, a, b, c, d⟩ => ⟨l, g, s, a, b, c, h _ d⟩
  · exact id
theorem cslice_mono {K K' : CV → Prop} (h : ∀ c, K c → K' c) {t : TypeId} {x : CV} {lo hi mx : Option CV} : cslice P t x lo hi mx K → cslice P t x lo hi mx K' := by
  unfold cslice
  refine fun ⟨a, b, c, d⟩ => ⟨a, b, c, ?_⟩
  revert d
  split
  · refine fun ⟨p, q, r, s⟩ => ⟨p, q, r, ?_⟩
    revert s
    split
    · exact h _
    · exact h _
    · exact fun ⟨x, y⟩ => ⟨x, h _ y⟩
    · exact id
  · exact fun ⟨p, q, r, s, t⟩ => ⟨p, q, r, s, h _ t⟩
  · exact fun ⟨p, l, g, s, q, r, u, v⟩ => ⟨p, l, g, s, q, r, u, h _ v⟩
  · exact fun ⟨p, q, r, s, t⟩ => ⟨p, q, r, s, h _ t⟩
  · exact id
theorem csrc_mono {K K' : List (List CV) → Prop} (h : ∀ c, K c → K' c) {sz : Nat} {y : CV} : csrc H sz y K → csrc H sz y K' := by
  unfold csrc; split
  · exact fun ⟨a, b⟩ => ⟨a, h _ b⟩
  · exact h _
  · exact fun ⟨a, cs, b, c, d⟩ => ⟨a, cs, b, c, h _ d⟩
  · exact id
theorem capp_mono {K K' : CV → Hp → List Nat → Prop} (h : ∀ c H V, K c H V → K' c H V) {t tx : TypeId} {x y : CV} : capp P t tx x y H V K → capp P t tx x y H V K' := by
  unfold capp
  refine fun ⟨e, sz, a, b, c⟩ => ⟨e, sz, a, b, csrc_mono (fun ys => ?_) c⟩
  split
  · exact fun ⟨p, q, r⟩ => ⟨p, q, h _ _ _ r⟩
  · exact fun ⟨p, q⟩ => ⟨p, h _ _ _ q⟩
  · exact fun ⟨p, q, r, s⟩ => ⟨p, q, r, h _ _ _ s⟩
  · exact id
theorem clen_mono {K K' : CV → Prop} (h : ∀ c, K c → K' c) {t : TypeId} {x : CV} : clen P t x K → clen P t x K' := by
  unfold clen; split <;> first | exact fun ⟨a, b⟩ => ⟨a, h _ b⟩ | exact id

theorem cop_mono {ev : Operand → CV} {K K' : CV → Hp → List Nat → Prop} (h : ∀ c H V, K c H V → K' c H V) {op : Op} : cop P ev H V K op → cop P ev H V K' op := by
  have h1 : ∀ c, K c H V → K' c H V := fun c => h c H V
  cases op <;> simp only [cop]
  case move x => exact h _ _ _
  case assign x => exact h _ _ _
  case pick c x y => split <;> first | exact h _ _ _ | exact id
  case alloc e => exact fun ⟨zs, a, b⟩ => ⟨zs, a, h _ _ _ b⟩
  case box e x => exact fun ⟨a, b⟩ => ⟨a, h _ _ _ b⟩
  case load t a =>
    refine fun ⟨g, n, p, q⟩ => ⟨g, n, p, ?_⟩
    revert q; split
    · exact fun ⟨cs, a, b⟩ => ⟨cs, a, ld_mono h1 b⟩
    · exact ld_mono h1
    · exact id
  case store t a x =>
    refine fun ⟨g, n, p, q⟩ => ⟨g, n, p, ?_⟩
    revert q; split
    · exact fun ⟨cs, a, b, c, d, e⟩ => ⟨cs, a, b, c, d, h _ _ _ e⟩
    · exact id
  case nilCheck x => split <;> first | exact h _ _ _ | exact id
  case binOp => exact cbin_mono h1
  case unOp => exact cun_mono h1
  case convert s d x =>
    refine fun ⟨k, p, q⟩ => ⟨k, p, ?_⟩
    revert q; split
    · exact h _ _ _
    · exact fun ⟨bs, a, b⟩ => ⟨bs, a, h _ _ _ b⟩
    · exact h _ _ _
    · exact id
  case sliceToArrayPointer t x =>
    refine fun ⟨n, g, sz, p, q⟩ => ⟨n, g, sz, p, ?_⟩
    revert q; split
    · exact fun ⟨a, b, c⟩ => ⟨a, b, h _ _ _ c⟩
    · exact id
  case makeFunc fn first captured => split <;> first | exact h _ _ _ | exact id
  case slice => exact cslice_mono h1
  case fieldAddr s x f =>
    refine fun ⟨o, g, n, p, q⟩ => ⟨o, g, n, p, ?_⟩
    revert q; split <;> first | exact h _ _ _ | exact id
  case field s x f =>
    refine fun ⟨o, g, n, p, q⟩ => ⟨o, g, n, p, ?_⟩
    revert q; split <;> first | exact ld_mono h1 | exact id
  case indexAddr => exact cidx_mono h1
  case index t x i =>
    refine fun ⟨len, g, n, p, q⟩ => ⟨len, g, n, p, ?_⟩
    revert q; split
    · exact fun ⟨a, b, c⟩ => ⟨a, b, ld_mono h1 c⟩
    · exact id
  case extract x i => split <;> first | exact fun ⟨a, b⟩ => ⟨a, h _ _ _ b⟩ | exact id
  case build t parts => exact fun ⟨ps, zs, cs, a, b, c⟩ => ⟨ps, zs, cs, a, b, h _ _ _ c⟩
  case buildSlice t len parts => exact fun ⟨e, sz, a, b, c, d, f⟩ => ⟨e, sz, a, b, c, d, h _ _ _ f⟩
  case makeSlice t l c =>
    refine fun ⟨e, sz, p, zs, q, r⟩ => ⟨e, sz, p, zs, q, ?_⟩
    revert r; split
    · exact fun ⟨a, b, c, d⟩ => ⟨a, b, c, h _ _ _ d⟩
    · exact id
  case call c =>
    split
    · split
      · exact fun q => CC.mono q h
      · exact id
    · exact fun ⟨t, x, a, b, c⟩ => ⟨t, x, a, b, clen_mono h1 c⟩
    · exact fun ⟨t, tx, x, y, a, b, c⟩ => ⟨t, tx, x, y, a, b, capp_mono h c⟩
    · exact id
  all_goals exact id

theorem cop_local {ev ev' : Operand → CV} {K : CV → Hp → List Nat → Prop} {op : Op} (h : ∀ x ∈ op.operands, ev x = ev' x) : cop P ev H V K op = cop P ev' H V K op := by
  cases op <;> simp only [Op.operands] at h <;> simp only [cop]
  case makeFunc fn first captured =>
    have : captured.toList.map ev = captured.toList.map ev' := List.map_congr_left fun x hx => h x (by simp at hx; simp [hx])
    rw [this]
  case slice t x lo hi mx => cases lo <;> cases hi <;> cases mx <;> simp_all
  case build t parts =>
    have : (parts.toList.map fun p => (p.1, ev p.2)) = parts.toList.map fun p => (p.1, ev' p.2) := List.map_congr_left fun p hp => by
      rw [h p.2 (by simp at hp; simp; exact ⟨p.1, by simpa using hp⟩)]
    rw [this]
  case buildSlice t len parts =>
    have hp : ∀ p ∈ parts.toList, ev p.2 = ev' p.2 := fun p hp => h p.2 (by simp at hp; simp; exact ⟨p.1, by simpa using hp⟩)
    have e1 : (parts.toList.map fun p => (ev p.2).cells) = parts.toList.map fun p => (ev' p.2).cells := List.map_congr_left fun p q => by rw [hp p q]
    rw [e1]
    congr 1; funext e; congr 1; funext sz; congr 1; congr 1
    have e2 : (parts.toList.all fun p => (ev p.2).cells.length == sz && allOne (ev p.2).cells) = (parts.toList.all fun p => (ev' p.2).cells.length == sz && allOne (ev' p.2).cells) := by
      rw [Bool.eq_iff_iff, List.all_eq_true, List.all_eq_true]
      constructor <;> intro q p hq <;> have := q p hq <;> rw [hp p hq] at * <;> exact this
    rw [e2]
  case call c =>
    have hargs : c.args.toList.map ev = c.args.toList.map ev' := List.map_congr_left fun x hx => h x (by simp at hx; simp [Call.operands, hx])
    cases hc : c.callee with
    | value f => have hf : ev f = ev' f := h f (by simp [Call.operands, hc]); simp only [hf, hargs]
    | invoke r m => rfl
    | builtin b =>
      cases b <;> simp only []
      case len =>
        congr 1; funext t; congr 1; funext x
        by_cases e : c.args = #[x]
        · rw [h x (by simp [Call.operands, e])]
        · simp [e]
      case append =>
        congr 1; funext t; congr 1; funext tx; congr 1; funext x; congr 1; funext y
        by_cases e : c.args = #[x, y]
        · rw [h x (by simp [Call.operands, e]), h y (by simp [Call.operands, e])]
        · simp [e]
  all_goals (first | rfl | (simp_all; done))
end

/-! ### Operations that may be carried out early -/
def pureOp : Op → Bool
  | .move _ | .assign _ | .pick .. | .load .. | .nilCheck _ | .binOp .. | .unOp .. | .convert .. | .fieldAddr .. | .field .. | .indexAddr .. | .index .. | .extract .. | .build .. => true
  | .call c => match c.callee with | .builtin .len => true | _ => false
  | _ => false

section
variable {P : Program}
/-- It leaves one value, and would leave the same later on. -/
def Onc (H : Hp) (V : List Nat) (C : Hp → (CV → Hp → List Nat → Prop) → List Nat → Prop) (K : CV → Hp → List Nat → Prop) : Prop :=
  ∃ c, K c H V ∧ ∀ H' V' K', H <+: H' → K' c H' V' → C H' K' V'

theorem ld_once {g : Bool} {n : Nat} {cs : List CV} {o : Nat} {K : CV → Prop} (h : ld g n cs o K) : ∃ c, K c ∧ ∀ K' : CV → Prop, K' c → ld g n cs o K' := by
  unfold ld at *; split at h
  · exact ⟨_, h.2, fun K' k => ⟨h.1, k⟩⟩
  · exact ⟨_, h.2, fun K' k => ⟨h.1, k⟩⟩
theorem eqNeq_once {op : BinOp} {b : Bool} {K : CV → Prop} (h : eqNeq op b K) : ∃ c, K c ∧ ∀ K' : CV → Prop, K' c → eqNeq op b K' := by
  unfold eqNeq at *; split at h
  · exact ⟨_, h, fun K' k => k⟩
  · exact ⟨_, h, fun K' k => k⟩
  · exact h.elim
theorem ibin_once {op : BinOp} {k : IntKind} {a b : Int} {K : CV → Prop} (h : ibin op k a b K) : ∃ c, K c ∧ ∀ K' : CV → Prop, K' c → ibin op k a b K' := by
  unfold ibin at *; split at h <;> first | exact ⟨_, h, fun K' k => k⟩ | exact ⟨_, h.2, fun K' k => ⟨h.1, k⟩⟩
theorem cun_once {op : UnOp} {x : CV} {K : CV → Prop} (h : cun op x K) : ∃ c, K c ∧ ∀ K' : CV → Prop, K' c → cun op x K' := by
  unfold cun at *; split at h
  · exact ⟨_, h, fun K' k => k⟩
  · exact ⟨_, h, fun K' k => k⟩
  · exact h.elim
theorem cidx_once {t : TypeId} {x i : CV} {K : CV → Prop} (h : cidx P t x i K) : ∃ c, K c ∧ ∀ K' : CV → Prop, K' c → cidx P t x i K' := by
  unfold cidx at *; split at h
  · obtain ⟨a, b, c, d⟩ := h; exact ⟨_, d, fun K' k => ⟨a, b, c, k⟩⟩
  · obtain ⟨a, b, c, d⟩ := h; exact ⟨_, d, fun K' k => ⟨a, b, c, k⟩⟩
  · obtain ⟨l, g, s, a, b, c, d⟩ := h; exact ⟨_, d, fun K' k => ⟨l, g, s, a, b, c, k⟩⟩
  · obtain ⟨l, g, s, a, b, c, d⟩ := h; exact ⟨_, d, fun K' k => ⟨l, g, s, a, b, c, k⟩⟩
  · exact h.elim
theorem clen_once {t : TypeId} {x : CV} {K : CV → Prop} (h : clen P t x K) : ∃ c, K c ∧ ∀ K' : CV → Prop, K' c → clen P t x K' := by
  unfold clen at *; split at h
  · exact ⟨_, h.2, fun K' k => ⟨h.1, k⟩⟩
  · exact ⟨_, h.2, fun K' k => ⟨h.1, k⟩⟩
  · exact ⟨_, h.2, fun K' k => ⟨h.1, k⟩⟩
  · exact ⟨_, h.2, fun K' k => ⟨h.1, k⟩⟩
  · exact h.elim

/-- Not a comparison with nil. -/
def noNil : CV → CV → Bool
  | .sl .., .v _ => false
  | _, _ => true
theorem cbin_once {op : BinOp} {t : TypeId} {x y : CV} {K : CV → Prop} (hn : noNil x y = true) (h : cbin P op t x y K) : ∃ c, K c ∧ ∀ K' : CV → Prop, K' c → cbin P op t x y K' := by
  unfold cbin at *; split at h
  · obtain ⟨a, b⟩ := h
    obtain ⟨c, h1, h2⟩ := ibin_once b
    exact ⟨c, h1, fun K' k => ⟨a, h2 K' k⟩⟩
  · obtain ⟨a, b⟩ := h
    obtain ⟨c, h1, h2⟩ := eqNeq_once b
    exact ⟨c, h1, fun K' k => ⟨a, h2 K' k⟩⟩
  · exact eqNeq_once h
  · cases hn
  · obtain ⟨a, b⟩ := h
    obtain ⟨c, h1, h2⟩ := eqNeq_once b
    exact ⟨c, h1, fun K' k => ⟨a, h2 K' k⟩⟩
  · rename_i cs ds
    obtain ⟨ks, a, b, c, d⟩ := h
    classical
    obtain ⟨r, h1, h2⟩ := eqNeq_once (d (decide (cs = ds)) (by simp))
    refine ⟨r, h1, fun K' k => ⟨ks, a, b, c, fun e he => ?_⟩⟩
    have : e = decide (cs = ds) := by rw [Bool.eq_iff_iff, he]; simp
    rw [this]; exact h2 K' k
  · exact h.elim

def pureOk (ev : Operand → CV) : Op → Bool
  | .binOp _ _ x y _ => noNil (ev x) (ev y)
  | _ => true

theorem cop_once {ev : Operand → CV} {H : Hp} {V : List Nat} {K : CV → Hp → List Nat → Prop} {op : Op} (hp : pureOp op = true) (hk : pureOk ev op = true) (h : cop P ev H V K op) :
    ∃ c, K c H V ∧ ∀ H' V' K', H <+: H' → K' c H' V' → cop P ev H' V' K' op := by
  cases op <;> simp only [pureOp, Bool.false_eq_true] at hp <;> simp only [cop] at h ⊢
  case move x => exact ⟨_, h, fun H' V' K' _ k => k⟩
  case assign x => exact ⟨_, h, fun H' V' K' _ k => k⟩
  case pick c x y =>
    split at h
    · exact ⟨_, h, fun H' V' K' _ k => k⟩
    · exact h.elim
  case load t a =>
    obtain ⟨g, n, p, q⟩ := h
    split at q
    · obtain ⟨cs, a, b⟩ := q
      obtain ⟨c, h1, h2⟩ := ld_once b
      exact ⟨c, h1, fun H' V' K' hl k => ⟨g, n, p, cs, (by obtain ⟨L, rfl⟩ := hl; exact at_old _ _ a), h2 (fun c => K' c H' V') k⟩⟩
    · obtain ⟨c, h1, h2⟩ := ld_once q
      exact ⟨c, h1, fun H' V' K' hl k => ⟨g, n, p, h2 (fun c => K' c H' V') k⟩⟩
    · exact q.elim
  case nilCheck x =>
    split at h
    · exact ⟨_, h, fun H' V' K' _ k => k⟩
    · exact ⟨_, h, fun H' V' K' _ k => k⟩
    · exact ⟨_, h, fun H' V' K' _ k => k⟩
    · exact h.elim
  case binOp =>
    obtain ⟨c, h1, h2⟩ := cbin_once hk h
    exact ⟨c, h1, fun H' V' K' _ k => h2 (fun c => K' c H' V') k⟩
  case unOp =>
    obtain ⟨c, h1, h2⟩ := cun_once h
    exact ⟨c, h1, fun H' V' K' _ k => h2 (fun c => K' c H' V') k⟩
  case convert s d x =>
    obtain ⟨k, p, q⟩ := h
    split at q
    · rename_i he; exact ⟨_, q, fun H' V' K' _ r => ⟨_, p, by rw [he]; exact r⟩⟩
    · rename_i he
      obtain ⟨bs, a, b⟩ := q
      exact ⟨_, b, fun H' V' K' _ r => ⟨_, p, by rw [he]; exact ⟨bs, a, r⟩⟩⟩
    · rename_i he; exact ⟨_, q, fun H' V' K' _ r => ⟨_, p, by rw [he]; exact r⟩⟩
    · exact q.elim
  case fieldAddr s x f =>
    obtain ⟨o, g, n, p, q⟩ := h
    split at q
    · exact ⟨_, q, fun H' V' K' _ r => ⟨_, _, _, p, r⟩⟩
    · exact ⟨_, q, fun H' V' K' _ r => ⟨_, _, _, p, r⟩⟩
    · exact q.elim
  case field s x f =>
    obtain ⟨o, g, n, p, q⟩ := h
    split at q
    · obtain ⟨c, h1, h2⟩ := ld_once q
      exact ⟨c, h1, fun H' V' K' hl k => ⟨_, _, _, p, h2 (fun c => K' c H' V') k⟩⟩
    · exact q.elim
  case indexAddr =>
    obtain ⟨c, h1, h2⟩ := cidx_once h
    exact ⟨c, h1, fun H' V' K' _ k => h2 (fun c => K' c H' V') k⟩
  case index t x i =>
    obtain ⟨len, g, n, p, q⟩ := h
    split at q
    · obtain ⟨a, b, q⟩ := q
      obtain ⟨c, h1, h2⟩ := ld_once q
      exact ⟨c, h1, fun H' V' K' hl k => ⟨_, _, _, p, a, b, h2 (fun c => K' c H' V') k⟩⟩
    · exact q.elim
  case extract x i =>
    split at h
    · obtain ⟨a, b⟩ := h
      exact ⟨_, b, fun H' V' K' _ r => ⟨a, r⟩⟩
    · exact h.elim
  case build t parts =>
    obtain ⟨ps, zs, cs, a, b, c⟩ := h
    exact ⟨_, c, fun H' V' K' _ r => ⟨ps, zs, cs, a, b, r⟩⟩
  case call c =>
    split at h
    · rename_i hc; rw [hc] at hp; cases hp
    · obtain ⟨t, x, a, b, q⟩ := h
      obtain ⟨r, h1, h2⟩ := clen_once q
      exact ⟨r, h1, fun H' V' K' _ k => ⟨t, x, a, b, h2 (fun c => K' c H' V') k⟩⟩
    · rename_i hc; rw [hc] at hp; cases hp
    · exact h.elim
end
end Go.Proofs.Ytffjhibomipemaa
