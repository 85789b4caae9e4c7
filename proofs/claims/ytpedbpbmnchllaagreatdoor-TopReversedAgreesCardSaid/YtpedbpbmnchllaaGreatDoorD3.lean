import Derived.Test.YtpedbpbmnchllaaGreatDoorD2
import Derived.OrdersHeld
import Derived.OrdersIn
import Derived.Defers
import Derived.Recover
import Derived.Tactics
import Derived.Tactics2
import Derived.ChangeKeysEq
set_option linter.unusedSimpArgs false
set_option linter.unusedVariables false
set_option linter.unusedSectionVars false
namespace Go.Proofs.YtpedbpbmnchllaaGreatDoor

section
variable {P : Program} {H : Hp} {V : List Nat}
theorem ld_mono {K K' : CV → Prop} (h : ∀ c, K c → K' c) {g : Bool} {n : Nat} {cs : List CV} {o : Nat} : ld g n cs o K → ld g n cs o K' := by
  unfold ld; split
  · exact fun ⟨a, b⟩ => ⟨a, h _ b⟩
  · exact fun ⟨a, b⟩ => ⟨a, h _ b⟩
theorem eqNeq_mono {K K' : CV → Prop} (h : ∀ c, K c → K' c) {op : BinOp} {b : Bool} : eqNeq op b K → eqNeq op b K' := by
  unfold eqNeq; split <;> first | exact h _ | exact id
theorem ibin_mono {K K' : CV → Prop} (h : ∀ c, K c → K' c) {op : BinOp} {k : IntKind} {a b : Int} : ibin op k a b K → ibin op k a b K' := by
  unfold ibin; split <;> first | exact h _ | exact fun ⟨a, b⟩ => ⟨a, h _ b⟩
theorem cbin_mono {K K' : CV → Prop} (h : ∀ c, K c → K' c) {op : BinOp} {t : TypeId} {x y : CV} : cbin P op t x y K → cbin P op t x y K' := by
  unfold cbin; split
  · exact fun ⟨a, b⟩ => ⟨a, ibin_mono h b⟩
  · exact fun ⟨a, b⟩ => ⟨a, eqNeq_mono h b⟩
  · exact eqNeq_mono h
  · exact fun ⟨a, b⟩ => ⟨a, fun c d => eqNeq_mono h (b c d)⟩
  · exact fun ⟨a, b⟩ => ⟨a, eqNeq_mono h b⟩
  · exact fun ⟨ks, a, b, c, d⟩ => ⟨ks, a, b, c, fun e f => eqNeq_mono h (d e f)⟩
  · exact id
theorem cun_mono {K K' : CV → Prop} (h : ∀ c, K c → K' c) {op : UnOp} {x : CV} : cun op x K → cun op x K' := by
  unfold cun; split <;> (try split) <;> first | exact h _ | exact id
theorem cidx_mono {K K' : CV → Prop} (h : ∀ c, K c → K' c) {t : TypeId} {x i : CV} : cidx P t x i K → cidx P t x i K' := by
  unfold cidx; split
  · exact fun ⟨a, b, c, d⟩ => ⟨a, b, c, h _ d⟩
  · exact fun ⟨a, b, c, d⟩ => ⟨a, b, c, h _ d⟩
  · exact fun ⟨l, g, s, a, b, c, d⟩ => ⟨l, g, s, a, b, c, h _ d⟩
  · exact fun ⟨l, g, s, a, b, c, d⟩ => ⟨l, g, s, a, b, c, h _ d⟩
  · exact fun ⟨a, b, c, d⟩ => ⟨a, b, c, h _ d⟩
  · exact id
theorem cslice_mono {K K' : CV → Prop} (h : ∀ c, K c → K' c) {t : TypeId} {x : CV} {lo hi mx : Option CV} : cslice P t x lo hi mx K → cslice P t x lo hi mx K' := by
  unfold cslice
  refine fun ⟨a, b, c, d⟩ => ⟨a, b, c, ?_⟩
  revert d
  split
  · refine fun ⟨p, q, r, s⟩ => ⟨p, q, r, ?_⟩
    revert s
    split
    · exact h _
    · exact h _
    · exact fun ⟨x, y⟩ => ⟨x, h _ y⟩
    · exact id
  · exact fun ⟨p, q, r, s, t⟩ => ⟨p, q, r, s, h _ t⟩
  · exact fun ⟨p, l, g, s, q, r, u, v⟩ => ⟨p, l, g, s, q, r, u, h _ v⟩
  · exact fun ⟨p, q, r, s, t⟩ => ⟨p, q, r, s, h _ t⟩
  · exact fun ⟨p, l, g, s, q, r, u, x, v⟩ => ⟨p, l, g, s, q, r, u, x, h _ v⟩
  · exact id
theorem csrc_mono {K K' : List (List CV) → Prop} (h : ∀ c, K c → K' c) {sz : Nat} {y : CV} : csrc H sz y K → csrc H sz y K' := by
  unfold csrc; split
  · exact fun ⟨a, b⟩ => ⟨a, h _ b⟩
  · exact h _
  · exact fun ⟨a, cs, b, c, d⟩ => ⟨a, cs, b, c, h _ d⟩
  · exact id
theorem asrc_mono {K K' : List (List CV) → Prop} (h : ∀ c, K c → K' c) {tx e : TypeId} {sz : Nat} {y : CV} : asrc P H tx e sz y K → asrc P H tx e sz y K' := by
  unfold asrc; split
  · exact fun ⟨a, b, c, zs, d, f⟩ => ⟨a, b, c, zs, d, h _ f⟩
  · exact fun ⟨a, b⟩ => ⟨a, csrc_mono h b⟩
theorem capp_mono {K K' : CV → Hp → List Nat → Prop} (h : ∀ c H V, K c H V → K' c H V) {t tx : TypeId} {x y : CV} : capp P t tx x y H V K → capp P t tx x y H V K' := by
  unfold capp
  refine fun ⟨e, sz, a, c⟩ => ⟨e, sz, a, asrc_mono (fun ys => ?_) c⟩
  split
  · exact fun ⟨p, q, r⟩ => ⟨p, q, h _ _ _ r⟩
  · exact fun ⟨p, q⟩ => ⟨p, h _ _ _ q⟩
  · exact fun ⟨p, q, cs, r, s, t⟩ => ⟨p, q, cs, r, s, h _ _ _ t⟩
  · exact fun ⟨p, q, r, s⟩ => ⟨p, q, r, h _ _ _ s⟩
  · exact id
theorem ccopy_mono {K K' : CV → Hp → List Nat → Prop} (h : ∀ c H V, K c H V → K' c H V) {t tx : TypeId} {x y : CV} : ccopy P t tx x y H V K → ccopy P t tx x y H V K' := by
  unfold ccopy
  refine fun ⟨e, sz, a, b, c⟩ => ⟨e, sz, a, b, csrc_mono (fun ys => ?_) c⟩
  split
  · exact fun ⟨p, q, cs, r, s, t, u⟩ => ⟨p, q, cs, r, s, t, h _ _ _ u⟩
  · exact id
theorem cmm_mono {K K' : CV → Prop} (h : ∀ c, K c → K' c) {f : Int → Int → Int} {x y : CV} : cmm f x y K → cmm f x y K' := by
  unfold cmm; split
  · exact fun ⟨a, b⟩ => ⟨a, h _ b⟩
  · exact id
theorem cindex_mono {K K' : CV → Prop} (h : ∀ c, K c → K' c) {t : TypeId} {x y : CV} : cindex P t x y K → cindex P t x y K' := by
  unfold cindex; split
  · exact fun ⟨l, g, n, a, b, c, d⟩ => ⟨l, g, n, a, b, c, ld_mono h d⟩
  · exact fun ⟨a, b, c, d⟩ => ⟨a, b, c, h _ d⟩
  · exact id
theorem clook_mono {K K' : CV → Prop} (h : ∀ c, K c → K' c) {t : TypeId} {x y : CV} {ok : Bool} : clook P t x y ok H K → clook P t x y ok H K' := by
  unfold clook
  refine fun ⟨z, a, b, c⟩ => ⟨z, a, b, ?_⟩
  revert c; split
  · exact fun ⟨ks, vs, p, q⟩ => ⟨ks, vs, p, h _ q⟩
  · exact id
theorem cmput_mono {K K' : Hp → Prop} (h : ∀ c, K c → K' c) {t : TypeId} {x y z : CV} : cmput P t x y z H K → cmput P t x y z H K' := by
  unfold cmput
  refine fun ⟨a, b, c⟩ => ⟨a, b, ?_⟩
  revert c; split
  · exact fun ⟨ks, vs, p, q⟩ => ⟨ks, vs, p, h _ q⟩
  · exact id
theorem crange_mono {K K' : CV → Hp → Prop} (h : ∀ c H, K c H → K' c H) {t : TypeId} {x : CV} : crange P t x H K → crange P t x H K' := by
  unfold crange
  refine fun ⟨a, c⟩ => ⟨a, ?_⟩
  revert c; split
  · exact fun ⟨ks, vs, p, q⟩ => ⟨ks, vs, p, h _ _ q⟩
  · exact id
theorem cnext_mono {K K' : CV → Hp → Prop} (h : ∀ c H, K c H → K' c H) {x : CV} {b : Bool} : cnext x b H K → cnext x b H K' := by
  unfold cnext
  refine fun ⟨a, c⟩ => ⟨a, ?_⟩
  revert c; split
  · exact fun ⟨b, n, seen, ks, vs, p, q, r, s, t, u⟩ => ⟨b, n, seen, ks, vs, p, q, r, s, fun x => h _ _ (t x), fun i x y => h _ _ (u i x y)⟩
  · exact id
theorem centry_mono {K K' : CV → Prop} (h : ∀ c, K c → K' c) {x : CV} : centry x H K → centry x H K' := by
  unfold centry
  split
  · exact fun ⟨b, n, seen, i, ks, vs, p, q, r, s, t⟩ => ⟨b, n, seen, i, ks, vs, p, q, r, s, h _ t⟩
  · exact id
theorem clen_mono {K K' : CV → Prop} (h : ∀ c, K c → K' c) {t : TypeId} {x : CV} : clen P t x K → clen P t x K' := by
  unfold clen; split <;> first | exact fun ⟨a, b⟩ => ⟨a, h _ b⟩ | exact id

theorem cop_mono {ev : Operand → CV} {K K' : CV → Hp → List Nat → Prop} (h : ∀ c H V, K c H V → K' c H V) {op : Op} : cop P ev H V K op → cop P ev H V K' op := by
  have h1 : ∀ c, K c H V → K' c H V := fun c => h c H V
  cases op <;> simp only [cop]
  case move x => exact h _ _ _
  case assign x => exact h _ _ _
  case pick c x y => split <;> first | exact h _ _ _ | exact id
  case alloc e => exact fun ⟨zs, a, b⟩ => ⟨zs, a, h _ _ _ b⟩
  case box e x => exact fun ⟨a, b⟩ => ⟨a, h _ _ _ b⟩
  case load t a =>
    refine fun ⟨g, n, p, q⟩ => ⟨g, n, p, ?_⟩
    revert q; split
    · exact fun ⟨cs, a, b⟩ => ⟨cs, a, ld_mono h1 b⟩
    · exact ld_mono h1
    · exact id
  case store t a x =>
    refine fun ⟨g, n, p, q⟩ => ⟨g, n, p, ?_⟩
    revert q; split
    · exact fun ⟨cs, a, b, c, d, e⟩ => ⟨cs, a, b, c, d, h _ _ _ e⟩
    · exact id
  case nilCheck x => split <;> first | exact h _ _ _ | exact id
  case binOp => exact cbin_mono h1
  case unOp => exact cun_mono h1
  case convert s d x =>
    refine fun ⟨k, p, q⟩ => ⟨k, p, ?_⟩
    revert q; split
    · exact h _ _ _
    · exact fun ⟨bs, a, b⟩ => ⟨bs, a, h _ _ _ b⟩
    · exact h _ _ _
    · exact id
  case sliceToArrayPointer t x =>
    refine fun ⟨n, g, sz, p, q⟩ => ⟨n, g, sz, p, ?_⟩
    revert q; split
    · exact fun ⟨a, b, c⟩ => ⟨a, b, h _ _ _ c⟩
    · exact id
  case makeFunc fn first captured => split <;> first | exact h _ _ _ | exact id
  case slice => exact cslice_mono h1
  case fieldAddr s x f =>
    refine fun ⟨o, g, n, p, q⟩ => ⟨o, g, n, p, ?_⟩
    revert q; split <;> first | exact h _ _ _ | exact id
  case field s x f =>
    refine fun ⟨o, g, n, p, q⟩ => ⟨o, g, n, p, ?_⟩
    revert q; split <;> first | exact ld_mono h1 | exact id
  case indexAddr => exact cidx_mono h1
  case index t x i => exact cindex_mono h1
  case makeMap t r => exact fun ⟨a, b, c⟩ => ⟨a, b, h _ _ _ c⟩
  case lookup => exact clook_mono h1
  case mapUpdate => exact cmput_mono fun H' => h _ _ _
  case range => exact crange_mono fun c H' => h _ _ _
  case next => exact cnext_mono fun c H' => h _ _ _
  case entry => exact centry_mono h1
  case extract x i => split <;> first | exact fun ⟨a, b⟩ => ⟨a, h _ _ _ b⟩ | exact id
  case build t parts => exact fun ⟨ps, zs, cs, a, b, c⟩ => ⟨ps, zs, cs, a, b, h _ _ _ c⟩
  case buildSlice t len parts => exact fun ⟨e, sz, a, b, c, d, f⟩ => ⟨e, sz, a, b, c, d, h _ _ _ f⟩
  case makeSlice t l c =>
    refine fun ⟨e, sz, p, zs, q, r⟩ => ⟨e, sz, p, zs, q, ?_⟩
    revert r; split
    · split
      · exact fun ⟨a, b, d⟩ => ⟨a, b, h _ _ _ d⟩
      · exact id
    · split
      · exact fun ⟨a, b, c, d⟩ => ⟨a, b, c, h _ _ _ d⟩
      · exact id
  case call c =>
    split
    · split
      · exact fun q => CC.mono q h
      · exact fun q => CC.mono q h
      · exact fun q => YC.mono q h
      · exact id
    · exact fun ⟨t, tx, x, y, a, b, c⟩ => ⟨t, tx, x, y, a, b, ccopy_mono h c⟩
    · exact fun ⟨x, y, b, c⟩ => ⟨x, y, b, cmm_mono h1 c⟩
    · exact fun ⟨x, y, b, c⟩ => ⟨x, y, b, cmm_mono h1 c⟩
    · exact fun ⟨t, x, a, b, c⟩ => ⟨t, x, a, b, clen_mono h1 c⟩
    · exact fun ⟨t, tx, x, y, a, b, c⟩ => ⟨t, tx, x, y, a, b, capp_mono h c⟩
    · exact id
  all_goals exact id

theorem cop_local {ev ev' : Operand → CV} {K : CV → Hp → List Nat → Prop} {op : Op} (h : ∀ x ∈ op.operands, ev x = ev' x) : cop P ev H V K op = cop P ev' H V K op := by
  cases op <;> simp only [Op.operands] at h <;> simp only [cop]
  case makeFunc fn first captured =>
    have : captured.toList.map ev = captured.toList.map ev' := List.map_congr_left fun x hx => h x (by simp at hx; simp [hx])
    have this2 : first.toList.map ev = first.toList.map ev' := List.map_congr_left fun x hx => h x (by simp at hx; simp [hx])
    rw [this, this2]
  case slice t x lo hi mx => cases lo <;> cases hi <;> cases mx <;> simp_all
  case build t parts =>
    have : (parts.toList.map fun p => (p.1, ev p.2)) = parts.toList.map fun p => (p.1, ev' p.2) := List.map_congr_left fun p hp => by
      rw [h p.2 (by simp at hp; simp; exact ⟨p.1, by simpa using hp⟩)]
    rw [this]
  case buildSlice t len parts =>
    have hp : ∀ p ∈ parts.toList, ev p.2 = ev' p.2 := fun p hp => h p.2 (by simp at hp; simp; exact ⟨p.1, by simpa using hp⟩)
    have e1 : (parts.toList.map fun p => (ev p.2).cells) = parts.toList.map fun p => (ev' p.2).cells := List.map_congr_left fun p q => by rw [hp p q]
    rw [e1]
    congr 1; funext e; congr 1; funext sz; congr 1; congr 1
    have e2 : (parts.toList.all fun p => (ev p.2).cells.length == sz && allOne (ev p.2).cells) = (parts.toList.all fun p => (ev' p.2).cells.length == sz && allOne (ev' p.2).cells) := by
      rw [Bool.eq_iff_iff, List.all_eq_true, List.all_eq_true]
      constructor <;> intro q p hq <;> have := q p hq <;> rw [hp p hq] at * <;> exact this
    rw [e2]
  case call c =>
    have hargs : c.args.toList.map ev = c.args.toList.map ev' := List.map_congr_left fun x hx => h x (by simp at hx; simp [Call.operands, hx])
    cases hc : c.callee with
    | value f => have hf : ev f = ev' f := h f (by simp [Call.operands, hc]); simp only [hf, hargs]
    | invoke r m => rfl
    | builtin b =>
      cases b <;> simp only []
      case len =>
        congr 1; funext t; congr 1; funext x
        by_cases e : c.args = #[x]
        · rw [h x (by simp [Call.operands, e])]
        · simp [e]
      case copy =>
        congr 1; funext t; congr 1; funext tx; congr 1; funext x; congr 1; funext y
        by_cases e : c.args = #[x, y]
        · rw [h x (by simp [Call.operands, e]), h y (by simp [Call.operands, e])]
        · simp [e]
      case min =>
        congr 1; funext x; congr 1; funext y
        by_cases e : c.args = #[x, y]
        · rw [h x (by simp [Call.operands, e]), h y (by simp [Call.operands, e])]
        · simp [e]
      case max =>
        congr 1; funext x; congr 1; funext y
        by_cases e : c.args = #[x, y]
        · rw [h x (by simp [Call.operands, e]), h y (by simp [Call.operands, e])]
        · simp [e]
      case append =>
        congr 1; funext t; congr 1; funext tx; congr 1; funext x; congr 1; funext y
        by_cases e : c.args = #[x, y]
        · rw [h x (by simp [Call.operands, e]), h y (by simp [Call.operands, e])]
        · simp [e]
  all_goals (first | rfl | (simp_all; done))
end

def pureOp : Op → Bool
  | .move _ | .assign _ | .pick .. | .load .. | .nilCheck _ | .binOp .. | .unOp .. | .convert .. | .fieldAddr .. | .field .. | .indexAddr .. | .index .. | .extract .. | .build .. | .makeFunc .. | .buildSlice .. | .slice .. => true
  | .call c => match c.callee with | .builtin .len => true | .builtin .min => true | .builtin .max => true | _ => false
  | _ => false

section
variable {P : Program}
theorem ld_once {g : Bool} {n : Nat} {cs : List CV} {o : Nat} {K : CV → Prop} (h : ld g n cs o K) : ∃ c, K c ∧ ∀ K' : CV → Prop, K' c → ld g n cs o K' := by
  unfold ld at *; split at h
  · exact ⟨_, h.2, fun K' k => ⟨h.1, k⟩⟩
  · exact ⟨_, h.2, fun K' k => ⟨h.1, k⟩⟩
theorem eqNeq_once {op : BinOp} {b : Bool} {K : CV → Prop} (h : eqNeq op b K) : ∃ c, K c ∧ ∀ K' : CV → Prop, K' c → eqNeq op b K' := by
  unfold eqNeq at *; split at h
  · exact ⟨_, h, fun K' k => k⟩
  · exact ⟨_, h, fun K' k => k⟩
  · exact h.elim
theorem ibin_once {op : BinOp} {k : IntKind} {a b : Int} {K : CV → Prop} (h : ibin op k a b K) : ∃ c, K c ∧ ∀ K' : CV → Prop, K' c → ibin op k a b K' := by
  unfold ibin at *; split at h <;> first | exact ⟨_, h, fun K' k => k⟩ | exact ⟨_, h.2, fun K' k => ⟨h.1, k⟩⟩
theorem cun_once {op : UnOp} {x : CV} {K : CV → Prop} (h : cun op x K) : ∃ c, K c ∧ ∀ K' : CV → Prop, K' c → cun op x K' := by
  unfold cun at *; split at h
  · split at h
    · exact ⟨_, h, fun K' k => k⟩
    · exact h.elim
  · split at h
    · exact ⟨_, h, fun K' k => k⟩
    · exact ⟨_, h, fun K' k => k⟩
    · exact h.elim
  · exact h.elim
theorem cidx_once {t : TypeId} {x i : CV} {K : CV → Prop} (h : cidx P t x i K) : ∃ c, K c ∧ ∀ K' : CV → Prop, K' c → cidx P t x i K' := by
  unfold cidx at *; split at h
  · obtain ⟨a, b, c, d⟩ := h; exact ⟨_, d, fun K' k => ⟨a, b, c, k⟩⟩
  · obtain ⟨a, b, c, d⟩ := h; exact ⟨_, d, fun K' k => ⟨a, b, c, k⟩⟩
  · obtain ⟨l, g, s, a, b, c, d⟩ := h; exact ⟨_, d, fun K' k => ⟨l, g, s, a, b, c, k⟩⟩
  · obtain ⟨l, g, s, a, b, c, d⟩ := h; exact ⟨_, d, fun K' k => ⟨l, g, s, a, b, c, k⟩⟩
  · obtain ⟨a, b, c, d⟩ := h; exact ⟨_, d, fun K' k => ⟨a, b, c, k⟩⟩
  · exact h.elim
theorem clen_once {t : TypeId} {x : CV} {K : CV → Prop} (h : clen P t x K) : ∃ c, K c ∧ ∀ K' : CV → Prop, K' c → clen P t x K' := by
  unfold clen at *; split at h
  all_goals first | exact ⟨_, h.2, fun K' k => ⟨h.1, k⟩⟩ | exact h.elim
theorem cmm_once {f : Int → Int → Int} {x y : CV} {K : CV → Prop} (h : cmm f x y K) : ∃ c, K c ∧ ∀ K' : CV → Prop, K' c → cmm f x y K' := by
  unfold cmm at *; split at h
  all_goals first | exact ⟨_, h.2, fun K' k => ⟨h.1, k⟩⟩ | exact h.elim
theorem cindex_once {t : TypeId} {x y : CV} {K : CV → Prop} (h : cindex P t x y K) : ∃ c, K c ∧ ∀ K' : CV → Prop, K' c → cindex P t x y K' := by
  unfold cindex at *; split at h
  · obtain ⟨l, g, n, a, b, c, d⟩ := h
    obtain ⟨r, h1, h2⟩ := ld_once d
    exact ⟨r, h1, fun K' k => ⟨l, g, n, a, b, c, h2 K' k⟩⟩
  · obtain ⟨a, b, c, d⟩ := h
    exact ⟨_, d, fun K' k => ⟨a, b, c, k⟩⟩
  · exact h.elim

theorem cslice_once {t : TypeId} {x : CV} {lo hi mx : Option CV} {K : CV → Prop} (h : cslice P t x lo hi mx K) : ∃ c, K c ∧ ∀ K' : CV → Prop, K' c → cslice P t x lo hi mx K' := by
  unfold cslice at *
  obtain ⟨a, b, c, d⟩ := h
  split at d
  · obtain ⟨p, q, r, s⟩ := d
    split at s
    · exact ⟨_, s, fun K' k => ⟨a, b, c, p, q, r, k⟩⟩
    · exact ⟨_, s, fun K' k => ⟨a, b, c, p, q, r, k⟩⟩
    · exact ⟨_, s.2, fun K' k => ⟨a, b, c, p, q, r, s.1, k⟩⟩
    · exact s.elim
  · obtain ⟨p, q, r, s, u⟩ := d
    exact ⟨_, u, fun K' k => ⟨a, b, c, p, q, r, s, k⟩⟩
  · obtain ⟨p, l, g, s, q, r, u, v⟩ := d
    exact ⟨_, v, fun K' k => ⟨a, b, c, p, l, g, s, q, r, u, k⟩⟩
  · obtain ⟨p, q, r, s, u⟩ := d
    exact ⟨_, u, fun K' k => ⟨a, b, c, p, q, r, s, k⟩⟩
  · obtain ⟨p, l, g, s, q, r, u, x, v⟩ := d
    exact ⟨_, v, fun K' k => ⟨a, b, c, p, l, g, s, q, r, u, x, k⟩⟩
  · exact d.elim
def noNil : CV → CV → Bool
  | .sl .., .v _ => false
  | _, _ => true
theorem cbin_once {op : BinOp} {t : TypeId} {x y : CV} {K : CV → Prop} (hn : noNil x y = true) (h : cbin P op t x y K) : ∃ c, K c ∧ ∀ K' : CV → Prop, K' c → cbin P op t x y K' := by
  unfold cbin at *; split at h
  · obtain ⟨a, b⟩ := h
    obtain ⟨c, h1, h2⟩ := ibin_once b
    exact ⟨c, h1, fun K' k => ⟨a, h2 K' k⟩⟩
  · obtain ⟨a, b⟩ := h
    obtain ⟨c, h1, h2⟩ := eqNeq_once b
    exact ⟨c, h1, fun K' k => ⟨a, h2 K' k⟩⟩
  · exact eqNeq_once h
  · cases hn
  · obtain ⟨a, b⟩ := h
    obtain ⟨c, h1, h2⟩ := eqNeq_once b
    exact ⟨c, h1, fun K' k => ⟨a, h2 K' k⟩⟩
  · rename_i cs ds
    obtain ⟨ks, a, b, c, d⟩ := h
    classical
    obtain ⟨r, h1, h2⟩ := eqNeq_once (d (decide (cs = ds)) (by simp))
    refine ⟨r, h1, fun K' k => ⟨ks, a, b, c, fun e he => ?_⟩⟩
    have : e = decide (cs = ds) := by rw [Bool.eq_iff_iff, he]; simp
    rw [this]; exact h2 K' k
  · exact h.elim

def pureOk (ev : Operand → CV) : Op → Bool
  | .binOp _ _ x y _ => noNil (ev x) (ev y)
  | _ => true

theorem cop_once {ev : Operand → CV} {H : Hp} {V : List Nat} {K : CV → Hp → List Nat → Prop} {op : Op} (hp : pureOp op = true) (hk : pureOk ev op = true) (h : cop P ev H V K op) :
    ∃ c, K c H V ∧ ∀ H' V' K', H <+: H' → K' c H' V' → cop P ev H' V' K' op := by
  cases op <;> simp only [pureOp, Bool.false_eq_true] at hp <;> simp only [cop] at h ⊢
  case move x => exact ⟨_, h, fun H' V' K' _ k => k⟩
  case assign x => exact ⟨_, h, fun H' V' K' _ k => k⟩
  case pick c x y =>
    split at h
    · exact ⟨_, h, fun H' V' K' _ k => k⟩
    · exact h.elim
  case load t a =>
    obtain ⟨g, n, p, q⟩ := h
    split at q
    · obtain ⟨cs, a, b⟩ := q
      obtain ⟨c, h1, h2⟩ := ld_once b
      exact ⟨c, h1, fun H' V' K' hl k => ⟨g, n, p, cs, (by obtain ⟨L, rfl⟩ := hl; exact at_old _ _ a), h2 (fun c => K' c H' V') k⟩⟩
    · obtain ⟨c, h1, h2⟩ := ld_once q
      exact ⟨c, h1, fun H' V' K' hl k => ⟨g, n, p, h2 (fun c => K' c H' V') k⟩⟩
    · exact q.elim
  case nilCheck x =>
    split at h
    · exact ⟨_, h, fun H' V' K' _ k => k⟩
    · exact ⟨_, h, fun H' V' K' _ k => k⟩
    · exact ⟨_, h, fun H' V' K' _ k => k⟩
    · exact ⟨_, h, fun H' V' K' _ k => k⟩
    · exact ⟨_, h, fun H' V' K' _ k => k⟩
    · exact h.elim
  case slice =>
    obtain ⟨c, h1, h2⟩ := cslice_once h
    exact ⟨c, h1, fun H' V' K' _ k => h2 (fun c => K' c H' V') k⟩
  case makeFunc fn first captured =>
    split at h
    · exact ⟨_, h, fun H' V' K' _ k => k⟩
    · exact ⟨_, h, fun H' V' K' _ k => k⟩
    · exact h.elim
  case buildSlice t len parts =>
    obtain ⟨e, sz, a, b, c, d, f⟩ := h
    exact ⟨_, f, fun H' V' K' _ k => ⟨e, sz, a, b, c, d, k⟩⟩
  case binOp =>
    obtain ⟨c, h1, h2⟩ := cbin_once hk h
    exact ⟨c, h1, fun H' V' K' _ k => h2 (fun c => K' c H' V') k⟩
  case unOp =>
    obtain ⟨c, h1, h2⟩ := cun_once h
    exact ⟨c, h1, fun H' V' K' _ k => h2 (fun c => K' c H' V') k⟩
  case convert s d x =>
    obtain ⟨k, p, q⟩ := h
    split at q
    · rename_i he; exact ⟨_, q, fun H' V' K' _ r => ⟨_, p, by rw [he]; exact r⟩⟩
    · rename_i he
      obtain ⟨bs, a, b⟩ := q
      exact ⟨_, b, fun H' V' K' _ r => ⟨_, p, by rw [he]; exact ⟨bs, a, r⟩⟩⟩
    · rename_i he; exact ⟨_, q, fun H' V' K' _ r => ⟨_, p, by rw [he]; exact r⟩⟩
    · exact q.elim
  case fieldAddr s x f =>
    obtain ⟨o, g, n, p, q⟩ := h
    split at q
    · exact ⟨_, q, fun H' V' K' _ r => ⟨_, _, _, p, r⟩⟩
    · exact ⟨_, q, fun H' V' K' _ r => ⟨_, _, _, p, r⟩⟩
    · exact q.elim
  case field s x f =>
    obtain ⟨o, g, n, p, q⟩ := h
    split at q
    · obtain ⟨c, h1, h2⟩ := ld_once q
      exact ⟨c, h1, fun H' V' K' hl k => ⟨_, _, _, p, h2 (fun c => K' c H' V') k⟩⟩
    · exact q.elim
  case indexAddr =>
    obtain ⟨c, h1, h2⟩ := cidx_once h
    exact ⟨c, h1, fun H' V' K' _ k => h2 (fun c => K' c H' V') k⟩
  case index t x i =>
    obtain ⟨c, h1, h2⟩ := cindex_once h
    exact ⟨c, h1, fun H' V' K' _ k => h2 (fun c => K' c H' V') k⟩
  case extract x i =>
    split at h
    · obtain ⟨a, b⟩ := h
      exact ⟨_, b, fun H' V' K' _ r => ⟨a, r⟩⟩
    · exact h.elim
  case build t parts =>
    obtain ⟨ps, zs, cs, a, b, c⟩ := h
    exact ⟨_, c, fun H' V' K' _ r => ⟨ps, zs, cs, a, b, r⟩⟩
  case call c =>
    split at h
    · rename_i hc; rw [hc] at hp; cases hp
    · rename_i hc; rw [hc] at hp; cases hp
    · obtain ⟨x, y, a, q⟩ := h
      obtain ⟨r, h1, h2⟩ := cmm_once q
      exact ⟨r, h1, fun H' V' K' _ k => ⟨x, y, a, h2 (fun c => K' c H' V') k⟩⟩
    · obtain ⟨x, y, a, q⟩ := h
      obtain ⟨r, h1, h2⟩ := cmm_once q
      exact ⟨r, h1, fun H' V' K' _ k => ⟨x, y, a, h2 (fun c => K' c H' V') k⟩⟩
    · obtain ⟨t, x, a, b, q⟩ := h
      obtain ⟨r, h1, h2⟩ := clen_once q
      exact ⟨r, h1, fun H' V' K' _ k => ⟨t, x, a, b, h2 (fun c => K' c H' V') k⟩⟩
    · rename_i hc; rw [hc] at hp; cases hp
    · exact h.elim
end
end Go.Proofs.YtpedbpbmnchllaaGreatDoor
namespace Go.Proofs.YtpedbpbmnchllaaGreatDoor

abbrev En := Nat → CV
def evE (E : En) : Operand → CV
  | .tmp t => E t
  | .const v => .v v
  | .global g => gcv g
  | .func f => .fn f []
theorem evT_eq (T : Tm) : evT T = evE (tget T) := by funext x; cases x <;> rfl
def putE (d : Option Nat) (c : CV) (E : En) : En :=
  match d with
  | some d => fun n => if n = d then c else E n
  | none => E
theorem tget_tput (d : Option Nat) (c : CV) (T : Tm) : tget (tput d c T) = putE d c (tget T) := by cases d <;> rfl
theorem putE_self {E : En} {g : Nat} {c : CV} (h : E g = c) : putE (some g) c E = E := by
  funext n; simp only [putE]; split
  · rename_i e; rw [e, h]
  · rfl
theorem putE_comm {x y : Option Nat} {c d : CV} {E : En} (h : ∀ t, x = some t → y ≠ some t) : putE y d (putE x c E) = putE x c (putE y d E) := by
  cases x with
  | none => rfl
  | some x =>
    cases y with
    | none => rfl
    | some y =>
      have hne : x ≠ y := fun e => h x rfl (e ▸ rfl)
      funext n
      simp only [putE]
      by_cases h1 : n = x
      · rw [h1, if_neg hne, if_pos rfl, if_pos rfl]
      · rw [if_neg h1, if_neg h1]

section
variable (P : Program) (n : Nat) (ops : List Oper)
def cstepE (o : Oper) (E : En) (H : Hp) (V : List Nat) (K : En → Hp → List Nat → Prop) : Prop :=
  dOk o.dst n ∧
  match o.guard with
  | none => cop P (evE E) H V (fun c H' V' => K (putE o.dst c E) H' V') o.op
  | some (j, want) =>
    match gtmp ops j with
    | some g =>
      match E g with
      | .v (.bool b) => (b = want → cop P (evE E) H V (fun c H' V' => K (putE o.dst c E) H' V') o.op) ∧ (b = !want → K (putE o.dst (.v undef) E) H V)
      | .v (.tuple _) => K (putE o.dst (.v undef) E) H V
      | _ => False
    | none => False

end

section
variable {P : Program} {n : Nat} {ops : List Oper}

theorem cstepE_mono {o : Oper} {E : En} {H : Hp} {V : List Nat} {K K' : En → Hp → List Nat → Prop} (h : ∀ E H V, K E H V → K' E H V) (hs : cstepE P n ops o E H V K) : cstepE P n ops o E H V K' := by
  unfold cstepE at *
  refine ⟨hs.1, ?_⟩
  have hs := hs.2
  split
  · rename_i hg; rw [hg] at hs; exact cop_mono (fun _ _ _ => h _ _ _) hs
  · rename_i j want hg
    rw [hg] at hs
    dsimp only at hs
    split
    · rename_i g hj
      rw [hj] at hs
      dsimp only at hs
      split
      · rename_i b hb
        rw [hb] at hs
        exact ⟨fun e => cop_mono (fun _ _ _ => h _ _ _) (hs.1 e), fun e => h _ _ _ (hs.2 e)⟩
      · rename_i vs hb
        rw [hb] at hs
        exact h _ _ _ hs
      · rename_i h1 h2
        split at hs
        · rename_i hb; exact absurd hb (h1 _)
        · rename_i hb; exact absurd hb (h2 _)
        · exact hs
    · rename_i hj
      rw [hj] at hs; exact hs

theorem eval_agree {o : Oper} {E E' : En} (h : ∀ d ∈ o.looksAt ops.toArray, E d = E' d) : ∀ x ∈ o.op.operands, evE E x = evE E' x := fun x hx => by
  cases x with
  | tmp t => exact h t (List.mem_append_left _ (List.mem_filterMap.2 ⟨.tmp t, by simpa using hx, rfl⟩))
  | _ => rfl
theorem guard_agree {o : Oper} {E E' : En} (h : ∀ d ∈ o.looksAt ops.toArray, E d = E' d) {j g : Nat} {want : Bool} (hg : o.guard = some (j, want)) (hj : gtmp ops j = some g) : E g = E' g := by
  refine h g (List.mem_append_right _ ?_)
  rw [hg]
  have : (ops[j]?).bind (·.dst) = some g := hj
  simp [this]

theorem cstepE_swap {o : Oper} {E E' : En} {H : Hp} {V : List Nat} {K K' : En → Hp → List Nat → Prop} (h : ∀ d ∈ o.looksAt ops.toArray, E d = E' d) (hk : ∀ c H V, K (putE o.dst c E) H V → K' (putE o.dst c E') H V)
    (hs : cstepE P n ops o E H V K) : cstepE P n ops o E' H V K' := by
  unfold cstepE at *
  refine ⟨hs.1, ?_⟩
  have hs := hs.2
  have ea := eval_agree h
  have go : cop P (evE E) H V (fun c H' V' => K (putE o.dst c E) H' V') o.op → cop P (evE E') H V (fun c H' V' => K' (putE o.dst c E') H' V') o.op := fun q => by
    rw [← cop_local ea]
    exact cop_mono (fun _ _ _ => hk _ _ _) q
  cases hg : o.guard with
  | none => rw [hg] at hs; exact go hs
  | some jw =>
    obtain ⟨j, want⟩ := jw
    rw [hg] at hs
    dsimp only at hs ⊢
    cases hj : gtmp ops j with
    | none => rw [hj] at hs; exact hs
    | some g =>
      rw [hj] at hs
      dsimp only at hs ⊢
      rw [guard_agree h hg hj] at hs
      split
      · rename_i b hb
        rw [hb] at hs
        exact ⟨fun e => go (hs.1 e), fun e => hk _ _ _ (hs.2 e)⟩
      · rename_i vs hb
        rw [hb] at hs
        exact hk _ _ _ hs
      · rename_i h1 h2
        split at hs
        · rename_i hb; exact absurd hb (h1 _)
        · rename_i hb; exact absurd hb (h2 _)
        · exact hs

theorem cstepE_sound {ro : Option Nat} {Q : Exit → Act → World → Prop} {Kw : Act → World → Prop} {i : Nat} {o : Oper} (ho : ops[i]? = some o) {E : En} {m : Gh} {w : World} {a : Act} {H : Hp} {V : List Nat} {K : En → Hp → List Nat → Prop}
    (hi : Inv m w H V) (ht : ∀ k, RelV m w V (E k) (a.tmps.getD k undef)) (hz : a.tmps.size = n) (hs : cstepE P n ops o E H V K)
    (hK : ∀ E' H' V' a' m' w', K E' H' V' → Inv m' w' H' V' → (∀ k, RelV m' w' V' (E' k) (a'.tmps.getD k undef)) → a'.tmps.size = n → a'.defers = a.defers → Ext m w V m' w' V' → Kw a' w') : wpOpIn (fen ro) 0 P ops.toArray Q i Kw a w := by
  have hput : ∀ {m' : Gh} {w' : World} {V' : List Nat} {c : CV} {u : Value}, dOk o.dst n → Ext m w V m' w' V' → RelV m' w' V' c u → ∀ k, RelV m' w' V' (putE o.dst c E k) ((a.put o.dst u).tmps.getD k undef) := fun {m' w' V' c u} hd hx hu k => by
    cases hdst : o.dst with
    | none => exact RelV.mono hx _ _ (ht k)
    | some d =>
      rw [hdst] at hd
      have hd : d < a.tmps.size := by rw [hz]; exact hd
      simp only [putE, Act.put]
      by_cases hn : k = d
      · subst hn; rw [if_pos rfl]; simpa [Array.getD, hd] using hu
      · rw [if_neg hn]
        have : (a.tmps.setIfInBounds d u).getD k undef = a.tmps.getD k undef := by
          simp only [Array.getD_eq_getD_getElem?]
          rw [Array.getElem?_setIfInBounds_ne (Ne.symm hn)]
        rw [this]; exact RelV.mono hx _ _ (ht k)
  have hev : ∀ x, RelV m w V (evE E x) (a.eval x) := fun x => by
    cases x with
    | tmp t => exact ht t
    | const v => simp only [evE, Act.eval]; rw [RelV]
    | global g => exact gcv_rel hi.glob g
    | func f => simp only [evE, Act.eval]; rw [RelV]; exact ⟨[], rfl, by rw [RelL]⟩
  unfold cstepE at hs
  obtain ⟨hd, hs⟩ := hs
  have run : cop P (evE E) H V (fun c H' V' => K (putE o.dst c E) H' V') o.op → o.wpIn (fen ro) 0 P a w Kw Q := fun q =>
    cop_sound (P := P) hi hev q fun c H' V' u m' w' h1 h2 h3 h4 => hK _ _ _ _ _ _ h1 h2 (hput hd h4 h3) (by rw [put_size]; exact hz) (by rw [put_defers]) h4
  have skip : K (putE o.dst (.v undef) E) H V → Kw (a.put o.dst undef) w := fun q =>
    hK _ _ _ _ _ _ q hi (hput hd (Ext.refl m w V) (by rw [RelV])) (by rw [put_size]; exact hz) (by rw [put_defers]) (Ext.refl m w V)
  unfold wpOpIn
  rw [List.getElem?_toArray, ho]
  dsimp only
  cases hg : o.guard with
  | none =>
    rw [hg] at hs
    rw [if_pos (by simp [Region.wanted, hg])]
    exact run hs
  | some jw =>
    obtain ⟨j, want⟩ := jw
    rw [hg] at hs
    dsimp only at hs
    cases hj : gtmp ops j with
    | none => rw [hj] at hs; exact hs.elim
    | some g =>
      rw [hj] at hs
      dsimp only at hs
      have hy := yielded_eq ops a.tmps j
      rw [hj, Option.bind_some] at hy
      have hg2 := ht g
      split at hs
      · rename_i b hb
        rw [hb, RelV] at hg2
        have hget : a.tmps[g]? = some (.bool b) := by
          cases hq : a.tmps[g]? with
          | none => simp [hq] at hg2; cases hg2
          | some x => simp [hq] at hg2; rw [hg2]
        rw [hget] at hy
        simp only at hy
        have hw : Region.wanted o (yielded ops.toArray a.tmps) = (b == want) := by
          simp [Region.wanted, hg, hy]
        rw [hw]
        by_cases hbw : b = want
        · rw [if_pos (by simpa using hbw)]
          exact run (hs.1 hbw)
        · rw [if_neg (by simpa using hbw)]
          exact ⟨fun _ _ => trivial, skip (hs.2 (by cases b <;> cases want <;> simp_all))⟩
      · rename_i vs hb
        rw [hb, RelV] at hg2
        have hw : Region.wanted o (yielded ops.toArray a.tmps) = false := by
          have : yielded ops.toArray a.tmps j = none := by
            rw [hy]
            cases hq : a.tmps[g]? with
            | none => rfl
            | some x => simp [hq] at hg2; subst hg2; rfl
          simp [Region.wanted, hg, this]
        rw [hw, if_neg (by simp)]
        exact ⟨fun _ _ => trivial, skip hs⟩
      · exact hs.elim

theorem crun_one {o : Oper} {T : Tm} {H : Hp} {V : List Nat} {K : Tm → Hp → List Nat → Prop} (h : crun P n ops [o] T H V K) : cstepE P n ops o (tget T) H V fun E H V => ∃ T', tget T' = E ∧ K T' H V := by
  unfold cstepE
  rw [crun] at h
  have go : ∀ T0, tget T0 = tget T → cop P (evT T0) H V (fun c H' V' => crun P n ops [] (tput o.dst c T0) H' V' K) o.op → cop P (evE (tget T)) H V (fun c H' V' => ∃ T', tget T' = putE o.dst c (tget T) ∧ K T' H' V') o.op := fun T0 e q => by
    rw [evT_eq, e] at q
    exact cop_mono (fun c H V k => ⟨tput o.dst c T0, by rw [tget_tput, e], k⟩) q
  cases hg : o.guard with
  | none => simp only [hg] at h; exact ⟨h.1, go T rfl h.2⟩
  | some jw =>
    obtain ⟨j, want⟩ := jw
    simp only [hg] at h
    refine ⟨h.1, ?_⟩
    have h := h.2
    dsimp only
    cases hj : gtmp ops j with
    | none => rw [hj] at h; exact h
    | some g =>
      rw [hj] at h
      dsimp only at h ⊢
      have self : ∀ b : Bool, tget T g = .v (.bool b) → tget ((g, .v (.bool b)) :: T) = tget T := fun b e => putE_self (E := tget T) e
      unfold cguard at h
      split at h
      · rename_i b hb
        rw [hb]
        refine ⟨fun e => ?_, fun e => ?_⟩
        · subst e; exact go _ (self _ hb) (h.1 rfl)
        · have h3 := h.2 e
          rw [hb] at h3
          subst e
          exact ⟨_, by rw [tget_tput, self _ hb], h3⟩
      · rename_i vs hb
        rw [hb] at h ⊢
        exact ⟨_, tget_tput _ _ _, h⟩
      · exact h.elim

end
end Go.Proofs.YtpedbpbmnchllaaGreatDoor
namespace Go.Proofs.YtpedbpbmnchllaaGreatDoor
attribute [go_sem] pureOk noNil cfill

section
variable {P : Program} {n : Nat} {ds : List (Option Tmp)} {ls : List Oper} {T T' : Tm} {H H' : Hp} {V V' : List Nat} {K : Tm → Hp → List Nat → Prop}
end
section
variable {H H' : Hp} {V V' : List Nat}
theorem Fin.bool {a b : Bool} (h : a = b) (hokH : ∀ (b : Nat) cs, H[b]? = some (some cs) → okL H.length V.length cs) (hH : H'.take H.length = H) (hV : V'.take V.length = V) : Fin H.length V.length (Pu (.v (.bool b)) H V) (.v (.bool a)) H' V' := by
  subst h; exact Fin.pu (.refl _) trivial hokH hH hV
end

def TOk (i j : Nat) : Tm → Prop
  | [] => True
  | (_, c) :: r => okV i j c ∧ TOk i j r
theorem TOk.all {i j : Nat} : ∀ {T : Tm}, TOk i j T → ∀ p ∈ T, okV i j p.2
  | [], _, p, hp => by cases hp
  | (k, c) :: r, h, p, hp => by
    rcases List.mem_cons.1 hp with rfl | hp
    · exact h.1
    · exact TOk.all h.2 p hp
section
variable (i j : Nat)
@[go_sem] theorem TOk_nil : TOk i j [] = True := rfl
@[go_sem] theorem TOk_cons (k : Nat) (c : CV) (r : Tm) : TOk i j ((k, c) :: r) = (okV i j c ∧ TOk i j r) := rfl
@[go_sem] theorem okV_v (x : Value) : okV i j (.v x) = True := by rw [okV]
@[go_sem] theorem okV_agg (cs : List CV) : okV i j (.agg cs) = okL i j cs := by rw [okV]
@[go_sem] theorem okV_tup (cs : List CV) : okV i j (.tup cs) = okL i j cs := by rw [okV]
@[go_sem] theorem okV_sh (sz : Nat) (xs : List (List CV)) : okV i j (.sl .sh sz xs) = okE i j xs := by rw [okV]; simp [okTk]
@[go_sem] theorem okV_own (t v sz : Nat) (xs : List (List CV)) : okV i j (.sl (.own t v) sz xs) = (t < j ∧ okE i j xs) := by rw [okV]; simp [okTk]
@[go_sem] theorem okTk_own (t v : Nat) : okTk j (.own t v) = (t < j) := rfl
@[go_sem] theorem okTk_sh : okTk j .sh = True := rfl
@[go_sem] theorem okTk_ti : okTk j .ti = True := rfl
@[go_sem, simp] theorem take_set_len {α : Type} (V : List α) (k : Nat) (v : α) : (V.set k v).take V.length = V.set k v := List.take_of_length_le (by simp)
@[go_sem] theorem okV_bsl (b o n sz : Nat) : okV i j (.bsl b o n sz) = (b < i) := by rw [okV]
@[go_sem] theorem okV_ptr (b o : Nat) : okV i j (.ptr b o) = (b < i) := by rw [okV]
@[go_sem] theorem okV_fn (f : Nat) (cs : List CV) : okV i j (.fn f cs) = okL i j cs := by rw [okV]
@[go_sem] theorem okL_nil : okL i j [] = True := by rw [okL]
@[go_sem] theorem okL_cons (c : CV) (cs : List CV) : okL i j (c :: cs) = (okV i j c ∧ okL i j cs) := by rw [okL]
@[go_sem] theorem okE_nil : okE i j [] = True := by rw [okE]
@[go_sem] theorem okE_cons (e : List CV) (es : List (List CV)) : okE i j (e :: es) = (okL i j e ∧ okE i j es) := by rw [okE]
end
end Go.Proofs.YtpedbpbmnchllaaGreatDoor
namespace Go.Proofs.YtpedbpbmnchllaaGreatDoor

mutual
inductive Fy (b : Nat) (cs : List CV) : CV → CV → Prop
  | refl (c : CV) : Fy b cs c c
  | bsl (o n sz : Nat) (h : o + n * sz ≤ cs.length) : Fy b cs (.bsl b o n sz) (.sl .sh sz (chunks sz n (cs.drop o)))
  | agg {xs ys : List CV} (h : FyL b cs xs ys) : Fy b cs (.agg xs) (.agg ys)
  | tup {xs ys : List CV} (h : FyL b cs xs ys) : Fy b cs (.tup xs) (.tup ys)
  | sl (tk : Tk) (sz : Nat) {xs ys : List (List CV)} (h : FyE b cs xs ys) : Fy b cs (.sl tk sz xs) (.sl .sh sz ys)
inductive FyL (b : Nat) (cs : List CV) : List CV → List CV → Prop
  | nil : FyL b cs [] []
  | cons {c d : CV} {xs ys : List CV} (h : Fy b cs c d) (t : FyL b cs xs ys) : FyL b cs (c :: xs) (d :: ys)
inductive FyE (b : Nat) (cs : List CV) : List (List CV) → List (List CV) → Prop
  | nil : FyE b cs [] []
  | cons {c d : List CV} {xs ys : List (List CV)} (h : FyL b cs c d) (t : FyE b cs xs ys) : FyE b cs (c :: xs) (d :: ys)
end
theorem FyL.len {b : Nat} {cs : List CV} : ∀ {xs ys : List CV}, FyL b cs xs ys → xs.length = ys.length
  | _, _, .nil => rfl
  | _, _, .cons _ t => by rw [List.length_cons, List.length_cons, FyL.len t]
theorem FyE.len {b : Nat} {cs : List CV} : ∀ {xs ys : List (List CV)}, FyE b cs xs ys → xs.length = ys.length
  | _, _, .nil => rfl
  | _, _, .cons _ t => by rw [List.length_cons, List.length_cons, FyE.len t]

section
variable {m : Gh} {w : World} {V : List Nat} {b k : Nat} {cs : List CV}
mutual
theorem Fy.rel (hb : m.box[b]? = some k) (hl : cs.length ≤ m.lim k) (hc : RelC m w V k cs 0) {x y : CV} : ∀ {u : Value}, Fy b cs x y → RelV m w V x u → RelV m w V y u
  | _, .refl _, h => h
  | _, .bsl o n sz ho, h => Fz.rel hb hl hc (.bsl o n sz ho) h
  | _, .agg hq, h => by rw [RelV] at h; rw [RelV]; obtain ⟨us, h1, h2⟩ := h; exact ⟨us, h1, FyL.rel hb hl hc hq h2⟩
  | _, .tup hq, h => by rw [RelV] at h; rw [RelV]; obtain ⟨us, h1, h2⟩ := h; exact ⟨us, h1, FyL.rel hb hl hc hq h2⟩
  | _, .sl tk sz hq, h => by
    rw [RelV] at h; rw [RelV]
    obtain ⟨base, cap, h1, h2, h3, h4, h5⟩ := h
    have e := hq.len
    refine ⟨base, cap, by rw [← e]; exact h1, by rw [← e]; exact h2, trivial, h4, ?_⟩
    rcases h5 with h5 | ⟨k', o, h6, h7, h8⟩
    · left
      subst h5
      exact List.eq_nil_of_length_eq_zero e.symm
    · exact .inr ⟨k', o, h6, by rw [← e]; exact h7, FyE.rel hb hl hc hq h8⟩
theorem FyL.rel (hb : m.box[b]? = some k) (hl : cs.length ≤ m.lim k) (hc : RelC m w V k cs 0) {xs ys : List CV} : ∀ {us : List Value}, FyL b cs xs ys → RelL m w V xs us → RelL m w V ys us
  | _, .nil, h => h
  | _, .cons h t, hr => by
    rw [RelL] at hr; rw [RelL]
    obtain ⟨u, r, h1, h2, h3⟩ := hr
    exact ⟨u, r, h1, Fy.rel hb hl hc h h2, FyL.rel hb hl hc t h3⟩
theorem FyC.rel (hb : m.box[b]? = some k) (hl : cs.length ≤ m.lim k) (hc : RelC m w V k cs 0) {xs ys : List CV} {k' : Nat} : ∀ {o : Nat}, FyL b cs xs ys → RelC m w V k' xs o → RelC m w V k' ys o
  | _, .nil, h => h
  | _, .cons h t, hr => by
    rw [RelC] at hr; rw [RelC]
    obtain ⟨⟨u, h1, h2, h3⟩, h4⟩ := hr
    exact ⟨⟨u, h1, Fy.rel hb hl hc h h2, h3⟩, FyC.rel hb hl hc t h4⟩
theorem FyE.rel (hb : m.box[b]? = some k) (hl : cs.length ≤ m.lim k) (hc : RelC m w V k cs 0) {xs ys : List (List CV)} {k' sz : Nat} : ∀ {o : Nat}, FyE b cs xs ys → RelE m w V k' sz xs o → RelE m w V k' sz ys o
  | _, .nil, h => h
  | _, .cons h t, hr => by
    rw [RelE] at hr; rw [RelE]
    obtain ⟨h1, h2, h3⟩ := hr
    exact ⟨by rw [← h.len]; exact h1, FyC.rel hb hl hc h h2, FyE.rel hb hl hc t h3⟩
end
end

section
variable {m : Gh} {w : World} {V : List Nat} {b k : Nat} {cs : List CV}
mutual
theorem Fy.relO (hb : m.box[b]? = some k) (hr0 : ¬ IsRow w k) {x y : CV} : ∀ {u : Value}, Fy b cs x y → RelV m w V x u → RelV m w V y u
  | _, .refl _, h => h
  | _, .bsl o n sz ho, h => Fz.relO hb hr0 (.bsl o n sz ho) h
  | _, .agg hq, h => by rw [RelV] at h; rw [RelV]; obtain ⟨us, h1, h2⟩ := h; exact ⟨us, h1, FyL.relO hb hr0 hq h2⟩
  | _, .tup hq, h => by rw [RelV] at h; rw [RelV]; obtain ⟨us, h1, h2⟩ := h; exact ⟨us, h1, FyL.relO hb hr0 hq h2⟩
  | _, .sl tk sz hq, h => by
    rw [RelV] at h; rw [RelV]
    obtain ⟨base, cap, h1, h2, h3, h4, h5⟩ := h
    have e := hq.len
    refine ⟨base, cap, by rw [← e]; exact h1, by rw [← e]; exact h2, trivial, h4, ?_⟩
    rcases h5 with h5 | ⟨k', o, h6, h7, h8⟩
    · left
      subst h5
      exact List.eq_nil_of_length_eq_zero e.symm
    · exact .inr ⟨k', o, h6, by rw [← e]; exact h7, FyE.relO hb hr0 hq h8⟩
theorem FyL.relO (hb : m.box[b]? = some k) (hr0 : ¬ IsRow w k) {xs ys : List CV} : ∀ {us : List Value}, FyL b cs xs ys → RelL m w V xs us → RelL m w V ys us
  | _, .nil, h => h
  | _, .cons h t, hr => by
    rw [RelL] at hr; rw [RelL]
    obtain ⟨u, r, h1, h2, h3⟩ := hr
    exact ⟨u, r, h1, Fy.relO hb hr0 h h2, FyL.relO hb hr0 t h3⟩
theorem FyC.relO (hb : m.box[b]? = some k) (hr0 : ¬ IsRow w k) {xs ys : List CV} {k' : Nat} : ∀ {o : Nat}, FyL b cs xs ys → RelC m w V k' xs o → RelC m w V k' ys o
  | _, .nil, h => h
  | _, .cons h t, hr => by
    rw [RelC] at hr; rw [RelC]
    obtain ⟨⟨u, h1, h2, h3⟩, h4⟩ := hr
    exact ⟨⟨u, h1, Fy.relO hb hr0 h h2, h3⟩, FyC.relO hb hr0 t h4⟩
theorem FyE.relO (hb : m.box[b]? = some k) (hr0 : ¬ IsRow w k) {xs ys : List (List CV)} {k' sz : Nat} : ∀ {o : Nat}, FyE b cs xs ys → RelE m w V k' sz xs o → RelE m w V k' sz ys o
  | _, .nil, h => h
  | _, .cons h t, hr => by
    rw [RelE] at hr; rw [RelE]
    obtain ⟨h1, h2, h3⟩ := hr
    exact ⟨by rw [← h.len]; exact h1, FyC.relO hb hr0 h h2, FyE.relO hb hr0 t h3⟩
end
end

end Go.Proofs.YtpedbpbmnchllaaGreatDoor
namespace Go.Proofs.YtpedbpbmnchllaaGreatDoor
def isLd : Op → Bool
  | .load .. => true
  | _ => false
inductive Fl where
  | pl
  | st
  | ld
instance : DecidableEq Fl := fun a b => by cases a <;> cases b <;> first | exact isTrue rfl | exact isFalse (fun h => by cases h)
def Keep (S : List Nat) (H H' : Hp) : Prop := ∀ b ∈ S, H'[b]? = H[b]?
theorem Keep.of_prefix {H H' : Hp} {b : Nat} {cs : List CV} (h : H <+: H') (hb : H[b]? = some (some cs)) : H'[b]? = some (some cs) := by
  obtain ⟨L, rfl⟩ := h
  exact at_old _ _ hb
def inS (S : List Nat) (ev : Operand → CV) : Op → Prop
  | .load _ a => match ev a with | .ptr b _ => b ∈ S | _ => True
  | _ => True
def Kp (S : List Nat) (H H' : Hp) : Prop := ∀ b ∈ S, ∀ cs, H[b]? = some (some cs) → H'[b]? = some (some cs)
def rel (S : List Nat) (k : Bool) (H H' : Hp) : Prop := if k then Kp S H H' else H <+: H'
theorem Kp.of {S : List Nat} {H H' : Hp} (h : H <+: H') : Kp S H H' := fun _ _ _ h2 => Keep.of_prefix h h2
theorem Kp.keep {S : List Nat} {H H' : Hp} (h : Keep S H H') : Kp S H H' := fun b hb cs h2 => by rw [h b hb]; exact h2
theorem rel.refl {S : List Nat} {k : Bool} {H : Hp} : rel S k H H := by cases k; exact List.prefix_refl _; exact fun _ _ _ h => h
theorem rel.trans {S : List Nat} {k : Bool} {H H' H'' : Hp} (h1 : rel S k H H') (h2 : rel S k H' H'') : rel S k H H'' := by
  cases k
  · exact List.IsPrefix.trans h1 h2
  · exact fun b hb cs h => h2 b hb cs (h1 b hb cs h)
section
variable {P : Program}
theorem cop_onceF {S : List Nat} {κ : Bool} {ev : Operand → CV} {H : Hp} {V : List Nat} {K : CV → Hp → List Nat → Prop} {op : Op} (hp : pureOp op = true) (hk : pureOk ev op = true) (hS : κ = true → inS S ev op) (h : cop P ev H V K op) :
    ∃ c, K c H V ∧ ∀ H' V' K', (isLd op = true → rel S κ H H') → K' c H' V' → cop P ev H' V' K' op := by
  by_cases hl : isLd op = true ∧ κ = false
  · obtain ⟨hl, rfl⟩ := hl
    obtain ⟨c, h1, h2⟩ := cop_once hp hk h
    exact ⟨c, h1, fun H' V' K' q k => h2 H' V' K' (q hl) k⟩
  · replace hl : isLd op = false ∨ κ = true := by cases κ <;> simp_all
    cases op <;> simp only [pureOp, Bool.false_eq_true] at hp <;> simp only [cop] at h ⊢
    case move x => exact ⟨_, h, fun H' V' K' _ k => k⟩
    case assign x => exact ⟨_, h, fun H' V' K' _ k => k⟩
    case pick c x y =>
      split at h
      · exact ⟨_, h, fun H' V' K' _ k => k⟩
      · exact h.elim
    case load t a =>
      have hκ : κ = true := hl.elim (fun e => by cases e) id
      subst hκ
      obtain ⟨g, n, p, q⟩ := h
      have hS := hS rfl
      split at q
      · rename_i b o he
        obtain ⟨cs, a2, b2⟩ := q
        obtain ⟨c, h1, h2⟩ := ld_once b2
        simp only [inS, he] at hS
        refine ⟨c, h1, fun H' V' K' hl k => ⟨g, n, p, ?_⟩⟩
        exact ⟨cs, hl rfl b hS cs a2, h2 (fun c => K' c H' V') k⟩
      · rename_i cs o he
        obtain ⟨c, h1, h2⟩ := ld_once q
        refine ⟨c, h1, fun H' V' K' hl k => ⟨g, n, p, ?_⟩⟩
        exact h2 (fun c => K' c H' V') k
      · exact q.elim
    case slice =>
      obtain ⟨c, h1, h2⟩ := cslice_once h
      exact ⟨c, h1, fun H' V' K' _ k => h2 (fun c => K' c H' V') k⟩
    case makeFunc fn first captured =>
      split at h
      · exact ⟨_, h, fun H' V' K' _ k => k⟩
      · exact ⟨_, h, fun H' V' K' _ k => k⟩
      · exact h.elim
    case buildSlice t len parts =>
      obtain ⟨e, sz, a, b, c, d, f⟩ := h
      exact ⟨_, f, fun H' V' K' _ k => ⟨e, sz, a, b, c, d, k⟩⟩
    case nilCheck x =>
      split at h
      · exact ⟨_, h, fun H' V' K' _ k => k⟩
      · exact ⟨_, h, fun H' V' K' _ k => k⟩
      · exact ⟨_, h, fun H' V' K' _ k => k⟩
      · exact ⟨_, h, fun H' V' K' _ k => k⟩
      · exact ⟨_, h, fun H' V' K' _ k => k⟩
      · exact h.elim
    case binOp =>
      obtain ⟨c, h1, h2⟩ := cbin_once hk h
      exact ⟨c, h1, fun H' V' K' _ k => h2 (fun c => K' c H' V') k⟩
    case unOp =>
      obtain ⟨c, h1, h2⟩ := cun_once h
      exact ⟨c, h1, fun H' V' K' _ k => h2 (fun c => K' c H' V') k⟩
    case convert s d x =>
      obtain ⟨k, p, q⟩ := h
      split at q
      · rename_i he; exact ⟨_, q, fun H' V' K' _ r => ⟨_, p, by rw [he]; exact r⟩⟩
      · rename_i he
        obtain ⟨bs, a, b⟩ := q
        exact ⟨_, b, fun H' V' K' _ r => ⟨_, p, by rw [he]; exact ⟨bs, a, r⟩⟩⟩
      · rename_i he; exact ⟨_, q, fun H' V' K' _ r => ⟨_, p, by rw [he]; exact r⟩⟩
      · exact q.elim
    case fieldAddr s x f =>
      obtain ⟨o, g, n, p, q⟩ := h
      split at q
      · exact ⟨_, q, fun H' V' K' _ r => ⟨_, _, _, p, r⟩⟩
      · exact ⟨_, q, fun H' V' K' _ r => ⟨_, _, _, p, r⟩⟩
      · exact q.elim
    case field s x f =>
      obtain ⟨o, g, n, p, q⟩ := h
      split at q
      · obtain ⟨c, h1, h2⟩ := ld_once q
        exact ⟨c, h1, fun H' V' K' hl k => ⟨_, _, _, p, h2 (fun c => K' c H' V') k⟩⟩
      · exact q.elim
    case indexAddr =>
      obtain ⟨c, h1, h2⟩ := cidx_once h
      exact ⟨c, h1, fun H' V' K' _ k => h2 (fun c => K' c H' V') k⟩
    case index t x i =>
      obtain ⟨c, h1, h2⟩ := cindex_once h
      exact ⟨c, h1, fun H' V' K' _ k => h2 (fun c => K' c H' V') k⟩
    case extract x i =>
      split at h
      · obtain ⟨a, b⟩ := h
        exact ⟨_, b, fun H' V' K' _ r => ⟨a, r⟩⟩
      · exact h.elim
    case build t parts =>
      obtain ⟨ps, zs, cs, a, b, c⟩ := h
      exact ⟨_, c, fun H' V' K' _ r => ⟨ps, zs, cs, a, b, r⟩⟩
    case call c =>
      split at h
      · rename_i hc; rw [hc] at hp; cases hp
      · rename_i hc; rw [hc] at hp; cases hp
      · obtain ⟨x, y, a, q⟩ := h
        obtain ⟨r, h1, h2⟩ := cmm_once q
        exact ⟨r, h1, fun H' V' K' _ k => ⟨x, y, a, h2 (fun c => K' c H' V') k⟩⟩
      · obtain ⟨x, y, a, q⟩ := h
        obtain ⟨r, h1, h2⟩ := cmm_once q
        exact ⟨r, h1, fun H' V' K' _ k => ⟨x, y, a, h2 (fun c => K' c H' V') k⟩⟩
      · obtain ⟨t, x, a, b, q⟩ := h
        obtain ⟨r, h1, h2⟩ := clen_once q
        exact ⟨r, h1, fun H' V' K' _ k => ⟨t, x, a, b, h2 (fun c => K' c H' V') k⟩⟩
      · rename_i hc; rw [hc] at hp; cases hp
      · exact h.elim
end
section
variable (P : Program) (n : Nat) (ops : List Oper) (fl : Nat → Bool) (S : List Nat)
def SAnyF (K : En → Hp → List Nat → Prop) : Nat → Array Bool → En → Hp → List Nat → Prop
  | 0, listed, E, H, V => Region.ready .any ops.toArray listed = [] ∧ K E H V
  | f + 1, listed, E, H, V => (Region.ready .any ops.toArray listed = [] → K E H V) ∧
    ∀ i ∈ Region.ready .any ops.toArray listed, ∀ o, ops[i]? = some o → cstepE P n ops o E H V (fun E' H' V' => rel S (fl i) H H' ∧ SAnyF K f (listed.setIfInBounds i true) E' H' V')
end

section
variable {P : Program} {n : Nat} {ops : List Oper} {fl : Nat → Bool} {S : List Nat}
def HldF (P : Program) (n : Nat) (ops : List Oper) (S : List Nat) (κ : Bool) (o : Oper) (c : CV) (E : En) (H : Hp) : Prop :=
  ∀ E2 H2 V2 K2, (∀ d ∈ o.looksAt ops.toArray, E2 d = E d) → (isLd o.op = true → rel S κ H H2) → K2 (putE o.dst c E2) H2 V2 → cstepE P n ops o E2 H2 V2 K2

theorem pure_stepF {κ : Bool} {o : Oper} {E : En} {H : Hp} {V : List Nat} {K : En → Hp → List Nat → Prop} (hp : pureOp o.op = true) (hk : pureOk (evE E) o.op = true) (hS : κ = true → inS S (evE E) o.op) (hs : cstepE P n ops o E H V K) :
    ∃ c, K (putE o.dst c E) H V ∧ HldF P n ops S κ o c E H := by
  unfold cstepE at hs
  obtain ⟨hd, hs⟩ := hs
  have go : cop P (evE E) H V (fun c H' V' => K (putE o.dst c E) H' V') o.op → ∃ c, K (putE o.dst c E) H V ∧ ∀ (E2 : En) (H2 : Hp) (V2 : List Nat) (K2 : En → Hp → List Nat → Prop), (∀ d ∈ o.looksAt ops.toArray, E2 d = E d) → (isLd o.op = true → rel S κ H H2) → K2 (putE o.dst c E2) H2 V2 → cop P (evE E2) H2 V2 (fun c H' V' => K2 (putE o.dst c E2) H' V') o.op := fun q => by
    obtain ⟨c, h1, h2⟩ := cop_onceF hp hk hS q
    refine ⟨c, h1, fun E2 H2 V2 K2 ha hl k => ?_⟩
    rw [cop_local (eval_agree ha)]
    exact h2 H2 V2 (fun c H' V' => K2 (putE o.dst c E2) H' V') hl k
  cases hg : o.guard with
  | none =>
    rw [hg] at hs
    obtain ⟨c, h1, h2⟩ := go hs
    refine ⟨c, h1, fun E2 H2 V2 K2 ha hl k => ?_⟩
    unfold cstepE
    rw [hg]
    exact ⟨hd, h2 E2 H2 V2 K2 ha hl k⟩
  | some jw =>
    obtain ⟨j, want⟩ := jw
    rw [hg] at hs
    dsimp only at hs
    cases hj : gtmp ops j with
    | none => rw [hj] at hs; exact hs.elim
    | some g =>
      rw [hj] at hs
      dsimp only at hs
      split at hs
      · rename_i b hb
        by_cases hbw : b = want
        · obtain ⟨c, h1, h2⟩ := go (hs.1 hbw)
          refine ⟨c, h1, fun E2 H2 V2 K2 ha hl k => ?_⟩
          unfold cstepE
          rw [hg]
          dsimp only
          rw [hj]
          dsimp only
          rw [guard_agree ha hg hj, hb]
          exact ⟨hd, fun _ => h2 E2 H2 V2 K2 ha hl k, fun e => absurd (hbw.symm.trans e) (by cases want <;> simp)⟩
        · have hb2 : b = !want := by cases b <;> cases want <;> simp_all
          refine ⟨.v undef, hs.2 hb2, fun E2 H2 V2 K2 ha hl k => ?_⟩
          unfold cstepE
          rw [hg]
          dsimp only
          rw [hj]
          dsimp only
          rw [guard_agree ha hg hj, hb]
          exact ⟨hd, fun e => absurd e hbw, fun _ => k⟩
      · rename_i vs hb
        refine ⟨.v undef, hs, fun E2 H2 V2 K2 ha hl k => ?_⟩
        unfold cstepE
        rw [hg]
        dsimp only
        rw [hj]
        dsimp only
        rw [guard_agree ha hg hj, hb]
        exact ⟨hd, k⟩
      · exact hs.elim

theorem SAnyF_first {κ : Bool} {K : En → Hp → List Nat → Prop} {i : Nat} {oi : Oper} {c : CV} (hi : ops[i]? = some oi) :
    ∀ (f : Nat) (listed : Array Bool) (E : En) (H : Hp) (V : List Nat),
      (∀ j oj, ops[j]? = some oj → j ≠ i → listed.getD j true = false → (∀ e ∈ oj.after, Region.binds .any e = true → e.on ≠ i) → oi.apart ops.toArray oj = true) →
      (isLd oi.op = true → κ = false → ∀ j oj, ops[j]? = some oj → j ≠ i → listed.getD j true = false → fl j = true → ∃ e ∈ oj.after, Region.binds .any e = true ∧ e.on = i) → i ∈ Region.ready .any ops.toArray listed → HldF P n ops S κ oi c E H →
      SAnyF P n ops fl S K f (listed.setIfInBounds i true) (putE oi.dst c E) H V → SAnyF P n ops fl S K (f + 1) listed E H V := by
  intro f
  induction f with
  | zero =>
    intro listed E H V _ _ hr hy h
    refine ⟨fun e => (by rw [e] at hr; cases hr), fun j hj o ho => ?_⟩
    by_cases hji : j = i
    · subst hji; rw [hi] at ho; cases ho
      exact hy _ _ _ _ (fun _ _ => rfl) (fun _ => rel.refl) ⟨rel.refl, h⟩
    · have := ready_mono hj hji
      rw [h.1] at this; cases this
  | succ f ih =>
    intro listed E H V hfree hst hr hy h
    refine ⟨fun e => (by rw [e] at hr; cases hr), fun j hj o ho => ?_⟩
    by_cases hji : j = i
    · subst hji; rw [hi] at ho; cases ho
      exact hy _ _ _ _ (fun _ _ => rfl) (fun _ => rel.refl) ⟨rel.refl, h⟩
    · have h1 := h.2 j (ready_mono hj hji) o ho
      obtain ⟨hjun, oj, hoj, hall⟩ := mem_ready.1 hj
      rw [List.getElem?_toArray, ho] at hoj; cases hoj
      have hnot : ∀ e ∈ o.after, Region.binds .any e = true → e.on ≠ i := fun e he hb heq => by
        have h1 := hall e he hb
        have h0 := (mem_ready.1 hr).1
        rw [heq] at h1
        rcases Nat.lt_or_ge i listed.size with h' | h'
        · simp [h'] at h0 h1; rw [h0] at h1; cases h1
        · simp [Array.getElem?_eq_none h'] at h1
      obtain ⟨p1, p2, p3⟩ := Oper.apart_spec (hfree j o ho hji hjun hnot)
      have hfree' : ∀ k ok, ops[k]? = some ok → k ≠ i → (listed.setIfInBounds j true).getD k true = false →
          (∀ e ∈ ok.after, Region.binds .any e = true → e.on ≠ i) → oi.apart ops.toArray ok = true := fun k ok hk hki hun hno => by
        refine hfree k ok hk hki ?_ hno
        by_cases hjk : j = k
        · subst hjk; exact hjun
        · rw [getD_set_ne true hjk] at hun; exact hun
      have hput : ∀ {d : Option Nat} {c : CV} {E : En} {t : Nat}, (d ≠ some t) → putE d c E t = E t := fun {d c E t} h => by
        cases d with
        | none => rfl
        | some d => simp only [putE]; rw [if_neg (fun e => h (by rw [e]))]
      refine cstepE_swap (E := putE oi.dst c E) (fun d hd => hput fun e => p1 d e hd) (fun c' H' V' ⟨q1, q2⟩ => ⟨q1, ?_⟩) h1
      rw [putE_comm p2] at q2
      rw [Array.setIfInBounds_comm _ _ (Ne.symm hji)] at q2
      have hst' : isLd oi.op = true → κ = false → ∀ k ok, ops[k]? = some ok → k ≠ i → (listed.setIfInBounds j true).getD k true = false → fl k = true → ∃ e ∈ ok.after, Region.binds .any e = true ∧ e.on = i := fun hl hκ k ok hk hki hun => by
        refine hst hl hκ k ok hk hki ?_
        by_cases hjk : j = k
        · subst hjk; exact hjun
        · rw [getD_set_ne true hjk] at hun; exact hun
      refine ih (listed.setIfInBounds j true) _ H' V' hfree' hst' (ready_mono hr (Ne.symm hji)) (fun E2 H2 V2 K2 ha hl k => hy E2 H2 V2 K2 (fun d hd => ?_) (fun hld => rel.trans ?_ (hl hld)) k) q2
      case refine_2 =>
        cases hfj : fl j with
        | false =>
          rw [hfj] at q1
          cases κ
          · exact q1
          · exact Kp.of q1
        | true =>
          rw [hfj] at q1
          cases κ with
          | true => exact q1
          | false =>
          obtain ⟨e, he, hb, hon⟩ := hst hld rfl j o ho hji hjun hfj
          exact absurd hon (hnot e he hb)
      rw [ha d hd]
      exact hput fun e => p3 d e hd

theorem SAnyF_sound {ro : Option Nat} {Q : Exit → Act → World → Prop} {K : En → Hp → List Nat → Prop} : ∀ (f : Nat) {listed : Array Bool} {E : En} {m : Gh} {w : World} {a : Act} {H : Hp} {V : List Nat},
    Inv m w H V → (∀ k, RelV m w V (E k) (a.tmps.getD k undef)) → a.tmps.size = n → SAnyF P n ops fl S K f listed E H V →
    (∀ E' H' V' a' m' w', K E' H' V' → Inv m' w' H' V' → (∀ k, RelV m' w' V' (E' k) (a'.tmps.getD k undef)) → a'.tmps.size = n → a'.defers = a.defers → Ext m w V m' w' V' → Q .normal a' w') → wpAnyIn (fen ro) 0 P .any ops.toArray Q f listed a w
  | 0, listed, E, m, w, a, H, V, hi, ht, hz, h, hK => ⟨h.1, hK _ _ _ _ _ _ h.2 hi ht hz rfl (Ext.refl m w V)⟩
  | f + 1, listed, E, m, w, a, H, V, hi, ht, hz, h, hK => by
    refine ⟨fun e => hK _ _ _ _ _ _ (h.1 e) hi ht hz rfl (Ext.refl m w V), fun i hr => ?_⟩
    obtain ⟨_, o, ho, _⟩ := mem_ready.1 hr
    rw [List.getElem?_toArray] at ho
    refine cstepE_sound ho hi ht hz (h.2 i hr o ho) fun E' H' V' a' m' w' k1 k2 k3 k4 k5 k6 => ?_
    exact SAnyF_sound f k2 k3 k4 k1.2 fun E2 H2 V2 a2 m2 w2 q1 q2 q3 q4 q5 q6 => hK _ _ _ _ _ _ q1 q2 q3 q4 (q5.trans k5) (k6.trans q6)

inductive OT where
  | n
  | s (i : Nat) (b : Fl) (t : OT)
  | c (i : Nat) (t : OT)
  | f (i : Nat) (b : Fl) (s : OT) (j : Nat) (b' : Fl) (t : OT)
def flg (l : List Nat) (i : Nat) : Bool := l.contains i
def ldOk (ops : List Oper) (l : List Nat) (i : Nat) (listed : Array Bool) : Bool :=
  l.all fun p => p == i || listed.getD p true || (match ops[p]? with | some o => o.after.any fun e => Region.binds .any e && e.on == i | none => true)
theorem ldOk_spec {l : List Nat} {i : Nat} {listed : Array Bool} (h : ldOk ops l i listed = true) : ∀ j oj, ops[j]? = some oj → j ≠ i → listed.getD j true = false → flg l j = true → ∃ e ∈ oj.after, Region.binds .any e = true ∧ e.on = i := fun j oj hj hne hun hf => by
  have h1 := List.all_eq_true.1 h j (by simpa [flg] using hf)
  simp only [hun, Bool.or_false, hj, Bool.or_eq_true, beq_iff_eq] at h1
  rcases h1 with h1 | h1
  · exact absurd h1 hne
  · obtain ⟨e, h1, h2⟩ := Array.any_eq_true'.1 h1
    rw [Bool.and_eq_true] at h2
    exact ⟨e, h1, h2.1, by simpa using h2.2⟩
def ordT (ops : List Oper) (l0 : List Nat) : OT → Nat → Array Bool → Bool
  | .n, f, listed => f == 0 && (Region.ready .any ops.toArray listed).isEmpty
  | .s i b t, f, listed =>
    flg l0 i == (b == Fl.st) &&
    ((match ops[i]? with
      | some o => (pureOp o.op && (Region.ready .any ops.toArray listed).contains i && Region.free .any ops.toArray listed i && (!isLd o.op || b == Fl.ld || ldOk ops l0 i listed)) || Region.ready .any ops.toArray listed == [i]
      | none => false) && f != 0 && ordT ops l0 t (f - 1) (listed.setIfInBounds i true))
  | .c i t, f, listed =>
    (match ops[i]? with
      | some o => (Region.ready .any ops.toArray listed).contains i && Region.free .any ops.toArray listed i && !isLd o.op && o.guard.isNone
      | none => false) && f != 0 && ordT ops l0 t (f - 1) (listed.setIfInBounds i true)
  | .f i b s j b' t, f, listed =>
    flg l0 i == (b == Fl.st) && flg l0 j == (b' == Fl.st) && Region.ready .any ops.toArray listed == [i, j] && f != 0 && ordT ops l0 s (f - 1) (listed.setIfInBounds i true) && ordT ops l0 t (f - 1) (listed.setIfInBounds j true)
def FnOp (P : Program) (ev : Operand → CV) (op : Op) (c : CV) : Prop := ∀ (H : Hp) (V : List Nat) (K : CV → Hp → List Nat → Prop), K c H V → cop P ev H V K op
theorem hcall_mono {P : Program} {H : Hp} {V : List Nat} {x : CV} {args : List CV} {K K' : CV → Hp → List Nat → Prop} (h : ∀ c H V, K c H V → K' c H V) : hcall P H V x args K → hcall P H V x args K' := by
  cases x <;> simp only [hcall]
  case fn => exact fun q => CC.mono q h
  case bm => exact fun q => CC.mono q h
  case yl => exact fun q => YC.mono q h
  all_goals exact id
theorem FnOp_call {P : Program} {ev : Operand → CV} {f : Operand} {args : Array Operand} {tys : Array TypeId} {c : CV} : FnOp P ev (.call ⟨.value f, args, tys⟩) c ↔ ∀ H V, hcall P H V (ev f) (args.toList.map ev) (Pu c H V) := by
  constructor
  · intro h H V
    have := h H V (Pu c H V) ⟨rfl, rfl, rfl⟩
    rwa [cop_call] at this
  · intro h H V K k
    rw [cop_call]
    exact hcall_mono (fun c' H' V' ⟨e1, e2, e3⟩ => by subst e1 e2 e3; exact k) (h H V)
def crunT (P : Program) (n : Nat) (ops : List Oper) (S : List Nat) : OT → Tm → Hp → List Nat → (Tm → Hp → List Nat → Prop) → Prop
  | .n, T, H, V, K => K T H V
  | .s i b t, T, H, V, K =>
    match ops[i]? with
    | some o => pureOk (evT T) o.op = true ∧ (b = Fl.ld → inS S (evT T) o.op) ∧ crun P n ops [o] T H V fun T' H' V' => rel S (b == Fl.st) H H' ∧ crunT P n ops S t T' H' V' K
    | none => False
  | .c i t, T, H, V, K =>
    match ops[i]? with
    | some o => dOk o.dst n ∧ ∃ c, FnOp P (evT T) o.op c ∧ crunT P n ops S t (tput o.dst c T) H V K
    | none => False
  | .f i b s j b' t, T, H, V, K =>
    (match ops[i]? with
    | some o => crun P n ops [o] T H V fun T' H' V' => rel S (b == Fl.st) H H' ∧ crunT P n ops S s T' H' V' K
    | none => False) ∧
    (match ops[j]? with
    | some o => crun P n ops [o] T H V fun T' H' V' => rel S (b' == Fl.st) H H' ∧ crunT P n ops S t T' H' V' K
    | none => False)

theorem crunT_any {S : List Nat} {l0 : List Nat} {K : Tm → Hp → List Nat → Prop} : ∀ (l : OT) (f : Nat) (listed : Array Bool) (T : Tm) (H : Hp) (V : List Nat), ordT ops l0 l f listed = true → crunT P n ops S l T H V K →
    SAnyF P n ops (flg l0) S (fun E H V => ∃ T', tget T' = E ∧ K T' H V) f listed (tget T) H V
  | .n, f, listed, T, H, V, ho, h => by
    rw [ordT, Bool.and_eq_true] at ho
    obtain ⟨h0, ho⟩ := ho
    obtain rfl : f = 0 := by simpa using h0
    exact ⟨by simpa using ho, T, rfl, h⟩
  | .s i b t, f, listed, T, H, V, ho, h => by
    rw [ordT, Bool.and_eq_true, Bool.and_eq_true, Bool.and_eq_true] at ho
    rw [crunT] at h
    obtain ⟨hfb, ⟨ho, hf0⟩, hrest⟩ := ho
    obtain ⟨f, rfl⟩ : ∃ g, f = g + 1 := ⟨f - 1, by have : f ≠ 0 := by simpa using hf0
                                                   omega⟩
    rw [Nat.add_sub_cancel] at hrest
    replace hfb : flg l0 i = (b == Fl.st) := by simpa using hfb
    cases hi : ops[i]? with
    | none => rw [hi] at h; exact h.elim
    | some o =>
      rw [hi] at h ho
      dsimp only at h ho
      obtain ⟨hk, hin, h⟩ := h
      have h1 := crun_one h
      rw [Bool.or_eq_true] at ho
      rcases ho with ho | ho
      · rw [Bool.and_eq_true, Bool.and_eq_true, Bool.and_eq_true] at ho
        obtain ⟨⟨⟨hp, hr⟩, hf⟩, hld⟩ := ho
        obtain ⟨c, ⟨T', e1, _, e3⟩, hh⟩ := pure_stepF (κ := b == Fl.ld) (S := S) hp (by rw [← evT_eq]; exact hk) (fun e => by rw [← evT_eq]; exact hin (by simpa using e)) h1
        have := crunT_any t f _ T' H V hrest e3
        rw [e1] at this
        exact SAnyF_first hi f listed _ H V (fun j oj hj hne hun hno => Region.free_spec (by rw [List.getElem?_toArray]; exact hi) hf j oj (by rw [List.getElem?_toArray]; exact hj) hne hun hno) (fun hl hκ => ldOk_spec (by rw [hl, hκ] at hld; simpa using hld)) (by simpa using hr) hh this
      · have hr : Region.ready .any ops.toArray listed = [i] := by simpa using ho
        refine ⟨fun e => (by rw [hr] at e; cases e), fun j hj o' ho' => ?_⟩
        rw [hr] at hj
        obtain rfl : j = i := by simpa using hj
        rw [hi] at ho'; cases ho'
        refine cstepE_mono (fun E H' V' ⟨T', e1, e2, e3⟩ => ?_) h1
        subst e1
        exact ⟨by rw [hfb]; exact e2, crunT_any t f _ T' H' V' hrest e3⟩
  | .c i t, f, listed, T, H, V, ho, h => by
    rw [ordT, Bool.and_eq_true, Bool.and_eq_true] at ho
    rw [crunT] at h
    obtain ⟨⟨ho, hf0⟩, hrest⟩ := ho
    obtain ⟨f, rfl⟩ : ∃ g, f = g + 1 := ⟨f - 1, by have : f ≠ 0 := by simpa using hf0
                                                   omega⟩
    rw [Nat.add_sub_cancel] at hrest
    cases hi : ops[i]? with
    | none => rw [hi] at h; exact h.elim
    | some o =>
      rw [hi] at h ho
      dsimp only at h ho
      rw [Bool.and_eq_true, Bool.and_eq_true, Bool.and_eq_true] at ho
      obtain ⟨⟨⟨hr, hf⟩, hld⟩, hg⟩ := ho
      replace hld : isLd o.op = false := by simpa using hld
      replace hg : o.guard = none := by simpa using hg
      obtain ⟨hd, c, hfn, h⟩ := h
      have := crunT_any t f _ _ H V hrest h
      rw [tget_tput] at this
      refine SAnyF_first (κ := true) hi f listed _ H V (fun j oj hj hne hun hno => Region.free_spec (by rw [List.getElem?_toArray]; exact hi) hf j oj (by rw [List.getElem?_toArray]; exact hj) hne hun hno) (fun hl => by rw [hld] at hl; cases hl) (by simpa using hr) (fun E2 H2 V2 K2 ha _ k => ?_) this
      unfold cstepE
      rw [hg]
      refine ⟨hd, ?_⟩
      rw [cop_local (eval_agree ha), ← evT_eq]
      exact hfn H2 V2 _ k
  | .f i b s j b' t, f, listed, T, H, V, ho, h => by
    rw [ordT, Bool.and_eq_true, Bool.and_eq_true, Bool.and_eq_true, Bool.and_eq_true, Bool.and_eq_true] at ho
    rw [crunT] at h
    obtain ⟨⟨⟨⟨⟨hfb, hfb'⟩, hr⟩, hf0⟩, hs⟩, ht⟩ := ho
    obtain ⟨f, rfl⟩ : ∃ g, f = g + 1 := ⟨f - 1, by have : f ≠ 0 := by simpa using hf0
                                                   omega⟩
    rw [Nat.add_sub_cancel] at hs ht
    replace hfb : flg l0 i = (b == Fl.st) := by simpa using hfb
    replace hfb' : flg l0 j = (b' == Fl.st) := by simpa using hfb'
    replace hr : Region.ready .any ops.toArray listed = [i, j] := by simpa using hr
    refine ⟨fun e => (by rw [hr] at e; cases e), fun q hq o' ho' => ?_⟩
    rw [hr] at hq
    simp only [List.mem_cons, List.not_mem_nil, or_false] at hq
    rcases hq with rfl | rfl
    · have h := h.1
      rw [ho'] at h
      refine cstepE_mono (fun E H' V' ⟨T', e1, e2, e3⟩ => ?_) (crun_one h)
      subst e1
      exact ⟨by rw [hfb]; exact e2, crunT_any s f _ T' H' V' hs e3⟩
    · have h := h.2
      rw [ho'] at h
      refine cstepE_mono (fun E H' V' ⟨T', e1, e2, e3⟩ => ?_) (crun_one h)
      subst e1
      exact ⟨by rw [hfb']; exact e2, crunT_any t f _ T' H' V' ht e3⟩

theorem SWp.drawn0T {S l0 : List Nat} {id nb nv : Nat} {Q : Exit → Tm → Hp → List Nat → Prop} {T : Tm} {H : Hp} {V : List Nat} (l : OT) (hm : P.follows .mixedOrders = true) (ho : ordT ops l0 l ops.length (Array.replicate ops.length false) = true)
    (h : crunT P n ops S l T H V (Q .normal)) : SWp P n nb nv (.region id ops.toArray true) Q T H V := by
  intro ro D m w a m0 w0 V0 h1 h2 h3 hx hs
  refine wpIn_region_any hm ?_
  have hd : Inv m { w with drawn := w.drawn + 1 } H V ∧ Ext m w V m { w with drawn := w.drawn + 1 } V := hs.inv.drew
  have := crunT_any l ops.length _ T H V ho h
  simp only [List.size_toArray]
  refine SAnyF_sound (fl := flg l0) (S := S) (Q := fun e a' w' => ∃ T' H' V' m', Q e T' H' V' ∧ St D n m' w' a' T' H' V' ∧ Ext m0 w0 V0 m' w' V') ops.length hd.1 (fun k => RelV.mono hd.2 _ _ (hs.tm k)) hs.size this fun E' H' V' a' m' w' k1 k2 k3 k4 k5 k6 => ?_
  obtain ⟨T', e, hq⟩ := k1
  subst e
  exact ⟨T', H', V', m', hq, ⟨k2, k3, k4, by rw [k5]; exact hs.df.mono (hd.2.trans k6)⟩, (hx.trans hd.2).trans k6⟩
end
def inA (S : List Nat) : CV → Prop
  | .ptr b _ => b ∈ S
  | _ => True
def inSF (b : Fl) (S : List Nat) (ev : Operand → CV) (op : Op) : Prop := b = Fl.ld → inS S ev op
@[go_sem] theorem inSF_pl (S : List Nat) (ev : Operand → CV) (op : Op) : inSF .pl S ev op = True := eq_true fun h => by cases h
@[go_sem] theorem inSF_st (S : List Nat) (ev : Operand → CV) (op : Op) : inSF .st S ev op = True := eq_true fun h => by cases h
@[go_sem] theorem inSF_ld (S : List Nat) (ev : Operand → CV) (t : TypeId) (a : Operand) : inSF .ld S ev (.load t a) = inA S (ev a) := by
  refine propext ⟨fun h => ?_, fun h _ => ?_⟩
  · have := h rfl; simp only [inS] at this; unfold inA; split <;> simp_all
  · simp only [inS]; unfold inA at h; split <;> simp_all
@[go_sem] theorem inA_ptr (S : List Nat) (b o : Nat) : inA S (.ptr b o) = (b ∈ S) := rfl
@[go_sem] theorem inA_eptr (S : List Nat) (b : List CV) (o : Nat) : inA S (.eptr b o) = True := rfl
def relF (S : List Nat) (b : Fl) (H H' : Hp) : Prop := rel S (b == Fl.st) H H'
@[go_sem] theorem relF_pl (S : List Nat) (H H' : Hp) : relF S .pl H H' = (H <+: H') := rfl
@[go_sem] theorem relF_ld (S : List Nat) (H H' : Hp) : relF S .ld H H' = (H <+: H') := rfl
@[go_sem] theorem relF_st (S : List Nat) (H H' : Hp) : relF S .st H H' = Kp S H H' := rfl
@[go_sem] theorem Kp_nil (H H' : Hp) : Kp [] H H' = True := eq_true fun b hb => by cases hb
@[go_sem] theorem Kp_self (S : List Nat) (H : Hp) : Kp S H H = True := eq_true fun _ _ _ h => h
def crunTL (P : Program) (n : Nat) (ds : List (Option Tmp)) (ops : List Oper) (S : List Nat) : OT → Tm → Hp → List Nat → (Tm → Hp → List Nat → Prop) → Prop
  | .n, T, H, V, K => K T H V
  | .s i b t, T, H, V, K => withO (ops[i]?) fun o => pureOk (evT T) o.op = true ∧ inSF b S (evT T) o.op ∧ crunL P n ds [o] T H V fun T' H' V' => relF S b H H' ∧ crunTL P n ds ops S t T' H' V' K
  | .c i t, T, H, V, K => withO (ops[i]?) fun o => dOk o.dst n ∧ ∃ c, FnOp P (evT T) o.op c ∧ crunTL P n ds ops S t (tput o.dst c T) H V K
  | .f i b s j b' t, T, H, V, K => (withO (ops[i]?) fun o => crunL P n ds [o] T H V fun T' H' V' => relF S b H H' ∧ crunTL P n ds ops S s T' H' V' K) ∧
      (withO (ops[j]?) fun o => crunL P n ds [o] T H V fun T' H' V' => relF S b' H H' ∧ crunTL P n ds ops S t T' H' V' K)
def crunTS (P : Program) (n : Nat) (ds : List (Option Tmp)) (ops : List Oper) (S : List Nat) (l : OT) (T : Tm) (H : Hp) (V : List Nat) (K : Tm → Hp → List Nat → Prop) : Prop := crunTL P n ds ops S l T H V K
theorem crunT_lite (P : Program) (n : Nat) (ops : List Oper) (S : List Nat) : ∀ (l : OT) (T : Tm) (H : Hp) (V : List Nat) (K : Tm → Hp → List Nat → Prop), crunT P n ops S l T H V K = crunTL P n (ops.map (·.dst)) ops S l T H V K
  | .n, _, _, _, _ => rfl
  | .s i b t, T, H, V, K => by
    rw [crunT, crunTL, withO_eq]
    cases ops[i]? with
    | none => simp
    | some o => simp [crun_lite, crunT_lite P n ops S t, inSF, relF]
  | .c i t, T, H, V, K => by
    rw [crunT, crunTL, withO_eq]
    cases ops[i]? with
    | none => simp
    | some o => simp [crunT_lite P n ops S t]
  | .f i b s j b' t, T, H, V, K => by
    rw [crunT, crunTL, withO_eq, withO_eq]
    congr 1
    · cases ops[i]? with
      | none => simp
      | some o => simp [crun_lite, crunT_lite P n ops S s, relF]
    · cases ops[j]? with
      | none => simp
      | some o => simp [crun_lite, crunT_lite P n ops S t, relF]
section
variable {P : Program} {n : Nat} {ds : List (Option Tmp)} {ls : List Oper} {S : List Nat} {T T' : Tm} {H H' : Hp} {V V' : List Nat} {K : Tm → Hp → List Nat → Prop}
@[go_sem] theorem crunTS_eq (l : OT) : crunTS P n ds ls S l T H V K = crunTL P n ds ls S l T H V K := rfl
@[go_sem] theorem crunTL_nil : crunTL P n ds ls S .n T H V K = K T H V := rfl
def contT (b : Fl) (P : Program) (n : Nat) (ds : List (Option Tmp)) (ls : List Oper) (S : List Nat) (r : OT) (H : Hp) (K : Tm → Hp → List Nat → Prop) : Tm → Hp → List Nat → Prop := fun T' H' V' => relF S b H H' ∧ crunTL P n ds ls S r T' H' V' K
@[go_sem ↓] theorem contT_eq (b : Fl) (r : OT) : contT b P n ds ls S r H K T H' V = (relF S b H H' ∧ crunTL P n ds ls S r T H' V K) := id rfl
@[go_sem] theorem crunTL_s (i : Nat) (b : Fl) (r : OT) : crunTL P n ds ls S (.s i b r) T H V K = withO (ls[i]?) fun o => pureOk (evT T) o.op = true ∧ inSF b S (evT T) o.op ∧ crunL P n ds [o] T H V (contT b P n ds ls S r H K) := rfl
def contC (P : Program) (n : Nat) (ds : List (Option Tmp)) (ls : List Oper) (S : List Nat) (d : Option Tmp) (f : CV) (args : List CV) (r : OT) (T : Tm) (H : Hp) (V : List Nat) (K : Tm → Hp → List Nat → Prop) : Prop :=
  ∃ c, (∀ H V, hcall P H V f args (Pu c H V)) ∧ crunTL P n ds ls S r (tput d c T) H V K
def hfn (P : Program) (n : Nat) (ds : List (Option Tmp)) (ls : List Oper) (S : List Nat) (d : Option Tmp) (op : Op) (r : OT) (T : Tm) (H : Hp) (V : List Nat) (K : Tm → Hp → List Nat → Prop) : Prop := ∃ c, FnOp P (evT T) op c ∧ crunTL P n ds ls S r (tput d c T) H V K
@[go_sem] theorem hfn_call (d : Option Tmp) (f : Operand) (args : Array Operand) (tys : Array TypeId) (r : OT) : hfn P n ds ls S d (.call ⟨.value f, args, tys⟩) r T H V K = contC P n ds ls S d (evT T f) (args.toList.map (evT T)) r T H V K := by
  unfold hfn contC
  congr 1; funext c
  rw [FnOp_call]
@[go_sem] theorem crunTL_c (i : Nat) (r : OT) : crunTL P n ds ls S (.c i r) T H V K = withO (ls[i]?) fun o => dOk o.dst n ∧ hfn P n ds ls S o.dst o.op r T H V K := rfl
@[go_sem] theorem crunTL_f (i : Nat) (b : Fl) (s : OT) (j : Nat) (b' : Fl) (t : OT) : crunTL P n ds ls S (.f i b s j b' t) T H V K = ((withO (ls[i]?) fun o => crunL P n ds [o] T H V (contT b P n ds ls S s H K)) ∧ (withO (ls[j]?) fun o => crunL P n ds [o] T H V (contT b' P n ds ls S t H K))) := rfl
@[congr] theorem crunTL_congr {l : OT} (h1 : T = T') (h2 : H = H') (h3 : V = V') : crunTL P n ds ls S l T H V K = crunTL P n ds ls S l T' H' V' K := by subst h1 h2 h3; rfl
@[congr] theorem crunTS_congr {ds' : List (Option Tmp)} {l : OT} (h0 : ds = ds') (h1 : T = T') (h2 : H = H') (h3 : V = V') : crunTS P n ds ls S l T H V K = crunTS P n ds' ls S l T' H' V' K := by subst h0 h1 h2 h3; rfl
@[congr] theorem contC_congr {d : Option Tmp} {f f' : CV} {args args' : List CV} {r : OT} (h1 : T = T') (h2 : H = H') (h3 : V = V') (h4 : f = f') (h5 : args = args') : contC P n ds ls S d f args r T H V K = contC P n ds ls S d f' args' r T' H' V' K := by subst h1 h2 h3 h4 h5; rfl
end
theorem SWp.drawnT {P : Program} {n id nb nv : Nat} {ops : List Oper} {Q : Exit → Tm → Hp → List Nat → Prop} {T : Tm} {H : Hp} {V : List Nat} (S l0 : List Nat) (l : OT) (hm : P.follows .mixedOrders = true) (ho : ordT ops l0 l ops.length (Array.replicate ops.length false) = true)
    (h : crunTS P n (ops.map (·.dst)) ops S l T H V (Q .normal)) : SWp P n nb nv (.region id ops.toArray true) Q T H V := SWp.drawn0T l hm ho (by rw [crunT_lite]; exact h)
end Go.Proofs.YtpedbpbmnchllaaGreatDoor
namespace Go.Proofs.YtpedbpbmnchllaaGreatDoor

variable {P : Program} {m : Gh} {w : World} {H : Hp} {V : List Nat}

theorem step_push {w' : World} {o : Obj} (hi : Inv m w H V) (hp : Pushed w w' o) : Inv m w' H V ∧ Ext m w V m w' V := by
  have hx : Ext m w V m w' V := by
    refine ⟨hp.os, hp.tape, hp.output, by rw [hp.size]; omega, fun k c e fr h => ⟨c, hp.some h, rfl⟩, fun k => Nat.le_refl _, fun k o ho => ?_, fun k ds h => hp.some h, fun k hk _ _ => hp.old hk, fun _ _ h => h, fun b _ h => .inl ⟨b, h⟩, fun _ _ h => .inl h,
      fun t v h => ⟨v, h, Nat.le_refl _, fun _ => ⟨rfl, fun k hk => rfl⟩⟩⟩
    refine hp.cell ?_
    rcases Nat.lt_or_ge k w.heap.size with h | h
    · exact h
    · rw [hi.lim_new h] at ho; omega
  refine ⟨⟨hi.glob.mono hx, hi.boxlen, hi.tiplen, fun k hk => ?_, fun t k h => ?_, fun b k h => ?_, hi.uniq, fun b c h => ?_⟩, hx⟩
  · obtain ⟨c, e', fr, h1, h2⟩ := hi.limv k hk
    exact ⟨c, e', fr, hp.some h1, h2⟩
  · obtain ⟨⟨c, e', h1⟩, h2⟩ := hi.tips t k h
    exact ⟨⟨c, e', hp.some h1⟩, h2⟩
  · have := hi.boxes b k h
    rw [hp.size]; omega
  · exact (hi.live b c h).mono hx fun k hk => ⟨hp.old (hi.boxes b k hk), rfl⟩

theorem relK_tget {tmps : Array Value} : ∀ {ks : List Nat} {cs : List CV}, RelK m w V tmps ks cs → RelT m w V (ks.zip cs) tmps
  | k :: ks, c :: cs, h => fun n => by
    rw [List.zip_cons_cons]
    simp only [tget]
    by_cases hn : n = k
    · rw [if_pos hn, hn]; exact h.1
    · rw [if_neg hn]; exact relK_tget h.2 n
  | [], [], _ => fun n => by rw [List.zip_nil_left, tget, RelV]; trivial
  | [], _ :: _, h => h.elim
  | _ :: _, [], h => h.elim
theorem relK_of {tmps : Array Value} : ∀ {T : Tm}, (∀ p ∈ T, RelV m w V p.2 (tmps.getD p.1 undef)) → RelK m w V tmps (T.map (·.1)) (T.map (·.2))
  | [], _ => trivial
  | p :: T, h => ⟨h p (by simp), relK_of fun q hq => h q (List.mem_cons_of_mem _ hq)⟩
theorem zip_fst_snd : ∀ (T : Tm), (T.map (·.1)).zip (T.map (·.2)) = T
  | [] => rfl
  | p :: T => by rw [List.map_cons, List.map_cons, List.zip_cons_cons, zip_fst_snd T]

def tps : List Nat → List CV → Tm → Tm
  | p :: ps, c :: cs, T => tps ps cs ((p, c) :: T)
  | _, _, T => T
theorem tps_rel {n : Nat} : ∀ {ps : List Nat} {cs : List CV} {us : List Value} {T : Tm} {tmps : Array Value}, RelT m w V T tmps → tmps.size = n → (∀ p ∈ ps, p < n) → cs.length = ps.length → RelL m w V cs us →
    RelT m w V (tps ps cs T) ((ps.zip us).foldl (fun tmps (t, a) => tmps.setIfInBounds t a) tmps) ∧ ((ps.zip us).foldl (fun (tmps : Array Value) (t, a) => tmps.setIfInBounds t a) tmps).size = n
  | [], [], us, T, tmps, h, hn, _, _, _ => ⟨h, hn⟩
  | p :: ps, c :: cs, us, T, tmps, h, hn, hp, hl, hr => by
    rw [RelL] at hr
    obtain ⟨u, r, rfl, h1, h2⟩ := hr
    have h3 := RelT.put (a := { tmps := tmps, defers := [] }) (d := some p) h h1 (by show p < tmps.size; rw [hn]; exact hp p (by simp))
    exact tps_rel (tmps := tmps.setIfInBounds p u) h3 (by simp [hn]) (fun q hq => hp q (List.mem_cons_of_mem _ hq)) (by simpa using hl) h2
  | [], _ :: _, _, _, _, _, _, _, hl, _ => by simp at hl
  | _ :: _, [], _, _, _, _, _, _, hl, _ => by simp at hl

section
variable (n : Nat) (ps : Array Nat) (aS bd : Code) (T : Tm)
def lpc (st : LoopState) (pd : Option Code) : CV := .objl st pd n ps aS bd (T.map (·.1)) (T.map (·.2))
def RQ (b : Nat) (K : CV → Hp → List Nat → Prop) : Exit → Tm → Hp → List Nat → Prop
  | .normal, _, H, V => H[b]? = some (some [lpc n ps aS bd T .busy none]) ∧ K (.v (.bool true)) (H.set b (some [lpc n ps aS bd T .ready none])) V
  | .ret, _, H, V => H[b]? = some (some [lpc n ps aS bd T .busy none]) ∧ K (.v (.bool false)) (H.set b (some [lpc n ps aS bd T .done (some .ret)])) V
  | .exit id, _, H, V => H[b]? = some (some [lpc n ps aS bd T .busy none]) ∧ K (.v (.bool false)) (H.set b (some [lpc n ps aS bd T .done (some (.exit id))])) V
  | _, _, _, _ => False
end
theorem live_loop {n : Nat} {ps : Array Nat} {aS bd : Code} {T : Tm} {st : LoopState} {pd : Option Code} (hi : Inv m w H V) {b k : Nat} (hb : H[b]? = some (some [lpc n ps aS bd T st pd])) (hk : m.box[b]? = some k) :
    ∃ tmps fn df, w.heap[k]? = some (.loop { state := st, pending := pd, fn := fn, tmps := tmps, params := ps, assign := aS, body := bd, defers := df }) ∧ tmps.size = n ∧ RelT m w V T tmps ∧ RelK m w V tmps (T.map (·.1)) (T.map (·.2)) := by
  cases hi.live b _ hb with
  | row k' c0 e0 g1 g2 g3 g4 g5 =>
    obtain ⟨u, _, q, _⟩ := relC_get g5 0 _ rfl
    rw [lpc, RelV] at q; exact q.elim
  | obj k' x' g1 g2 g3 =>
    rw [hk] at g1; cases g1; cases g2
    obtain ⟨t, f, d, h1, h2, h3⟩ := g3
    exact ⟨t, f, d, h1, h2, by have := relK_tget h3; rwa [zip_fst_snd] at this, h3⟩
theorem loop_turn {n : Nat} {ps : Array Nat} {aS bd : Code} {T : Tm} {st st' : LoopState} {pd pd' : Option Code} (hi : Inv m w H V) {b k : Nat} (hb : H[b]? = some (some [lpc n ps aS bd T st pd])) (hk : m.box[b]? = some k) {r : Loop} (hr : w.heap[k]? = some (.loop r)) :
    Inv m (w.putObj k (.loop { r with state := st', pending := pd' })) (H.set b (some [lpc n ps aS bd T st' pd'])) V ∧ Ext m w V m (w.putObj k (.loop { r with state := st', pending := pd' })) V := by
  obtain ⟨t, f, d, h1, h2, _, h3⟩ := live_loop hi hb hk
  rw [hr] at h1; cases h1
  exact step_setObj (y := lpc n ps aS bd T st' pd') hi hb hk ⟨t, f, d, hr, h2, h3⟩ (by intros; simp) fun hx hnew => ⟨t, f, d, hnew, h2, h3.mono hx⟩

theorem YC.of_round {n b : Nat} {ps : Array Nat} {aS bd : Code} {T : Tm} {args : List CV} {K : CV → Hp → List Nat → Prop} (hb : H[b]? = some (some [lpc n ps aS bd T .ready none])) (hl : args.length = ps.size) (hps : ps.toList.all (fun p => decide (p < n)) = true)
    (h : SWp P n H.length V.length aS (thn (fun T1 H1 V1 => H1[b]? = some (some [lpc n ps aS bd T .ready none]) ∧ SWp P n H.length V.length bd (RQ n ps aS bd T b K) T1 (H1.set b (some [lpc n ps aS bd T .busy none])) V1) (fun _ _ _ _ => False)) (tps ps.toList args T) H V) : YC P b args H V K := by
  intro m w us k hi hu hk
  obtain ⟨tmps, fn, df, g1, g2, g3, _⟩ := live_loop hi hb hk
  have hus := relL_length hu
  have hy := run_yield (P := P) (w := w) (l := k) (args := us.toArray) g1 (by simp; omega)
  refine ⟨fn, _, aS, bd, hy, roundIn_of_wpIn (F := Fence.wide) trivial ?_⟩
  obtain ⟨q1, q2⟩ := tps_rel (n := n) (ps := ps.toList) g3 g2 (fun p hp => by simpa using List.all_eq_true.1 hps p hp) (by simpa using hl) hu
  have hfold : ((ps.zip us.toArray).foldl (fun (tmps : Array Value) (t, a) => tmps.setIfInBounds t a) tmps) = ((ps.toList.zip us).foldl (fun tmps (t, a) => tmps.setIfInBounds t a) tmps) := by
    rw [← Array.foldl_toList]
    simp [Array.toList_zip]
  have hst : St ⟨[], w.heap.size, false⟩ n m w { tmps := (ps.zip us.toArray).foldl (fun (tmps : Array Value) (t, a) => tmps.setIfInBounds t a) tmps, defers := [] } (tps ps.toList args T) H V :=
    ⟨hi, by rw [hfold]; exact q1, by rw [hfold]; exact q2, DOk.own _ _⟩
  refine wpIn_mono (h (some k) _ m w _ m w V hi.boxlen hi.tiplen rfl (Ext.refl m w V) hst) fun e a1 w1 ⟨T1, H1, V1, m1, k1, s1, x1⟩ => ?_
  cases e with
  | normal =>
    obtain ⟨k1, k2⟩ := k1
    have hk1 := x1.box _ _ hk
    obtain ⟨t1, f1, d1, r1, r2, _, r3⟩ := live_loop s1.inv k1 hk1
    obtain ⟨i1, x2⟩ := loop_turn (st' := .busy) (pd' := none) s1.inv k1 hk1 r1
    refine ⟨_, run_beginRound r1 rfl, ?_⟩
    have s2 : St ⟨[], w.heap.size, false⟩ n m1 _ a1 T1 (H1.set b (some [lpc n ps aS bd T .busy none])) V1 := ⟨i1, s1.tm.mono x2, s1.size, s1.df.mono x2⟩
    refine wpIn_mono (k2 (some k) _ m1 _ a1 m w V hi.boxlen hi.tiplen rfl (x1.trans x2) s2) fun e a3 w3 ⟨T3, H3, V3, m3, k3, s3, x3⟩ => ?_
    have fin : ∀ (st : LoopState) (jump : Option Code), (if jump.isNone then LoopState.ready else .done) = st → H3[b]? = some (some [lpc n ps aS bd T .busy none]) → K (.v (.bool jump.isNone)) (H3.set b (some [lpc n ps aS bd T st jump])) V3 →
        ∃ v w', (Instr.endRound k jump).run P w3 = .ok v w' ∧ ∃ t m' H' V', Ending.returned v = .returned (.bool t) ∧ K (.v (.bool t)) H' V' ∧ Inv m' w' H' V' ∧ Ext m w V m' w' V' := fun st jump hst hb3 hK => by
      have hk3 := x3.box _ _ hk
      obtain ⟨t4, f4, d4, r4, _⟩ := live_loop s3.inv hb3 hk3
      obtain ⟨i4, x4⟩ := loop_turn (st' := st) (pd' := jump) s3.inv hb3 hk3 r4
      have := run_endRound (P := P) jump r4
      rw [hst] at this
      exact ⟨_, _, this, jump.isNone, m3, _, V3, rfl, hK, i4, x3.trans x4⟩
    cases e with
    | normal => exact fin .ready none rfl k3.1 k3.2
    | ret => exact fin .done (some .ret) rfl k3.1 k3.2
    | exit id => exact fin .done (some (.exit id)) rfl k3.1 k3.2
    | _ => exact k3.elim
  | _ => exact k1.elim

section
variable {n nb nv : Nat} {T : Tm} {Q Q' : Exit → Tm → Hp → List Nat → Prop}
theorem SWp.s0 {c : Code} (h : SWp P n nb nv c Q T H V) : SWp0 P n nb nv c Q T H V := fun D _ => h none D
theorem SWp0.mono {c : Code} (h : SWp0 P n nb nv c Q T H V) (hq : ∀ e T H V, Q e T H V → Q' e T H V) : SWp0 P n nb nv c Q' T H V :=
  fun D hD m w a m0 w0 V0 h1 h2 h3 hx hs => wpIn_mono (h D hD m w a m0 w0 V0 h1 h2 h3 hx hs) fun _ _ _ ⟨T', H', V', m', k1, k2⟩ => ⟨T', H', V', m', hq _ _ _ _ k1, k2⟩
theorem SWp0.seq {x y : Code} (h : SWp0 P n nb nv x (thn (SWp0 P n nb nv y Q) Q) T H V) : SWp0 P n nb nv (.seq x y) Q T H V := by
  intro D hD m w a m0 w0 V0 h1 h2 h3 hx hs
  refine wpIn_seq (wpIn_mono (h D hD m w a m0 w0 V0 h1 h2 h3 hx hs) fun e a' w' ⟨T', H', V', m', k1, k2, k3⟩ => ?_)
  cases e with
  | normal => exact k1 D hD m' w' a' m0 w0 V0 h1 h2 h3 k3 k2
  | _ => exact ⟨T', H', V', m', k1, k2, k3⟩
theorem SWp0.ghost {c : Code} {T' : Tm} {H' : Hp} {V' : List Nat} (g : Gst n nb nv T H V T' H' V') (h : SWp0 P n nb nv c Q T' H' V') : SWp0 P n nb nv c Q T H V := by
  intro D hD m w a m0 w0 V0 h1 h2 h3 hx hs
  obtain ⟨m', s1, s2⟩ := g D m w a m0 w0 V0 h1 h2 h3 hx hs
  exact h D hD m' w a m0 w0 V0 h1 h2 h3 s2 s1
theorem SWp0.block {id : Nat} {c : Code} (h : SWp0 P n nb nv c (blk id Q) T H V) : SWp0 P n nb nv (.block id c) Q T H V := by
  intro D hD m w a m0 w0 V0 h1 h2 h3 hx hs
  refine wpIn_block (wpIn_mono (h D hD m w a m0 w0 V0 h1 h2 h3 hx hs) fun e a' w' ⟨T', H', V', m', k1, k2⟩ => ?_)
  cases e with
  | exit id' =>
    simp only [blk] at k1
    simp only [Exit.inBlock]
    split
    · rename_i hid; rw [if_pos hid] at k1; exact ⟨T', H', V', m', k1, k2⟩
    · rename_i hid; rw [if_neg hid] at k1; exact ⟨T', H', V', m', k1, k2⟩
  | _ => exact ⟨T', H', V', m', k1, k2⟩
theorem SWp0.join {x y : Code} {α : Type} (S : α → Tm × Hp × List Nat) (ok : α → Prop)
    (h1 : SWp0 P n nb nv x (thn (fun T H V => ∃ s, ok s ∧ Sh n nb nv T H V (S s)) Q) T H V) (h2 : ∀ s, ok s → SWp0 P n nb nv y Q (S s).1 (S s).2.1 (S s).2.2) : SWp0 P n nb nv (.seq x y) Q T H V :=
  SWp0.seq (h1.mono fun e T H V k => by
    cases e with
    | normal => obtain ⟨s, k1, k2⟩ := k; exact SWp0.ghost k2 (h2 s k1)
    | _ => exact k)
def RP (n : Nat) (ps : Array Nat) (aS bd : Code) (T0 : Tm) (b : Nat) (Q : Exit → Tm → Hp → List Nat → Prop) (T : Tm) : CV → Hp → List Nat → Prop := fun _ H V =>
  (H[b]? = some (some [lpc n ps aS bd T0 .ready none]) ∧ Q .normal T (H.set b none) V) ∨
  (H[b]? = some (some [lpc n ps aS bd T0 .done (some .ret)]) ∧ Q .ret T (H.set b none) V) ∨
  ∃ id, H[b]? = some (some [lpc n ps aS bd T0 .done (some (.exit id))]) ∧ Q (.exit id) T (H.set b none) V
theorem set_set_none (H : Hp) (b : Nat) (x : Option (List CV)) : (H.set b x).set b none = H.set b none := by rw [List.set_set]
theorem SWp0.range {g : Operand} {ps : Array Nat} {aS bd : Code} (T0 : Tm) {f : Nat} {caps : List CV} (hg : evT T g = .fn f caps) (hT : TLe T T0)
    (h : CC P f (.yl H.length :: caps) (H ++ [some [lpc n ps aS bd T0 .ready none]]) V (RP n ps aS bd T0 H.length Q T)) : SWp0 P n nb nv (.rangeFunc g ps aS bd) Q T H V := by
  intro D hD m w a m0 w0 V0 h1 h2 h3 hx hs
  refine wpIn_rangeFunc (F := fen none) fun fn _ => ?_
  have ef := ev_rel hs.inv.glob hs.tm g
  rw [hg, RelV] at ef
  obtain ⟨us, eu, hr⟩ := ef
  obtain ⟨⟨fnn, f1, f2, f3⟩, hc⟩ := h
  have hp1 := Pushed.alloc w (.deferred (some []))
  obtain ⟨i1, x1⟩ := step_push hs.inv hp1
  have hp2 := Pushed.alloc (w.alloc (.deferred (some []))) (.loop { state := .ready, pending := none, fn := fn, tmps := a.tmps, params := ps, assign := aS, body := bd, defers := w.heap.size })
  have hsz1 : (w.alloc (.deferred (some []))).heap.size = w.heap.size + 1 := hp1.size
  have hst2 := step_obj (x := lpc n ps aS bd T0 .ready none) i1 hp2 (fun hxx => ⟨a.tmps, fn, w.heap.size, hp2.new, hs.size, relK_of fun p hp => by
    have e := TLe.get hT p hp
    exact RelV.mono hxx _ _ (RelV.mono x1 _ _ (Le.rel e (hs.tm p.1)))⟩)
  obtain ⟨m1, hk0, i2, x2⟩ : ∃ m1 : Gh, m1.box[H.length]? = some (w.heap.size + 1) ∧ Inv m1 ((w.alloc (.deferred (some []))).alloc (.loop { state := .ready, pending := none, fn := fn, tmps := a.tmps, params := ps, assign := aS, body := bd, defers := w.heap.size })) (H ++ [some [lpc n ps aS bd T0 .ready none]]) V ∧
      Ext m (w.alloc (.deferred (some []))) V m1 ((w.alloc (.deferred (some []))).alloc (.loop { state := .ready, pending := none, fn := fn, tmps := a.tmps, params := ps, assign := aS, body := bd, defers := w.heap.size })) V :=
    ⟨_, by rw [← hsz1, ← i1.boxlen]; exact List.getElem?_concat_length, hst2.1, hst2.2⟩
  have x12 := x1.trans x2
  have hyl : RelV m1 ((w.alloc (.deferred (some []))).alloc (.loop { state := .ready, pending := none, fn := fn, tmps := a.tmps, params := ps, assign := aS, body := bd, defers := w.heap.size })) V (.yl H.length) (.func (.yield (w.heap.size + 1)) #[] #[]) := by
    rw [RelV]
    exact ⟨w.heap.size + 1, hk0, rfl⟩
  have hcall := hc m1 _ (.func (.yield (w.heap.size + 1)) #[] #[] :: us) i2 (by rw [RelL]; exact ⟨_, _, rfl, hyl, RelL.mono x12 _ _ hr⟩)
  have hb' : ¬ fnn.body = none := by cases hbb : fnn.body <;> simp_all
  have f3' : ¬ fnn.name = "runtime.NumGoroutine" := by simpa using f3
  refine ⟨w.heap.size + 1, [mark w.heap.size], ((w.alloc (.deferred (some []))).alloc (.loop { state := .ready, pending := none, fn := fn, tmps := a.tmps, params := ps, assign := aS, body := bd, defers := w.heap.size })), { target := .fn (.func f) us.toArray, args := #[.func (.yield (w.heap.size + 1)) #[] #[]] }, ((w.alloc (.deferred (some []))).alloc (.loop { state := .ready, pending := none, fn := fn, tmps := a.tmps, params := ps, assign := aS, body := bd, defers := w.heap.size })), f, (Value.func (.yield (w.heap.size + 1)) #[] #[] :: us).toArray, ((w.alloc (.deferred (some []))).alloc (.loop { state := .ready, pending := none, fn := fn, tmps := a.tmps, params := ps, assign := aS, body := bd, defers := w.heap.size })), run_enterLoop_outer fn a.tmps ps aS bd, ?_, fun _ _ => trivial, ?_, fun h => (by cases h), ?_⟩
  · have e0 : a.eval (.const (.func (.yield (w.heap.size + 1)) #[] #[])) = .func (.yield (w.heap.size + 1)) #[] #[] := rfl
    simp [resolve, eu, e0, Deferred.ofValue]
  · simp [invoke, callFunc, f1, f3', hb']
  · refine callsIn_fen.2 (Calls.mono hcall fun e w3 ⟨u, m3, r, H3, V3, q1, q2, q3, q4, q5⟩ => ?_)
    subst q1
    have hk3 := q5.box _ _ hk0
    have xx := x12.trans q5
    have done : ∀ (st : LoopState) (pd : Option Code), st ≠ .busy → H3[H.length]? = some (some [lpc n ps aS bd T0 st pd]) →
        ∃ w4, (Instr.endLoop (w.heap.size + 1)).run P w3 = .ok pd w4 ∧ St D n m3 w4 { a with defers := [mark w.heap.size] ++ a.defers } T (H3.set H.length none) V3 ∧ Ext m w V m3 w4 V3 := fun st pd hst hb3 => by
      obtain ⟨t4, f4, d4, r4, _⟩ := live_loop q3 hb3 hk3
      obtain ⟨i4, x4⟩ := loop_turn (st' := .exhausted) (pd' := pd) q3 hb3 hk3 r4
      have hk := i4.kill H.length
      rw [set_set_none] at hk
      refine ⟨_, run_endLoop r4 hst, ⟨hk, (hs.tm.mono xx).mono x4, hs.size, ?_⟩, xx.trans x4⟩
      obtain ⟨d1, ms, d2, d3, d4⟩ := hs.df
      refine ⟨Nat.le_trans d1 (xx.trans x4).size, w.heap.size :: ms, by simp [d2], ⟨List.nodup_cons.2 ⟨fun hm => ?_, d3.1⟩, fun e => by rw [hD] at e; cases e⟩, fun r hr => ?_⟩
      · have := (Array.getElem?_eq_some_iff.1 (d4 _ hm).2).1
        omega
      · rcases List.mem_cons.1 hr with rfl | hr
        · refine ⟨d1, (q5.trans x4).dfr _ _ (x2.dfr _ _ hp1.new)⟩
        · exact ⟨(d4 r hr).1, (xx.trans x4).dfr _ _ (d4 r hr).2⟩
    rcases q2 with ⟨p1, p2⟩ | ⟨p1, p2⟩ | ⟨id, p1, p2⟩
    · obtain ⟨w4, e1, e2, e3⟩ := done .ready none (by decide) p1
      exact ⟨none, w4, e1, T, _, V3, m3, p2, e2, hx.trans e3⟩
    · obtain ⟨w4, e1, e2, e3⟩ := done .done (some .ret) (by decide) p1
      exact ⟨some .ret, w4, e1, wpIn_ret ⟨T, _, V3, m3, p2, e2, hx.trans e3⟩⟩
    · obtain ⟨w4, e1, e2, e3⟩ := done .done (some (.exit id)) (by decide) p1
      exact ⟨some (.exit id), w4, e1, wpIn_exit ⟨T, _, V3, m3, p2, e2, hx.trans e3⟩⟩
end
end Go.Proofs.YtpedbpbmnchllaaGreatDoor
namespace Go.Proofs.YtpedbpbmnchllaaGreatDoor
variable {P : Program}
theorem crun_soundR {l2 : List Oper} {ro : Option Nat} {D : Dl} {n : Nat} {ops : List Oper} {K : Tm → Hp → List Nat → Prop} {Q : Exit → Act → World → Prop} : ∀ (l : List Oper) {a : Act} {m : Gh} {w : World} {T : Tm} {H : Hp} {V : List Nat}, St D n m w a T H V → crun P n ops l T H V K →
    (∀ T' H' V' a' w' m', K T' H' V' → St D n m' w' a' T' H' V' → Ext m w V m' w' V' → wpListIn (fen ro) 0 P ops.toArray Q l2 a' w') → wpListIn (fen ro) 0 P ops.toArray Q (l ++ l2) a w
  | [], a, m, w, T, H, V, hs, h, hK => hK T H V a w m h hs (Ext.refl m w V)
  | o :: rest, a, m, w, T, H, V, hs, h, hK => by
    have run : ∀ T0, RelT m w V T0 a.tmps → dOk o.dst n → cop P (evT T0) H V (fun c H' V' => crun P n ops rest (tput o.dst c T0) H' V' K) o.op → o.wpIn (fen ro) 0 P a w (wpListIn (fen ro) 0 P ops.toArray Q (rest ++ l2)) Q := by
      intro T0 ht hd hc
      refine cop_sound (P := P) hs.inv (fun x => ev_rel hs.inv.glob ht x) hc fun c H' V' u m' w' h1 h2 h3 h4 => ?_
      refine crun_soundR rest (T := tput o.dst c T0) (m := m') ⟨h2, (ht.mono h4).put h3 (by rw [hs.size]; exact hd), by rw [put_size]; exact hs.size, by rw [put_defers]; exact hs.df.mono h4⟩ h1 (fun T' H' V' a' w' m' k1 k2 k3 => hK T' H' V' a' w' m' k1 k2 (h4.trans k3))
    have skip : ∀ T0, RelT m w V T0 a.tmps → dOk o.dst n → crun P n ops rest (tput o.dst (.v undef) T0) H V K → wpListIn (fen ro) 0 P ops.toArray Q (rest ++ l2) (a.put o.dst undef) w := by
      intro T0 ht hd hc
      exact crun_soundR rest (T := tput o.dst (.v undef) T0) (m := m) ⟨hs.inv, ht.put (by rw [RelV]) (by rw [hs.size]; exact hd), by rw [put_size]; exact hs.size, by rw [put_defers]; exact hs.df⟩ hc hK
    rw [List.cons_append]
    unfold wpListIn
    rw [crun] at h
    cases hg : o.guard with
    | none =>
      simp only [hg] at h
      rw [if_pos (by simp [Region.wanted, hg])]
      exact run T hs.tm h.1 h.2
    | some jw =>
      obtain ⟨j, want⟩ := jw
      simp only [hg] at h
      obtain ⟨hd, h⟩ := h
      cases hj : gtmp ops j with
      | none => simp only [hj] at h
      | some g =>
        simp only [hj] at h
        have hy := yielded_eq ops a.tmps j
        rw [hj, Option.bind_some] at hy
        have ht := hs.tm g
        unfold cguard at h
        split at h
        · rename_i b hb
          rw [hb, RelV] at ht
          have hget : a.tmps[g]? = some (.bool b) := by
            cases hq : a.tmps[g]? with
            | none => simp [hq] at ht; cases ht
            | some x => simp [hq] at ht; rw [ht]
          rw [hget] at hy
          simp only at hy
          have hw : Region.wanted o (yielded ops.toArray a.tmps) = (b == want) := by
            simp [Region.wanted, hg, hy]
          rw [hw]
          by_cases hbw : b = want
          · subst hbw
            rw [if_pos (by simp)]
            exact run _ (hs.tm.known (by rw [RelV]; exact ht)) hd (h.1 rfl)
          · rw [if_neg (by simpa using hbw)]
            have hb2 : b = !want := by cases b <;> cases want <;> simp_all
            have h3 := h.2 hb2
            rw [hb] at h3
            exact ⟨fun _ _ => trivial, skip _ (hs.tm.known (by rw [RelV, ← hb2]; exact ht)) hd h3⟩
        · rename_i vs hb
          rw [hb, RelV] at ht
          have hw : Region.wanted o (yielded ops.toArray a.tmps) = false := by
            have : yielded ops.toArray a.tmps j = none := by
              rw [hy]
              cases hq : a.tmps[g]? with
              | none => rfl
              | some x => simp [hq] at ht; subst ht; rfl
            simp [Region.wanted, hg, this]
          rw [hw, if_neg (by simp)]
          rw [hb] at h
          exact ⟨fun _ _ => trivial, skip _ hs.tm hd h⟩
        · exact h.elim
def OpX (P : Program) (o : Oper) (ev : Operand → CV) (H : Hp) (V : List Nat) (c : CV) (H' : Hp) (V' : List Nat) : Prop :=
  ∀ (m : Gh) (w : World) (a : Act), Inv m w H V → (∀ x, RelV m w V (ev x) (a.eval x)) →
    ∃ u w' m', (execOp a.eval o).run P w = .ok (.value u) w' ∧ Inv m' w' H' V' ∧ RelV m' w' V' c u ∧ Ext m w V m' w' V'
section
variable {n nb nv id : Nat} {Q : Exit → Tm → Hp → List Nat → Prop} {T : Tm} {H : Hp} {V : List Nat}
theorem SWp.opx {pre post : List Oper} {o : Oper} (hg : o.guard = none) (hnd : ∀ c, o.op ≠ .defer c)
    (h : crunS P n ((pre ++ o :: post).map (·.dst)) pre T H V fun T H V => dOk o.dst n ∧ ∃ c H' V', OpX P o (evT T) H V c H' V' ∧ contL P n ((pre ++ o :: post).map (·.dst)) o.dst post T (Q .normal) c H' V') :
    SWp P n nb nv (.region id (pre ++ o :: post).toArray false) Q T H V := by
  intro ro D m w a m0 w0 V0 h1 h2 h3 hx hs
  generalize hops : pre ++ o :: post = ops at h ⊢
  rw [crunS, ← crun_lite] at h
  refine wpIn_region_list ?_
  have e : ops.toArray.toList = pre ++ (o :: post) := by rw [hops]
  rw [e]
  refine crun_soundR (P := P) (ro := ro) (Q := fun e a' w' => ∃ T' H' V' m', Q e T' H' V' ∧ St D n m' w' a' T' H' V' ∧ Ext m0 w0 V0 m' w' V') pre hs h fun T1 H1 V1 a1 w1 m1 ⟨hd, c, H', V', hk, hq⟩ s1 x1 => ?_
  unfold wpListIn
  rw [if_pos (by simp [Region.wanted, hg])]
  obtain ⟨u, w', m', q1, q2, q3, q4⟩ := hk m1 w1 a1 s1.inv (fun x => ev_rel s1.inv.glob s1.tm x)
  refine wp_val hnd q1 ?_
  have hq : crunL P n (ops.map (·.dst)) post (tput o.dst c T1) H' V' (Q .normal) := hq
  rw [← crun_lite] at hq
  have hst : St D n m' w' (a1.put o.dst u) (tput o.dst c T1) H' V' := ⟨q2, (RelT.mono q4 s1.tm).put q3 (by rw [s1.size]; exact hd), by rw [put_size]; exact s1.size, by rw [put_defers]; exact s1.df.mono q4⟩
  exact crun_sound (P := P) (ro := ro) (Q := fun e a' w' => ∃ T' H' V' m', Q e T' H' V' ∧ St D n m' w' a' T' H' V' ∧ Ext m0 w0 V0 m' w' V') post hst hq fun T' H' V' a' w' m' k1 k2 k3 => ⟨T', H', V', m', k1, k2, (hx.trans x1).trans (q4.trans k3)⟩
end
theorem appbox {d : Option Tmp} {t tx ty : TypeId} {pos : String} {after : Array Edge} {x y : Operand} {ev : Operand → CV} {H : Hp} {V : List Nat} {sz szx : Nat} {e ex : TypeId} {tk : Tk} {ys : List (List CV)} (ht : slTy P t = some (e, sz)) (htx : slTy P tx = some (ex, szx))
    (hx : ev x = .sl .ti sz []) (hy : ev y = .sl tk sz ys) (hn : ys ≠ []) (hl : ys.length ≤ 1099511627776) :
    OpX P ⟨d, .call ⟨.builtin .append, #[x, y], #[t, tx]⟩, ty, pos, after, none⟩ ev H V (.bsa H.length ys.length sz) (H ++ [some ys.flatten]) V := by
  intro m w a hi hev
  obtain ⟨i, z, hu, hinf, hsz, hpos, hb0, hb1, hz, hzs⟩ := slTy_some ht
  obtain ⟨ys', news, hK, hsrc, hnews, hlen⟩ := csrc_run (K := fun q => q = ys) htx hpos hi (hev y) (by rw [hy]; exact ⟨rfl, rfl⟩)
  subst hK
  subst hsz
  have hnl := hsrc.newsLen
  have hxr := hev x
  rw [hx, RelV] at hxr
  obtain ⟨base, cap, hxe, hcap, htk, _, _⟩ := hxr
  have hc0 : cap = 0 := htk
  subst hc0
  have hy0 : 0 < ys'.length := List.length_pos_iff.2 hn
  have ho : (Builtin.firstCells i.size 0 (.slice base 0 0)).run P w.drew = .ok (#[] : Array Value) w.drew := by
    cases base with
    | none => exact run_firstCells_none w.drew i.size 0 0 0
    | some a => exact run_firstCells_some w.drew i.size 0 a 0 0 [] (by simp) (by simp)
  have hfit : (0 + ys'.length) * i.bytes ≤ 140737488355328 := by
    have := Nat.mul_le_mul (show 0 + ys'.length ≤ 1099511627776 by omega) hb1
    omega
  have hg : 0 < 0 + ys'.length := by omega
  have hrun := run_append_grow_src (P := P) w t tx ty e i z hu hinf hz base 0 0 [] ho (a.eval y) ys'.length news hsrc hg (by omega) (growslice_fits hg hfit)
  have hp := Pushed.drewAlloc w (.cells (([] ++ news).toArray ++ Builtin.zeroCells z.cells (grownCap w (0 + ys'.length) 0 e - (0 + ys'.length))) e)
  have hcapg := grownCap_ge w (0 + ys'.length) 0 e
  obtain ⟨s1, s2⟩ := step_boxP (vs := news) (by simp) (fun j hj => by rw [Array.getElem?_append_left (by simpa using hj)]; simp) hi hp hnews hsrc.one
  refine ⟨Value.slice (some ⟨w.heap.size, 0, none⟩) (0 + ys'.length) (grownCap w (0 + ys'.length) 0 e), _, _, ?_, s1, ?_, s2⟩
  · simp [execOp, resolve, invoke, builtin, hxe, hrun]
  · rw [RelV]
    refine ⟨w.heap.size, grownCap w (0 + ys'.length) 0 e, _, e, congrArg (fun q => Value.slice (some ⟨w.heap.size, 0, none⟩) q _) (Nat.zero_add _), Nat.le_trans (by omega) hcapg, hpos, ?_, hp.new, ?_⟩
    · show (m.box ++ [w.heap.size])[H.length]? = _
      rw [← hi.boxlen]; simp
    · rw [Array.size_append]
      simp only [List.nil_append, List.size_toArray, hnl]
      rw [size_zeroCells, hzs, ← Nat.add_mul]
      exact Nat.mul_le_mul_right _ (by omega)
end Go.Proofs.YtpedbpbmnchllaaGreatDoor
namespace Go.Proofs.YtpedbpbmnchllaaGreatDoor
def RetD (P : Program) (g k : Nat) : Prop := (∃ fn, P.funcs[g]? = some fn ∧ fn.body.isSome = true ∧ (fn.name == "runtime.NumGoroutine") = false) ∧
  ∀ (us : Array Value) (w : World), us.size = k → CallsD P g us .returning w fun e u' w' => (∃ v, e = .returned v) ∧ u' = .returning ∧ w' = w
section
variable {P : Program} {n nb nv id : Nat} {Q : Exit → Tm → Hp → List Nat → Prop} {T : Tm} {H : Hp} {V : List Nat}
end
variable {P : Program}
section
variable {nb nv : Nat} {T T' : Tm} {H H' : Hp} {V V' : List Nat} {res : List ResultVar} {R : CV → Hp → List Nat → Prop} {E : List PanicEntry → Hp → List Nat → Prop} {g : FuncId} {caps : List CV} {ch : List PanicEntry}
end

@[go_sem ↓] theorem thn_panic {N : Tm → Hp → List Nat → Prop} {Q : Exit → Tm → Hp → List Nat → Prop} {ch : List PanicEntry} : thn N Q (.panic ch) = Q (.panic ch) := rfl
@[go_sem ↓] theorem blk_panic {id : Nat} {Q : Exit → Tm → Hp → List Nat → Prop} {ch : List PanicEntry} : blk id Q (.panic ch) = Q (.panic ch) := rfl
theorem SWp.condT {n nb nv : Nat} {c : Operand} {x y : Code} {Q : Exit → Tm → Hp → List Nat → Prop} {T : Tm} {H : Hp} {V : List Nat} (hc : evT T c = .v (.bool true)) (h : SWp P n nb nv x Q T H V) : SWp P n nb nv (.cond c x y) Q T H V := fun ro D m w a m0 w0 V0 h1 h2 h3 hx hs => by
  have := ev_rel hs.inv.glob hs.tm c
  rw [hc, RelV] at this
  exact wpIn_cond_split this (fun _ => h ro D m w a m0 w0 V0 h1 h2 h3 hx hs) (fun e => by cases e)
theorem SWp.condF {n nb nv : Nat} {c : Operand} {x y : Code} {Q : Exit → Tm → Hp → List Nat → Prop} {T : Tm} {H : Hp} {V : List Nat} (hc : evT T c = .v (.bool false)) (h : SWp P n nb nv y Q T H V) : SWp P n nb nv (.cond c x y) Q T H V := fun ro D m w a m0 w0 V0 h1 h2 h3 hx hs => by
  have := ev_rel hs.inv.glob hs.tm c
  rw [hc, RelV] at this
  exact wpIn_cond_split this (fun e => by cases e) (fun _ => h ro D m w a m0 w0 V0 h1 h2 h3 hx hs)

theorem st0 {n : Nat} {args : List CV} {us : List Value} {m : Gh} {w : World} {H : Hp} {V : List Nat} (hi : Inv m w H V) (hu : RelL m w V args us) (ha : args.length ≤ n) : St ⟨[], w.heap.size, true⟩ n m w { tmps := us.toArray ++ Array.replicate (n - us.toArray.size) undef, defers := [] } (args0 0 args) H V := by
  have hl := relL_length hu
  refine ⟨hi, fun k => ?_, by simp [hl]; omega, DOk.own _ _⟩
  rw [args0_get]
  simp only [Nat.zero_le, if_true, Nat.sub_zero]
  cases hk : args[k]? with
  | none => rw [Option.getD_none, RelV]; trivial
  | some c =>
    obtain ⟨u, h1, h2⟩ := relL_get hu k c hk
    have : (us.toArray ++ Array.replicate (n - us.toArray.size) undef).getD k undef = u := by
      have hlt := (List.getElem?_eq_some_iff.1 h1).1
      simp only [Array.getD_eq_getD_getElem?]
      rw [Array.getElem?_append_left (by simpa using hlt)]
      simp [h1]
    rw [this]; exact h2

theorem fin_out {nb nv : Nat} {R : CV → Hp → List Nat → Prop} {rs : List ResultVar} {D : Dl} {n : Nat} {fn : Func} {a' : Act} {m m' : Gh} {w w' : World} {V V' : List Nat} {T' : Tm} {H' : Hp} (hrs : rs = fn.results.toList) (hb : m.box.length = nb) (hv : m.tip.length = nv) (hV : V.length = nv) (k2 : St D n m' w' a' T' H' V') (k3 : Ext m w V m' w' V')
    (hk : resK P rs T' H' (fun cs => Fin nb nv R (one cs) H' V')) : ∃ v, (results fn a'.tmps).run P w' = .ok v w' ∧ ∃ u m' r H' V', Ending.returned v = Ending.returned u ∧ R r H' V' ∧ Inv m' w' H' V' ∧ RelV m' w' V' r u ∧ Ext m w V m' w' V' := by
  subst hrs
  obtain ⟨cs, u, q1, q2, r', H2, V2, q3, q4⟩ := results_run k2.inv k2.tm hk
  refine ⟨u, q1, ?_⟩
  have hst2 : St ⟨[], w'.heap.size, true⟩ 1 m' w' { tmps := #[u], defers := [] } [(0, one cs)] H' V' := by
    refine ⟨k2.inv, fun k => ?_, rfl, DOk.own _ _⟩
    simp only [tget]
    by_cases hk : k = 0
    · subst hk; rw [if_pos rfl]; exact q2
    · rw [if_neg hk, RelV]; trivial
  obtain ⟨m2, s1, s2⟩ := q3 _ m' w' { tmps := #[u], defers := [] } m w V hb hv hV k3 hst2
  refine ⟨u, m2, r', H2, V2, rfl, q4, s1.inv, ?_, s2⟩
  have := s1.tm 0
  simpa [tget] using this

end Go.Proofs.YtpedbpbmnchllaaGreatDoor
namespace Go.Proofs.YtpedbpbmnchllaaGreatDoor

def bs (l : List UInt8) : List (List CV) := l.map u8
@[go_sem, simp] theorem bs_nil : bs [] = [] := rfl
abbrev ci (n : Int) : CV := .v (.int .i64 n)
abbrev cb (b : Bool) : CV := .v (.bool b)
def ic (n : Int) : List CV := [.v (.int .i64 n)]
def byt (n : Int) : UInt8 := UInt8.ofNat (n % 256).toNat
theorem byt_toNat (n : Int) : ((byt n).toNat : Int) = n % 256 := by
  unfold byt
  rw [UInt8.toNat_ofNat']
  omega
theorem okL_ic (jb jv : Nat) (n : Int) : okL jb jv (ic n) := by simp [ic, okL, okV]

@[go_sem, simp] theorem ic_get (n : Int) (h : 0 < (ic n).length) : (ic n)[0] = CV.v (.int .i64 n) := rfl
@[go_sem, simp] theorem ic_len (n : Int) : (ic n).length = 1 := by rw [ic]; rfl
theorem wrap_succ {i : Nat} (h : i ≤ 1000000000) : IntKind.i64.wrap ((i : Int) + 1) = ((i + 1 : Nat) : Int) := by
  rw [IntWalk.i64_in _ ⟨by omega, by omega⟩]; rfl
@[go_sem, simp] theorem u8_get (b : UInt8) (h : 0 < (u8 b).length) : (u8 b)[0] = CV.v (.int .u8 (b.toNat : Int)) := rfl
structure Sec where
  val : List UInt8
  len : val.length = 8
def secC (s : Sec) : List CV := s.val.map fun b => CV.v (.int .u8 (b.toNat : Int))
@[go_sem, simp] theorem secC_len (s : Sec) : (secC s).length = 8 := by rw [secC, List.length_map, s.len]
@[go_sem, simp] theorem secC_take (s : Sec) : (secC s).take 8 = secC s := List.take_of_length_le (by simp)
@[go_sem, simp] theorem secC_all (s : Sec) : allOne (secC s) = true := by
  simp only [allOne, secC, List.all_map, List.all_eq_true]; intros; rfl
theorem okSecs (jb jv : Nat) (l : List Sec) : okE jb jv (l.map secC) := okE_map secC l fun s => by
  rw [okL_iff]; intro c hc
  simp only [secC, List.mem_map] at hc
  obtain ⟨b, _, rfl⟩ := hc
  rw [okV]; trivial
structure Wr where
  volume : Int
  start : Int
  data : List Sec
def wrC (x : Wr) : List CV := [.v (.int .i64 x.volume), .v (.int .i64 x.start), .sl .sh 8 (x.data.map secC)]
@[go_sem, simp] theorem wrC_len (x : Wr) : (wrC x).length = 3 := by rw [wrC]; rfl
@[go_sem, simp] theorem wrC_take (x : Wr) : (wrC x).take 3 = wrC x := rfl
@[go_sem, simp] theorem wrC_all (x : Wr) : allOne (wrC x) = true := rfl
@[go_sem, simp] theorem wrC_0 (x : Wr) (h : 0 < (wrC x).length) : (wrC x)[0] = CV.v (.int .i64 x.volume) := rfl
@[go_sem, simp] theorem wrC_1 (x : Wr) (h : 1 < (wrC x).length) : (wrC x)[1] = CV.v (.int .i64 x.start) := rfl
@[go_sem, simp] theorem wrC_2 (x : Wr) (h : 2 < (wrC x).length) : (wrC x)[2] = CV.sl .sh 8 (x.data.map secC) := rfl


@[go_sem] theorem okL_secC (jb jv : Nat) (s : Sec) : okL jb jv (secC s) = True := by
  refine eq_true (okL_iff.2 fun c hc => ?_)
  simp only [secC, List.mem_map] at hc
  obtain ⟨b, _, rfl⟩ := hc
  rw [okV]; trivial
@[go_sem] theorem okE_ints (jb jv : Nat) (l : List Int) : okE jb jv (l.map ic) = True := eq_true (okE_map ic l (okL_ic jb jv))
@[go_sem] theorem okE_secs (jb jv : Nat) (l : List Sec) : okE jb jv (l.map secC) = True := eq_true (okSecs jb jv l)
@[go_sem] theorem okL_wrC (jb jv : Nat) (e : Wr) : okL jb jv (wrC e) = True := by simp [wrC, okL, okV, okTk, okE_secs]
@[go_sem] theorem okE_wrs (jb jv : Nat) (l : List Wr) : okE jb jv (l.map wrC) = True := eq_true (okE_map wrC l fun e => by rw [okL_wrC]; trivial)
def encN : Nat → List UInt8
  | n => if h : n < 128 then [UInt8.ofNat n] else UInt8.ofNat (n % 128 + 128) :: encN (n / 128)
termination_by n => n
decreasing_by omega
def norm (n : Int) : Nat := if n < 0 ∨ n > 9007199254740991 then 0 else n.toNat
def enc (n : Int) : List UInt8 := encN (norm n)
section
variable {H H' : Hp} {V V' : List Nat} {sz : Nat} {x y : List UInt8}
end
end Go.Proofs.YtpedbpbmnchllaaGreatDoor
namespace Go.Proofs.YtpedbpbmnchllaaGreatDoor
abbrev er (e : Nat) : CV := .v (.int .i64 e)
section
variable {n nb nv : Nat} {T T' : Tm} {H : Hp} {V : List Nat}
theorem Gst.freezeY {b : Nat} {cs : List CV} (hb : H[b]? = some (some cs)) (h : ∀ p ∈ T', Fy b cs (tget T p.1) p.2) : Gst n nb nv T H V T' (H.set b none) V := fun D m w a m0 w0 V0 h1 h2 h3 hx hs => by
  cases hs.inv.live b cs hb with
  | row k c e g1 g2 g3 g4 g5 =>
    obtain ⟨hi', hx'⟩ := hs.inv.fix hb g1 g2 g3 g4
    refine ⟨_, ⟨hi', fun j => ?_, hs.size, hs.df⟩, hx.trans hx'⟩
    have ht := RelT.mono hx' hs.tm
    rcases tget_mem T' j with h1 | ⟨p, h1, rfl, h2⟩
    · rw [h1, RelV]; trivial
    · rw [h2]
      exact Fy.rel (m := { m with lim := fun j => if j = k then cs.length else m.lim j }) (k := k) g1 (by show cs.length ≤ if k = k then cs.length else m.lim k; rw [if_pos rfl]; exact Nat.le_refl _) (relC_box hx' rfl g5) (h p h1) (ht p.1)
  | obj k x g1 g2 g3 =>
    refine ⟨m, ⟨hs.inv.kill b, fun j => ?_, hs.size, hs.df⟩, hx⟩
    rcases tget_mem T' j with h1 | ⟨p, h1, rfl, h2⟩
    · rw [h1, RelV]; trivial
    · rw [h2]
      exact Fy.relO g1 g3.notRow (h p h1) (hs.tm p.1)
end
@[go_sem] theorem hbx_c0 (cs : List CV) (H : Hp) (K : List CV → Prop) : hbx (some cs :: H) 0 K = K cs := id rfl
@[go_sem] theorem hbx_c1 (c : Option (List CV)) (H : Hp) (b : Nat) (K : List CV → Prop) : hbx (c :: H) (b + 1) K = hbx H b K := id rfl
theorem Fin.er {H H' : Hp} {V V' : List Nat} {a b : Nat} (h : b = a) (hokH : ∀ (b : Nat) cs, H[b]? = some (some cs) → okL H.length V.length cs) (hH : H'.take H.length = H) (hV : V'.take V.length = V) : Fin H.length V.length (Pu (er b) H V) (er a) H' V' := by
  subst h; exact Fin.pu (.refl _) (by simp [go_sem]) hokH hH hV
theorem Fin.int {H H' : Hp} {V V' : List Nat} {k : IntKind} {a b : Int} (h : a = b) (hokH : ∀ (b : Nat) cs, H[b]? = some (some cs) → okL H.length V.length cs) (hH : H'.take H.length = H) (hV : V'.take V.length = V) : Fin H.length V.length (Pu (.v (.int k b)) H V) (.v (.int k a)) H' V' := by
  subst h; exact Fin.pu (.refl _) trivial hokH hH hV
theorem Fin.cut {nb nv : Nat} {R : CV → Hp → List Nat → Prop} {r r' : CV} {H' H'' : Hp} {V' V'' : List Nat} (i j : Nat) (hR : R r' H'' V'') (hi : nb ≤ i) (hj : nv ≤ j) (hH : H'.take i = H'') (hV : V'.take j = V'') (hle : Le r r') (hok : okV i j r')
    (hokH : ∀ (b : Nat) cs, H''[b]? = some (some cs) → okL i j cs) : Fin nb nv R r H' V' := by
  refine ⟨r', H'', V'', ?_, hR⟩
  refine Gst.trans (T' := [(0, r')]) (H' := H') (V' := V') (Gst.forget fun p hp => ?_) ?_
  · simp at hp; subst hp; exact hle
  · have := Gst.cut (n := 1) (nb := nb) (nv := nv) (T := [(0, r')]) (H := H') (V := V') i j hi hj (fun p hp => by simp at hp; subst hp; exact hok) (by rw [hH]; exact hokH)
    rwa [hH, hV] at this
theorem Fin.self {nb nv : Nat} {R : CV → Hp → List Nat → Prop} {r : CV} {H : Hp} {V : List Nat} (h : R r H V) : Fin nb nv R r H V := ⟨r, H, V, Gst.refl, h⟩
def Ix (b : Bool) (H : Hp) (V : List Nat) : CV → Hp → List Nat → Prop := fun r H' V' => ∃ k : Int, r = ci k ∧ decide (0 ≤ k) = b ∧ H = H' ∧ V = V'
theorem Fin.ix {k : Int} {b : Bool} {H H' : Hp} {V V' : List Nat} (h : decide (0 ≤ k) = b) (hokH : ∀ (b : Nat) cs, H[b]? = some (some cs) → okL H.length V.length cs) (hH : H'.take H.length = H) (hV : V'.take V.length = V) : Fin H.length V.length (Ix b H V) (ci k) H' V' :=
  Fin.pure ⟨k, rfl, h, rfl, rfl⟩ hH hV (.refl _) trivial hokH
theorem any_take {α : Type} {p : α → Bool} {l : List α} {i : Nat} (h : i < l.length) (h1 : (l.take i).any p = false) (h2 : p l[i] = false) : (l.take (i + 1)).any p = false := by
  rw [List.take_succ_eq_append_getElem h, List.any_append, h1]; simp [h2]
theorem any_at {α : Type} {p : α → Bool} {l : List α} {i : Nat} (h : i < l.length) (h2 : p l[i] = true) : l.any p = true := List.any_eq_true.2 ⟨_, List.getElem_mem h, h2⟩
def okH (i j : Nat) : Hp → Prop
  | [] => True
  | none :: L => okH i j L
  | some cs :: L => okL i j cs ∧ okH i j L
@[go_sem] theorem okH_nil (i j : Nat) : okH i j [] = True := rfl
@[go_sem] theorem okH_none (i j : Nat) (L : Hp) : okH i j (none :: L) = okH i j L := rfl
@[go_sem] theorem okH_some (i j : Nat) (cs : List CV) (L : Hp) : okH i j (some cs :: L) = (okL i j cs ∧ okH i j L) := rfl
theorem okH_get {i j : Nat} : ∀ {L : Hp}, okH i j L → ∀ (b : Nat) cs, L[b]? = some (some cs) → okL i j cs
  | none :: L, h, 0, cs, e => by simp at e
  | none :: L, h, b + 1, cs, e => okH_get (L := L) h b cs (by simpa using e)
  | some c :: L, h, 0, cs, e => by simp at e; exact e ▸ h.1
  | some c :: L, h, b + 1, cs, e => okH_get (L := L) h.2 b cs (by simpa using e)
theorem Sh.trim {n : Nat} {T T' : Tm} {H0 L H : Hp} {V0 V V' : List Nat} (h : TLe T T') (hT : TOk (H0.length + L.length) V'.length T') (hokH : ∀ (b : Nat) cs, H0[b]? = some (some cs) → okL H0.length V0.length cs)
    (hL : okH (H0.length + L.length) V'.length L) (hV0 : V0.length ≤ V'.length) (eH : H.take (H0.length + L.length) = H0 ++ L) (eV : V.take V'.length = V') : Sh n H0.length V0.length T H V (T', H0 ++ L, V') := by
  refine Sh.cut (H0.length + L.length) V'.length h (Nat.le_add_right _ _) hV0 (TOk.all hT) (fun b cs hb => ?_) eH eV
  rw [List.getElem?_append] at hb
  split at hb
  · exact okL_mono (Nat.le_add_right _ _) hV0 (hokH b cs hb)
  · exact okH_get hL _ _ hb
theorem Fin.froz {nb nv : Nat} {R : CV → Hp → List Nat → Prop} {r : CV} {H H' : Hp} {V V' : List Nat} {b o n sz : Nat} {cs : List CV} {xs : List (List CV)} (hR : R (.sl .sh sz xs) H V) (hle : Le r (.bsl b o n sz)) (hb : H'[b]? = some (some cs)) (hx : chunks sz n (cs.drop o) = xs) (hn : o + n * sz ≤ cs.length)
    (hb0 : nb ≤ b) (hok : okE nb nv xs) (hokH : ∀ (b : Nat) cs, H[b]? = some (some cs) → okL nb nv cs) (hH : H'.take nb = H) (hV : V'.take nv = V) : Fin nb nv R r H' V' := by
  subst hx
  refine ⟨_, H, V, ?_, hR⟩
  refine Gst.trans (T' := [(0, .bsl b o n sz)]) (H' := H') (V' := V') (Gst.forget fun p hp => ?_) ?_
  · simp at hp; subst hp; exact hle
  refine Gst.trans (T' := [(0, .sl .sh sz (chunks sz n (cs.drop o)))]) (H' := H'.set b none) (V' := V') (Gst.freeze hb fun p hp => ?_) ?_
  · simp at hp; subst hp; exact Fz.bsl o n sz hn
  · have hH' : (H'.set b none).take nb = H := by rw [List.take_set_of_le hb0]; exact hH
    have := Gst.cut (n := 1) (nb := nb) (nv := nv) (T := [(0, .sl .sh sz (chunks sz n (cs.drop o)))]) (H := H'.set b none) (V := V') nb nv (Nat.le_refl _) (Nat.le_refl _) (fun p hp => by simp at hp; subst hp; simpa only [go_sem] using hok) (by rw [hH']; exact hokH)
    rwa [hH', hV] at this
@[go_sem, simp] theorem take_add {α : Type} (H L : List α) (k : Nat) : (H ++ L).take (H.length + k) = H ++ L.take k := by rw [List.take_append, List.take_of_length_le (by omega), Nat.add_sub_cancel_left]
theorem Fin.tup2 {H H' : Hp} {V V' : List Nat} {a b a' b' : CV} (h1 : Le a a') (h2 : Le b b') (o1 : okV H.length V.length a') (o2 : okV H.length V.length b') (hokH : ∀ (b : Nat) cs, H[b]? = some (some cs) → okL H.length V.length cs) (hH : H'.take H.length = H) (hV : V'.take V.length = V) : Fin H.length V.length (Pu (.tup [a', b']) H V) (.tup [a, b]) H' V' :=
  Fin.pu (.tup (.cons h1 (.cons h2 .nil))) (by rw [okV]; simp [go_sem, o1, o2]) hokH hH hV
theorem CC.le {P : Program} {f : FuncId} {xs ys : List CV} {H : Hp} {V : List Nat} {R : CV → Hp → List Nat → Prop} (h : LeL xs ys) (hc : CC P f ys H V R) : CC P f xs H V R :=
  ⟨hc.1, fun m w us hi hu => hc.2 m w us hi (h.rel hu)⟩
theorem Fin.frozY {nb nv : Nat} {R : CV → Hp → List Nat → Prop} {r r1 r2 : CV} {H H' : Hp} {V V' : List Nat} {b : Nat} {cs : List CV} (hR : R r2 H V) (hle : Le r r1) (hb : H'[b]? = some (some cs)) (hz : Fy b cs r1 r2)
    (hb0 : nb ≤ b) (hok : okV nb nv r2) (hokH : ∀ (b : Nat) cs, H[b]? = some (some cs) → okL nb nv cs) (hH : H'.take nb = H) (hV : V'.take nv = V) : Fin nb nv R r H' V' := by
  refine ⟨_, H, V, ?_, hR⟩
  refine Gst.trans (T' := [(0, r1)]) (H' := H') (V' := V') (Gst.forget fun p hp => ?_) ?_
  · simp at hp; subst hp; exact hle
  refine Gst.trans (T' := [(0, r2)]) (H' := H'.set b none) (V' := V') (Gst.freezeY hb fun p hp => ?_) ?_
  · simp at hp; subst hp; exact hz
  · have hH' : (H'.set b none).take nb = H := by rw [List.take_set_of_le hb0]; exact hH
    have := Gst.cut (n := 1) (nb := nb) (nv := nv) (T := [(0, r2)]) (H := H'.set b none) (V := V') nb nv (Nat.le_refl _) (Nat.le_refl _) (fun p hp => by simp at hp; subst hp; exact hok) (by rw [hH']; exact hokH)
    rwa [hH', hV] at this
theorem wrap_big {i : Nat} (h : i < 9223372036854775807) : IntKind.i64.wrap ((i : Int) + 1) = ((i + 1 : Nat) : Int) := by
  rw [IntWalk.i64_in _ ⟨by omega, by omega⟩]; rfl
theorem hget (H L : Hp) (k : Nat) : (H ++ L)[H.length + k]? = L[k]? := by rw [List.getElem?_append_right (by omega), Nat.add_sub_cancel_left]
theorem hbx_of {H : Hp} {b : Nat} {cs : List CV} (h : H[b]? = some (some cs)) (K : List CV → Prop) : hbx H b K = K cs := by
  unfold hbx; rw [h]
end Go.Proofs.YtpedbpbmnchllaaGreatDoor
namespace Go.Proofs.YtpedbpbmnchllaaGreatDoor
abbrev secsV (l : List Sec) : CV := .sl .sh 8 (l.map secC)
def secsF (l : List Sec) : List CV := (l.map secC).flatten
@[go_sem, simp] theorem secsF_len (l : List Sec) : (secsF l).length = 8 * l.length := by
  induction l with
  | nil => rfl
  | cons a l ih => rw [secsF, List.map_cons, List.flatten_cons, List.length_append, secC_len, List.length_cons]; rw [secsF] at ih; rw [ih]; omega
theorem secsF_cons (a : Sec) (l : List Sec) : secsF (a :: l) = secC a ++ secsF l := by rw [secsF, List.map_cons, List.flatten_cons]; rfl
theorem secsF_app (a b : List Sec) : secsF (a ++ b) = secsF a ++ secsF b := by simp [secsF]
theorem secsF_take : ∀ (l : List Sec) (i : Nat), (secsF l).take (i * 8) = secsF (l.take i)
  | [], i => by simp [secsF]
  | a :: l, 0 => by simp [secsF]
  | a :: l, i + 1 => by
    rw [secsF_cons, List.take_succ_cons, secsF_cons, List.take_append, secC_len, List.take_of_length_le (by rw [secC_len]; omega), show (i + 1) * 8 - 8 = i * 8 by omega, secsF_take l i]
theorem secsF_drop : ∀ (l : List Sec) (i : Nat), (secsF l).drop (i * 8) = secsF (l.drop i)
  | [], i => by simp [secsF]
  | a :: l, 0 => by simp
  | a :: l, i + 1 => by
    rw [secsF_cons, List.drop_succ_cons, List.drop_append, secC_len, List.drop_of_length_le (by rw [secC_len]; omega), show (i + 1) * 8 - 8 = i * 8 by omega, secsF_drop l i]; rfl
theorem secsF_set {l : List Sec} {i : Nat} (h : i < l.length) (s : Sec) : (secsF l).take (i * 8) ++ secC s ++ (secsF l).drop (i * 8 + 8) = secsF (l.set i s) := by
  rw [show i * 8 + 8 = (i + 1) * 8 by omega, secsF_take, secsF_drop, List.set_eq_take_append_cons_drop, if_pos h, secsF_app, secsF_cons, List.append_assoc]
theorem secsF_set' {l : List Sec} {i : Nat} (h : i < l.length) (s : Sec) : (secsF l).take (i * 8) ++ (secC s ++ (secsF l).drop (i * 8 + 8)) = secsF (l.set i s) := by
  rw [← List.append_assoc, secsF_set h]
theorem chunks_secs : ∀ l : List Sec, chunks 8 l.length (secsF l) = l.map secC
  | [] => rfl
  | a :: l => by
    rw [List.length_cons, secsF_cons, chunks, List.take_append_of_le_length (by rw [secC_len]; exact Nat.le_refl _), secC_take, List.drop_append_of_le_length (by rw [secC_len]; exact Nat.le_refl _), List.drop_of_length_le (by rw [secC_len]; exact Nat.le_refl _), List.nil_append, chunks_secs l]; rfl
@[go_sem, simp] theorem secsF_all (l : List Sec) : allOne (secsF l) = true := by
  induction l with
  | nil => rfl
  | cons a l ih => rw [secsF_cons, allOne, List.all_append, ← allOne, ← allOne, secC_all, ih]; rfl
@[go_sem] theorem okL_secsF (jb jv : Nat) (l : List Sec) : okL jb jv (secsF l) = True := by
  induction l with
  | nil => simp [secsF, okL]
  | cons a l ih =>
    refine eq_true (okL_iff.2 fun c hc => ?_)
    rw [secsF_cons] at hc
    rcases List.mem_append.1 hc with h | h
    · exact okL_iff.1 (by rw [okL_secC]; trivial) c h
    · exact okL_iff.1 (by rw [ih]; trivial) c h
def sec0 : Sec := ⟨List.replicate 8 0, rfl⟩
theorem zeros_secs : ∀ n : Nat, (List.replicate n (List.map CV.v [.int .u8 0, .int .u8 0, .int .u8 0, .int .u8 0, .int .u8 0, .int .u8 0, .int .u8 0, .int .u8 0])).flatten = secsF (List.replicate n sec0)
  | 0 => rfl
  | n + 1 => by rw [List.replicate_succ, List.flatten_cons, zeros_secs n, List.replicate_succ, secsF_cons]; rfl
def zer (n : Nat) : List Sec := List.replicate n sec0
@[go_sem, simp] theorem zer_len (n : Nat) : (zer n).length = n := List.length_replicate
end Go.Proofs.YtpedbpbmnchllaaGreatDoor
namespace Go.Proofs.YtpedbpbmnchllaaGreatDoor
section
variable {P : Program} {n nb nv id : Nat} {Q : Exit → Tm → Hp → List Nat → Prop} {T : Tm} {H : Hp} {V : List Nat}
end
section
variable {P : Program} {n nb nv id : Nat} {ops : List Oper} {Q : Exit → Tm → Hp → List Nat → Prop}
end
section
variable {P : Program} {n : Nat} {ops : List Oper} {N : Tm → Hp → List Nat → Prop} {E : List PanicEntry → Tm → Hp → List Nat → Prop} {T T' : Tm} {H H' : Hp} {V V' : List Nat}
end
end Go.Proofs.YtpedbpbmnchllaaGreatDoor
namespace Go.Proofs.YtpedbpbmnchllaaGreatDoor
section
variable {P : Program} {n : Nat} {ops : List Oper}
end
section
variable {P : Program} {n : Nat} {ds : List (Option Tmp)} {ls : List Oper} {S : List Nat} {T T' : Tm} {H H' : Hp} {V V' : List Nat} {K : Tm → Hp → List Nat → Prop}
end
end Go.Proofs.YtpedbpbmnchllaaGreatDoor
namespace Go.Proofs.YtpedbpbmnchllaaGreatDoor
theorem chunks_1 : ∀ (cs : List CV), chunks 1 cs.length cs = cs.map fun c => [c]
  | [] => rfl
  | c :: cs => by
    rw [List.length_cons, chunks, List.take_succ_cons, List.take_zero, List.drop_succ_cons, List.drop_zero, chunks_1 cs]; rfl
theorem LeL.refl : ∀ (cs : List CV), LeL cs cs
  | [] => .nil
  | c :: cs => .cons (.refl c) (LeL.refl cs)
end Go.Proofs.YtpedbpbmnchllaaGreatDoor
namespace Go.Proofs.YtpedbpbmnchllaaGreatDoor
def CV.isObj : CV → Bool
  | .objl .. => true
  | .objm .. => true
  | .obji .. => true
  | _ => false
theorem RelO.isObj {m : Gh} {w : World} {V : List Nat} {k : Nat} {x : CV} (h : RelO m w V k x) : x.isObj = true := by
  cases x <;> first | rfl | exact (show False from h).elim
end Go.Proofs.YtpedbpbmnchllaaGreatDoor
namespace Go.Proofs.YtpedbpbmnchllaaGreatDoor
variable {P : Program}
section
variable {n nb nv id : Nat} {Q : Exit → Tm → Hp → List Nat → Prop} {T : Tm} {H : Hp} {V : List Nat} {ops mid mid2 : List Oper} {K : Tm → Hp → List Nat → Prop}
end
end Go.Proofs.YtpedbpbmnchllaaGreatDoor
namespace Go.Proofs.YtpedbpbmnchllaaGreatDoor
def Ge (c d : CV) : Prop := ∀ (m : Gh) (w : World) (V : List Nat) (u : Value), RelV m w V c u → RelV m w V d u
theorem Ge.slk {tk : Tk} {sz : Nat} {xs ys : List (List CV)} (h : LeE xs ys) : Ge (.sl tk sz xs) (.sl tk sz ys) := fun m w V u hu => by
  rw [RelV] at hu ⊢
  obtain ⟨base, cap, h1, h2, h3, h4, h5⟩ := hu
  have e := h.len
  refine ⟨base, cap, by rw [← e]; exact h1, by rw [← e]; exact h2, by rw [← e]; exact h3, h4, ?_⟩
  rcases h5 with rfl | ⟨k, o, hb, hl, he⟩
  · refine .inl ?_
    cases h; rfl
  · exact .inr ⟨k, o, hb, by rw [← e]; exact hl, h.rel he⟩
end Go.Proofs.YtpedbpbmnchllaaGreatDoor
namespace Go.Proofs.YtpedbpbmnchllaaGreatDoor
inductive TokLe (k : Nat) : CV → CV → Prop
  | le {c d : CV} (h : Le c d) : TokLe k c d
  | nil {sz : Nat} (h : 0 < sz) : TokLe k (.v (.slice none 0 0)) (.sl (.own k 0) sz [])
  | ti {sz : Nat} {xs : List (List CV)} : TokLe k (.sl .ti sz xs) (.sl (.own k 0) sz xs)
  | ge {c d e : CV} (h : Ge c d) (g : TokLe k d e) : TokLe k c e
theorem TokLe.rel {m : Gh} {w : World} {V : List Nat} {k : Nat} {c d : CV} {u : Value} (h : TokLe k c d) (hk : V[k]? = some 0) (hu : RelV m w V c u) : RelV m w V d u := by
  induction h with
  | ge h _ ih => exact ih (h m w V u hu)
  | le h => exact h.rel hu
  | nil h =>
    rw [RelV] at hu; rw [RelV]
    exact ⟨none, 0, hu, Nat.le_refl _, ⟨0, hk, Nat.le_refl _, fun _ => .inl rfl⟩, h, .inl rfl⟩
  | ti =>
    rw [RelV] at hu; rw [RelV]
    obtain ⟨base, cap, q1, q2, q3, q4, q5⟩ := hu
    exact ⟨base, cap, q1, q2, ⟨0, hk, Nat.le_refl _, fun _ => .inl q3⟩, q4, q5⟩
def TTok (k : Nat) (T : Tm) : Tm → Prop
  | [] => True
  | (i, c) :: r => TokLe k (tget T i) c ∧ TTok k T r
theorem TTok.get {k : Nat} {T : Tm} : ∀ {T' : Tm}, TTok k T T' → ∀ p ∈ T', TokLe k (tget T p.1) p.2
  | [], _, p, hp => by cases hp
  | (i, c) :: r, h, p, hp => by
    rcases List.mem_cons.1 hp with rfl | hp
    · exact h.1
    · exact TTok.get h.2 p hp
@[go_sem] theorem TTok_nil (k : Nat) (T : Tm) : TTok k T [] = True := rfl
@[go_sem] theorem TTok_cons (k : Nat) (T : Tm) (i : Nat) (c : CV) (r : Tm) : TTok k T ((i, c) :: r) = (TokLe k (tget T i) c ∧ TTok k T r) := rfl
@[go_sem] theorem TokLe_self (k : Nat) (c : CV) : TokLe k c c = True := eq_true (.le (.refl c))
@[go_sem] theorem TokLe_nil (k sz : Nat) : TokLe k (.v (.slice none 0 0)) (.sl (.own k 0) (sz + 1) []) = True := eq_true (.nil (Nat.succ_pos _))
theorem Gst.tokT {n nb nv : Nat} {T T' : Tm} {H : Hp} {V : List Nat} (h : TTok V.length T T') : Gst n nb nv T H V T' H (V ++ [0]) := by
  intro D m w a m0 w0 V0 h1 h2 h3 he hs
  obtain ⟨s1, s2⟩ := step_tok hs.inv
  refine ⟨_, ⟨s1, fun k => ?_, hs.size, hs.df⟩, he.trans s2⟩
  rcases tget_mem T' k with g1 | ⟨p, g1, rfl, g2⟩
  · rw [g1, RelV]; trivial
  · rw [g2]
    exact (h.get p g1).rel (by rw [at_len]; rfl) ((RelT.mono s2 hs.tm) p.1)
theorem Sh.tokT {n nb nv : Nat} {T T' : Tm} {H H' : Hp} {V V' : List Nat} (h : TTok V.length T T') (hH : H = H') (hV : V ++ [0] = V') : Sh n nb nv T H V (T', H', V') := by
  subst hH hV
  exact Gst.tokT h
theorem Gst.ge {n nb nv : Nat} {T T' : Tm} {H : Hp} {V : List Nat} (h : ∀ p ∈ T', Ge (tget T p.1) p.2) : Gst n nb nv T H V T' H V := fun D m w a m0 w0 V0 _ _ _ hx hs => by
  refine ⟨m, ⟨hs.inv, fun k => ?_, hs.size, hs.df⟩, hx⟩
  rcases tget_mem T' k with h1 | ⟨p, h1, rfl, h2⟩
  · rw [h1, RelV]; trivial
  · rw [h2]; exact h p h1 _ _ _ _ (hs.tm p.1)
end Go.Proofs.YtpedbpbmnchllaaGreatDoor
namespace Go.Proofs.YtpedbpbmnchllaaGreatDoor
section
variable {P : Program} {n nb nv id : Nat} {ops : List Oper} {Q : Exit → Tm → Hp → List Nat → Prop}
end
section
variable {P : Program} {n : Nat} {ops : List Oper} {N : Tm → Hp → List Nat → Prop} {E : List PanicEntry → Tm → Hp → List Nat → Prop} {T T' : Tm} {H H' : Hp} {V V' : List Nat}
end
end Go.Proofs.YtpedbpbmnchllaaGreatDoor
namespace Go.Proofs.YtpedbpbmnchllaaGreatDoor
section
variable {m : Gh} {w : World} {V : List Nat} {b k : Nat} {cs : List CV}
end
section
variable {n nb nv : Nat} {T T' : Tm} {H : Hp} {V : List Nat}
end
end Go.Proofs.YtpedbpbmnchllaaGreatDoor
namespace Go.Proofs.YtpedbpbmnchllaaGreatDoor
def TokL (k : Nat) : List CV → List CV → Prop
  | [], [] => True
  | c :: cs, d :: ds => TokLe k c d ∧ TokL k cs ds
  | _, _ => False
@[go_sem] theorem TokL_nil (k : Nat) : TokL k [] [] = True := rfl
@[go_sem] theorem TokL_cons (k : Nat) (c d : CV) (cs ds : List CV) : TokL k (c :: cs) (d :: ds) = (TokLe k c d ∧ TokL k cs ds) := rfl
theorem TokL.len {k : Nat} : ∀ {cs ds : List CV}, TokL k cs ds → cs.length = ds.length
  | [], [], _ => rfl
  | _ :: _, _ :: _, h => by rw [List.length_cons, List.length_cons, h.2.len]
  | [], _ :: _, h => h.elim
  | _ :: _, [], h => h.elim
theorem TokL.relC {m : Gh} {w : World} {V : List Nat} {k kk : Nat} (hk : V[k]? = some 0) : ∀ {cs ds : List CV} {o : Nat}, TokL k cs ds → RelC m w V kk cs o → RelC m w V kk ds o
  | [], [], _, _, h => h
  | c :: cs, d :: ds, o, h, g => by
    rw [RelC] at g ⊢
    obtain ⟨⟨u, q1, q2, q3⟩, g⟩ := g
    exact ⟨⟨u, q1, h.1.rel hk q2, q3⟩, h.2.relC hk g⟩
  | [], _ :: _, _, h, _ => h.elim
  | _ :: _, [], _, h, _ => h.elim
theorem Inv.weakT {m : Gh} {w : World} {H : Hp} {V : List Nat} {b k : Nat} {cs ds : List CV} (hi : Inv m w H V) (hb : H[b]? = some (some cs)) (hk : V[k]? = some 0) (h : TokL k cs ds) (hno : ∀ x ∈ cs, x.isObj = false) : Inv m w (H.set b (some ds)) V := by
  have hbl : b < H.length := (List.getElem?_eq_some_iff.1 hb).1
  refine ⟨hi.glob, by rw [List.length_set]; exact hi.boxlen, hi.tiplen, hi.limv, hi.tips, hi.boxes, fun b1 b2 k c1 c2 g1 g2 g3 g4 => ?_, fun b1 c1 g => ?_⟩
  · have old : ∀ (b1 : Nat) c1, (H.set b (some ds))[b1]? = some (some c1) → ∃ c0, H[b1]? = some (some c0) := fun b1 c1 g => by
      by_cases e : b = b1
      · subst e; exact ⟨_, hb⟩
      · rw [List.getElem?_set_ne e] at g; exact ⟨_, g⟩
    obtain ⟨_, o1⟩ := old _ _ g1
    obtain ⟨_, o2⟩ := old _ _ g2
    exact hi.uniq b1 b2 k _ _ o1 o2 g3 g4
  · by_cases e : b = b1
    · subst e
      rw [List.getElem?_set_self hbl] at g
      obtain rfl : ds = c1 := by simpa using g
      cases hi.live b cs hb with
      | row k c e h1 h2 h3 h4 h5 => exact .row k c e h1 h2 (by rw [← h.len]; exact h3) h4 (h.relC hk h5)
      | obj k x h1 h2 h3 =>
        have := hno x (by rw [h2]; simp)
        rw [h3.isObj] at this; cases this
    · rw [List.getElem?_set_ne e] at g
      exact hi.live b1 c1 g
theorem Gst.tokL {n nb nv : Nat} {T : Tm} {H : Hp} {V : List Nat} {b : Nat} {cs ds : List CV} (hb : H[b]? = some (some cs)) (h : TokL V.length cs ds) (hno : ∀ x ∈ cs, x.isObj = false) : Gst n nb nv T H V T (H.set b (some ds)) (V ++ [0]) := by
  intro D m w a m0 w0 V0 h1 h2 h3 he hs
  obtain ⟨s1, s2⟩ := step_tok hs.inv
  exact ⟨_, ⟨s1.weakT hb (by rw [at_len]; rfl) h hno, RelT.mono s2 hs.tm, hs.size, hs.df⟩, he.trans s2⟩
theorem Sh.tokL {n nb nv : Nat} {T T' : Tm} {H H' : Hp} {V V' : List Nat} {b : Nat} {cs ds : List CV} (hb : H[b]? = some (some cs)) (h : TokL V.length cs ds) (hno : ∀ x ∈ cs, x.isObj = false) (hT : TLe T T') (hH : H.set b (some ds) = H') (hV : V ++ [0] = V') : Sh n nb nv T H V (T', H', V') := by
  subst hH hV
  exact Gst.trans (Gst.tokL hb h hno) (Gst.forget (TLe.get hT))
end Go.Proofs.YtpedbpbmnchllaaGreatDoor
namespace Go.Proofs.YtpedbpbmnchllaaGreatDoor
theorem nil_ti {m : Gh} {w : World} {V : List Nat} {sz : Nat} {u : Value} (hsz : 0 < sz) (h : RelV m w V (.v (.slice none 0 0)) u) : RelV m w V (.sl .ti sz []) u := by
  rw [RelV] at h
  subst h
  rw [RelV]
  exact ⟨none, 0, rfl, Nat.le_refl _, rfl, hsz, .inl rfl⟩
@[go_sem] theorem hbx_add (H L : Hp) (k : Nat) (K : List CV → Prop) : hbx (H ++ L) (H.length + k) K = hbx L k K := by rw [hbx_eq, hbx_eq, hget]
open Classical in
theorem appboxN {P : Program} {d : Option Tmp} {t tx ty : TypeId} {pos : String} {after : Array Edge} {x y : Operand} {ev : Operand → CV} {H : Hp} {V : List Nat} {sz szx : Nat} {e ex : TypeId} {tk : Tk} {ys : List (List CV)} (ht : slTy P t = some (e, sz)) (htx : slTy P tx = some (ex, szx))
    (hsz : 0 < sz) (hx : ev x = .v (.slice none 0 0)) (hy : ev y = .sl tk sz ys) (hn : ys ≠ []) (hl : ys.length ≤ 1099511627776) :
    OpX P ⟨d, .call ⟨.builtin .append, #[x, y], #[t, tx]⟩, ty, pos, after, none⟩ ev H V (.bsa H.length ys.length sz) (H ++ [some ys.flatten]) V := by
  intro m w a hi hev
  have hxy : y ≠ x := fun q => by rw [q, hx] at hy; cases hy
  refine appbox (tk := tk) (ys := ys) (sz := sz) (szx := szx) (ev := fun o => if o = x then .sl .ti sz [] else ev o) ht htx (by simp) (by simp [hxy, hy]) hn hl m w a hi fun o => ?_
  dsimp only
  split
  · rename_i q; subst q
    have := hev o
    rw [hx] at this
    exact nil_ti hsz this
  · exact hev o
theorem Ge.refl (c : CV) : Ge c c := fun _ _ _ _ h => h
@[go_sem] theorem Ge_self (c : CV) : Ge c c = True := eq_true (Ge.refl c)
end Go.Proofs.YtpedbpbmnchllaaGreatDoor
namespace Go.Proofs.YtpedbpbmnchllaaGreatDoor
def capB (P : Program) (ev : Operand → CV) (H : Hp) (V : List Nat) (K : CV → Hp → List Nat → Prop) (op : Op) : Prop :=
  ∃ (x y : Operand) (t tx : TypeId) (e ex : TypeId) (sz szx : Nat) (tk : Tk) (ys : List (List CV)), op = .call ⟨.builtin .append, #[x, y], #[t, tx]⟩ ∧ slTy P t = some (e, sz) ∧ slTy P tx = some (ex, szx) ∧ 0 < sz ∧
    (ev x = .v (.slice none 0 0) ∨ ev x = .sl .ti sz []) ∧ ev y = .sl tk sz ys ∧ ys ≠ [] ∧ ys.length ≤ 1099511627776 ∧ K (.bsa H.length ys.length sz) (H ++ [some ys.flatten]) V
def cstepB (P : Program) (n : Nat) (ops : List Oper) (o : Oper) (E : En) (H : Hp) (V : List Nat) (K : En → Hp → List Nat → Prop) : Prop :=
  cstepE P n ops o E H V K ∨ (dOk o.dst n ∧ o.guard = none ∧ capB P (evE E) H V (fun c H' V' => K (putE o.dst c E) H' V') o.op)
section
variable {P : Program} {n : Nat} {ops : List Oper}
theorem capB_mono {ev : Operand → CV} {H : Hp} {V : List Nat} {K K' : CV → Hp → List Nat → Prop} {op : Op} (h : ∀ c H V, K c H V → K' c H V) (q : capB P ev H V K op) : capB P ev H V K' op := by
  obtain ⟨x, y, t, tx, e, ex, sz, szx, tk, ys, h1, h2, h3, h4, h5, h6, h7, h8, h9⟩ := q
  exact ⟨x, y, t, tx, e, ex, sz, szx, tk, ys, h1, h2, h3, h4, h5, h6, h7, h8, h _ _ _ h9⟩
theorem capB_local {ev ev' : Operand → CV} {H : Hp} {V : List Nat} {K : CV → Hp → List Nat → Prop} {op : Op} (h : ∀ x ∈ op.operands, ev x = ev' x) (q : capB P ev H V K op) : capB P ev' H V K op := by
  obtain ⟨x, y, t, tx, e, ex, sz, szx, tk, ys, h1, h2, h3, h4, h5, h6, h7, h8, h9⟩ := q
  subst h1
  exact ⟨x, y, t, tx, e, ex, sz, szx, tk, ys, rfl, h2, h3, h4, by rw [← h x (by simp [Op.operands, Call.operands])]; exact h5, by rw [← h y (by simp [Op.operands, Call.operands])]; exact h6, h7, h8, h9⟩
theorem cstepB_swap {o : Oper} {E E' : En} {H : Hp} {V : List Nat} {K K' : En → Hp → List Nat → Prop} (h : ∀ d ∈ o.looksAt ops.toArray, E d = E' d) (hk : ∀ c H V, K (putE o.dst c E) H V → K' (putE o.dst c E') H V)
    (hs : cstepB P n ops o E H V K) : cstepB P n ops o E' H V K' := by
  rcases hs with hs | ⟨h1, h2, h3⟩
  · exact .inl (cstepE_swap h hk hs)
  · exact .inr ⟨h1, h2, capB_mono (fun c H V => hk c H V) (capB_local (eval_agree h) h3)⟩
theorem cstepB_sound {ro : Option Nat} {Q : Exit → Act → World → Prop} {Kw : Act → World → Prop} {i : Nat} {o : Oper} (ho : ops[i]? = some o) {E : En} {m : Gh} {w : World} {a : Act} {H : Hp} {V : List Nat} {K : En → Hp → List Nat → Prop}
    (hi : Inv m w H V) (ht : ∀ k, RelV m w V (E k) (a.tmps.getD k undef)) (hz : a.tmps.size = n) (hs : cstepB P n ops o E H V K)
    (hK : ∀ E' H' V' a' m' w', K E' H' V' → Inv m' w' H' V' → (∀ k, RelV m' w' V' (E' k) (a'.tmps.getD k undef)) → a'.tmps.size = n → a'.defers = a.defers → Ext m w V m' w' V' → Kw a' w') : wpOpIn (fen ro) 0 P ops.toArray Q i Kw a w := by
  rcases hs with hs | ⟨hd, hg, q⟩
  · exact cstepE_sound ho hi ht hz hs hK
  have hput : ∀ {m' : Gh} {w' : World} {V' : List Nat} {c : CV} {u : Value}, dOk o.dst n → Ext m w V m' w' V' → RelV m' w' V' c u → ∀ k, RelV m' w' V' (putE o.dst c E k) ((a.put o.dst u).tmps.getD k undef) := fun {m' w' V' c u} hd hx hu k => by
    cases hdst : o.dst with
    | none => exact RelV.mono hx _ _ (ht k)
    | some d =>
      rw [hdst] at hd
      have hd : d < a.tmps.size := by rw [hz]; exact hd
      simp only [putE, Act.put]
      by_cases hn : k = d
      · subst hn; rw [if_pos rfl]; simpa [Array.getD, hd] using hu
      · rw [if_neg hn]
        have : (a.tmps.setIfInBounds d u).getD k undef = a.tmps.getD k undef := by
          simp only [Array.getD_eq_getD_getElem?]
          rw [Array.getElem?_setIfInBounds_ne (Ne.symm hn)]
        rw [this]; exact RelV.mono hx _ _ (ht k)
  have hev : ∀ x, RelV m w V (evE E x) (a.eval x) := fun x => by
    cases x with
    | tmp t => exact ht t
    | const v => simp only [evE, Act.eval]; rw [RelV]
    | global g => exact gcv_rel hi.glob g
    | func f => simp only [evE, Act.eval]; rw [RelV]; exact ⟨[], rfl, by rw [RelL]⟩
  unfold wpOpIn
  rw [List.getElem?_toArray, ho]
  dsimp only
  rw [if_pos (by simp [Region.wanted, hg])]
  obtain ⟨x, y, t, tx, e, ex, sz, szx, tk, ys, h1, h2, h3, h4, h5, h6, h7, h8, h9⟩ := q
  obtain ⟨d, op, ty, pos, after, g⟩ := o
  dsimp only at hg h1 hd h9 hput
  subst hg h1
  have hX : OpX P ⟨d, .call ⟨.builtin .append, #[x, y], #[t, tx]⟩, ty, pos, after, none⟩ (evE E) H V (.bsa H.length ys.length sz) (H ++ [some ys.flatten]) V := by
    rcases h5 with h5 | h5
    · exact appboxN h2 h3 h4 h5 h6 h7 h8
    · exact appbox h2 h3 h5 h6 h7 h8
  obtain ⟨u, w', m', q1, q2, q3, q4⟩ := hX m w a hi hev
  refine wp_val (by intro c e; cases e) q1 ?_
  exact hK _ _ _ _ _ _ h9 q2 (hput hd q4 q3) (by rw [put_size]; exact hz) (by rw [put_defers]) q4
end
def relK (S : List Nat) : Nat → Hp → Hp → Prop
  | 0, H, H' => H <+: H'
  | 1, H, H' => Kp S H H'
  | _, _, _ => True
theorem relK.refl {S : List Nat} {k : Nat} {H : Hp} : relK S k H H := by
  rcases k with - | - | k
  · exact List.prefix_refl _
  · exact fun _ _ _ h => h
  · trivial
section
variable (P : Program) (n : Nat) (ops : List Oper) (fl : Nat → Nat) (S : List Nat)
def SAnyB (K : En → Hp → List Nat → Prop) : Nat → Array Bool → En → Hp → List Nat → Prop
  | 0, listed, E, H, V => Region.ready .any ops.toArray listed = [] ∧ K E H V
  | f + 1, listed, E, H, V => (Region.ready .any ops.toArray listed = [] → K E H V) ∧
    ∀ i ∈ Region.ready .any ops.toArray listed, ∀ o, ops[i]? = some o → cstepB P n ops o E H V (fun E' H' V' => relK S (fl i) H H' ∧ SAnyB K f (listed.setIfInBounds i true) E' H' V')
end

section
variable {P : Program} {n : Nat} {ops : List Oper} {fl : Nat → Nat} {S : List Nat}
theorem SAnyB_first {κ : Bool} {K : En → Hp → List Nat → Prop} {i : Nat} {oi : Oper} {c : CV} (hi : ops[i]? = some oi) :
    ∀ (f : Nat) (listed : Array Bool) (E : En) (H : Hp) (V : List Nat),
      (∀ j oj, ops[j]? = some oj → j ≠ i → listed.getD j true = false → (∀ e ∈ oj.after, Region.binds .any e = true → e.on ≠ i) → oi.apart ops.toArray oj = true) →
      (isLd oi.op = true → ∀ j oj, ops[j]? = some oj → j ≠ i → listed.getD j true = false → (1 < fl j ∨ (fl j = 1 ∧ κ = false)) → ∃ e ∈ oj.after, Region.binds .any e = true ∧ e.on = i) → i ∈ Region.ready .any ops.toArray listed → HldF P n ops S κ oi c E H →
      SAnyB P n ops fl S K f (listed.setIfInBounds i true) (putE oi.dst c E) H V → SAnyB P n ops fl S K (f + 1) listed E H V := by
  intro f
  induction f with
  | zero =>
    intro listed E H V _ _ hr hy h
    refine ⟨fun e => (by rw [e] at hr; cases hr), fun j hj o ho => ?_⟩
    by_cases hji : j = i
    · subst hji; rw [hi] at ho; cases ho
      exact .inl (hy _ _ _ _ (fun _ _ => rfl) (fun _ => rel.refl) ⟨relK.refl, h⟩)
    · have := ready_mono hj hji
      rw [h.1] at this; cases this
  | succ f ih =>
    intro listed E H V hfree hst hr hy h
    refine ⟨fun e => (by rw [e] at hr; cases hr), fun j hj o ho => ?_⟩
    by_cases hji : j = i
    · subst hji; rw [hi] at ho; cases ho
      exact .inl (hy _ _ _ _ (fun _ _ => rfl) (fun _ => rel.refl) ⟨relK.refl, h⟩)
    · have h1 := h.2 j (ready_mono hj hji) o ho
      obtain ⟨hjun, oj, hoj, hall⟩ := mem_ready.1 hj
      rw [List.getElem?_toArray, ho] at hoj; cases hoj
      have hnot : ∀ e ∈ o.after, Region.binds .any e = true → e.on ≠ i := fun e he hb heq => by
        have h1 := hall e he hb
        have h0 := (mem_ready.1 hr).1
        rw [heq] at h1
        rcases Nat.lt_or_ge i listed.size with h' | h'
        · simp [h'] at h0 h1; rw [h0] at h1; cases h1
        · simp [Array.getElem?_eq_none h'] at h1
      obtain ⟨p1, p2, p3⟩ := Oper.apart_spec (hfree j o ho hji hjun hnot)
      have hfree' : ∀ k ok, ops[k]? = some ok → k ≠ i → (listed.setIfInBounds j true).getD k true = false →
          (∀ e ∈ ok.after, Region.binds .any e = true → e.on ≠ i) → oi.apart ops.toArray ok = true := fun k ok hk hki hun hno => by
        refine hfree k ok hk hki ?_ hno
        by_cases hjk : j = k
        · subst hjk; exact hjun
        · rw [getD_set_ne true hjk] at hun; exact hun
      have hput : ∀ {d : Option Nat} {c : CV} {E : En} {t : Nat}, (d ≠ some t) → putE d c E t = E t := fun {d c E t} h => by
        cases d with
        | none => rfl
        | some d => simp only [putE]; rw [if_neg (fun e => h (by rw [e]))]
      refine cstepB_swap (E := putE oi.dst c E) (fun d hd => hput fun e => p1 d e hd) (fun c' H' V' ⟨q1, q2⟩ => ⟨q1, ?_⟩) h1
      rw [putE_comm p2] at q2
      rw [Array.setIfInBounds_comm _ _ (Ne.symm hji)] at q2
      have hst' : isLd oi.op = true → ∀ k ok, ops[k]? = some ok → k ≠ i → (listed.setIfInBounds j true).getD k true = false → (1 < fl k ∨ (fl k = 1 ∧ κ = false)) → ∃ e ∈ ok.after, Region.binds .any e = true ∧ e.on = i := fun hl k ok hk hki hun => by
        refine hst hl k ok hk hki ?_
        by_cases hjk : j = k
        · subst hjk; exact hjun
        · rw [getD_set_ne true hjk] at hun; exact hun
      refine ih (listed.setIfInBounds j true) _ H' V' hfree' hst' (ready_mono hr (Ne.symm hji)) (fun E2 H2 V2 K2 ha hl k => hy E2 H2 V2 K2 (fun d hd => ?_) (fun hld => rel.trans ?_ (hl hld)) k) q2
      case refine_2 =>
        rcases hfj : fl j with - | - | f2
        · rw [hfj] at q1
          cases κ
          · exact q1
          · exact Kp.of q1
        · rw [hfj] at q1
          cases κ with
          | true => exact q1
          | false =>
          obtain ⟨e, he, hb, hon⟩ := hst hld j o ho hji hjun (.inr ⟨hfj, rfl⟩)
          exact absurd hon (hnot e he hb)
        · obtain ⟨e, he, hb, hon⟩ := hst hld j o ho hji hjun (.inl (by omega))
          exact absurd hon (hnot e he hb)
      rw [ha d hd]
      exact hput fun e => p3 d e hd

theorem SAnyB_sound {ro : Option Nat} {Q : Exit → Act → World → Prop} {K : En → Hp → List Nat → Prop} : ∀ (f : Nat) {listed : Array Bool} {E : En} {m : Gh} {w : World} {a : Act} {H : Hp} {V : List Nat},
    Inv m w H V → (∀ k, RelV m w V (E k) (a.tmps.getD k undef)) → a.tmps.size = n → SAnyB P n ops fl S K f listed E H V →
    (∀ E' H' V' a' m' w', K E' H' V' → Inv m' w' H' V' → (∀ k, RelV m' w' V' (E' k) (a'.tmps.getD k undef)) → a'.tmps.size = n → a'.defers = a.defers → Ext m w V m' w' V' → Q .normal a' w') → wpAnyIn (fen ro) 0 P .any ops.toArray Q f listed a w
  | 0, listed, E, m, w, a, H, V, hi, ht, hz, h, hK => ⟨h.1, hK _ _ _ _ _ _ h.2 hi ht hz rfl (Ext.refl m w V)⟩
  | f + 1, listed, E, m, w, a, H, V, hi, ht, hz, h, hK => by
    refine ⟨fun e => hK _ _ _ _ _ _ (h.1 e) hi ht hz rfl (Ext.refl m w V), fun i hr => ?_⟩
    obtain ⟨_, o, ho, _⟩ := mem_ready.1 hr
    rw [List.getElem?_toArray] at ho
    refine cstepB_sound ho hi ht hz (h.2 i hr o ho) fun E' H' V' a' m' w' k1 k2 k3 k4 k5 k6 => ?_
    exact SAnyB_sound f k2 k3 k4 k1.2 fun E2 H2 V2 a2 m2 w2 q1 q2 q3 q4 q5 q6 => hK _ _ _ _ _ _ q1 q2 q3 q4 (q5.trans k5) (k6.trans q6)

end

inductive Fb where
  | pl
  | ld
  | sb
  | st
instance : DecidableEq Fb := fun a b => by cases a <;> cases b <;> first | exact isTrue rfl | exact isFalse (fun h => by cases h)
def Fb.k : Fb → Nat
  | .pl => 0
  | .ld => 0
  | .sb => 1
  | .st => 2
def flk (l0 l1 : List Nat) (i : Nat) : Nat := if l0.contains i then 2 else if l1.contains i then 1 else 0
theorem ldB_spec {l0 l1 : List Nat} {κ : Bool} {i : Nat} {listed : Array Bool} {ops : List Oper} (h : ldOk ops l0 i listed = true) (h1 : κ = false → ldOk ops l1 i listed = true) : ∀ j oj, ops[j]? = some oj → j ≠ i → listed.getD j true = false → (1 < flk l0 l1 j ∨ (flk l0 l1 j = 1 ∧ κ = false)) → ∃ e ∈ oj.after, Region.binds .any e = true ∧ e.on = i := fun j oj hj hne hun hf => by
  unfold flk at hf
  rcases hf with hf | ⟨hf, hκ⟩
  · refine ldOk_spec h j oj hj hne hun ?_
    split at hf
    · assumption
    · split at hf <;> omega
  · refine ldOk_spec (h1 hκ) j oj hj hne hun ?_
    split at hf
    · omega
    · split at hf
      · assumption
      · omega
inductive OB where
  | n
  | s (i : Nat) (b : Fb) (t : OB)
  | c (i : Nat) (t : OB)
  | b (i : Nat) (t : OB)
def ordB (ops : List Oper) (l0 l1 : List Nat) : OB → Nat → Array Bool → Bool
  | .n, f, listed => f == 0 && (Region.ready .any ops.toArray listed).isEmpty
  | .s i b t, f, listed =>
    flk l0 l1 i == b.k &&
    ((match ops[i]? with
      | some o => (pureOp o.op && (Region.ready .any ops.toArray listed).contains i && Region.free .any ops.toArray listed i && (!isLd o.op || (ldOk ops l0 i listed && (b == Fb.ld || ldOk ops l1 i listed)))) || Region.ready .any ops.toArray listed == [i]
      | none => false) && f != 0 && ordB ops l0 l1 t (f - 1) (listed.setIfInBounds i true))
  | .c i t, f, listed =>
    (match ops[i]? with
      | some o => (Region.ready .any ops.toArray listed).contains i && Region.free .any ops.toArray listed i && !isLd o.op && o.guard.isNone
      | none => false) && f != 0 && ordB ops l0 l1 t (f - 1) (listed.setIfInBounds i true)
  | .b i t, f, listed => flk l0 l1 i == 0 && Region.ready .any ops.toArray listed == [i] && f != 0 && ordB ops l0 l1 t (f - 1) (listed.setIfInBounds i true)
def crunB (P : Program) (n : Nat) (ops : List Oper) (S : List Nat) : OB → Tm → Hp → List Nat → (Tm → Hp → List Nat → Prop) → Prop
  | .n, T, H, V, K => K T H V
  | .s i b t, T, H, V, K =>
    match ops[i]? with
    | some o => pureOk (evT T) o.op = true ∧ (b = Fb.ld → inS S (evT T) o.op) ∧ crun P n ops [o] T H V fun T' H' V' => relK S b.k H H' ∧ crunB P n ops S t T' H' V' K
    | none => False
  | .c i t, T, H, V, K =>
    match ops[i]? with
    | some o => dOk o.dst n ∧ ∃ c, FnOp P (evT T) o.op c ∧ crunB P n ops S t (tput o.dst c T) H V K
    | none => False
  | .b i t, T, H, V, K =>
    match ops[i]? with
    | some o => dOk o.dst n ∧ o.guard = none ∧ capB P (evT T) H V (fun c H' V' => H <+: H' ∧ crunB P n ops S t (tput o.dst c T) H' V' K) o.op
    | none => False
section
variable {P : Program} {n : Nat} {ops : List Oper}
theorem crunB_any {S : List Nat} {l0 l1 : List Nat} {K : Tm → Hp → List Nat → Prop} : ∀ (l : OB) (f : Nat) (listed : Array Bool) (T : Tm) (H : Hp) (V : List Nat), ordB ops l0 l1 l f listed = true → crunB P n ops S l T H V K →
    SAnyB P n ops (flk l0 l1) S (fun E H V => ∃ T', tget T' = E ∧ K T' H V) f listed (tget T) H V
  | .n, f, listed, T, H, V, ho, h => by
    rw [ordB, Bool.and_eq_true] at ho
    obtain ⟨h0, ho⟩ := ho
    obtain rfl : f = 0 := by simpa using h0
    exact ⟨by simpa using ho, T, rfl, h⟩
  | .s i b t, f, listed, T, H, V, ho, h => by
    rw [ordB, Bool.and_eq_true, Bool.and_eq_true, Bool.and_eq_true] at ho
    rw [crunB] at h
    obtain ⟨hfb, ⟨ho, hf0⟩, hrest⟩ := ho
    obtain ⟨f, rfl⟩ : ∃ g, f = g + 1 := ⟨f - 1, by have : f ≠ 0 := by simpa using hf0
                                                   omega⟩
    rw [Nat.add_sub_cancel] at hrest
    replace hfb : flk l0 l1 i = b.k := by simpa using hfb
    cases hi : ops[i]? with
    | none => rw [hi] at h; exact h.elim
    | some o =>
      rw [hi] at h ho
      dsimp only at h ho
      obtain ⟨hk, hin, h⟩ := h
      have h1 := crun_one h
      rw [Bool.or_eq_true] at ho
      rcases ho with ho | ho
      · rw [Bool.and_eq_true, Bool.and_eq_true, Bool.and_eq_true] at ho
        obtain ⟨⟨⟨hp, hr⟩, hf⟩, hld⟩ := ho
        obtain ⟨c, ⟨T', e1, _, e3⟩, hh⟩ := pure_stepF (κ := b == Fb.ld) (S := S) hp (by rw [← evT_eq]; exact hk) (fun e => by rw [← evT_eq]; exact hin (by simpa using e)) h1
        have := crunB_any t f _ T' H V hrest e3
        rw [e1] at this
        exact SAnyB_first hi f listed _ H V (fun j oj hj hne hun hno => Region.free_spec (by rw [List.getElem?_toArray]; exact hi) hf j oj (by rw [List.getElem?_toArray]; exact hj) hne hun hno) (fun hl => by
          rw [hl] at hld
          have hld : (ldOk ops l0 i listed && (b == Fb.ld || ldOk ops l1 i listed)) = true := by simpa using hld
          rw [Bool.and_eq_true, Bool.or_eq_true] at hld
          exact ldB_spec hld.1 fun hκ => hld.2.resolve_left (by rw [hκ]; decide)) (by simpa using hr) hh this
      · have hr : Region.ready .any ops.toArray listed = [i] := by simpa using ho
        refine ⟨fun e => (by rw [hr] at e; cases e), fun j hj o' ho' => ?_⟩
        rw [hr] at hj
        obtain rfl : j = i := by simpa using hj
        rw [hi] at ho'; cases ho'
        refine .inl (cstepE_mono (fun E H' V' ⟨T', e1, e2, e3⟩ => ?_) h1)
        subst e1
        exact ⟨by rw [hfb]; exact e2, crunB_any t f _ T' H' V' hrest e3⟩
  | .c i t, f, listed, T, H, V, ho, h => by
    rw [ordB, Bool.and_eq_true, Bool.and_eq_true] at ho
    rw [crunB] at h
    obtain ⟨⟨ho, hf0⟩, hrest⟩ := ho
    obtain ⟨f, rfl⟩ : ∃ g, f = g + 1 := ⟨f - 1, by have : f ≠ 0 := by simpa using hf0
                                                   omega⟩
    rw [Nat.add_sub_cancel] at hrest
    cases hi : ops[i]? with
    | none => rw [hi] at h; exact h.elim
    | some o =>
      rw [hi] at h ho
      dsimp only at h ho
      rw [Bool.and_eq_true, Bool.and_eq_true, Bool.and_eq_true] at ho
      obtain ⟨⟨⟨hr, hf⟩, hld⟩, hg⟩ := ho
      replace hld : isLd o.op = false := by simpa using hld
      replace hg : o.guard = none := by simpa using hg
      obtain ⟨hd, c, hfn, h⟩ := h
      have := crunB_any t f _ _ H V hrest h
      rw [tget_tput] at this
      refine SAnyB_first (κ := true) hi f listed _ H V (fun j oj hj hne hun hno => Region.free_spec (by rw [List.getElem?_toArray]; exact hi) hf j oj (by rw [List.getElem?_toArray]; exact hj) hne hun hno) (fun hl => by rw [hld] at hl; cases hl) (by simpa using hr) (fun E2 H2 V2 K2 ha _ k => ?_) this
      unfold cstepE
      rw [hg]
      refine ⟨hd, ?_⟩
      rw [cop_local (eval_agree ha), ← evT_eq]
      exact hfn H2 V2 _ k
  | .b i t, f, listed, T, H, V, ho, h => by
    rw [ordB, Bool.and_eq_true, Bool.and_eq_true, Bool.and_eq_true] at ho
    rw [crunB] at h
    obtain ⟨⟨⟨hfb, hr⟩, hf0⟩, hrest⟩ := ho
    obtain ⟨f, rfl⟩ : ∃ g, f = g + 1 := ⟨f - 1, by have : f ≠ 0 := by simpa using hf0
                                                   omega⟩
    rw [Nat.add_sub_cancel] at hrest
    replace hfb : flk l0 l1 i = 0 := by simpa using hfb
    replace hr : Region.ready .any ops.toArray listed = [i] := by simpa using hr
    cases hi : ops[i]? with
    | none => rw [hi] at h; exact h.elim
    | some o =>
      rw [hi] at h
      dsimp only at h
      obtain ⟨hd, hg, h⟩ := h
      refine ⟨fun e => (by rw [hr] at e; cases e), fun j hj o' ho' => ?_⟩
      rw [hr] at hj
      obtain rfl : j = i := by simpa using hj
      rw [hi] at ho'; cases ho'
      refine .inr ⟨hd, hg, ?_⟩
      rw [← evT_eq]
      refine capB_mono (fun c H' V' ⟨e1, e2⟩ => ?_) h
      have := crunB_any t f _ _ H' V' hrest e2
      rw [tget_tput] at this
      exact ⟨by rw [hfb]; exact e1, this⟩
theorem SWp.drawn0B {S l0 l1 : List Nat} {id nb nv : Nat} {Q : Exit → Tm → Hp → List Nat → Prop} {T : Tm} {H : Hp} {V : List Nat} (l : OB) (hm : P.follows .mixedOrders = true) (ho : ordB ops l0 l1 l ops.length (Array.replicate ops.length false) = true)
    (h : crunB P n ops S l T H V (Q .normal)) : SWp P n nb nv (.region id ops.toArray true) Q T H V := by
  intro ro D m w a m0 w0 V0 h1 h2 h3 hx hs
  refine wpIn_region_any hm ?_
  have hd : Inv m { w with drawn := w.drawn + 1 } H V ∧ Ext m w V m { w with drawn := w.drawn + 1 } V := hs.inv.drew
  have := crunB_any l ops.length _ T H V ho h
  simp only [List.size_toArray]
  refine SAnyB_sound (fl := flk l0 l1) (S := S) (Q := fun e a' w' => ∃ T' H' V' m', Q e T' H' V' ∧ St D n m' w' a' T' H' V' ∧ Ext m0 w0 V0 m' w' V') ops.length hd.1 (fun k => RelV.mono hd.2 _ _ (hs.tm k)) hs.size this fun E' H' V' a' m' w' k1 k2 k3 k4 k5 k6 => ?_
  obtain ⟨T', e, hq⟩ := k1
  subst e
  exact ⟨T', H', V', m', hq, ⟨k2, k3, k4, by rw [k5]; exact hs.df.mono (hd.2.trans k6)⟩, (hx.trans hd.2).trans k6⟩
end
def inSB (b : Fb) (S : List Nat) (ev : Operand → CV) (op : Op) : Prop := b = Fb.ld → inS S ev op
@[go_sem] theorem inSB_pl (S : List Nat) (ev : Operand → CV) (op : Op) : inSB .pl S ev op = True := eq_true fun h => by cases h
@[go_sem] theorem inSB_st (S : List Nat) (ev : Operand → CV) (op : Op) : inSB .st S ev op = True := eq_true fun h => by cases h
def relB (S : List Nat) (b : Fb) (H H' : Hp) : Prop := relK S b.k H H'
@[go_sem] theorem relB_pl (S : List Nat) (H H' : Hp) : relB S .pl H H' = (H <+: H') := rfl
@[go_sem] theorem relB_ld (S : List Nat) (H H' : Hp) : relB S .ld H H' = (H <+: H') := rfl
@[go_sem] theorem relB_sb (S : List Nat) (H H' : Hp) : relB S .sb H H' = Kp S H H' := rfl
@[go_sem] theorem relB_st (S : List Nat) (H H' : Hp) : relB S .st H H' = True := rfl
def crunBL (P : Program) (n : Nat) (ds : List (Option Tmp)) (ops : List Oper) (S : List Nat) : OB → Tm → Hp → List Nat → (Tm → Hp → List Nat → Prop) → Prop
  | .n, T, H, V, K => K T H V
  | .s i b t, T, H, V, K => withO (ops[i]?) fun o => pureOk (evT T) o.op = true ∧ inSB b S (evT T) o.op ∧ crunL P n ds [o] T H V fun T' H' V' => relB S b H H' ∧ crunBL P n ds ops S t T' H' V' K
  | .c i t, T, H, V, K => withO (ops[i]?) fun o => dOk o.dst n ∧ ∃ c, FnOp P (evT T) o.op c ∧ crunBL P n ds ops S t (tput o.dst c T) H V K
  | .b i t, T, H, V, K => withO (ops[i]?) fun o => dOk o.dst n ∧ o.guard = none ∧ capB P (evT T) H V (fun c H' V' => H <+: H' ∧ crunBL P n ds ops S t (tput o.dst c T) H' V' K) o.op
def crunBS (P : Program) (n : Nat) (ds : List (Option Tmp)) (ops : List Oper) (S : List Nat) (l : OB) (T : Tm) (H : Hp) (V : List Nat) (K : Tm → Hp → List Nat → Prop) : Prop := crunBL P n ds ops S l T H V K
theorem crunB_lite (P : Program) (n : Nat) (ops : List Oper) (S : List Nat) : ∀ (l : OB) (T : Tm) (H : Hp) (V : List Nat) (K : Tm → Hp → List Nat → Prop), crunB P n ops S l T H V K = crunBL P n (ops.map (·.dst)) ops S l T H V K
  | .n, _, _, _, _ => rfl
  | .s i b t, T, H, V, K => by
    rw [crunB, crunBL, withO_eq]
    cases ops[i]? with
    | none => simp
    | some o => simp [crun_lite, crunB_lite P n ops S t, inSB, relB]
  | .c i t, T, H, V, K => by
    rw [crunB, crunBL, withO_eq]
    cases ops[i]? with
    | none => simp
    | some o => simp [crunB_lite P n ops S t]
  | .b i t, T, H, V, K => by
    rw [crunB, crunBL, withO_eq]
    cases ops[i]? with
    | none => simp
    | some o => simp [crunB_lite P n ops S t]
section
variable {P : Program} {n : Nat} {ds : List (Option Tmp)} {ls : List Oper} {S : List Nat} {T T' : Tm} {H H' : Hp} {V V' : List Nat} {K : Tm → Hp → List Nat → Prop}
@[go_sem] theorem crunBS_eq (l : OB) : crunBS P n ds ls S l T H V K = crunBL P n ds ls S l T H V K := rfl
@[go_sem] theorem crunBL_nil : crunBL P n ds ls S .n T H V K = K T H V := rfl
def contB (b : Fb) (P : Program) (n : Nat) (ds : List (Option Tmp)) (ls : List Oper) (S : List Nat) (r : OB) (H : Hp) (K : Tm → Hp → List Nat → Prop) : Tm → Hp → List Nat → Prop := fun T' H' V' => relB S b H H' ∧ crunBL P n ds ls S r T' H' V' K
@[go_sem ↓] theorem contB_eq (b : Fb) (r : OB) : contB b P n ds ls S r H K T H' V = (relB S b H H' ∧ crunBL P n ds ls S r T H' V K) := id rfl
@[go_sem] theorem crunBL_s (i : Nat) (b : Fb) (r : OB) : crunBL P n ds ls S (.s i b r) T H V K = withO (ls[i]?) fun o => pureOk (evT T) o.op = true ∧ inSB b S (evT T) o.op ∧ crunL P n ds [o] T H V (contB b P n ds ls S r H K) := rfl
def hfnB (P : Program) (n : Nat) (ds : List (Option Tmp)) (ls : List Oper) (S : List Nat) (d : Option Tmp) (op : Op) (r : OB) (T : Tm) (H : Hp) (V : List Nat) (K : Tm → Hp → List Nat → Prop) : Prop := ∃ c, FnOp P (evT T) op c ∧ crunBL P n ds ls S r (tput d c T) H V K
@[go_sem] theorem crunBL_c (i : Nat) (r : OB) : crunBL P n ds ls S (.c i r) T H V K = withO (ls[i]?) fun o => dOk o.dst n ∧ hfnB P n ds ls S o.dst o.op r T H V K := rfl
def appB (P : Program) (n : Nat) (ds : List (Option Tmp)) (ls : List Oper) (S : List Nat) (d : Option Tmp) (X Y : CV) (t tx : TypeId) (r : OB) (T : Tm) (H : Hp) (V : List Nat) (K : Tm → Hp → List Nat → Prop) : Prop :=
  ∃ (e ex : TypeId) (sz szx : Nat) (tk : Tk) (ys : List (List CV)), slTy P t = some (e, sz) ∧ slTy P tx = some (ex, szx) ∧ 0 < sz ∧
    (X = .v (.slice none 0 0) ∨ X = .sl .ti sz []) ∧ Y = .sl tk sz ys ∧ ys ≠ [] ∧ ys.length ≤ 1099511627776 ∧ crunBL P n ds ls S r (tput d (.bsa H.length ys.length sz) T) (H ++ [some ys.flatten]) V K
def opB (P : Program) (n : Nat) (ds : List (Option Tmp)) (ls : List Oper) (S : List Nat) (d : Option Tmp) (op : Op) (r : OB) (T : Tm) (H : Hp) (V : List Nat) (K : Tm → Hp → List Nat → Prop) : Prop := capB P (evT T) H V (fun c H' V' => H <+: H' ∧ crunBL P n ds ls S r (tput d c T) H' V' K) op
@[go_sem] theorem opB_app (d : Option Tmp) (x y : Operand) (t tx : TypeId) (r : OB) : opB P n ds ls S d (.call ⟨.builtin .append, #[x, y], #[t, tx]⟩) r T H V K = appB P n ds ls S d (evT T x) (evT T y) t tx r T H V K := by
  refine propext ⟨?_, ?_⟩
  · rintro ⟨x', y', t', tx', e, ex, sz, szx, tk, ys, h1, h2, h3, h4, h5, h6, h7, h8, -, h9⟩
    cases h1
    exact ⟨e, ex, sz, szx, tk, ys, h2, h3, h4, h5, h6, h7, h8, h9⟩
  · rintro ⟨e, ex, sz, szx, tk, ys, h2, h3, h4, h5, h6, h7, h8, h9⟩
    exact ⟨x, y, t, tx, e, ex, sz, szx, tk, ys, rfl, h2, h3, h4, h5, h6, h7, h8, ⟨_, rfl⟩, h9⟩
@[go_sem] theorem crunBL_b (i : Nat) (r : OB) : crunBL P n ds ls S (.b i r) T H V K = withO (ls[i]?) fun o => dOk o.dst n ∧ o.guard = none ∧ opB P n ds ls S o.dst o.op r T H V K := rfl
theorem appB.mkT {d : Option Tmp} {t tx e ex : TypeId} {r : OB} {sz szx : Nat} {tk : Tk} {ys : List (List CV)} (h1 : slTy P t = some (e, sz)) (h2 : slTy P tx = some (ex, szx)) (h3 : 0 < sz) (h4 : ys ≠ []) (h5 : ys.length ≤ 1099511627776)
    (h : crunBL P n ds ls S r (tput d (.bsa H.length ys.length sz) T) (H ++ [some ys.flatten]) V K) : appB P n ds ls S d (.sl .ti sz []) (.sl tk sz ys) t tx r T H V K := ⟨e, ex, sz, szx, tk, ys, h1, h2, h3, .inr rfl, rfl, h4, h5, h⟩
@[congr] theorem crunBL_congr {l : OB} (h1 : T = T') (h2 : H = H') (h3 : V = V') : crunBL P n ds ls S l T H V K = crunBL P n ds ls S l T' H' V' K := by subst h1 h2 h3; rfl
@[congr] theorem crunBS_congr {ds' : List (Option Tmp)} {l : OB} (h0 : ds = ds') (h1 : T = T') (h2 : H = H') (h3 : V = V') : crunBS P n ds ls S l T H V K = crunBS P n ds' ls S l T' H' V' K := by subst h0 h1 h2 h3; rfl
@[congr] theorem appB_congr {d : Option Tmp} {X X' Y Y' : CV} {t tx : TypeId} {r : OB} (h1 : T = T') (h2 : H = H') (h3 : V = V') (h4 : X = X') (h5 : Y = Y') : appB P n ds ls S d X Y t tx r T H V K = appB P n ds ls S d X' Y' t tx r T' H' V' K := by subst h1 h2 h3 h4 h5; rfl
end
theorem SWp.drawnB {P : Program} {n id nb nv : Nat} {ops : List Oper} {Q : Exit → Tm → Hp → List Nat → Prop} {T : Tm} {H : Hp} {V : List Nat} (S l0 l1 : List Nat) (l : OB) (hm : P.follows .mixedOrders = true) (ho : ordB ops l0 l1 l ops.length (Array.replicate ops.length false) = true)
    (h : crunBS P n (ops.map (·.dst)) ops S l T H V (Q .normal)) : SWp P n nb nv (.region id ops.toArray true) Q T H V := SWp.drawn0B l hm ho (by rw [crunB_lite]; exact h)
end Go.Proofs.YtpedbpbmnchllaaGreatDoor
namespace Go.Proofs.YtpedbpbmnchllaaGreatDoor
abbrev Reg := BitVec 32
def poly : Reg := 0x82F63B78#32
def bit1 (r : Reg) : Reg := if r.getLsbD 0 then (r >>> 1) ^^^ poly else r >>> 1
def bits : Nat → Reg → Reg
  | 0, r => r
  | n + 1, r => bits n (bit1 r)
end Go.Proofs.YtpedbpbmnchllaaGreatDoor
namespace Go.Proofs.YtpedbpbmnchllaaGreatDoor
def intsE (k : IntKind) (zs : List Int) : Array Value := (zs.map fun z => Value.int k z).toArray
theorem zip_rep (k : IntKind) : ∀ (n : Nat) (zs : List Int), zs.length = n → (((List.replicate n k).zip zs).map fun p => Value.int p.1 p.2) = zs.map fun z => Value.int k z
  | 0, [], _ => rfl
  | n + 1, z :: zs, h => by
    rw [List.replicate_succ, List.zip_cons_cons, List.map_cons, List.map_cons, zip_rep k n zs (by simpa using h)]
  | 0, _ :: _, h => by simp at h
  | n + 1, [], h => by simp at h
theorem all_range_int : ∀ (xs ys : List Int), xs.length = ys.length → ((List.range xs.length).all fun i => xs.getD i 0 == ys.getD i 0) = decide (xs = ys)
  | [], [], _ => rfl
  | x :: xs, y :: ys, h => by
    have ih := all_range_int xs ys (by simpa using h)
    rw [List.length_cons, List.range_succ_eq_map, List.all_cons, List.all_map]
    simp only [List.getD_cons_zero, Function.comp_def, List.getD_cons_succ, ih]
    by_cases hx : x = y <;> simp [hx]
  | [], _ :: _, h => by simp at h
  | _ :: _, [], h => by simp at h
section
variable {P : Program}
theorem run_eqItems_ints (w : World) (d : Nat) {e : TypeId} {k : IntKind} (he : P.underlying e = some (.int k)) (xs ys : List Int) : ∀ l : List Nat, (∀ i ∈ l, i < xs.length ∧ i < ys.length) →
    (Op.eqItems (d + 1) e 1 (intsE k xs) (intsE k ys) l).run P w = .ok (l.all fun i => xs.getD i 0 == ys.getD i 0) w
  | [], _ => by simp [Op.eqItems]
  | i :: l, h => by
    obtain ⟨h1, h2⟩ := h i (by simp)
    have px : (part e (intsE k xs) (i * 1)).run P w = .ok (.int k (xs.getD i 0)) w := by
      simp [intsE, part, isAgg, run_underlying he, List.getD, List.getElem?_eq_getElem h1]
    have py : (part e (intsE k ys) (i * 1)).run P w = .ok (.int k (ys.getD i 0)) w := by
      simp [intsE, part, isAgg, run_underlying he, List.getD, List.getElem?_eq_getElem h2]
    have pe : (Op.equalIn (d + 1) e (.int k (xs.getD i 0)) (.int k (ys.getD i 0))).run P w = .ok (xs.getD i 0 == ys.getD i 0) w := run_equalIn_int w d e k k _ _ he
    simp only [Op.eqItems, Sem.run_bind, px, py, pe, Result.andThen_ok, List.all_cons]
    cases hb : (xs.getD i 0 == ys.getD i 0)
    · simp
    · simp only [Bool.not_true, Bool.false_eq_true, if_false, Bool.true_and]
      exact run_eqItems_ints w d he xs ys l fun j hj => h j (List.mem_cons_of_mem _ hj)
theorem flatEq_array {t e : TypeId} {n : Nat} {k : IntKind} {i : TypeInfo} (hu : P.underlying t = some (.array n e)) (hi : P.info? e = some i) (he : P.underlying e = some (.int k)) (hc : P.cellsOf e = 1) (hg : P.eqGuardType P.depth t = false) : FlatEq P t (List.replicate n k) := by
  refine ⟨hg, fun w zs zs' h1 h2 => ?_⟩
  rw [List.length_replicate] at h1 h2
  rw [zip_rep k n zs h1, zip_rep k n zs' h2]
  show (Op.equalIn 10000 t (.agg (intsE k zs)) (.agg (intsE k zs'))).run P w = _
  rw [run_equalIn_array w 9999 _ _ hu hi, hc, run_eqItems_ints w 9998 he _ _ _ (fun i hi => by rw [List.mem_range] at hi; omega), ← h1, all_range_int _ _ (by omega)]
theorem flatEq_pair {t e : TypeId} {f g : Field} {k : IntKind} (hu : P.underlying t = some (.struct #[f, g])) (hf : f.type = e) (hg : g.type = e) (of : f.offset = 0) (og : g.offset = 1) (nf : f.name ≠ "_") (ng : g.name ≠ "_") (he : P.underlying e = some (.int k)) (hs : P.stoodInHeld t = false) (hq : P.eqGuardType P.depth t = false) : FlatEq P t [k, k] := by
  refine ⟨hq, fun w zs zs' h1 h2 => ?_⟩
  match zs, zs', h1, h2 with
  | [a, b], [c, d], _, _ =>
    show (Op.equalIn 10000 t (.agg (intsE k [a, b])) (.agg (intsE k [c, d]))).run P w = _
    have hF : P.fieldsOf t = #[f, g] := by unfold Program.fieldsOf; rw [hu]
    rw [run_equalIn_agg w 9999 _ _ _ (by rw [hF]; exact hu) hs, hF]
    have p1 : (part e (intsE k [a, b]) 0).run P w = .ok (.int k a) w := by simp [intsE, part, isAgg, run_underlying he]
    have p2 : (part e (intsE k [a, b]) 1).run P w = .ok (.int k b) w := by simp [intsE, part, isAgg, run_underlying he]
    have p3 : (part e (intsE k [c, d]) 0).run P w = .ok (.int k c) w := by simp [intsE, part, isAgg, run_underlying he]
    have p4 : (part e (intsE k [c, d]) 1).run P w = .ok (.int k d) w := by simp [intsE, part, isAgg, run_underlying he]
    have q1 : (Op.equalIn 9999 e (.int k a) (.int k c)).run P w = .ok (a == c) w := run_equalIn_int w 9998 e k k _ _ he
    have q2 : (Op.equalIn 9999 e (.int k b) (.int k d)).run P w = .ok (b == d) w := run_equalIn_int w 9998 e k k _ _ he
    simp only [Op.eqFields, hf, hg, of, og, nf, ng, ne_eq, not_false_eq_true, if_true, Sem.run_bind, p1, p3, q1, Result.andThen_ok]
    cases h1 : (a == c)
    · have : a ≠ c := by simpa using h1
      simp [this]
    · have h1 : a = c := by simpa using h1
      simp only [Bool.not_true, Bool.false_eq_true, if_false, Sem.run_bind, p2, p4, q2, Result.andThen_ok]
      cases h2 : (b == d)
      · have : b ≠ d := by simpa using h2
        simp [h1, this]
      · have h2 : b = d := by simpa using h2
        simp [h1, h2]
end
theorem fits_rep (k : IntKind) : ∀ zs : List Int, fits (List.replicate zs.length k) (zs.map fun z => CV.v (.int k z))
  | [] => by rw [List.length_nil, List.replicate_zero, fits]; rfl
  | z :: zs => by rw [List.length_cons, List.replicate_succ, fits]; exact ⟨z, _, rfl, fits_rep k zs⟩
end Go.Proofs.YtpedbpbmnchllaaGreatDoor
