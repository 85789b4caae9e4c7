import Derived.Test.YtfflhepmkhlppaaGreatDoorB2
import Derived.OrdersHeld
import Derived.OrdersIn
import Derived.Defers
import Derived.Recover
import Derived.Tactics
import Derived.Tactics2
set_option linter.unusedSimpArgs false
set_option linter.unusedVariables false
set_option linter.unusedSectionVars false
set_option maxRecDepth 8000
set_option maxHeartbeats 4000000
open List (all_append all_cons all_eq_true all_map any_eq_true append_assoc append_nil cons_append contains_iff_mem drop_append_of_le_length drop_drop drop_eq_getElem_cons drop_eq_nil_of_le drop_of_length_le drop_one drop_succ_cons drop_take drop_zero eq_nil_of_length_eq_zero ext_getElem ext_getElem? filter_cons flatMap_append flatMap_cons flatMap_nil flatten_append flatten_cons flatten_nil foldl_append foldl_cons getD_eq_getElem?_getD getElem?_append getElem?_append_left getElem?_append_right getElem?_cons_succ getElem?_cons_zero getElem?_drop getElem?_eq_getElem getElem?_eq_none getElem?_map getElem?_of_mem getElem?_replicate getElem?_set getElem?_set_ne getElem?_set_self getElem?_take getElem?_toArray getElem_drop getElem_map getElem_mem getElem_of_mem getElem_set length_append length_cons length_drop length_eq_zero_iff length_map length_nil length_pos_iff length_range length_replicate length_set length_singleton length_take mapM_cons map_append map_congr_left map_cons map_drop map_map map_nil map_set map_take mem_append mem_append_left mem_cons mem_cons_of_mem mem_cons_self mem_flatten mem_map mem_of_getElem? mem_of_mem_drop mem_of_mem_take mem_range mem_replicate mem_singleton nil_append not_mem_nil prefix_refl range_succ replicate_succ replicate_succ' set_append_left set_append_right set_eq_take_append_cons_drop set_getElem_self set_set size_toArray take_append take_append_drop take_append_of_le_length take_left take_length take_of_length_le take_set_of_le take_succ_cons take_succ_eq_append_getElem take_take take_zero zip_cons_cons)
open Nat (le_refl zero_le)
namespace Go.Proofs.YtfflhepmkhlppaaGreatDoor
open Go.Proofs
section
section
variable {P : Program} {H : Hp} {V : List Nat}
theorem pf {K K' : CV -> Prop} (h : ∀ c, K c -> K' c) {g : Bool} {n : Nat} {cs : List CV} {o : Nat} : ld g n cs o K -> ld g n cs o K' := by
 unfold ld; split
 · exact fun ⟨a, b⟩ => ⟨a, h _ b⟩
 · exact fun ⟨a, b⟩ => ⟨a, h _ b⟩
theorem hC {K K' : CV -> Prop} (h : ∀ c, K c -> K' c) {op : BinOp} {b : Bool} : d6 op b K -> d6 op b K' := by
 unfold d6; split <;> first | exact h _ | exact id
theorem CG {K K' : CV -> Prop} (h : ∀ c, K c -> K' c) {op : BinOp} {k : IntKind} {a b : Int} : fk op k a b K -> fk op k a b K' := by
 unfold fk; split <;> first | exact h _ | exact fun ⟨a, b⟩ => ⟨a, h _ b⟩
theorem C7 {K K' : CV -> Prop} (h : ∀ c, K c -> K' c) {op : BinOp} {t : TypeId} {x y : CV} : kq P op t x y K -> kq P op t x y K' := by
 unfold kq; split
 · exact fun ⟨a, b⟩ => ⟨a, CG h b⟩
 · exact fun ⟨a, b⟩ => ⟨a, hC h b⟩
 · exact hC h
 · exact fun ⟨a, b⟩ => ⟨a, fun c d => hC h (b c d)⟩
 · exact fun ⟨a, b⟩ => ⟨a, hC h b⟩
 · exact fun ⟨ks, a, b, c, d⟩ => ⟨ks, a, b, c, fun e f => hC h (d e f)⟩
 · exact id
theorem HN {K K' : CV -> Prop} (h : ∀ c, K c -> K' c) {op : UnOp} {x : CV} : wG op x K -> wG op x K' := by
 unfold wG; split <;> (try split) <;> first | exact h _ | exact id
theorem C2 {K K' : CV -> Prop} (h : ∀ c, K c -> K' c) {t : TypeId} {x i : CV} : ju P t x i K -> ju P t x i K' := by
 unfold ju; split
 · exact fun ⟨a, b, c, d⟩ => ⟨a, b, c, h _ d⟩
 · exact fun ⟨a, b, c, d⟩ => ⟨a, b, c, h _ d⟩
 · exact fun ⟨l, g, s, a, b, c, d⟩ => ⟨l, g, s, a, b, c, h _ d⟩
 · exact fun ⟨l, g, s, a, b, c, d⟩ => ⟨l, g, s, a, b, c, h _ d⟩
 · exact fun ⟨a, b, c, d⟩ => ⟨a, b, c, h _ d⟩
 · exact id
theorem vO {K K' : CV -> Prop} (h : ∀ c, K c -> K' c) {t : TypeId} {x : CV} {lo hi mx : Option CV} : cY P t x lo hi mx K -> cY P t x lo hi mx K' := by
 unfold cY;refine fun ⟨a, b, c, d⟩ => ⟨a, b, c, ?_⟩
 revert d
 split
 · refine fun ⟨p, q, r, s⟩ => ⟨p, q, r, ?_⟩
   revert s
   split
   · exact h _
   · exact h _
   · exact fun ⟨x, y⟩ => ⟨x, h _ y⟩
   · exact id
 · exact fun ⟨p, q, r, s, t⟩ => ⟨p, q, r, s, h _ t⟩
 · exact fun ⟨p, l, g, s, q, r, u, v⟩ => ⟨p, l, g, s, q, r, u, h _ v⟩
 · exact fun ⟨p, q, r, s, t⟩ => ⟨p, q, r, s, h _ t⟩
 · exact fun ⟨p, l, g, s, q, r, u, x, v⟩ => ⟨p, l, g, s, q, r, u, x, h _ v⟩
 · exact id
theorem sE {K K' : List (List CV) -> Prop} (h : ∀ c, K c -> K' c) {sz : Nat} {y : CV} : ko H sz y K -> ko H sz y K' := by
 unfold ko; split
 · exact fun ⟨a, b⟩ => ⟨a, h _ b⟩
 · exact h _
 · exact fun ⟨a, cs, b, c, d⟩ => ⟨a, cs, b, c, h _ d⟩
 · exact id
theorem DB {K K' : List (List CV) -> Prop} (h : ∀ c, K c -> K' c) {tx e : TypeId} {sz : Nat} {y : CV} : rI P H tx e sz y K -> rI P H tx e sz y K' := by
 unfold rI; split
 · exact fun ⟨a, b, c, zs, d, f⟩ => ⟨a, b, c, zs, d, h _ f⟩
 · exact fun ⟨a, b⟩ => ⟨a, sE h b⟩
theorem C9 {K K' : CV -> Hp -> List Nat -> Prop} (h : ∀ c H V, K c H V -> K' c H V) {t tx : TypeId} {x y : CV} : tW P t tx x y H V K -> tW P t tx x y H V K' := by
 unfold tW;refine fun ⟨e, sz, a, c⟩ => ⟨e, sz, a, DB (fun ys => ?_) c⟩
 split
 · exact fun ⟨p, q, r⟩ => ⟨p, q, h _ _ _ r⟩
 · exact fun ⟨p, q⟩ => ⟨p, h _ _ _ q⟩
 · exact fun ⟨p, q, cs, r, s, t⟩ => ⟨p, q, cs, r, s, h _ _ _ t⟩
 · exact fun ⟨p, q, r, s⟩ => ⟨p, q, r, h _ _ _ s⟩
 · exact id
theorem x7 {K K' : CV -> Hp -> List Nat -> Prop} (h : ∀ c H V, K c H V -> K' c H V) {t tx : TypeId} {x y : CV} : lw P t tx x y H V K -> lw P t tx x y H V K' := by
 unfold lw;refine fun ⟨e, sz, a, b, c⟩ => ⟨e, sz, a, b, sE (fun ys => ?_) c⟩
 split
 · exact fun ⟨p, q, cs, r, s, t, u⟩ => ⟨p, q, cs, r, s, t, h _ _ _ u⟩
 · exact id
theorem vX {K K' : CV -> Prop} (h : ∀ c, K c -> K' c) {f : Int -> Int -> Int} {x y : CV} : xX f x y K -> xX f x y K' := by
 unfold xX; split
 · exact fun ⟨a, b⟩ => ⟨a, h _ b⟩
 · exact id
theorem wd {K K' : CV -> Prop} (h : ∀ c, K c -> K' c) {t : TypeId} {x y : CV} : eJ P t x y K -> eJ P t x y K' := by
 unfold eJ; split
 · exact fun ⟨l, g, n, a, b, c, d⟩ => ⟨l, g, n, a, b, c, pf h d⟩
 · exact fun ⟨a, b, c, d⟩ => ⟨a, b, c, h _ d⟩
 · exact id
theorem xY {K K' : CV -> Prop} (h : ∀ c, K c -> K' c) {t : TypeId} {x y : CV} {ok : Bool} : vY P t x y ok H K -> vY P t x y ok H K' := by
 unfold vY;refine fun ⟨z, a, b, c⟩ => ⟨z, a, b, ?_⟩
 revert c; split
 · exact fun ⟨ks, vs, p, q⟩ => ⟨ks, vs, p, h _ q⟩
 · exact id
theorem xW {K K' : Hp -> Prop} (h : ∀ c, K c -> K' c) {t : TypeId} {x y z : CV} : vW P t x y z H K -> vW P t x y z H K' := by
 unfold vW;refine fun ⟨a, b, c⟩ => ⟨a, b, ?_⟩
 revert c; split
 · exact fun ⟨ks, vs, p, q⟩ => ⟨ks, vs, p, h _ q⟩
 · exact id
theorem vQ {K K' : CV -> Hp -> Prop} (h : ∀ c H, K c H -> K' c H) {t : TypeId} {x : CV} : qQ P t x H K -> qQ P t x H K' := by
 unfold qQ;refine fun ⟨a, c⟩ => ⟨a, ?_⟩
 revert c; split
 · exact fun ⟨ks, vs, p, q⟩ => ⟨ks, vs, p, h _ _ q⟩
 · exact id
theorem xV {K K' : CV -> Hp -> Prop} (h : ∀ c H, K c H -> K' c H) {x : CV} {b : Bool} : oC x b H K -> oC x b H K' := by
 unfold oC;refine fun ⟨a, c⟩ => ⟨a, ?_⟩
 revert c; split
 · exact fun ⟨b, n, seen, ks, vs, p, q, r, s, t, u⟩ => ⟨b, n, seen, ks, vs, p, q, r, s, fun x => h _ _ (t x), fun i x y => h _ _ (u i x y)⟩
 · exact id
theorem wh {K K' : CV -> Prop} (h : ∀ c, K c -> K' c) {x : CV} : iO x H K -> iO x H K' := by
 unfold iO
 split
 · exact fun ⟨b, n, seen, i, ks, vs, p, q, r, s, t⟩ => ⟨b, n, seen, i, ks, vs, p, q, r, s, h _ t⟩
 · exact id
theorem C0 {K K' : CV -> Prop} (h : ∀ c, K c -> K' c) {t : TypeId} {x : CV} : lm P t x K -> lm P t x K' := by
 unfold lm; split <;> first | exact fun ⟨a, b⟩ => ⟨a, h _ b⟩ | exact id
theorem mU {ev : Operand -> CV} {K K' : CV -> Hp -> List Nat -> Prop} (h : ∀ c H V, K c H V -> K' c H V) {op : Op} : cx P ev H V K op -> cx P ev H V K' op := by
 have h1 : ∀ c, K c H V -> K' c H V := fun c => h c H V
 cases op <;> simp only [cx]
 case move x => exact h _ _ _
 case assign x => exact h _ _ _
 case pick c x y => split <;> first | exact h _ _ _ | exact id
 case alloc e => exact fun ⟨zs, a, b⟩ => ⟨zs, a, h _ _ _ b⟩
 case box e x => exact fun ⟨a, b⟩ => ⟨a, h _ _ _ b⟩
 case load t a =>
  refine fun ⟨g, n, p, q⟩ => ⟨g, n, p, ?_⟩
  revert q; split
  · exact fun ⟨cs, a, b⟩ => ⟨cs, a, pf h1 b⟩
  · exact pf h1
  · exact id
 case store t a x =>
  refine fun ⟨g, n, p, q⟩ => ⟨g, n, p, ?_⟩
  revert q; split
  · exact fun ⟨cs, a, b, c, d, e⟩ => ⟨cs, a, b, c, d, h _ _ _ e⟩
  · exact id
 case nilCheck x => split <;> first | exact h _ _ _ | exact id
 case binOp => exact C7 h1
 case unOp => exact HN h1
 case convert s d x =>
  refine fun ⟨k, p, q⟩ => ⟨k, p, ?_⟩
  revert q; split
  · exact h _ _ _
  · exact fun ⟨bs, a, b⟩ => ⟨bs, a, h _ _ _ b⟩
  · exact h _ _ _
  · exact id
 case sliceToArrayPointer t x =>
  refine fun ⟨n, g, sz, p, q⟩ => ⟨n, g, sz, p, ?_⟩
  revert q; split
  · exact fun ⟨a, b, c⟩ => ⟨a, b, h _ _ _ c⟩
  · exact id
 case makeFunc fn first captured => split <;> first | exact h _ _ _ | exact id
 case slice => exact vO h1
 case fieldAddr s x f =>
  refine fun ⟨o, g, n, p, q⟩ => ⟨o, g, n, p, ?_⟩
  revert q; split <;> first | exact h _ _ _ | exact id
 case field s x f =>
  refine fun ⟨o, g, n, p, q⟩ => ⟨o, g, n, p, ?_⟩
  revert q; split <;> first | exact pf h1 | exact id
 case indexAddr => exact C2 h1
 case index t x i => exact wd h1
 case makeMap t r => exact fun ⟨a, b, c⟩ => ⟨a, b, h _ _ _ c⟩
 case lookup => exact xY h1
 case mapUpdate => exact xW fun H' => h _ _ _
 case range => exact vQ fun c H' => h _ _ _
 case next => exact xV fun c H' => h _ _ _
 case entry => exact wh h1
 case extract x i => split <;> first | exact fun ⟨a, b⟩ => ⟨a, h _ _ _ b⟩ | exact id
 case build t parts => exact fun ⟨ps, zs, cs, a, b, c⟩ => ⟨ps, zs, cs, a, b, h _ _ _ c⟩
 case buildSlice t len parts => exact fun ⟨e, sz, a, b, c, d, f⟩ => ⟨e, sz, a, b, c, d, h _ _ _ f⟩
 case makeSlice t l c =>
  refine fun ⟨e, sz, p, zs, q, r⟩ => ⟨e, sz, p, zs, q, ?_⟩
  revert r; split
  · split
    · exact fun ⟨a, b, d⟩ => ⟨a, b, h _ _ _ d⟩
    · exact id
  · split
    · exact fun ⟨a, b, c, d⟩ => ⟨a, b, c, h _ _ _ d⟩
    · exact id
 case call c =>
  split
  · split
    · exact fun q => CC.mono q h
    · exact fun q => CC.mono q h
    · exact fun q => YC.mono q h
    · exact id
  · exact fun ⟨t, tx, x, y, a, b, c⟩ => ⟨t, tx, x, y, a, b, x7 h c⟩
  · exact fun ⟨x, y, b, c⟩ => ⟨x, y, b, vX h1 c⟩
  · exact fun ⟨x, y, b, c⟩ => ⟨x, y, b, vX h1 c⟩
  · exact fun ⟨t, x, a, b, c⟩ => ⟨t, x, a, b, C0 h1 c⟩
  · exact fun ⟨t, tx, x, y, a, b, c⟩ => ⟨t, tx, x, y, a, b, C9 h c⟩
  · exact id
 all_goals exact id
theorem jt {ev ev' : Operand -> CV} {K : CV -> Hp -> List Nat -> Prop} {op : Op} (h : ∀ x ∈ op.operands, ev x = ev' x) : cx P ev H V K op = cx P ev' H V K op := by
 cases op <;> simp only [Op.operands] at h <;> simp only [cx]
 case makeFunc fn first captured =>
  have : captured.toList.map ev = captured.toList.map ev' := map_congr_left fun x hx => h x (by simp at hx; simp [hx]);have this2 : first.toList.map ev = first.toList.map ev' := map_congr_left fun x hx => h x (by simp at hx; simp [hx]);rw [this, this2]
 case slice t x lo hi mx => cases lo <;> cases hi <;> cases mx <;> simp_all
 case build t parts =>
  have : (parts.toList.map fun p => (p.1, ev p.2)) = parts.toList.map fun p => (p.1, ev' p.2) := map_congr_left fun p hp => by
   rw [h p.2 (by simp at hp; simp; exact ⟨p.1, by simpa using hp⟩)]
  rw [this]
 case buildSlice t len parts =>
  have hp : ∀ p ∈ parts.toList, ev p.2 = ev' p.2 := fun p hp => h p.2 (by simp at hp; simp; exact ⟨p.1, by simpa using hp⟩);have e1 : (parts.toList.map fun p => (ev p.2).cells) = parts.toList.map fun p => (ev' p.2).cells := map_congr_left fun p q => by rw [hp p q]
  rw [e1]
  congr 1; funext e; congr 1; funext sz; congr 1; congr 1
  have e2 : (parts.toList.all fun p => (ev p.2).cells.length == sz && aJ (ev p.2).cells) = (parts.toList.all fun p => (ev' p.2).cells.length == sz && aJ (ev' p.2).cells) := by
   rw [Bool.eq_iff_iff, all_eq_true, all_eq_true]
   constructor <;> intro q p hq <;> have := q p hq <;> rw [hp p hq] at * <;> exact this
  rw [e2]
 case call c =>
  have hargs : c.args.toList.map ev = c.args.toList.map ev' := map_congr_left fun x hx => h x (by simp at hx; simp [Call.operands, hx])
  cases hc : c.callee with
  | value f => have hf : ev f = ev' f := h f (by simp [Call.operands, hc]); simp only [hf, hargs]
  | invoke r m => rfl
  | builtin b =>
   cases b <;> simp only []
   case len =>
    congr 1; funext t; congr 1; funext x
    by_cases e : c.args = #[x]
    · rw [h x (by simp [Call.operands, e])]
    · simp [e]
   case copy =>
    congr 1; funext t; congr 1; funext tx; congr 1; funext x; congr 1; funext y
    by_cases e : c.args = #[x, y]
    · rw [h x (by simp [Call.operands, e]), h y (by simp [Call.operands, e])]
    · simp [e]
   case min =>
    congr 1; funext x; congr 1; funext y
    by_cases e : c.args = #[x, y]
    · rw [h x (by simp [Call.operands, e]), h y (by simp [Call.operands, e])]
    · simp [e]
   case max =>
    congr 1; funext x; congr 1; funext y
    by_cases e : c.args = #[x, y]
    · rw [h x (by simp [Call.operands, e]), h y (by simp [Call.operands, e])]
    · simp [e]
   case append =>
    congr 1; funext t; congr 1; funext tx; congr 1; funext x; congr 1; funext y
    by_cases e : c.args = #[x, y]
    · rw [h x (by simp [Call.operands, e]), h y (by simp [Call.operands, e])]
    · simp [e]
 all_goals (first | rfl | (simp_all; done))
end
def jJ : Op -> Bool
 | .move _ | .assign _ | .pick .. | .load .. | .nilCheck _ | .binOp .. | .unOp .. | .convert .. | .fieldAddr .. | .field .. | .indexAddr .. | .index .. | .extract .. | .build .. | .makeFunc .. | .buildSlice .. | .slice .. => true
 | .call c => match c.callee with | .builtin .len => true | .builtin .min => true | .builtin .max => true | _ => false
 | _ => false
section
variable {P : Program}
theorem jV {g : Bool} {n : Nat} {cs : List CV} {o : Nat} {K : CV -> Prop} (h : ld g n cs o K) : ∃ c, K c /\ ∀ K' : CV -> Prop, K' c -> ld g n cs o K' := by
 unfold ld at *; split at h
 · exact ⟨_, h.2, fun K' k => ⟨h.1, k⟩⟩
 · exact ⟨_, h.2, fun K' k => ⟨h.1, k⟩⟩
theorem jY {op : BinOp} {b : Bool} {K : CV -> Prop} (h : d6 op b K) : ∃ c, K c /\ ∀ K' : CV -> Prop, K' c -> d6 op b K' := by
 unfold d6 at *; split at h
 · exact ⟨_, h, fun K' k => k⟩
 · exact ⟨_, h, fun K' k => k⟩
 · exact h.elim
theorem CF {op : BinOp} {k : IntKind} {a b : Int} {K : CV -> Prop} (h : fk op k a b K) : ∃ c, K c /\ ∀ K' : CV -> Prop, K' c -> fk op k a b K' := by
 unfold fk at *; split at h <;> first | exact ⟨_, h, fun K' k => k⟩ | exact ⟨_, h.2, fun K' k => ⟨h.1, k⟩⟩
theorem vM {op : UnOp} {x : CV} {K : CV -> Prop} (h : wG op x K) : ∃ c, K c /\ ∀ K' : CV -> Prop, K' c -> wG op x K' := by
 unfold wG at *; split at h
 · split at h
   · exact ⟨_, h, fun K' k => k⟩
   · exact h.elim
 · split at h
   · exact ⟨_, h, fun K' k => k⟩
   · exact ⟨_, h, fun K' k => k⟩
   · exact h.elim
 · exact h.elim
theorem sI {t : TypeId} {x i : CV} {K : CV -> Prop} (h : ju P t x i K) : ∃ c, K c /\ ∀ K' : CV -> Prop, K' c -> ju P t x i K' := by
 unfold ju at *; split at h
 · obtain ⟨a, b, c, d⟩ := h; exact ⟨_, d, fun K' k => ⟨a, b, c, k⟩⟩
 · obtain ⟨a, b, c, d⟩ := h; exact ⟨_, d, fun K' k => ⟨a, b, c, k⟩⟩
 · obtain ⟨l, g, s, a, b, c, d⟩ := h; exact ⟨_, d, fun K' k => ⟨l, g, s, a, b, c, k⟩⟩
 · obtain ⟨l, g, s, a, b, c, d⟩ := h; exact ⟨_, d, fun K' k => ⟨l, g, s, a, b, c, k⟩⟩
 · obtain ⟨a, b, c, d⟩ := h; exact ⟨_, d, fun K' k => ⟨a, b, c, k⟩⟩
 · exact h.elim
theorem sH {t : TypeId} {x : CV} {K : CV -> Prop} (h : lm P t x K) : ∃ c, K c /\ ∀ K' : CV -> Prop, K' c -> lm P t x K' := by
 unfold lm at *; split at h
 all_goals first | exact ⟨_, h.2, fun K' k => ⟨h.1, k⟩⟩ | exact h.elim
theorem mV {f : Int -> Int -> Int} {x y : CV} {K : CV -> Prop} (h : xX f x y K) : ∃ c, K c /\ ∀ K' : CV -> Prop, K' c -> xX f x y K' := by
 unfold xX at *; split at h
 all_goals first | exact ⟨_, h.2, fun K' k => ⟨h.1, k⟩⟩ | exact h.elim
theorem oD {t : TypeId} {x y : CV} {K : CV -> Prop} (h : eJ P t x y K) : ∃ c, K c /\ ∀ K' : CV -> Prop, K' c -> eJ P t x y K' := by
 unfold eJ at *; split at h
 · obtain ⟨l, g, n, a, b, c, d⟩ := h
   obtain ⟨r, h1, h2⟩ := jV d;exact ⟨r, h1, fun K' k => ⟨l, g, n, a, b, c, h2 K' k⟩⟩
 · obtain ⟨a, b, c, d⟩ := h
   exact ⟨_, d, fun K' k => ⟨a, b, c, k⟩⟩
 · exact h.elim
theorem oA {t : TypeId} {x : CV} {lo hi mx : Option CV} {K : CV -> Prop} (h : cY P t x lo hi mx K) : ∃ c, K c /\ ∀ K' : CV -> Prop, K' c -> cY P t x lo hi mx K' := by
 unfold cY at *;obtain ⟨a, b, c, d⟩ := h
 split at d
 · obtain ⟨p, q, r, s⟩ := d
   split at s
   · exact ⟨_, s, fun K' k => ⟨a, b, c, p, q, r, k⟩⟩
   · exact ⟨_, s, fun K' k => ⟨a, b, c, p, q, r, k⟩⟩
   · exact ⟨_, s.2, fun K' k => ⟨a, b, c, p, q, r, s.1, k⟩⟩
   · exact s.elim
 · obtain ⟨p, q, r, s, u⟩ := d
   exact ⟨_, u, fun K' k => ⟨a, b, c, p, q, r, s, k⟩⟩
 · obtain ⟨p, l, g, s, q, r, u, v⟩ := d
   exact ⟨_, v, fun K' k => ⟨a, b, c, p, l, g, s, q, r, u, k⟩⟩
 · obtain ⟨p, q, r, s, u⟩ := d
   exact ⟨_, u, fun K' k => ⟨a, b, c, p, q, r, s, k⟩⟩
 · obtain ⟨p, l, g, s, q, r, u, x, v⟩ := d
   exact ⟨_, v, fun K' k => ⟨a, b, c, p, l, g, s, q, r, u, x, k⟩⟩
 · exact d.elim
def FL : CV -> CV -> Bool
 | .sl .., .v _ => false
 | _, _ => true
theorem sO {op : BinOp} {t : TypeId} {x y : CV} {K : CV -> Prop} (hn : FL x y = true) (h : kq P op t x y K) : ∃ c, K c /\ ∀ K' : CV -> Prop, K' c -> kq P op t x y K' := by
 unfold kq at *; split at h
 · obtain ⟨a, b⟩ := h
   obtain ⟨c, h1, h2⟩ := CF b;exact ⟨c, h1, fun K' k => ⟨a, h2 K' k⟩⟩
 · obtain ⟨a, b⟩ := h
   obtain ⟨c, h1, h2⟩ := jY b;exact ⟨c, h1, fun K' k => ⟨a, h2 K' k⟩⟩
 · exact jY h
 · cases hn
 · obtain ⟨a, b⟩ := h
   obtain ⟨c, h1, h2⟩ := jY b;exact ⟨c, h1, fun K' k => ⟨a, h2 K' k⟩⟩
 · rename_i cs ds
   obtain ⟨ks, a, b, c, d⟩ := h
   classical
   obtain ⟨r, h1, h2⟩ := jY (d (decide (cs = ds)) (by simp));refine ⟨r, h1, fun K' k => ⟨ks, a, b, c, fun e he => ?_⟩⟩;have : e = decide (cs = ds) := by rw [Bool.eq_iff_iff, he]; simp
   rw [this]; exact h2 K' k
 · exact h.elim
def ff (ev : Operand -> CV) : Op -> Bool
 | .binOp _ _ x y _ => FL (ev x) (ev y)
 | _ => true
theorem vT {ev : Operand -> CV} {H : Hp} {V : List Nat} {K : CV -> Hp -> List Nat -> Prop} {op : Op} (hp : jJ op = true) (hk : ff ev op = true) (h : cx P ev H V K op) :
 ∃ c, K c H V /\ ∀ H' V' K', H <+: H' -> K' c H' V' -> cx P ev H' V' K' op := by
 cases op <;> simp only [jJ, Bool.false_eq_true] at hp <;> simp only [cx] at h ⊢
 case move x => exact ⟨_, h, fun H' V' K' _ k => k⟩
 case assign x => exact ⟨_, h, fun H' V' K' _ k => k⟩
 case pick c x y =>
  split at h
  · exact ⟨_, h, fun H' V' K' _ k => k⟩
  · exact h.elim
 case load t a =>
  obtain ⟨g, n, p, q⟩ := h
  split at q
  · obtain ⟨cs, a, b⟩ := q
    obtain ⟨c, h1, h2⟩ := jV b;exact ⟨c, h1, fun H' V' K' hl k => ⟨g, n, p, cs, (by obtain ⟨L, rfl⟩ := hl; exact IB _ _ a), h2 (fun c => K' c H' V') k⟩⟩
  · obtain ⟨c, h1, h2⟩ := jV q
    exact ⟨c, h1, fun H' V' K' hl k => ⟨g, n, p, h2 (fun c => K' c H' V') k⟩⟩
  · exact q.elim
 case nilCheck x =>
  split at h
  · exact ⟨_, h, fun H' V' K' _ k => k⟩
  · exact ⟨_, h, fun H' V' K' _ k => k⟩
  · exact ⟨_, h, fun H' V' K' _ k => k⟩
  · exact ⟨_, h, fun H' V' K' _ k => k⟩
  · exact ⟨_, h, fun H' V' K' _ k => k⟩
  · exact h.elim
 case slice =>
  obtain ⟨c, h1, h2⟩ := oA h;exact ⟨c, h1, fun H' V' K' _ k => h2 (fun c => K' c H' V') k⟩
 case makeFunc fn first captured =>
  split at h
  · exact ⟨_, h, fun H' V' K' _ k => k⟩
  · exact ⟨_, h, fun H' V' K' _ k => k⟩
  · exact h.elim
 case buildSlice t len parts =>
  obtain ⟨e, sz, a, b, c, d, f⟩ := h;exact ⟨_, f, fun H' V' K' _ k => ⟨e, sz, a, b, c, d, k⟩⟩
 case binOp =>
  obtain ⟨c, h1, h2⟩ := sO hk h;exact ⟨c, h1, fun H' V' K' _ k => h2 (fun c => K' c H' V') k⟩
 case unOp =>
  obtain ⟨c, h1, h2⟩ := vM h;exact ⟨c, h1, fun H' V' K' _ k => h2 (fun c => K' c H' V') k⟩
 case convert s d x =>
  obtain ⟨k, p, q⟩ := h
  split at q
  · rename_i he; exact ⟨_, q, fun H' V' K' _ r => ⟨_, p, by rw [he]; exact r⟩⟩
  · rename_i he
    obtain ⟨bs, a, b⟩ := q;exact ⟨_, b, fun H' V' K' _ r => ⟨_, p, by rw [he]; exact ⟨bs, a, r⟩⟩⟩
  · rename_i he; exact ⟨_, q, fun H' V' K' _ r => ⟨_, p, by rw [he]; exact r⟩⟩
  · exact q.elim
 case fieldAddr s x f =>
  obtain ⟨o, g, n, p, q⟩ := h
  split at q
  · exact ⟨_, q, fun H' V' K' _ r => ⟨_, _, _, p, r⟩⟩
  · exact ⟨_, q, fun H' V' K' _ r => ⟨_, _, _, p, r⟩⟩
  · exact q.elim
 case field s x f =>
  obtain ⟨o, g, n, p, q⟩ := h
  split at q
  · obtain ⟨c, h1, h2⟩ := jV q
    exact ⟨c, h1, fun H' V' K' hl k => ⟨_, _, _, p, h2 (fun c => K' c H' V') k⟩⟩
  · exact q.elim
 case indexAddr =>
  obtain ⟨c, h1, h2⟩ := sI h;exact ⟨c, h1, fun H' V' K' _ k => h2 (fun c => K' c H' V') k⟩
 case index t x i =>
  obtain ⟨c, h1, h2⟩ := oD h;exact ⟨c, h1, fun H' V' K' _ k => h2 (fun c => K' c H' V') k⟩
 case extract x i =>
  split at h
  · obtain ⟨a, b⟩ := h
    exact ⟨_, b, fun H' V' K' _ r => ⟨a, r⟩⟩
  · exact h.elim
 case build t parts =>
  obtain ⟨ps, zs, cs, a, b, c⟩ := h;exact ⟨_, c, fun H' V' K' _ r => ⟨ps, zs, cs, a, b, r⟩⟩
 case call c =>
  split at h
  · rename_i hc; rw [hc] at hp; cases hp
  · rename_i hc; rw [hc] at hp; cases hp
  · obtain ⟨x, y, a, q⟩ := h
    obtain ⟨r, h1, h2⟩ := mV q;exact ⟨r, h1, fun H' V' K' _ k => ⟨x, y, a, h2 (fun c => K' c H' V') k⟩⟩
  · obtain ⟨x, y, a, q⟩ := h
    obtain ⟨r, h1, h2⟩ := mV q;exact ⟨r, h1, fun H' V' K' _ k => ⟨x, y, a, h2 (fun c => K' c H' V') k⟩⟩
  · obtain ⟨t, x, a, b, q⟩ := h
    obtain ⟨r, h1, h2⟩ := sH q;exact ⟨r, h1, fun H' V' K' _ k => ⟨t, x, a, b, h2 (fun c => K' c H' V') k⟩⟩
  · rename_i hc; rw [hc] at hp; cases hp
  · exact h.elim
end
end
section
abbrev En := Nat -> CV
def oQ (E : En) : Operand -> CV
 | .tmp t => E t
 | .const v => .v v
 | .global _ => .any
 | .func f => .fn f []
theorem jX (T : Tm) : em T = oQ (bt T) := by funext x; cases x <;> rfl
def cl (d : Option Nat) (c : CV) (E : En) : En :=
 match d with
 | some d => fun n => if n = d then c else E n
 | none => E
theorem gO (d : Option Nat) (c : CV) (T : Tm) : bt (bQ d c T) = cl d c (bt T) := by cases d <;> rfl
theorem BG {E : En} {g : Nat} {c : CV} (h : E g = c) : cl (some g) c E = E := by
 funext n; simp only [cl]; split
 · rename_i e; rw [e, h]
 · rfl
theorem ny {x y : Option Nat} {c d : CV} {E : En} (h : ∀ t, x = some t -> y ≠ some t) : cl y d (cl x c E) = cl x c (cl y d E) := by
 cases x with
 | none => rfl
 | some x =>
  cases y with
  | none => rfl
  | some y =>
   have hne : x ≠ y := fun e => h x rfl (e ▸ rfl)
   funext n
   simp only [cl]
   by_cases h1 : n = x
   · rw [h1, if_neg hne, if_pos rfl, if_pos rfl]
   · rw [if_neg h1, if_neg h1]
section
variable (P : Program) (n : Nat) (ops : List Oper)
def bM (o : Oper) (E : En) (H : Hp) (V : List Nat) (K : En -> Hp -> List Nat -> Prop) : Prop :=
 kv o.dst n ∧
 match o.guard with
 | none => cx P (oQ E) H V (fun c H' V' => K (cl o.dst c E) H' V') o.op
 | some (j, want) =>
  match kE ops j with
  | some g =>
   match E g with
   | .v (.bool b) => (b = want -> cx P (oQ E) H V (fun c H' V' => K (cl o.dst c E) H' V') o.op) /\ (b = !want -> K (cl o.dst (.v undef) E) H V)
   | .v (.tuple _) => K (cl o.dst (.v undef) E) H V
   | _ => False
  | none => False
def iOq (K : En -> Hp -> List Nat -> Prop) : Nat -> Array Bool -> En -> Hp -> List Nat -> Prop
 | 0, listed, E, H, V => Region.ready .any ops.toArray listed = [] /\ K E H V
 | f + 1, listed, E, H, V => (Region.ready .any ops.toArray listed = [] -> K E H V) ∧
  ∀ i ∈ Region.ready .any ops.toArray listed, ∀ o, ops[i]? = some o -> bM P n ops o E H V (fun E' H' V' => H <+: H' /\ iOq K f (listed.setIfInBounds i true) E' H' V')
end
section
variable {P : Program} {n : Nat} {ops : List Oper}
theorem gg {o : Oper} {E : En} {H : Hp} {V : List Nat} {K K' : En -> Hp -> List Nat -> Prop} (h : ∀ E H V, K E H V -> K' E H V) (hs : bM P n ops o E H V K) : bM P n ops o E H V K' := by
 unfold bM at *;refine ⟨hs.1, ?_⟩;have hs := hs.2
 split
 · rename_i hg; rw [hg] at hs; exact mU (fun _ _ _ => h _ _ _) hs
 · rename_i j want hg
   rw [hg] at hs;dsimp only at hs
   split
   · rename_i g hj
     rw [hj] at hs;dsimp only at hs
     split
     · rename_i b hb
       rw [hb] at hs;exact ⟨fun e => mU (fun _ _ _ => h _ _ _) (hs.1 e), fun e => h _ _ _ (hs.2 e)⟩
     · rename_i vs hb
       rw [hb] at hs;exact h _ _ _ hs
     · rename_i h1 h2
       split at hs
       · rename_i hb; exact absurd hb (h1 _)
       · rename_i hb; exact absurd hb (h2 _)
       · exact hs
   · rename_i hj
     rw [hj] at hs; exact hs
theorem fG {o : Oper} {E E' : En} (h : ∀ d ∈ o.looksAt ops.toArray, E d = E' d) : ∀ x ∈ o.op.operands, oQ E x = oQ E' x := fun x hx => by
 cases x with
 | tmp t => exact h t (mem_append_left _ (List.mem_filterMap.2 ⟨.tmp t, by simpa using hx, rfl⟩))
 | _ => rfl
theorem dX {o : Oper} {E E' : En} (h : ∀ d ∈ o.looksAt ops.toArray, E d = E' d) {j g : Nat} {want : Bool} (hg : o.guard = some (j, want)) (hj : kE ops j = some g) : E g = E' g := by
 refine h g (List.mem_append_right _ ?_);rw [hg];have : (ops[j]?).bind (·.dst) = some g := hj;simp [this]
theorem kJ {o : Oper} {E E' : En} {H : Hp} {V : List Nat} {K K' : En -> Hp -> List Nat -> Prop} (h : ∀ d ∈ o.looksAt ops.toArray, E d = E' d) (hk : ∀ c H V, K (cl o.dst c E) H V -> K' (cl o.dst c E') H V)
 (hs : bM P n ops o E H V K) : bM P n ops o E' H V K' := by
 unfold bM at *;refine ⟨hs.1, ?_⟩;have hs := hs.2;have ea := fG h;have go : cx P (oQ E) H V (fun c H' V' => K (cl o.dst c E) H' V') o.op -> cx P (oQ E') H V (fun c H' V' => K' (cl o.dst c E') H' V') o.op := fun q => by
  rw [<- jt ea];exact mU (fun _ _ _ => hk _ _ _) q
 cases hg : o.guard with
 | none => rw [hg] at hs; exact go hs
 | some jw =>
  obtain ⟨j, want⟩ := jw;rw [hg] at hs;dsimp only at hs ⊢
  cases hj : kE ops j with
  | none => rw [hj] at hs; exact hs
  | some g =>
   rw [hj] at hs;dsimp only at hs ⊢;rw [dX h hg hj] at hs
   split
   · rename_i b hb
     rw [hb] at hs;exact ⟨fun e => go (hs.1 e), fun e => hk _ _ _ (hs.2 e)⟩
   · rename_i vs hb
     rw [hb] at hs;exact hk _ _ _ hs
   · rename_i h1 h2
     split at hs
     · rename_i hb; exact absurd hb (h1 _)
     · rename_i hb; exact absurd hb (h2 _)
     · exact hs
def Hld (P : Program) (n : Nat) (ops : List Oper) (o : Oper) (c : CV) (E : En) (H : Hp) : Prop :=
 ∀ E2 H2 V2 K2, (∀ d ∈ o.looksAt ops.toArray, E2 d = E d) -> H <+: H2 -> K2 (cl o.dst c E2) H2 V2 -> bM P n ops o E2 H2 V2 K2
theorem BH {o : Oper} {E : En} {H : Hp} {V : List Nat} {K : En -> Hp -> List Nat -> Prop} (hp : jJ o.op = true) (hk : ff (oQ E) o.op = true) (hs : bM P n ops o E H V K) :
 ∃ c, K (cl o.dst c E) H V /\ Hld P n ops o c E H := by
 unfold bM at hs;obtain ⟨hd, hs⟩ := hs;have go : cx P (oQ E) H V (fun c H' V' => K (cl o.dst c E) H' V') o.op -> ∃ c, K (cl o.dst c E) H V /\ ∀ (E2 : En) (H2 : Hp) (V2 : List Nat) (K2 : En -> Hp -> List Nat -> Prop), (∀ d ∈ o.looksAt ops.toArray, E2 d = E d) -> H <+: H2 -> K2 (cl o.dst c E2) H2 V2 -> cx P (oQ E2) H2 V2 (fun c H' V' => K2 (cl o.dst c E2) H' V') o.op := fun q => by
  obtain ⟨c, h1, h2⟩ := vT hp hk q;refine ⟨c, h1, fun E2 H2 V2 K2 ha hl k => ?_⟩;rw [jt (fG ha)];exact h2 H2 V2 (fun c H' V' => K2 (cl o.dst c E2) H' V') hl k
 cases hg : o.guard with
 | none =>
  rw [hg] at hs;obtain ⟨c, h1, h2⟩ := go hs;refine ⟨c, h1, fun E2 H2 V2 K2 ha hl k => ?_⟩;unfold bM;rw [hg];exact ⟨hd, h2 E2 H2 V2 K2 ha hl k⟩
 | some jw =>
  obtain ⟨j, want⟩ := jw;rw [hg] at hs;dsimp only at hs
  cases hj : kE ops j with
  | none => rw [hj] at hs; exact hs.elim
  | some g =>
   rw [hj] at hs;dsimp only at hs
   split at hs
   · rename_i b hb
     by_cases hbw : b = want
     · obtain ⟨c, h1, h2⟩ := go (hs.1 hbw)
       refine ⟨c, h1, fun E2 H2 V2 K2 ha hl k => ?_⟩;unfold bM;rw [hg];dsimp only;rw [hj];dsimp only;rw [dX ha hg hj, hb];exact ⟨hd, fun _ => h2 E2 H2 V2 K2 ha hl k, fun e => absurd (hbw.symm.trans e) (by cases want <;> simp)⟩
     · have hb2 : b = !want := by cases b <;> cases want <;> simp_all
       refine ⟨.v undef, hs.2 hb2, fun E2 H2 V2 K2 ha hl k => ?_⟩;unfold bM;rw [hg];dsimp only;rw [hj];dsimp only;rw [dX ha hg hj, hb];exact ⟨hd, fun e => absurd e hbw, fun _ => k⟩
   · rename_i vs hb
     refine ⟨.v undef, hs, fun E2 H2 V2 K2 ha hl k => ?_⟩;unfold bM;rw [hg];dsimp only;rw [hj];dsimp only;rw [dX ha hg hj, hb];exact ⟨hd, k⟩
   · exact hs.elim
theorem yd {K : En -> Hp -> List Nat -> Prop} {i : Nat} {oi : Oper} {c : CV} (hi : ops[i]? = some oi) :
 ∀ (f : Nat) (listed : Array Bool) (E : En) (H : Hp) (V : List Nat),
  (∀ j oj, ops[j]? = some oj -> j ≠ i -> listed.getD j true = false -> (∀ e ∈ oj.after, Region.binds .any e = true -> e.on ≠ i) -> oi.apart ops.toArray oj = true) →
  i ∈ Region.ready .any ops.toArray listed -> Hld P n ops oi c E H →
  iOq P n ops K f (listed.setIfInBounds i true) (cl oi.dst c E) H V -> iOq P n ops K (f + 1) listed E H V := by
 intro f
 induction f with
 | zero =>
  intro listed E H V _ hr hy h;refine ⟨fun e => (by rw [e] at hr; cases hr), fun j hj o ho => ?_⟩
  by_cases hji : j = i
  · subst hji; rw [hi] at ho; cases ho
    exact hy _ _ _ _ (fun _ _ => rfl) (prefix_refl _) ⟨prefix_refl _, h⟩
  · have := ready_mono hj hji
    rw [h.1] at this; cases this
 | succ f ih =>
  intro listed E H V hfree hr hy h;refine ⟨fun e => (by rw [e] at hr; cases hr), fun j hj o ho => ?_⟩
  by_cases hji : j = i
  · subst hji; rw [hi] at ho; cases ho
    exact hy _ _ _ _ (fun _ _ => rfl) (prefix_refl _) ⟨prefix_refl _, h⟩
  · have h1 := h.2 j (ready_mono hj hji) o ho
    obtain ⟨hjun, oj, hoj, hall⟩ := mem_ready.1 hj;rw [getElem?_toArray, ho] at hoj; cases hoj;have hnot : ∀ e ∈ o.after, Region.binds .any e = true -> e.on ≠ i := fun e he hb heq => by
     have h1 := hall e he hb;have h0 := (mem_ready.1 hr).1;rw [heq] at h1;rcases Nat.lt_or_ge i listed.size with h' | h'
     · simp [h'] at h0 h1; rw [h0] at h1; cases h1
     · simp [Array.getElem?_eq_none h'] at h1
    obtain ⟨p1, p2, p3⟩ := Oper.apart_spec (hfree j o ho hji hjun hnot);have hfree' : ∀ k ok, ops[k]? = some ok -> k ≠ i -> (listed.setIfInBounds j true).getD k true = false →
     (∀ e ∈ ok.after, Region.binds .any e = true -> e.on ≠ i) -> oi.apart ops.toArray ok = true := fun k ok hk hki hun hno => by
     refine hfree k ok hk hki ?_ hno
     by_cases hjk : j = k
     · subst hjk; exact hjun
     · rw [getD_set_ne true hjk] at hun; exact hun
    have hput : ∀ {d : Option Nat} {c : CV} {E : En} {t : Nat}, (d ≠ some t) -> cl d c E t = E t := fun {d c E t} h => by
     cases d with
     | none => rfl
     | some d => simp only [cl]; rw [if_neg (fun e => h (by rw [e]))]
    refine kJ (E := cl oi.dst c E) (fun d hd => hput fun e => p1 d e hd) (fun c' H' V' ⟨q1, q2⟩ => ⟨q1, ?_⟩) h1;rw [ny p2] at q2;rw [Array.setIfInBounds_comm _ _ (Ne.symm hji)] at q2;refine ih (listed.setIfInBounds j true) _ H' V' hfree' (ready_mono hr (Ne.symm hji)) (fun E2 H2 V2 K2 ha hl k => hy E2 H2 V2 K2 (fun d hd => ?_) (q1.trans hl) k) q2;rw [ha d hd];exact hput fun e => p3 d e hd
theorem gN {ro : Option Nat} {Q : Exit -> Act -> World -> Prop} {Kw : Act -> World -> Prop} {i : Nat} {o : Oper} (ho : ops[i]? = some o) {E : En} {m : Gh} {w : World} {a : Act} {H : Hp} {V : List Nat} {K : En -> Hp -> List Nat -> Prop}
 (hi : bE m w H V) (ht : ∀ k, ag m w V (E k) (a.tmps.getD k undef)) (hz : a.tmps.size = n) (hs : bM P n ops o E H V K)
 (hK : ∀ E' H' V' a' m' w', K E' H' V' -> bE m' w' H' V' -> (∀ k, ag m' w' V' (E' k) (a'.tmps.getD k undef)) -> a'.tmps.size = n -> a'.defers = a.defers -> bh m w V m' w' V' -> Kw a' w') : wpOpIn (g8 ro) 0 P ops.toArray Q i Kw a w := by
 have hput : ∀ {m' : Gh} {w' : World} {V' : List Nat} {c : CV} {u : Value}, kv o.dst n -> bh m w V m' w' V' -> ag m' w' V' c u -> ∀ k, ag m' w' V' (cl o.dst c E k) ((a.put o.dst u).tmps.getD k undef) := fun {m' w' V' c u} hd hx hu k => by
  cases hdst : o.dst with
  | none => exact ag.mono hx _ _ (ht k)
  | some d =>
   rw [hdst] at hd;have hd : d < a.tmps.size := by rw [hz]; exact hd
   simp only [cl, Act.put]
   by_cases hn : k = d
   · subst hn; rw [if_pos rfl]; simpa [Array.getD, hd] using hu
   · rw [if_neg hn]
     have : (a.tmps.setIfInBounds d u).getD k undef = a.tmps.getD k undef := by
      simp only [Array.getD_eq_getD_getElem?];rw [Array.getElem?_setIfInBounds_ne (Ne.symm hn)]
     rw [this]; exact ag.mono hx _ _ (ht k)
 have hev : ∀ x, ag m w V (oQ E x) (a.eval x) := fun x => by
  cases x with
  | tmp t => exact ht t
  | const v => simp only [oQ, Act.eval]; rw [ag]
  | global g => simp only [oQ]; rw [ag]; trivial
  | func f => simp only [oQ, Act.eval]; rw [ag]; exact ⟨[], rfl, by rw [av]⟩
 unfold bM at hs;obtain ⟨hd, hs⟩ := hs;have run : cx P (oQ E) H V (fun c H' V' => K (cl o.dst c E) H' V') o.op -> o.wpIn (g8 ro) 0 P a w Kw Q := fun q =>
  nX (P := P) hi hev q fun c H' V' u m' w' h1 h2 h3 h4 => hK _ _ _ _ _ _ h1 h2 (hput hd h4 h3) (by rw [cg]; exact hz) (by rw [bu]) h4
 have skip : K (cl o.dst (.v undef) E) H V -> Kw (a.put o.dst undef) w := fun q =>
  hK _ _ _ _ _ _ q hi (hput hd (bh.refl m w V) (by rw [ag])) (by rw [cg]; exact hz) (by rw [bu]) (bh.refl m w V)
 unfold wpOpIn;rw [getElem?_toArray, ho];dsimp only
 cases hg : o.guard with
 | none =>
  rw [hg] at hs;rw [if_pos (by simp [Region.wanted, hg])];exact run hs
 | some jw =>
  obtain ⟨j, want⟩ := jw;rw [hg] at hs;dsimp only at hs
  cases hj : kE ops j with
  | none => rw [hj] at hs; exact hs.elim
  | some g =>
   rw [hj] at hs;dsimp only at hs;have hy := lB ops a.tmps j;rw [hj, Option.bind_some] at hy;have hg2 := ht g
   split at hs
   · rename_i b hb
     rw [hb, ag] at hg2;have aC : a.tmps[g]? = some (.bool b) := by
      cases hq : a.tmps[g]? with
      | none => simp [hq] at hg2; cases hg2
      | some x => simp [hq] at hg2; rw [hg2]
     rw [aC] at hy;simp only at hy;have hw : Region.wanted o (yielded ops.toArray a.tmps) = (b == want) := by
      simp [Region.wanted, hg, hy]
     rw [hw]
     by_cases hbw : b = want
     · rw [if_pos (by simpa using hbw)]
       exact run (hs.1 hbw)
     · rw [if_neg (by simpa using hbw)]
       exact ⟨fun _ _ => trivial, skip (hs.2 (by cases b <;> cases want <;> simp_all))⟩
   · rename_i vs hb
     rw [hb, ag] at hg2;have hw : Region.wanted o (yielded ops.toArray a.tmps) = false := by
      have : yielded ops.toArray a.tmps j = none := by
       rw [hy]
       cases hq : a.tmps[g]? with
       | none => rfl
       | some x => simp [hq] at hg2; subst hg2; rfl
      simp [Region.wanted, hg, this]
     rw [hw, if_neg (by simp)];exact ⟨fun _ _ => trivial, skip hs⟩
   · exact hs.elim
theorem re {ro : Option Nat} {Q : Exit -> Act -> World -> Prop} {K : En -> Hp -> List Nat -> Prop} : ∀ (f : Nat) {listed : Array Bool} {E : En} {m : Gh} {w : World} {a : Act} {H : Hp} {V : List Nat},
 bE m w H V -> (∀ k, ag m w V (E k) (a.tmps.getD k undef)) -> a.tmps.size = n -> iOq P n ops K f listed E H V →
 (∀ E' H' V' a' m' w', K E' H' V' -> bE m' w' H' V' -> (∀ k, ag m' w' V' (E' k) (a'.tmps.getD k undef)) -> a'.tmps.size = n -> a'.defers = a.defers -> bh m w V m' w' V' -> Q .normal a' w') -> wpAnyIn (g8 ro) 0 P .any ops.toArray Q f listed a w
 | 0, listed, E, m, w, a, H, V, hi, ht, hz, h, hK => ⟨h.1, hK _ _ _ _ _ _ h.2 hi ht hz rfl (bh.refl m w V)⟩
 | f + 1, listed, E, m, w, a, H, V, hi, ht, hz, h, hK => by
  refine ⟨fun e => hK _ _ _ _ _ _ (h.1 e) hi ht hz rfl (bh.refl m w V), fun i hr => ?_⟩;obtain ⟨_, o, ho, _⟩ := mem_ready.1 hr;rw [getElem?_toArray] at ho;refine gN ho hi ht hz (h.2 i hr o ho) fun E' H' V' a' m' w' k1 k2 k3 k4 k5 k6 => ?_;exact re f k2 k3 k4 k1.2 fun E2 H2 V2 a2 m2 w2 q1 q2 q3 q4 q5 q6 => hK _ _ _ _ _ _ q1 q2 q3 q4 (q5.trans k5) (k6.trans q6)
def r6 (ops : List Oper) : List Nat -> Array Bool -> Bool
 | [], listed => (Region.ready .any ops.toArray listed).isEmpty
 | i :: r, listed =>
  (match ops[i]? with
   | some o => (jJ o.op && (Region.ready .any ops.toArray listed).contains i && Region.free .any ops.toArray listed i) || Region.ready .any ops.toArray listed == [i]
   | none => false) && r6 ops r (listed.setIfInBounds i true)
def sF (P : Program) (n : Nat) (ops : List Oper) : List Nat -> Tm -> Hp -> List Nat -> (Tm -> Hp -> List Nat -> Prop) -> Prop
 | [], T, H, V, K => K T H V
 | i :: r, T, H, V, K =>
  match ops[i]? with
  | some o => ff (em T) o.op = true /\ crun P n ops [o] T H V fun T' H' V' => H <+: H' /\ sF P n ops r T' H' V' K
  | none => False
theorem jo {o : Oper} {T : Tm} {H : Hp} {V : List Nat} {K : Tm -> Hp -> List Nat -> Prop} (h : crun P n ops [o] T H V K) : bM P n ops o (bt T) H V fun E H V => ∃ T', bt T' = E /\ K T' H V := by
 unfold bM;rw [crun] at h;have go : ∀ T0, bt T0 = bt T -> cx P (em T0) H V (fun c H' V' => crun P n ops [] (bQ o.dst c T0) H' V' K) o.op -> cx P (oQ (bt T)) H V (fun c H' V' => ∃ T', bt T' = cl o.dst c (bt T) /\ K T' H' V') o.op := fun T0 e q => by
  rw [jX, e] at q;exact mU (fun c H V k => ⟨bQ o.dst c T0, by rw [gO, e], k⟩) q
 cases hg : o.guard with
 | none => simp only [hg] at h; exact ⟨h.1, go T rfl h.2⟩
 | some jw =>
  obtain ⟨j, want⟩ := jw;simp only [hg] at h;refine ⟨h.1, ?_⟩;have h := h.2;dsimp only
  cases hj : kE ops j with
  | none => rw [hj] at h; exact h
  | some g =>
   rw [hj] at h;dsimp only at h ⊢;have self : ∀ b : Bool, bt T g = .v (.bool b) -> bt ((g, .v (.bool b)) :: T) = bt T := fun b e => BG (E := bt T) e;unfold nY at h
   split at h
   · rename_i b hb
     rw [hb];refine ⟨fun e => ?_, fun e => ?_⟩
     · subst e; exact go _ (self _ hb) (h.1 rfl)
     · have h3 := h.2 e
       rw [hb] at h3;subst e;exact ⟨_, by rw [gO, self _ hb], h3⟩
   · rename_i vs hb
     rw [hb] at h ⊢;exact ⟨_, gO _ _ _, h⟩
   · exact h.elim
theorem nW {K : Tm -> Hp -> List Nat -> Prop} : ∀ (l : List Nat) (f : Nat) (listed : Array Bool) (T : Tm) (H : Hp) (V : List Nat), l.length = f -> r6 ops l listed = true -> sF P n ops l T H V K →
 iOq P n ops (fun E H V => ∃ T', bt T' = E /\ K T' H V) f listed (bt T) H V
 | [], f, listed, T, H, V, hf, ho, h => by
  subst hf;exact ⟨by simpa [r6] using ho, T, rfl, h⟩
 | i :: r, f, listed, T, H, V, hf, ho, h => by
  subst hf;rw [r6, Bool.and_eq_true] at ho;rw [sF] at h;obtain ⟨ho, iN⟩ := ho
  cases hi : ops[i]? with
  | none => rw [hi] at h; exact h.elim
  | some o =>
   rw [hi] at h ho;dsimp only at h ho;obtain ⟨hk, h⟩ := h;have h1 := jo h;rw [Bool.or_eq_true] at ho;rcases ho with ho | ho
   · rw [Bool.and_eq_true, Bool.and_eq_true] at ho
     obtain ⟨⟨hp, hr⟩, hf⟩ := ho;obtain ⟨c, ⟨T', e1, _, e3⟩, hh⟩ := BH hp (by rw [<- jX]; exact hk) h1;have := nW r r.length _ T' H V rfl iN e3;rw [e1] at this;exact yd hi r.length listed _ H V (fun j oj hj hne hun hno => Region.free_spec (by rw [getElem?_toArray]; exact hi) hf j oj (by rw [getElem?_toArray]; exact hj) hne hun hno) (by simpa using hr) hh this
   · have hr : Region.ready .any ops.toArray listed = [i] := by simpa using ho
     refine ⟨fun e => (by rw [hr] at e; cases e), fun j hj o' ho' => ?_⟩;rw [hr] at hj;obtain rfl : j = i := by simpa using hj
     rw [hi] at ho'; cases ho';refine gg (fun E H' V' ⟨T', e1, e2, e3⟩ => ?_) h1;subst e1;exact ⟨e2, nW r r.length _ T' H' V' rfl iN e3⟩
theorem ac.drawn {id nb nv : Nat} {Q : Exit -> Tm -> Hp -> List Nat -> Prop} {T : Tm} {H : Hp} {V : List Nat} (l : List Nat) (hm : P.follows .mixedOrders = true) (ho : r6 ops l (Array.replicate ops.length false) = true) (hl : l.length = ops.length)
 (h : sF P n ops l T H V (Q .normal)) : ac P n nb nv (.region id ops.toArray true) Q T H V := by
 intro ro D m w a m0 w0 V0 h1 h2 h3 hx hs;refine wpIn_region_any hm ?_;have hd : bE m { w with drawn := w.drawn + 1 } H V /\ bh m w V m { w with drawn := w.drawn + 1 } V := hs.inv.drew;have := nW l ops.length _ T H V hl ho h;simp only [size_toArray];refine re (Q := fun e a' w' => ∃ T' H' V' m', Q e T' H' V' /\ St D n m' w' a' T' H' V' /\ bh m0 w0 V0 m' w' V') ops.length hd.1 (fun k => ag.mono hd.2 _ _ (hs.tm k)) hs.size this fun E' H' V' a' m' w' k1 k2 k3 k4 k5 k6 => ?_;obtain ⟨T', e, hq⟩ := k1;subst e;exact ⟨T', H', V', m', hq, ⟨k2, k3, k4, by rw [k5]; exact hs.df.mono (hd.2.trans k6)⟩, (hx.trans hd.2).trans k6⟩
end
end
section
attribute [go_sem] ff FL kP
def hY (P : Program) (n : Nat) (ds : List (Option Tmp)) (ops : List Oper) : List Nat -> Tm -> Hp -> List Nat -> (Tm -> Hp -> List Nat -> Prop) -> Prop
 | [], T, H, V, K => K T H V
 | i :: r, T, H, V, K => bv (ops[i]?) fun o => ff (em T) o.op = true /\ bS P n ds [o] T H V fun T' H' V' => H <+: H' /\ hY P n ds ops r T' H' V' K
def tS (P : Program) (n : Nat) (ds : List (Option Tmp)) (ops : List Oper) (l : List Nat) (T : Tm) (H : Hp) (V : List Nat) (K : Tm -> Hp -> List Nat -> Prop) : Prop := hY P n ds ops l T H V K
theorem qO (P : Program) (n : Nat) (ops : List Oper) : ∀ (l : List Nat) (T : Tm) (H : Hp) (V : List Nat) (K : Tm -> Hp -> List Nat -> Prop), sF P n ops l T H V K = hY P n (ops.map (·.dst)) ops l T H V K
 | [], _, _, _, _ => rfl
 | i :: r, T, H, V, K => by
  rw [sF, hY, aV]
  cases ops[i]? with
  | none => simp
  | some o => simp [bF, qO P n ops r]
section
variable {P : Program} {n : Nat} {ds : List (Option Tmp)} {ls : List Oper} {T T' : Tm} {H H' : Hp} {V V' : List Nat} {K : Tm -> Hp -> List Nat -> Prop}
@[go_sem] theorem U1 (l : List Nat) : tS P n ds ls l T H V K = hY P n ds ls l T H V K := rfl
@[go_sem] theorem QR : hY P n ds ls [] T H V K = K T H V := rfl
def OO (P : Program) (n : Nat) (ds : List (Option Tmp)) (ls : List Oper) (r : List Nat) (H : Hp) (K : Tm -> Hp -> List Nat -> Prop) : Tm -> Hp -> List Nat -> Prop := fun T' H' V' => H <+: H' /\ hY P n ds ls r T' H' V' K
@[go_sem ↓] theorem aak (r : List Nat) : OO P n ds ls r H K T H' V = (H <+: H' /\ hY P n ds ls r T H' V K) := id rfl
@[go_sem] theorem OG (i : Nat) (r : List Nat) : hY P n ds ls (i :: r) T H V K = bv (ls[i]?) fun o => ff (em T) o.op = true /\ bS P n ds [o] T H V (OO P n ds ls r H K) := rfl
@[congr] theorem ML {l : List Nat} (h1 : T = T') (h2 : H = H') (h3 : V = V') : hY P n ds ls l T H V K = hY P n ds ls l T' H' V' K := by subst h1 h2 h3; rfl
@[congr] theorem MK {ds' : List (Option Tmp)} {l : List Nat} (h0 : ds = ds') (h1 : T = T') (h2 : H = H') (h3 : V = V') : tS P n ds ls l T H V K = tS P n ds' ls l T' H' V' K := by subst h0 h1 h2 h3; rfl
end
theorem ac.drawnL {P : Program} {n id nb nv : Nat} {ops : List Oper} {Q : Exit -> Tm -> Hp -> List Nat -> Prop} {T : Tm} {H : Hp} {V : List Nat} (l : List Nat) (hm : P.follows .mixedOrders = true) (ho : r6 ops l (Array.replicate ops.length false) = true) (hl : l.length = ops.length)
 (h : tS P n (ops.map (·.dst)) ops l T H V (Q .normal)) : ac P n nb nv (.region id ops.toArray true) Q T H V := ac.drawn l hm ho hl (by rw [qO]; exact h)
section
variable {H H' : Hp} {V V' : List Nat}
theorem aA {a b : Bool} (h : a = b) (oH : ∀ (b : Nat) cs, H[b]? = some (some cs) -> okL H.length V.length cs) (hH : H'.take H.length = H) (hV : V'.take V.length = V) : ao H.length V.length (Pu (.v (.bool b)) H V) (.v (.bool a)) H' V' := by
 subst h; exact ao.pu (.refl _) trivial oH hH hV
end
def wI (i j : Nat) : Tm -> Prop
 | [] => True
 | (_, c) :: r => aK i j c /\ wI i j r
theorem wI.all {i j : Nat} : ∀ {T : Tm}, wI i j T -> ∀ p ∈ T, aK i j p.2
 | [], _, p, hp => by cases hp
 | (k, c) :: r, h, p, hp => by
  rcases mem_cons.1 hp with rfl | hp
  · exact h.1
  · exact wI.all h.2 p hp
section
variable (i j : Nat)
@[go_sem] theorem pi : wI i j [] = True := rfl
@[go_sem] theorem nc (k : Nat) (c : CV) (r : Tm) : wI i j ((k, c) :: r) = (aK i j c /\ wI i j r) := rfl
@[go_sem] theorem aca : aK i j .any = True := by rw [aK]
@[go_sem] theorem agM (x : Value) : aK i j (.v x) = True := by rw [aK]
@[go_sem] theorem k9 (cs : List CV) : aK i j (.agg cs) = okL i j cs := by rw [aK]
@[go_sem] theorem ab7 (cs : List CV) : aK i j (.tup cs) = okL i j cs := by rw [aK]
@[go_sem] theorem gq (sz : Nat) (xs : List (List CV)) : aK i j (.sl .sh sz xs) = fO i j xs := by rw [aK]; simp [gr]
@[go_sem] theorem ae5 (sz : Nat) (xs : List (List CV)) : aK i j (.sl .ti sz xs) = fO i j xs := by rw [aK]; simp [gr]
@[go_sem] theorem tt (t v sz : Nat) (xs : List (List CV)) : aK i j (.sl (.own t v) sz xs) = (t < j /\ fO i j xs) := by rw [aK]; simp [gr]
@[go_sem] theorem XG (t v : Nat) : gr j (.own t v) = (t < j) := rfl
@[go_sem] theorem acc : gr j .sh = True := rfl
@[go_sem] theorem acb : gr j .ti = True := rfl
@[go_sem, simp] theorem JC {α : Type} (V : List α) (k : Nat) (v : α) : (V.set k v).take V.length = V.set k v := take_of_length_le (by simp)
theorem fh (tk : Tk) (sz : Nat) (xs : List (List CV)) : aK i j (.sl tk sz xs) = (gr j tk /\ fO i j xs) := by rw [aK]
@[go_sem] theorem ab9 (b o n sz : Nat) : aK i j (.bsl b o n sz) = (b < i) := by rw [aK]
@[go_sem] theorem ab8 (b o : Nat) : aK i j (.ptr b o) = (b < i) := by rw [aK]
@[go_sem] theorem XF (cs : List CV) (o : Nat) : aK i j (.eptr cs o) = okL i j cs := by rw [aK]
@[go_sem] theorem ae6 (f : Nat) (cs : List CV) : aK i j (.fn f cs) = okL i j cs := by rw [aK]
@[go_sem] theorem acd : okL i j [] = True := by rw [okL]
@[go_sem] theorem XH (c : CV) (cs : List CV) : okL i j (c :: cs) = (aK i j c /\ okL i j cs) := by rw [okL]
@[go_sem] theorem acf : fO i j [] = True := by rw [fO]
@[go_sem] theorem XI (e : List CV) (es : List (List CV)) : fO i j (e :: es) = (okL i j e /\ fO i j es) := by rw [fO]
end
theorem Sh.back {n nb nv : Nat} {T T' : Tm} {H H' : Hp} {V V' : List Nat} (h : oT T T') (hb : nb = H'.length) (hv : nv = V'.length) (hT : wI nb nv T') (hH : ∀ (b : Nat) cs, H'[b]? = some (some cs) -> okL nb nv cs) (eH : H.take nb = H') (eV : V.take nv = V') : Sh n nb nv T H V (T', H', V') :=
 have _ := hb; have _ := hv
 Sh.cut nb nv h (le_refl _) (le_refl _) (wI.all hT) hH eH eV
end
section
mutual
inductive Fy (b : Nat) (cs : List CV) : CV -> CV -> Prop
 | refl (c : CV) : Fy b cs c c
 | bsl (o n sz : Nat) (h : o + n * sz <= cs.length) : Fy b cs (.bsl b o n sz) (.sl .sh sz (aY sz n (cs.drop o)))
 | agg {xs ys : List CV} (h : ki b cs xs ys) : Fy b cs (.agg xs) (.agg ys)
 | tup {xs ys : List CV} (h : ki b cs xs ys) : Fy b cs (.tup xs) (.tup ys)
 | sl (tk : Tk) (sz : Nat) {xs ys : List (List CV)} (h : j5 b cs xs ys) : Fy b cs (.sl tk sz xs) (.sl .sh sz ys)
inductive ki (b : Nat) (cs : List CV) : List CV -> List CV -> Prop
 | nil : ki b cs [] []
 | cons {c d : CV} {xs ys : List CV} (h : Fy b cs c d) (t : ki b cs xs ys) : ki b cs (c :: xs) (d :: ys)
inductive j5 (b : Nat) (cs : List CV) : List (List CV) -> List (List CV) -> Prop
 | nil : j5 b cs [] []
 | cons {c d : List CV} {xs ys : List (List CV)} (h : ki b cs c d) (t : j5 b cs xs ys) : j5 b cs (c :: xs) (d :: ys)
end
theorem ki.len {b : Nat} {cs : List CV} : ∀ {xs ys : List CV}, ki b cs xs ys -> xs.length = ys.length
 | _, _, .nil => rfl
 | _, _, .cons _ t => by rw [length_cons, length_cons, ki.len t]
theorem j5.len {b : Nat} {cs : List CV} : ∀ {xs ys : List (List CV)}, j5 b cs xs ys -> xs.length = ys.length
 | _, _, .nil => rfl
 | _, _, .cons _ t => by rw [length_cons, length_cons, j5.len t]
section
variable {m : Gh} {w : World} {V : List Nat} {b k : Nat} {cs : List CV}
mutual
theorem Fy.rel (hb : m.box[b]? = some k) (hl : cs.length <= m.lim k) (hc : aX m w V k cs 0) {x y : CV} : ∀ {u : Value}, Fy b cs x y -> ag m w V x u -> ag m w V y u
 | _, .refl _, h => h
 | _, .bsl o n sz ho, h => Fz.rel hb hl hc (.bsl o n sz ho) h
 | _, .agg hq, h => by rw [ag] at h; rw [ag]; obtain ⟨us, h1, h2⟩ := h; exact ⟨us, h1, ki.rel hb hl hc hq h2⟩
 | _, .tup hq, h => by rw [ag] at h; rw [ag]; obtain ⟨us, h1, h2⟩ := h; exact ⟨us, h1, ki.rel hb hl hc hq h2⟩
 | _, .sl tk sz hq, h => by
  rw [ag] at h; rw [ag];obtain ⟨base, cap, h1, h2, h3, h4, h5⟩ := h;have e := hq.len;refine ⟨base, cap, by rw [<- e]; exact h1, by rw [<- e]; exact h2, trivial, h4, ?_⟩;rcases h5 with h5 | ⟨k', o, h6, h7, h8⟩
  · left
    subst h5;exact eq_nil_of_length_eq_zero e.symm
  · exact .inr ⟨k', o, h6, by rw [<- e]; exact h7, j5.rel hb hl hc hq h8⟩
theorem ki.rel (hb : m.box[b]? = some k) (hl : cs.length <= m.lim k) (hc : aX m w V k cs 0) {xs ys : List CV} : ∀ {us : List Value}, ki b cs xs ys -> av m w V xs us -> av m w V ys us
 | _, .nil, h => h
 | _, .cons h t, hr => by
  rw [av] at hr; rw [av];obtain ⟨u, r, h1, h2, h3⟩ := hr;exact ⟨u, r, h1, Fy.rel hb hl hc h h2, ki.rel hb hl hc t h3⟩
theorem FyC.rel (hb : m.box[b]? = some k) (hl : cs.length <= m.lim k) (hc : aX m w V k cs 0) {xs ys : List CV} {k' : Nat} : ∀ {o : Nat}, ki b cs xs ys -> aX m w V k' xs o -> aX m w V k' ys o
 | _, .nil, h => h
 | _, .cons h t, hr => by
  rw [aX] at hr; rw [aX];obtain ⟨⟨u, h1, h2, h3⟩, h4⟩ := hr;exact ⟨⟨u, h1, Fy.rel hb hl hc h h2, h3⟩, FyC.rel hb hl hc t h4⟩
theorem j5.rel (hb : m.box[b]? = some k) (hl : cs.length <= m.lim k) (hc : aX m w V k cs 0) {xs ys : List (List CV)} {k' sz : Nat} : ∀ {o : Nat}, j5 b cs xs ys -> bB m w V k' sz xs o -> bB m w V k' sz ys o
 | _, .nil, h => h
 | _, .cons h t, hr => by
  rw [bB] at hr; rw [bB];obtain ⟨h1, h2, h3⟩ := hr;exact ⟨by rw [<- h.len]; exact h1, FyC.rel hb hl hc h h2, j5.rel hb hl hc t h3⟩
end
end
section
variable {m : Gh} {w : World} {V : List Nat} {b k : Nat} {cs : List CV}
mutual
theorem Fy.relO (hb : m.box[b]? = some k) (hr0 : ¬ gj w k) {x y : CV} : ∀ {u : Value}, Fy b cs x y -> ag m w V x u -> ag m w V y u
 | _, .refl _, h => h
 | _, .bsl o n sz ho, h => Fz.relO hb hr0 (.bsl o n sz ho) h
 | _, .agg hq, h => by rw [ag] at h; rw [ag]; obtain ⟨us, h1, h2⟩ := h; exact ⟨us, h1, ki.relO hb hr0 hq h2⟩
 | _, .tup hq, h => by rw [ag] at h; rw [ag]; obtain ⟨us, h1, h2⟩ := h; exact ⟨us, h1, ki.relO hb hr0 hq h2⟩
 | _, .sl tk sz hq, h => by
  rw [ag] at h; rw [ag];obtain ⟨base, cap, h1, h2, h3, h4, h5⟩ := h;have e := hq.len;refine ⟨base, cap, by rw [<- e]; exact h1, by rw [<- e]; exact h2, trivial, h4, ?_⟩;rcases h5 with h5 | ⟨k', o, h6, h7, h8⟩
  · left
    subst h5;exact eq_nil_of_length_eq_zero e.symm
  · exact .inr ⟨k', o, h6, by rw [<- e]; exact h7, j5.relO hb hr0 hq h8⟩
theorem ki.relO (hb : m.box[b]? = some k) (hr0 : ¬ gj w k) {xs ys : List CV} : ∀ {us : List Value}, ki b cs xs ys -> av m w V xs us -> av m w V ys us
 | _, .nil, h => h
 | _, .cons h t, hr => by
  rw [av] at hr; rw [av];obtain ⟨u, r, h1, h2, h3⟩ := hr;exact ⟨u, r, h1, Fy.relO hb hr0 h h2, ki.relO hb hr0 t h3⟩
theorem FyC.relO (hb : m.box[b]? = some k) (hr0 : ¬ gj w k) {xs ys : List CV} {k' : Nat} : ∀ {o : Nat}, ki b cs xs ys -> aX m w V k' xs o -> aX m w V k' ys o
 | _, .nil, h => h
 | _, .cons h t, hr => by
  rw [aX] at hr; rw [aX];obtain ⟨⟨u, h1, h2, h3⟩, h4⟩ := hr;exact ⟨⟨u, h1, Fy.relO hb hr0 h h2, h3⟩, FyC.relO hb hr0 t h4⟩
theorem j5.relO (hb : m.box[b]? = some k) (hr0 : ¬ gj w k) {xs ys : List (List CV)} {k' sz : Nat} : ∀ {o : Nat}, j5 b cs xs ys -> bB m w V k' sz xs o -> bB m w V k' sz ys o
 | _, .nil, h => h
 | _, .cons h t, hr => by
  rw [bB] at hr; rw [bB];obtain ⟨h1, h2, h3⟩ := hr;exact ⟨by rw [<- h.len]; exact h1, FyC.relO hb hr0 h h2, j5.relO hb hr0 t h3⟩
end
end
theorem CC.let_go {P : Program} {f : FuncId} {xs : List CV} (ys : List CV) {H : Hp} {V : List Nat} {R : CV -> Hp -> List Nat -> Prop} (b : Nat) (cs : List CV) (hb : H[b]? = some (some cs)) (h : ki b cs xs ys) (hc : CC P f ys (H.set b none) V R) : CC P f xs H V R := by
 refine ⟨hc.1, fun m w us hi hu => ?_⟩
 cases hi.live b cs hb with
 | row k c e g1 g2 g3 g4 g5 =>
  obtain ⟨hi', hx'⟩ := hi.fix hb g1 g2 g3 g4;have hu' := ki.rel (m := { m with lim := fun j => if j = k then cs.length else m.lim j }) (k := k) g1 (by show cs.length <= if k = k then cs.length else m.lim k; rw [if_pos rfl]; exact le_refl _) (i8 hx' rfl g5) h (av.mono hx' _ _ hu);exact (hc.2 _ w us hi' hu').mono fun _ _ ⟨u, m2, r, H', V', h1, h2, h3, h4, h5⟩ => ⟨u, m2, r, H', V', h1, h2, h3, h4, hx'.trans h5⟩
 | obj k x g1 g2 g3 =>
  have hu' := ki.relO g1 g3.notRow h hu;exact hc.2 _ w us (hi.kill b) hu'
end
section
def qr : Op -> Bool
 | .load .. => true
 | _ => false
inductive Fl where
 | pl
 | st
 | ld
instance : DecidableEq Fl := fun a b => by cases a <;> cases b <;> first | exact isTrue rfl | exact isFalse (fun h => by cases h)
def RX (S : List Nat) (H H' : Hp) : Prop := ∀ b ∈ S, H'[b]? = H[b]?
theorem RX.of_prefix {H H' : Hp} {b : Nat} {cs : List CV} (h : H <+: H') (hb : H[b]? = some (some cs)) : H'[b]? = some (some cs) := by
 obtain ⟨L, rfl⟩ := h;exact IB _ _ hb
def F7 (S : List Nat) (ev : Operand -> CV) : Op -> Prop
 | .load _ a => match ev a with | .ptr b _ => b ∈ S | _ => True
 | _ => True
def Kp (S : List Nat) (H H' : Hp) : Prop := ∀ b ∈ S, ∀ cs, H[b]? = some (some cs) -> H'[b]? = some (some cs)
def rel (S : List Nat) (k : Bool) (H H' : Hp) : Prop := if k then Kp S H H' else H <+: H'
theorem Kp.of {S : List Nat} {H H' : Hp} (h : H <+: H') : Kp S H H' := fun _ _ _ h2 => RX.of_prefix h h2
theorem Kp.keep {S : List Nat} {H H' : Hp} (h : RX S H H') : Kp S H H' := fun b hb cs h2 => by rw [h b hb]; exact h2
theorem rel.refl {S : List Nat} {k : Bool} {H : Hp} : rel S k H H := by cases k; exact prefix_refl _; exact fun _ _ _ h => h
theorem rel.trans {S : List Nat} {k : Bool} {H H' H'' : Hp} (h1 : rel S k H H') (h2 : rel S k H' H'') : rel S k H H'' := by
 cases k
 · exact List.IsPrefix.trans h1 h2
 · exact fun b hb cs h => h2 b hb cs (h1 b hb cs h)
section
variable {P : Program}
theorem CZ {S : List Nat} {κ : Bool} {ev : Operand -> CV} {H : Hp} {V : List Nat} {K : CV -> Hp -> List Nat -> Prop} {op : Op} (hp : jJ op = true) (hk : ff ev op = true) (hS : κ = true -> F7 S ev op) (h : cx P ev H V K op) :
 ∃ c, K c H V /\ ∀ H' V' K', (qr op = true -> rel S κ H H') -> K' c H' V' -> cx P ev H' V' K' op := by
 by_cases hl : qr op = true /\ κ = false
 · obtain ⟨hl, rfl⟩ := hl
   obtain ⟨c, h1, h2⟩ := vT hp hk h;exact ⟨c, h1, fun H' V' K' q k => h2 H' V' K' (q hl) k⟩
 · replace hl : qr op = false \/ κ = true := by cases κ <;> simp_all
   cases op <;> simp only [jJ, Bool.false_eq_true] at hp <;> simp only [cx] at h ⊢
   case move x => exact ⟨_, h, fun H' V' K' _ k => k⟩
   case assign x => exact ⟨_, h, fun H' V' K' _ k => k⟩
   case pick c x y =>
    split at h
    · exact ⟨_, h, fun H' V' K' _ k => k⟩
    · exact h.elim
   case load t a =>
    have hκ : κ = true := hl.elim (fun e => by cases e) id;subst hκ;obtain ⟨g, n, p, q⟩ := h;have hS := hS rfl
    split at q
    · rename_i b o he
      obtain ⟨cs, a2, b2⟩ := q;obtain ⟨c, h1, h2⟩ := jV b2;simp only [F7, he] at hS;refine ⟨c, h1, fun H' V' K' hl k => ⟨g, n, p, ?_⟩⟩;exact ⟨cs, hl rfl b hS cs a2, h2 (fun c => K' c H' V') k⟩
    · rename_i cs o he
      obtain ⟨c, h1, h2⟩ := jV q;refine ⟨c, h1, fun H' V' K' hl k => ⟨g, n, p, ?_⟩⟩;exact h2 (fun c => K' c H' V') k
    · exact q.elim
   case slice =>
    obtain ⟨c, h1, h2⟩ := oA h;exact ⟨c, h1, fun H' V' K' _ k => h2 (fun c => K' c H' V') k⟩
   case makeFunc fn first captured =>
    split at h
    · exact ⟨_, h, fun H' V' K' _ k => k⟩
    · exact ⟨_, h, fun H' V' K' _ k => k⟩
    · exact h.elim
   case buildSlice t len parts =>
    obtain ⟨e, sz, a, b, c, d, f⟩ := h;exact ⟨_, f, fun H' V' K' _ k => ⟨e, sz, a, b, c, d, k⟩⟩
   case nilCheck x =>
    split at h
    · exact ⟨_, h, fun H' V' K' _ k => k⟩
    · exact ⟨_, h, fun H' V' K' _ k => k⟩
    · exact ⟨_, h, fun H' V' K' _ k => k⟩
    · exact ⟨_, h, fun H' V' K' _ k => k⟩
    · exact ⟨_, h, fun H' V' K' _ k => k⟩
    · exact h.elim
   case binOp =>
    obtain ⟨c, h1, h2⟩ := sO hk h;exact ⟨c, h1, fun H' V' K' _ k => h2 (fun c => K' c H' V') k⟩
   case unOp =>
    obtain ⟨c, h1, h2⟩ := vM h;exact ⟨c, h1, fun H' V' K' _ k => h2 (fun c => K' c H' V') k⟩
   case convert s d x =>
    obtain ⟨k, p, q⟩ := h
    split at q
    · rename_i he; exact ⟨_, q, fun H' V' K' _ r => ⟨_, p, by rw [he]; exact r⟩⟩
    · rename_i he
      obtain ⟨bs, a, b⟩ := q;exact ⟨_, b, fun H' V' K' _ r => ⟨_, p, by rw [he]; exact ⟨bs, a, r⟩⟩⟩
    · rename_i he; exact ⟨_, q, fun H' V' K' _ r => ⟨_, p, by rw [he]; exact r⟩⟩
    · exact q.elim
   case fieldAddr s x f =>
    obtain ⟨o, g, n, p, q⟩ := h
    split at q
    · exact ⟨_, q, fun H' V' K' _ r => ⟨_, _, _, p, r⟩⟩
    · exact ⟨_, q, fun H' V' K' _ r => ⟨_, _, _, p, r⟩⟩
    · exact q.elim
   case field s x f =>
    obtain ⟨o, g, n, p, q⟩ := h
    split at q
    · obtain ⟨c, h1, h2⟩ := jV q
      exact ⟨c, h1, fun H' V' K' hl k => ⟨_, _, _, p, h2 (fun c => K' c H' V') k⟩⟩
    · exact q.elim
   case indexAddr =>
    obtain ⟨c, h1, h2⟩ := sI h;exact ⟨c, h1, fun H' V' K' _ k => h2 (fun c => K' c H' V') k⟩
   case index t x i =>
    obtain ⟨c, h1, h2⟩ := oD h;exact ⟨c, h1, fun H' V' K' _ k => h2 (fun c => K' c H' V') k⟩
   case extract x i =>
    split at h
    · obtain ⟨a, b⟩ := h
      exact ⟨_, b, fun H' V' K' _ r => ⟨a, r⟩⟩
    · exact h.elim
   case build t parts =>
    obtain ⟨ps, zs, cs, a, b, c⟩ := h;exact ⟨_, c, fun H' V' K' _ r => ⟨ps, zs, cs, a, b, r⟩⟩
   case call c =>
    split at h
    · rename_i hc; rw [hc] at hp; cases hp
    · rename_i hc; rw [hc] at hp; cases hp
    · obtain ⟨x, y, a, q⟩ := h
      obtain ⟨r, h1, h2⟩ := mV q;exact ⟨r, h1, fun H' V' K' _ k => ⟨x, y, a, h2 (fun c => K' c H' V') k⟩⟩
    · obtain ⟨x, y, a, q⟩ := h
      obtain ⟨r, h1, h2⟩ := mV q;exact ⟨r, h1, fun H' V' K' _ k => ⟨x, y, a, h2 (fun c => K' c H' V') k⟩⟩
    · obtain ⟨t, x, a, b, q⟩ := h
      obtain ⟨r, h1, h2⟩ := sH q;exact ⟨r, h1, fun H' V' K' _ k => ⟨t, x, a, b, h2 (fun c => K' c H' V') k⟩⟩
    · rename_i hc; rw [hc] at hp; cases hp
    · exact h.elim
end
section
variable (P : Program) (n : Nat) (ops : List Oper) (fl : Nat -> Bool) (S : List Nat)
def wx (K : En -> Hp -> List Nat -> Prop) : Nat -> Array Bool -> En -> Hp -> List Nat -> Prop
 | 0, listed, E, H, V => Region.ready .any ops.toArray listed = [] /\ K E H V
 | f + 1, listed, E, H, V => (Region.ready .any ops.toArray listed = [] -> K E H V) ∧
  ∀ i ∈ Region.ready .any ops.toArray listed, ∀ o, ops[i]? = some o -> bM P n ops o E H V (fun E' H' V' => rel S (fl i) H H' /\ wx K f (listed.setIfInBounds i true) E' H' V')
end
section
variable {P : Program} {n : Nat} {ops : List Oper} {fl : Nat -> Bool} {S : List Nat}
def RY (P : Program) (n : Nat) (ops : List Oper) (S : List Nat) (κ : Bool) (o : Oper) (c : CV) (E : En) (H : Hp) : Prop :=
 ∀ E2 H2 V2 K2, (∀ d ∈ o.looksAt ops.toArray, E2 d = E d) -> (qr o.op = true -> rel S κ H H2) -> K2 (cl o.dst c E2) H2 V2 -> bM P n ops o E2 H2 V2 K2
theorem p8 {κ : Bool} {o : Oper} {E : En} {H : Hp} {V : List Nat} {K : En -> Hp -> List Nat -> Prop} (hp : jJ o.op = true) (hk : ff (oQ E) o.op = true) (hS : κ = true -> F7 S (oQ E) o.op) (hs : bM P n ops o E H V K) :
 ∃ c, K (cl o.dst c E) H V /\ RY P n ops S κ o c E H := by
 unfold bM at hs;obtain ⟨hd, hs⟩ := hs;have go : cx P (oQ E) H V (fun c H' V' => K (cl o.dst c E) H' V') o.op -> ∃ c, K (cl o.dst c E) H V /\ ∀ (E2 : En) (H2 : Hp) (V2 : List Nat) (K2 : En -> Hp -> List Nat -> Prop), (∀ d ∈ o.looksAt ops.toArray, E2 d = E d) -> (qr o.op = true -> rel S κ H H2) -> K2 (cl o.dst c E2) H2 V2 -> cx P (oQ E2) H2 V2 (fun c H' V' => K2 (cl o.dst c E2) H' V') o.op := fun q => by
  obtain ⟨c, h1, h2⟩ := CZ hp hk hS q;refine ⟨c, h1, fun E2 H2 V2 K2 ha hl k => ?_⟩;rw [jt (fG ha)];exact h2 H2 V2 (fun c H' V' => K2 (cl o.dst c E2) H' V') hl k
 cases hg : o.guard with
 | none =>
  rw [hg] at hs;obtain ⟨c, h1, h2⟩ := go hs;refine ⟨c, h1, fun E2 H2 V2 K2 ha hl k => ?_⟩;unfold bM;rw [hg];exact ⟨hd, h2 E2 H2 V2 K2 ha hl k⟩
 | some jw =>
  obtain ⟨j, want⟩ := jw;rw [hg] at hs;dsimp only at hs
  cases hj : kE ops j with
  | none => rw [hj] at hs; exact hs.elim
  | some g =>
   rw [hj] at hs;dsimp only at hs
   split at hs
   · rename_i b hb
     by_cases hbw : b = want
     · obtain ⟨c, h1, h2⟩ := go (hs.1 hbw)
       refine ⟨c, h1, fun E2 H2 V2 K2 ha hl k => ?_⟩;unfold bM;rw [hg];dsimp only;rw [hj];dsimp only;rw [dX ha hg hj, hb];exact ⟨hd, fun _ => h2 E2 H2 V2 K2 ha hl k, fun e => absurd (hbw.symm.trans e) (by cases want <;> simp)⟩
     · have hb2 : b = !want := by cases b <;> cases want <;> simp_all
       refine ⟨.v undef, hs.2 hb2, fun E2 H2 V2 K2 ha hl k => ?_⟩;unfold bM;rw [hg];dsimp only;rw [hj];dsimp only;rw [dX ha hg hj, hb];exact ⟨hd, fun e => absurd e hbw, fun _ => k⟩
   · rename_i vs hb
     refine ⟨.v undef, hs, fun E2 H2 V2 K2 ha hl k => ?_⟩;unfold bM;rw [hg];dsimp only;rw [hj];dsimp only;rw [dX ha hg hj, hb];exact ⟨hd, k⟩
   · exact hs.elim
theorem oH {κ : Bool} {K : En -> Hp -> List Nat -> Prop} {i : Nat} {oi : Oper} {c : CV} (hi : ops[i]? = some oi) :
 ∀ (f : Nat) (listed : Array Bool) (E : En) (H : Hp) (V : List Nat),
  (∀ j oj, ops[j]? = some oj -> j ≠ i -> listed.getD j true = false -> (∀ e ∈ oj.after, Region.binds .any e = true -> e.on ≠ i) -> oi.apart ops.toArray oj = true) →
  (qr oi.op = true -> κ = false -> ∀ j oj, ops[j]? = some oj -> j ≠ i -> listed.getD j true = false -> fl j = true -> ∃ e ∈ oj.after, Region.binds .any e = true /\ e.on = i) -> i ∈ Region.ready .any ops.toArray listed -> RY P n ops S κ oi c E H →
  wx P n ops fl S K f (listed.setIfInBounds i true) (cl oi.dst c E) H V -> wx P n ops fl S K (f + 1) listed E H V := by
 intro f
 induction f with
 | zero =>
  intro listed E H V _ _ hr hy h;refine ⟨fun e => (by rw [e] at hr; cases hr), fun j hj o ho => ?_⟩
  by_cases hji : j = i
  · subst hji; rw [hi] at ho; cases ho
    exact hy _ _ _ _ (fun _ _ => rfl) (fun _ => rel.refl) ⟨rel.refl, h⟩
  · have := ready_mono hj hji
    rw [h.1] at this; cases this
 | succ f ih =>
  intro listed E H V hfree hst hr hy h;refine ⟨fun e => (by rw [e] at hr; cases hr), fun j hj o ho => ?_⟩
  by_cases hji : j = i
  · subst hji; rw [hi] at ho; cases ho
    exact hy _ _ _ _ (fun _ _ => rfl) (fun _ => rel.refl) ⟨rel.refl, h⟩
  · have h1 := h.2 j (ready_mono hj hji) o ho
    obtain ⟨hjun, oj, hoj, hall⟩ := mem_ready.1 hj;rw [getElem?_toArray, ho] at hoj; cases hoj;have hnot : ∀ e ∈ o.after, Region.binds .any e = true -> e.on ≠ i := fun e he hb heq => by
     have h1 := hall e he hb;have h0 := (mem_ready.1 hr).1;rw [heq] at h1;rcases Nat.lt_or_ge i listed.size with h' | h'
     · simp [h'] at h0 h1; rw [h0] at h1; cases h1
     · simp [Array.getElem?_eq_none h'] at h1
    obtain ⟨p1, p2, p3⟩ := Oper.apart_spec (hfree j o ho hji hjun hnot);have hfree' : ∀ k ok, ops[k]? = some ok -> k ≠ i -> (listed.setIfInBounds j true).getD k true = false →
     (∀ e ∈ ok.after, Region.binds .any e = true -> e.on ≠ i) -> oi.apart ops.toArray ok = true := fun k ok hk hki hun hno => by
     refine hfree k ok hk hki ?_ hno
     by_cases hjk : j = k
     · subst hjk; exact hjun
     · rw [getD_set_ne true hjk] at hun; exact hun
    have hput : ∀ {d : Option Nat} {c : CV} {E : En} {t : Nat}, (d ≠ some t) -> cl d c E t = E t := fun {d c E t} h => by
     cases d with
     | none => rfl
     | some d => simp only [cl]; rw [if_neg (fun e => h (by rw [e]))]
    refine kJ (E := cl oi.dst c E) (fun d hd => hput fun e => p1 d e hd) (fun c' H' V' ⟨q1, q2⟩ => ⟨q1, ?_⟩) h1;rw [ny p2] at q2;rw [Array.setIfInBounds_comm _ _ (Ne.symm hji)] at q2;have hst' : qr oi.op = true -> κ = false -> ∀ k ok, ops[k]? = some ok -> k ≠ i -> (listed.setIfInBounds j true).getD k true = false -> fl k = true -> ∃ e ∈ ok.after, Region.binds .any e = true /\ e.on = i := fun hl hκ k ok hk hki hun => by
     refine hst hl hκ k ok hk hki ?_
     by_cases hjk : j = k
     · subst hjk; exact hjun
     · rw [getD_set_ne true hjk] at hun; exact hun
    refine ih (listed.setIfInBounds j true) _ H' V' hfree' hst' (ready_mono hr (Ne.symm hji)) (fun E2 H2 V2 K2 ha hl k => hy E2 H2 V2 K2 (fun d hd => ?_) (fun hld => rel.trans ?_ (hl hld)) k) q2
    case refine_2 =>
     cases hfj : fl j with
     | false =>
      rw [hfj] at q1
      cases κ
      · exact q1
      · exact Kp.of q1
     | true =>
      rw [hfj] at q1
      cases κ with
      | true => exact q1
      | false =>
      obtain ⟨e, he, hb, hon⟩ := hst hld rfl j o ho hji hjun hfj;exact absurd hon (hnot e he hb)
    rw [ha d hd];exact hput fun e => p3 d e hd
theorem oG {ro : Option Nat} {Q : Exit -> Act -> World -> Prop} {K : En -> Hp -> List Nat -> Prop} : ∀ (f : Nat) {listed : Array Bool} {E : En} {m : Gh} {w : World} {a : Act} {H : Hp} {V : List Nat},
 bE m w H V -> (∀ k, ag m w V (E k) (a.tmps.getD k undef)) -> a.tmps.size = n -> wx P n ops fl S K f listed E H V →
 (∀ E' H' V' a' m' w', K E' H' V' -> bE m' w' H' V' -> (∀ k, ag m' w' V' (E' k) (a'.tmps.getD k undef)) -> a'.tmps.size = n -> a'.defers = a.defers -> bh m w V m' w' V' -> Q .normal a' w') -> wpAnyIn (g8 ro) 0 P .any ops.toArray Q f listed a w
 | 0, listed, E, m, w, a, H, V, hi, ht, hz, h, hK => ⟨h.1, hK _ _ _ _ _ _ h.2 hi ht hz rfl (bh.refl m w V)⟩
 | f + 1, listed, E, m, w, a, H, V, hi, ht, hz, h, hK => by
  refine ⟨fun e => hK _ _ _ _ _ _ (h.1 e) hi ht hz rfl (bh.refl m w V), fun i hr => ?_⟩;obtain ⟨_, o, ho, _⟩ := mem_ready.1 hr;rw [getElem?_toArray] at ho;refine gN ho hi ht hz (h.2 i hr o ho) fun E' H' V' a' m' w' k1 k2 k3 k4 k5 k6 => ?_;exact oG f k2 k3 k4 k1.2 fun E2 H2 V2 a2 m2 w2 q1 q2 q3 q4 q5 q6 => hK _ _ _ _ _ _ q1 q2 q3 q4 (q5.trans k5) (k6.trans q6)
inductive OT where
 | n
 | s (i : Nat) (b : Fl) (t : OT)
 | c (i : Nat) (t : OT)
 | f (i : Nat) (b : Fl) (s : OT) (j : Nat) (b' : Fl) (t : OT)
def IY (l : List Nat) (i : Nat) : Bool := l.contains i
def vh (ops : List Oper) (l : List Nat) (i : Nat) (listed : Array Bool) : Bool :=
 l.all fun p => p == i || listed.getD p true || (match ops[p]? with | some o => o.after.any fun e => Region.binds .any e && e.on == i | none => true)
theorem nM {l : List Nat} {i : Nat} {listed : Array Bool} (h : vh ops l i listed = true) : ∀ j oj, ops[j]? = some oj -> j ≠ i -> listed.getD j true = false -> IY l j = true -> ∃ e ∈ oj.after, Region.binds .any e = true /\ e.on = i := fun j oj hj hne hun hf => by
 have h1 := all_eq_true.1 h j (by simpa [IY] using hf);simp only [hun, Bool.or_false, hj, Bool.or_eq_true, beq_iff_eq] at h1;rcases h1 with h1 | h1
 · exact absurd h1 hne
 · obtain ⟨e, h1, h2⟩ := Array.any_eq_true'.1 h1
   rw [Bool.and_eq_true] at h2;exact ⟨e, h1, h2.1, by simpa using h2.2⟩
def oM (ops : List Oper) (l0 : List Nat) : OT -> Nat -> Array Bool -> Bool
 | .n, f, listed => f == 0 && (Region.ready .any ops.toArray listed).isEmpty
 | .s i b t, f, listed =>
  IY l0 i == (b == Fl.st) &&
  ((match ops[i]? with
   | some o => (jJ o.op && (Region.ready .any ops.toArray listed).contains i && Region.free .any ops.toArray listed i && (!qr o.op || b == Fl.ld || vh ops l0 i listed)) || Region.ready .any ops.toArray listed == [i]
   | none => false) && f != 0 && oM ops l0 t (f - 1) (listed.setIfInBounds i true))
 | .c i t, f, listed =>
  (match ops[i]? with
   | some o => (Region.ready .any ops.toArray listed).contains i && Region.free .any ops.toArray listed i && !qr o.op && o.guard.isNone
   | none => false) && f != 0 && oM ops l0 t (f - 1) (listed.setIfInBounds i true)
 | .f i b s j b' t, f, listed =>
  IY l0 i == (b == Fl.st) && IY l0 j == (b' == Fl.st) && Region.ready .any ops.toArray listed == [i, j] && f != 0 && oM ops l0 s (f - 1) (listed.setIfInBounds i true) && oM ops l0 t (f - 1) (listed.setIfInBounds j true)
def yj (P : Program) (ev : Operand -> CV) (op : Op) (c : CV) : Prop := ∀ (H : Hp) (V : List Nat) (K : CV -> Hp -> List Nat -> Prop), K c H V -> cx P ev H V K op
theorem xD {P : Program} {H : Hp} {V : List Nat} {x : CV} {args : List CV} {K K' : CV -> Hp -> List Nat -> Prop} (h : ∀ c H V, K c H V -> K' c H V) : fm P H V x args K -> fm P H V x args K' := by
 cases x <;> simp only [fm]
 case fn => exact fun q => CC.mono q h
 case bm => exact fun q => CC.mono q h
 case yl => exact fun q => YC.mono q h
 all_goals exact id
theorem DK {P : Program} {ev : Operand -> CV} {f : Operand} {args : Array Operand} {tys : Array TypeId} {c : CV} : yj P ev (.call ⟨.value f, args, tys⟩) c ↔ ∀ H V, fm P H V (ev f) (args.toList.map ev) (Pu c H V) := by
 constructor
 · intro h H V
   have := h H V (Pu c H V) ⟨rfl, rfl, rfl⟩
   rwa [vU] at this
 · intro h H V K k
   rw [vU];exact xD (fun c' H' V' ⟨e1, e2, e3⟩ => by subst e1 e2 e3; exact k) (h H V)
def jp (P : Program) (n : Nat) (ops : List Oper) (S : List Nat) : OT -> Tm -> Hp -> List Nat -> (Tm -> Hp -> List Nat -> Prop) -> Prop
 | .n, T, H, V, K => K T H V
 | .s i b t, T, H, V, K =>
  match ops[i]? with
  | some o => ff (em T) o.op = true /\ (b = Fl.ld -> F7 S (em T) o.op) /\ crun P n ops [o] T H V fun T' H' V' => rel S (b == Fl.st) H H' /\ jp P n ops S t T' H' V' K
  | none => False
 | .c i t, T, H, V, K =>
  match ops[i]? with
  | some o => kv o.dst n /\ ∃ c, yj P (em T) o.op c /\ jp P n ops S t (bQ o.dst c T) H V K
  | none => False
 | .f i b s j b' t, T, H, V, K =>
  (match ops[i]? with
  | some o => crun P n ops [o] T H V fun T' H' V' => rel S (b == Fl.st) H H' /\ jp P n ops S s T' H' V' K
  | none => False) ∧
  (match ops[j]? with
  | some o => crun P n ops [o] T H V fun T' H' V' => rel S (b' == Fl.st) H H' /\ jp P n ops S t T' H' V' K
  | none => False)
theorem gS {S : List Nat} {l0 : List Nat} {K : Tm -> Hp -> List Nat -> Prop} : ∀ (l : OT) (f : Nat) (listed : Array Bool) (T : Tm) (H : Hp) (V : List Nat), oM ops l0 l f listed = true -> jp P n ops S l T H V K →
 wx P n ops (IY l0) S (fun E H V => ∃ T', bt T' = E /\ K T' H V) f listed (bt T) H V
 | .n, f, listed, T, H, V, ho, h => by
  rw [oM, Bool.and_eq_true] at ho;obtain ⟨h0, ho⟩ := ho;obtain rfl : f = 0 := by simpa using h0
  exact ⟨by simpa using ho, T, rfl, h⟩
 | .s i b t, f, listed, T, H, V, ho, h => by
  rw [oM, Bool.and_eq_true, Bool.and_eq_true, Bool.and_eq_true] at ho;rw [jp] at h;obtain ⟨hfb, ⟨ho, hf0⟩, iN⟩ := ho;obtain ⟨f, rfl⟩ : ∃ g, f = g + 1 := ⟨f - 1, by have : f ≠ 0 := (by simpa using hf0); omega⟩
  rw [Nat.add_sub_cancel] at iN
  replace hfb : IY l0 i = (b == Fl.st) := by simpa using hfb
  cases hi : ops[i]? with
  | none => rw [hi] at h; exact h.elim
  | some o =>
   rw [hi] at h ho;dsimp only at h ho;obtain ⟨hk, hin, h⟩ := h;have h1 := jo h;rw [Bool.or_eq_true] at ho;rcases ho with ho | ho
   · rw [Bool.and_eq_true, Bool.and_eq_true, Bool.and_eq_true] at ho
     obtain ⟨⟨⟨hp, hr⟩, hf⟩, hld⟩ := ho;obtain ⟨c, ⟨T', e1, _, e3⟩, hh⟩ := p8 (κ := b == Fl.ld) (S := S) hp (by rw [<- jX]; exact hk) (fun e => by rw [<- jX]; exact hin (by simpa using e)) h1;have := gS t f _ T' H V iN e3;rw [e1] at this;exact oH hi f listed _ H V (fun j oj hj hne hun hno => Region.free_spec (by rw [getElem?_toArray]; exact hi) hf j oj (by rw [getElem?_toArray]; exact hj) hne hun hno) (fun hl hκ => nM (by rw [hl, hκ] at hld; simpa using hld)) (by simpa using hr) hh this
   · have hr : Region.ready .any ops.toArray listed = [i] := by simpa using ho
     refine ⟨fun e => (by rw [hr] at e; cases e), fun j hj o' ho' => ?_⟩;rw [hr] at hj;obtain rfl : j = i := by simpa using hj
     rw [hi] at ho'; cases ho';refine gg (fun E H' V' ⟨T', e1, e2, e3⟩ => ?_) h1;subst e1;exact ⟨by rw [hfb]; exact e2, gS t f _ T' H' V' iN e3⟩
 | .c i t, f, listed, T, H, V, ho, h => by
  rw [oM, Bool.and_eq_true, Bool.and_eq_true] at ho;rw [jp] at h;obtain ⟨⟨ho, hf0⟩, iN⟩ := ho;obtain ⟨f, rfl⟩ : ∃ g, f = g + 1 := ⟨f - 1, by have : f ≠ 0 := (by simpa using hf0); omega⟩
  rw [Nat.add_sub_cancel] at iN
  cases hi : ops[i]? with
  | none => rw [hi] at h; exact h.elim
  | some o =>
   rw [hi] at h ho;dsimp only at h ho;rw [Bool.and_eq_true, Bool.and_eq_true, Bool.and_eq_true] at ho;obtain ⟨⟨⟨hr, hf⟩, hld⟩, hg⟩ := ho
   replace hld : qr o.op = false := by simpa using hld
   replace hg : o.guard = none := by simpa using hg
   obtain ⟨hd, c, GF, h⟩ := h;have := gS t f _ _ H V iN h;rw [gO] at this;refine oH (κ := true) hi f listed _ H V (fun j oj hj hne hun hno => Region.free_spec (by rw [getElem?_toArray]; exact hi) hf j oj (by rw [getElem?_toArray]; exact hj) hne hun hno) (fun hl => by rw [hld] at hl; cases hl) (by simpa using hr) (fun E2 H2 V2 K2 ha _ k => ?_) this;unfold bM;rw [hg];refine ⟨hd, ?_⟩;rw [jt (fG ha), <- jX];exact GF H2 V2 _ k
 | .f i b s j b' t, f, listed, T, H, V, ho, h => by
  rw [oM, Bool.and_eq_true, Bool.and_eq_true, Bool.and_eq_true, Bool.and_eq_true, Bool.and_eq_true] at ho;rw [jp] at h;obtain ⟨⟨⟨⟨⟨hfb, hfb'⟩, hr⟩, hf0⟩, hs⟩, ht⟩ := ho;obtain ⟨f, rfl⟩ : ∃ g, f = g + 1 := ⟨f - 1, by have : f ≠ 0 := (by simpa using hf0); omega⟩
  rw [Nat.add_sub_cancel] at hs ht
  replace hfb : IY l0 i = (b == Fl.st) := by simpa using hfb
  replace hfb' : IY l0 j = (b' == Fl.st) := by simpa using hfb'
  replace hr : Region.ready .any ops.toArray listed = [i, j] := by simpa using hr
  refine ⟨fun e => (by rw [hr] at e; cases e), fun q hq o' ho' => ?_⟩;rw [hr] at hq;simp only [mem_cons, not_mem_nil, or_false] at hq;rcases hq with rfl | rfl
  · have h := h.1
    rw [ho'] at h;refine gg (fun E H' V' ⟨T', e1, e2, e3⟩ => ?_) (jo h);subst e1;exact ⟨by rw [hfb]; exact e2, gS s f _ T' H' V' hs e3⟩
  · have h := h.2
    rw [ho'] at h;refine gg (fun E H' V' ⟨T', e1, e2, e3⟩ => ?_) (jo h);subst e1;exact ⟨by rw [hfb']; exact e2, gS t f _ T' H' V' ht e3⟩
theorem ac.drawn0T {S l0 : List Nat} {id nb nv : Nat} {Q : Exit -> Tm -> Hp -> List Nat -> Prop} {T : Tm} {H : Hp} {V : List Nat} (l : OT) (hm : P.follows .mixedOrders = true) (ho : oM ops l0 l ops.length (Array.replicate ops.length false) = true)
 (h : jp P n ops S l T H V (Q .normal)) : ac P n nb nv (.region id ops.toArray true) Q T H V := by
 intro ro D m w a m0 w0 V0 h1 h2 h3 hx hs;refine wpIn_region_any hm ?_;have hd : bE m { w with drawn := w.drawn + 1 } H V /\ bh m w V m { w with drawn := w.drawn + 1 } V := hs.inv.drew;have := gS l ops.length _ T H V ho h;simp only [size_toArray];refine oG (fl := IY l0) (S := S) (Q := fun e a' w' => ∃ T' H' V' m', Q e T' H' V' /\ St D n m' w' a' T' H' V' /\ bh m0 w0 V0 m' w' V') ops.length hd.1 (fun k => ag.mono hd.2 _ _ (hs.tm k)) hs.size this fun E' H' V' a' m' w' k1 k2 k3 k4 k5 k6 => ?_;obtain ⟨T', e, hq⟩ := k1;subst e;exact ⟨T', H', V', m', hq, ⟨k2, k3, k4, by rw [k5]; exact hs.df.mono (hd.2.trans k6)⟩, (hx.trans hd.2).trans k6⟩
end
def KW (S : List Nat) : CV -> Prop
 | .ptr b _ => b ∈ S
 | _ => True
def B9 (b : Fl) (S : List Nat) (ev : Operand -> CV) (op : Op) : Prop := b = Fl.ld -> F7 S ev op
@[go_sem] theorem acR (S : List Nat) (ev : Operand -> CV) (op : Op) : B9 .pl S ev op = True := eq_true fun h => by cases h
@[go_sem] theorem acQ (S : List Nat) (ev : Operand -> CV) (op : Op) : B9 .st S ev op = True := eq_true fun h => by cases h
@[go_sem] theorem acS (S : List Nat) (ev : Operand -> CV) (t : TypeId) (a : Operand) : B9 .ld S ev (.load t a) = KW S (ev a) := by
 refine propext ⟨fun h => ?_, fun h _ => ?_⟩
 · have := h rfl; simp only [F7] at this; unfold KW; split <;> simp_all
 · simp only [F7]; unfold KW at h; split <;> simp_all
@[go_sem] theorem acZ (S : List Nat) (b o : Nat) : KW S (.ptr b o) = (b ∈ S) := rfl
@[go_sem] theorem X2 (S : List Nat) (b : List CV) (o : Nat) : KW S (.eptr b o) = True := rfl
def pX (S : List Nat) (b : Fl) (H H' : Hp) : Prop := rel S (b == Fl.st) H H'
@[go_sem] theorem abQ (S : List Nat) (H H' : Hp) : pX S .pl H H' = (H <+: H') := rfl
@[go_sem] theorem abR (S : List Nat) (H H' : Hp) : pX S .ld H H' = (H <+: H') := rfl
@[go_sem] theorem abP (S : List Nat) (H H' : Hp) : pX S .st H H' = Kp S H H' := rfl
@[go_sem] theorem aga (H H' : Hp) : Kp [] H H' = True := eq_true fun b hb => by cases hb
@[go_sem] theorem aev (S : List Nat) (H : Hp) : Kp S H H = True := eq_true fun _ _ _ h => h
def dr (P : Program) (n : Nat) (ds : List (Option Tmp)) (ops : List Oper) (S : List Nat) : OT -> Tm -> Hp -> List Nat -> (Tm -> Hp -> List Nat -> Prop) -> Prop
 | .n, T, H, V, K => K T H V
 | .s i b t, T, H, V, K => bv (ops[i]?) fun o => ff (em T) o.op = true /\ B9 b S (em T) o.op /\ bS P n ds [o] T H V fun T' H' V' => pX S b H H' /\ dr P n ds ops S t T' H' V' K
 | .c i t, T, H, V, K => bv (ops[i]?) fun o => kv o.dst n /\ ∃ c, yj P (em T) o.op c /\ dr P n ds ops S t (bQ o.dst c T) H V K
 | .f i b s j b' t, T, H, V, K => (bv (ops[i]?) fun o => bS P n ds [o] T H V fun T' H' V' => pX S b H H' /\ dr P n ds ops S s T' H' V' K) ∧
  (bv (ops[j]?) fun o => bS P n ds [o] T H V fun T' H' V' => pX S b' H H' /\ dr P n ds ops S t T' H' V' K)
def qN (P : Program) (n : Nat) (ds : List (Option Tmp)) (ops : List Oper) (S : List Nat) (l : OT) (T : Tm) (H : Hp) (V : List Nat) (K : Tm -> Hp -> List Nat -> Prop) : Prop := dr P n ds ops S l T H V K
theorem hU (P : Program) (n : Nat) (ops : List Oper) (S : List Nat) : ∀ (l : OT) (T : Tm) (H : Hp) (V : List Nat) (K : Tm -> Hp -> List Nat -> Prop), jp P n ops S l T H V K = dr P n (ops.map (·.dst)) ops S l T H V K
 | .n, _, _, _, _ => rfl
 | .s i b t, T, H, V, K => by
  rw [jp, dr, aV]
  cases ops[i]? with
  | none => simp
  | some o => simp [bF, hU P n ops S t, B9, pX]
 | .c i t, T, H, V, K => by
  rw [jp, dr, aV]
  cases ops[i]? with
  | none => simp
  | some o => simp [hU P n ops S t]
 | .f i b s j b' t, T, H, V, K => by
  rw [jp, dr, aV, aV]
  congr 1
  · cases ops[i]? with
    | none => simp
    | some o => simp [bF, hU P n ops S s, pX]
  · cases ops[j]? with
    | none => simp
    | some o => simp [bF, hU P n ops S t, pX]
section
variable {P : Program} {n : Nat} {ds : List (Option Tmp)} {ls : List Oper} {S : List Nat} {T T' : Tm} {H H' : Hp} {V V' : List Nat} {K : Tm -> Hp -> List Nat -> Prop}
@[go_sem] theorem U0 (l : OT) : qN P n ds ls S l T H V K = dr P n ds ls S l T H V K := rfl
@[go_sem] theorem QP : dr P n ds ls S .n T H V K = K T H V := rfl
def zO (b : Fl) (P : Program) (n : Nat) (ds : List (Option Tmp)) (ls : List Oper) (S : List Nat) (r : OT) (H : Hp) (K : Tm -> Hp -> List Nat -> Prop) : Tm -> Hp -> List Nat -> Prop := fun T' H' V' => pX S b H H' /\ dr P n ds ls S r T' H' V' K
@[go_sem ↓] theorem aaj (b : Fl) (r : OT) : zO b P n ds ls S r H K T H' V = (pX S b H H' /\ dr P n ds ls S r T H' V K) := id rfl
@[go_sem] theorem Z5 (i : Nat) (b : Fl) (r : OT) : dr P n ds ls S (.s i b r) T H V K = bv (ls[i]?) fun o => ff (em T) o.op = true /\ B9 b S (em T) o.op /\ bS P n ds [o] T H V (zO b P n ds ls S r H K) := rfl
def zP (P : Program) (n : Nat) (ds : List (Option Tmp)) (ls : List Oper) (S : List Nat) (d : Option Tmp) (f : CV) (args : List CV) (r : OT) (T : Tm) (H : Hp) (V : List Nat) (K : Tm -> Hp -> List Nat -> Prop) : Prop :=
 ∃ c, (∀ H V, fm P H V f args (Pu c H V)) /\ dr P n ds ls S r (bQ d c T) H V K
def GF (P : Program) (n : Nat) (ds : List (Option Tmp)) (ls : List Oper) (S : List Nat) (d : Option Tmp) (op : Op) (r : OT) (T : Tm) (H : Hp) (V : List Nat) (K : Tm -> Hp -> List Nat -> Prop) : Prop := ∃ c, yj P (em T) op c /\ dr P n ds ls S r (bQ d c T) H V K
@[go_sem] theorem YA (d : Option Tmp) (f : Operand) (args : Array Operand) (tys : Array TypeId) (r : OT) : GF P n ds ls S d (.call ⟨.value f, args, tys⟩) r T H V K = zP P n ds ls S d (em T f) (args.toList.map (em T)) r T H V K := by
 unfold GF zP
 congr 1; funext c
 rw [DK]
@[go_sem] theorem Z7 (i : Nat) (r : OT) : dr P n ds ls S (.c i r) T H V K = bv (ls[i]?) fun o => kv o.dst n /\ GF P n ds ls S o.dst o.op r T H V K := rfl
@[go_sem] theorem Z6 (i : Nat) (b : Fl) (s : OT) (j : Nat) (b' : Fl) (t : OT) : dr P n ds ls S (.f i b s j b' t) T H V K = ((bv (ls[i]?) fun o => bS P n ds [o] T H V (zO b P n ds ls S s H K)) /\ (bv (ls[j]?) fun o => bS P n ds [o] T H V (zO b' P n ds ls S t H K))) := rfl
@[congr] theorem MJ {l : OT} (h1 : T = T') (h2 : H = H') (h3 : V = V') : dr P n ds ls S l T H V K = dr P n ds ls S l T' H' V' K := by subst h1 h2 h3; rfl
@[congr] theorem MI {ds' : List (Option Tmp)} {l : OT} (h0 : ds = ds') (h1 : T = T') (h2 : H = H') (h3 : V = V') : qN P n ds ls S l T H V K = qN P n ds' ls S l T' H' V' K := by subst h0 h1 h2 h3; rfl
@[congr] theorem OP {d : Option Tmp} {f f' : CV} {args args' : List CV} {r : OT} (h1 : T = T') (h2 : H = H') (h3 : V = V') (h4 : f = f') (h5 : args = args') : zP P n ds ls S d f args r T H V K = zP P n ds ls S d f' args' r T' H' V' K := by subst h1 h2 h3 h4 h5; rfl
end
theorem ac.drawnT {P : Program} {n id nb nv : Nat} {ops : List Oper} {Q : Exit -> Tm -> Hp -> List Nat -> Prop} {T : Tm} {H : Hp} {V : List Nat} (S l0 : List Nat) (l : OT) (hm : P.follows .mixedOrders = true) (ho : oM ops l0 l ops.length (Array.replicate ops.length false) = true)
 (h : qN P n (ops.map (·.dst)) ops S l T H V (Q .normal)) : ac P n nb nv (.region id ops.toArray true) Q T H V := ac.drawn0T l hm ho (by rw [hU]; exact h)
theorem az {P : Program} {n id nb nv : Nat} {ops : List Oper} {Q : Exit → Tm → Hp → List Nat → Prop} {T : Tm} {H : Hp} {V : List Nat} (S l0 : List Nat) (l : OT)
 (h : qN P n (ops.map (·.dst)) ops S l T H V (Q .normal)) (hm : P.follows .mixedOrders = true := by kernel_rfl) (ho : oM ops l0 l ops.length (Array.replicate ops.length false) = true := by kernel_rfl) : ac P n nb nv (.region id ops.toArray true) Q T H V := ac.drawnT S l0 l hm ho h
end
section
variable {P : Program} {m : Gh} {w : World} {H : Hp} {V : List Nat}
theorem AE {w' : World} {o : Obj} (hi : bE m w H V) (hp : bC w w' o) : bE m w' H V /\ bh m w V m w' V := by
 have hx : bh m w V m w' V := by
  refine ⟨hp.os, hp.tape, hp.output, by rw [hp.size]; omega, fun k c e fr h => ⟨c, hp.some h, rfl⟩, fun k => le_refl _, fun k o ho => ?_, fun k ds h => hp.some h, fun k hk _ _ => hp.old hk, fun _ _ h => h, fun b _ h => .inl ⟨b, h⟩, fun _ _ h => .inl h,
   fun t v h => ⟨v, h, le_refl _, fun _ => ⟨rfl, fun k hk => rfl⟩⟩⟩
  refine hp.cell ?_;rcases Nat.lt_or_ge k w.heap.size with h | h
  · exact h
  · rw [hi.lim_new h] at ho; omega
 refine ⟨⟨hi.boxlen, hi.tiplen, fun k hk => ?_, fun t k h => ?_, fun b k h => ?_, hi.uniq, fun b c h => ?_⟩, hx⟩
 · obtain ⟨c, e', fr, h1, h2⟩ := hi.limv k hk
   exact ⟨c, e', fr, hp.some h1, h2⟩
 · obtain ⟨⟨c, e', h1⟩, h2⟩ := hi.tips t k h
   exact ⟨⟨c, e', hp.some h1⟩, h2⟩
 · have := hi.boxes b k h
   rw [hp.size]; omega
 · exact (hi.live b c h).mono hx fun k hk => ⟨hp.old (hi.boxes b k hk), rfl⟩
theorem rX {tmps : Array Value} : ∀ {ks : List Nat} {cs : List CV}, jB m w V tmps ks cs -> dC m w V (ks.zip cs) tmps
 | k :: ks, c :: cs, h => fun n => by
  rw [zip_cons_cons];simp only [bt]
  by_cases hn : n = k
  · rw [if_pos hn, hn]; exact h.1
  · rw [if_neg hn]; exact rX h.2 n
 | [], [], _ => fun n => by rw [List.zip_nil_left, bt, ag]; trivial
 | [], _ :: _, h => h.elim
 | _ :: _, [], h => h.elim
theorem yV {tmps : Array Value} : ∀ {T : Tm}, (∀ p ∈ T, ag m w V p.2 (tmps.getD p.1 undef)) -> jB m w V tmps (T.map (·.1)) (T.map (·.2))
 | [], _ => trivial
 | p :: T, h => ⟨h p (by simp), yV fun q hq => h q (mem_cons_of_mem _ hq)⟩
theorem n9 : ∀ (T : Tm), (T.map (·.1)).zip (T.map (·.2)) = T
 | [] => rfl
 | p :: T => by rw [map_cons, map_cons, zip_cons_cons, n9 T]
def yD : List Nat -> List CV -> Tm -> Tm
 | p :: ps, c :: cs, T => yD ps cs ((p, c) :: T)
 | _, _, T => T
theorem yC {n : Nat} : ∀ {ps : List Nat} {cs : List CV} {us : List Value} {T : Tm} {tmps : Array Value}, dC m w V T tmps -> tmps.size = n -> (∀ p ∈ ps, p < n) -> cs.length = ps.length -> av m w V cs us →
 dC m w V (yD ps cs T) ((ps.zip us).foldl (fun tmps (t, a) => tmps.setIfInBounds t a) tmps) /\ ((ps.zip us).foldl (fun (tmps : Array Value) (t, a) => tmps.setIfInBounds t a) tmps).size = n
 | [], [], us, T, tmps, h, hn, _, _, _ => ⟨h, hn⟩
 | p :: ps, c :: cs, us, T, tmps, h, hn, hp, hl, hr => by
  rw [av] at hr;obtain ⟨u, r, rfl, h1, h2⟩ := hr;have h3 := dC.put (a := { tmps := tmps, defers := [] }) (d := some p) h h1 (by show p < tmps.size; rw [hn]; exact hp p (by simp));exact yC (tmps := tmps.setIfInBounds p u) h3 (by simp [hn]) (fun q hq => hp q (mem_cons_of_mem _ hq)) (by simpa using hl) h2
 | [], _ :: _, _, _, _, _, _, _, hl, _ => by simp at hl
 | _ :: _, [], _, _, _, _, _, _, hl, _ => by simp at hl
section
variable (n : Nat) (ps : Array Nat) (as bd : Code) (T : Tm)
def fQ (st : LoopState) (pd : Option Code) : CV := .objl st pd n ps as bd (T.map (·.1)) (T.map (·.2))
def RQ (b : Nat) (K : CV -> Hp -> List Nat -> Prop) : Exit -> Tm -> Hp -> List Nat -> Prop
 | .normal, _, H, V => H[b]? = some (some [fQ n ps as bd T .busy none]) /\ K (.v (.bool true)) (H.set b (some [fQ n ps as bd T .ready none])) V
 | .ret, _, H, V => H[b]? = some (some [fQ n ps as bd T .busy none]) /\ K (.v (.bool false)) (H.set b (some [fQ n ps as bd T .done (some .ret)])) V
 | .exit id, _, H, V => H[b]? = some (some [fQ n ps as bd T .busy none]) /\ K (.v (.bool false)) (H.set b (some [fQ n ps as bd T .done (some (.exit id))])) V
 | _, _, _, _ => False
end
theorem ji {n : Nat} {ps : Array Nat} {as bd : Code} {T : Tm} {st : LoopState} {pd : Option Code} (hi : bE m w H V) {b k : Nat} (hb : H[b]? = some (some [fQ n ps as bd T st pd])) (hk : m.box[b]? = some k) :
 ∃ tmps fn df, w.heap[k]? = some (.loop { state := st, pending := pd, fn := fn, tmps := tmps, params := ps, assign := as, body := bd, defers := df }) /\ tmps.size = n /\ dC m w V T tmps /\ jB m w V tmps (T.map (·.1)) (T.map (·.2)) := by
 cases hi.live b _ hb with
 | row k' c0 e0 g1 g2 g3 g4 g5 =>
  obtain ⟨u, _, q, _⟩ := cH g5 0 _ rfl;rw [fQ, ag] at q; exact q.elim
 | obj k' x' g1 g2 g3 =>
  rw [hk] at g1; cases g1; cases g2;obtain ⟨t, f, d, h1, h2, h3⟩ := g3;exact ⟨t, f, d, h1, h2, by have := rX h3; rwa [n9] at this, h3⟩
theorem nK {n : Nat} {ps : Array Nat} {as bd : Code} {T : Tm} {st st' : LoopState} {pd pd' : Option Code} (hi : bE m w H V) {b k : Nat} (hb : H[b]? = some (some [fQ n ps as bd T st pd])) (hk : m.box[b]? = some k) {r : Loop} (hr : w.heap[k]? = some (.loop r)) :
 bE m (w.putObj k (.loop { r with state := st', pending := pd' })) (H.set b (some [fQ n ps as bd T st' pd'])) V /\ bh m w V m (w.putObj k (.loop { r with state := st', pending := pd' })) V := by
 obtain ⟨t, f, d, h1, h2, _, h3⟩ := ji hi hb hk;rw [hr] at h1; cases h1;exact ir (y := fQ n ps as bd T st' pd') hi hb hk ⟨t, f, d, hr, h2, h3⟩ (by intros; simp) fun hx dT => ⟨t, f, d, dT, h2, h3.mono hx⟩
theorem YC.of_round {n b : Nat} {ps : Array Nat} {as bd : Code} {T : Tm} {args : List CV} {K : CV -> Hp -> List Nat -> Prop} (hb : H[b]? = some (some [fQ n ps as bd T .ready none])) (hl : args.length = ps.size) (hps : ps.toList.all (fun p => decide (p < n)) = true)
 (h : ac P n H.length V.length as (uq (fun T1 H1 V1 => H1[b]? = some (some [fQ n ps as bd T .ready none]) /\ ac P n H.length V.length bd (RQ n ps as bd T b K) T1 (H1.set b (some [fQ n ps as bd T .busy none])) V1) (fun _ _ _ _ => False)) (yD ps.toList args T) H V) : YC P b args H V K := by
 intro m w us k hi hu hk;obtain ⟨tmps, fn, df, g1, g2, g3, _⟩ := ji hi hb hk;have hus := aG hu;have hy := run_yield (P := P) (w := w) (l := k) (args := us.toArray) g1 (by simp; omega);refine ⟨fn, _, as, bd, hy, roundIn_of_wpIn (F := Fence.wide) trivial ?_⟩;obtain ⟨q1, q2⟩ := yC (n := n) (ps := ps.toList) g3 g2 (fun p hp => by simpa using all_eq_true.1 hps p hp) (by simpa using hl) hu;have hfold : ((ps.zip us.toArray).foldl (fun (tmps : Array Value) (t, a) => tmps.setIfInBounds t a) tmps) = ((ps.toList.zip us).foldl (fun tmps (t, a) => tmps.setIfInBounds t a) tmps) := by
  rw [<- Array.foldl_toList];simp [Array.toList_zip]
 have hst : St ⟨[], w.heap.size, false⟩ n m w { tmps := (ps.zip us.toArray).foldl (fun (tmps : Array Value) (t, a) => tmps.setIfInBounds t a) tmps, defers := [] } (yD ps.toList args T) H V :=
  ⟨hi, by rw [hfold]; exact q1, by rw [hfold]; exact q2, wB.own _ _⟩
 refine wpIn_mono (h (some k) _ m w _ m w V hi.boxlen hi.tiplen rfl (bh.refl m w V) hst) fun e a1 w1 ⟨T1, H1, V1, m1, k1, s1, x1⟩ => ?_
 cases e with
 | normal =>
  obtain ⟨k1, k2⟩ := k1;have hk1 := x1.box _ _ hk;obtain ⟨t1, f1, d1, r1, r2, _, r3⟩ := ji s1.inv k1 hk1;obtain ⟨i1, x2⟩ := nK (st' := .busy) (pd' := none) s1.inv k1 hk1 r1;refine ⟨_, run_beginRound r1 rfl, ?_⟩;have s2 : St ⟨[], w.heap.size, false⟩ n m1 _ a1 T1 (H1.set b (some [fQ n ps as bd T .busy none])) V1 := ⟨i1, s1.tm.mono x2, s1.size, s1.df.mono x2⟩
  refine wpIn_mono (k2 (some k) _ m1 _ a1 m w V hi.boxlen hi.tiplen rfl (x1.trans x2) s2) fun e a3 w3 ⟨T3, H3, V3, m3, k3, s3, x3⟩ => ?_;have fin : ∀ (st : LoopState) (jump : Option Code), (if jump.isNone then LoopState.ready else .done) = st -> H3[b]? = some (some [fQ n ps as bd T .busy none]) -> K (.v (.bool jump.isNone)) (H3.set b (some [fQ n ps as bd T st jump])) V3 →
   ∃ v w', (Instr.endRound k jump).run P w3 = .ok v w' /\ ∃ t m' H' V', Ending.returned v = .returned (.bool t) /\ K (.v (.bool t)) H' V' /\ bE m' w' H' V' /\ bh m w V m' w' V' := fun st jump hst hb3 hK => by
   have hk3 := x3.box _ _ hk;obtain ⟨t4, f4, d4, r4, _⟩ := ji s3.inv hb3 hk3;obtain ⟨i4, x4⟩ := nK (st' := st) (pd' := jump) s3.inv hb3 hk3 r4;have := run_endRound (P := P) jump r4;rw [hst] at this;exact ⟨_, _, this, jump.isNone, m3, _, V3, rfl, hK, i4, x3.trans x4⟩
  cases e with
  | normal => exact fin .ready none rfl k3.1 k3.2
  | ret => exact fin .done (some .ret) rfl k3.1 k3.2
  | exit id => exact fin .done (some (.exit id)) rfl k3.1 k3.2
  | _ => exact k3.elim
 | _ => exact k1.elim
section
variable {n nb nv : Nat} {T : Tm} {Q Q' : Exit -> Tm -> Hp -> List Nat -> Prop}
theorem aD {c : Code} (h : ac P n nb nv c Q T H V) : aL P n nb nv c Q T H V := fun D _ => h none D
theorem aL.mono {c : Code} (h : aL P n nb nv c Q T H V) (hq : ∀ e T H V, Q e T H V -> Q' e T H V) : aL P n nb nv c Q' T H V :=
 fun D hD m w a m0 w0 V0 h1 h2 h3 hx hs => wpIn_mono (h D hD m w a m0 w0 V0 h1 h2 h3 hx hs) fun _ _ _ ⟨T', H', V', m', k1, k2⟩ => ⟨T', H', V', m', hq _ _ _ _ k1, k2⟩
theorem aw {x y : Code} (h : aL P n nb nv x (uq (aL P n nb nv y Q) Q) T H V) : aL P n nb nv (.seq x y) Q T H V := by
 intro D hD m w a m0 w0 V0 h1 h2 h3 hx hs;refine wpIn_seq (wpIn_mono (h D hD m w a m0 w0 V0 h1 h2 h3 hx hs) fun e a' w' ⟨T', H', V', m', k1, k2, k3⟩ => ?_)
 cases e with
 | normal => exact k1 D hD m' w' a' m0 w0 V0 h1 h2 h3 k3 k2
 | _ => exact ⟨T', H', V', m', k1, k2, k3⟩
theorem aL.ghost {c : Code} {T' : Tm} {H' : Hp} {V' : List Nat} (g : cL n nb nv T H V T' H' V') (h : aL P n nb nv c Q T' H' V') : aL P n nb nv c Q T H V := by
 intro D hD m w a m0 w0 V0 h1 h2 h3 hx hs;obtain ⟨m', s1, s2⟩ := g D m w a m0 w0 V0 h1 h2 h3 hx hs;exact h D hD m' w a m0 w0 V0 h1 h2 h3 s2 s1
theorem aL.block {id : Nat} {c : Code} (h : aL P n nb nv c (DS id Q) T H V) : aL P n nb nv (.block id c) Q T H V := by
 intro D hD m w a m0 w0 V0 h1 h2 h3 hx hs;refine wpIn_block (wpIn_mono (h D hD m w a m0 w0 V0 h1 h2 h3 hx hs) fun e a' w' ⟨T', H', V', m', k1, k2⟩ => ?_)
 cases e with
 | exit id' =>
  simp only [DS] at k1;simp only [Exit.inBlock]
  split
  · rename_i hid; rw [if_pos hid] at k1; exact ⟨T', H', V', m', k1, k2⟩
  · rename_i hid; rw [if_neg hid] at k1; exact ⟨T', H', V', m', k1, k2⟩
 | _ => exact ⟨T', H', V', m', k1, k2⟩
theorem aL.join {x y : Code} {α : Type} (S : α -> Tm × Hp × List Nat) (ok : α -> Prop)
 (h1 : aL P n nb nv x (uq (fun T H V => ∃ s, ok s /\ Sh n nb nv T H V (S s)) Q) T H V) (h2 : ∀ s, ok s -> aL P n nb nv y Q (S s).1 (S s).2.1 (S s).2.2) : aL P n nb nv (.seq x y) Q T H V :=
 aw (h1.mono fun e T H V k => by
  cases e with
  | normal => obtain ⟨s, k1, k2⟩ := k; exact aL.ghost k2 (h2 s k1)
  | _ => exact k)
def RP (n : Nat) (ps : Array Nat) (as bd : Code) (T0 : Tm) (b : Nat) (Q : Exit -> Tm -> Hp -> List Nat -> Prop) (T : Tm) : CV -> Hp -> List Nat -> Prop := fun _ H V =>
 (H[b]? = some (some [fQ n ps as bd T0 .ready none]) /\ Q .normal T (H.set b none) V) ∨
 (H[b]? = some (some [fQ n ps as bd T0 .done (some .ret)]) /\ Q .ret T (H.set b none) V) ∨
 ∃ id, H[b]? = some (some [fQ n ps as bd T0 .done (some (.exit id))]) /\ Q (.exit id) T (H.set b none) V
theorem tc (H : Hp) (b : Nat) (x : Option (List CV)) : (H.set b x).set b none = H.set b none := by rw [set_set]
theorem aL.range {g : Operand} {ps : Array Nat} {as bd : Code} (T0 : Tm) {f : Nat} {caps : List CV} (hg : em T g = .fn f caps) (hT : oT T T0)
 (h : CC P f (.yl H.length :: caps) (H ++ [some [fQ n ps as bd T0 .ready none]]) V (RP n ps as bd T0 H.length Q T)) : aL P n nb nv (.rangeFunc g ps as bd) Q T H V := by
 intro D hD m w a m0 w0 V0 h1 h2 h3 hx hs;refine wpIn_rangeFunc (F := g8 none) fun fn _ => ?_;have ef := fw hs.tm g;rw [hg, ag] at ef;obtain ⟨us, eu, hr⟩ := ef;obtain ⟨⟨fnn, f1, f2, f3⟩, hc⟩ := h;have hp1 := bC.alloc w (.deferred (some []));obtain ⟨i1, x1⟩ := AE hs.inv hp1;have hp2 := bC.alloc (w.alloc (.deferred (some []))) (.loop { state := .ready, pending := none, fn := fn, tmps := a.tmps, params := ps, assign := as, body := bd, defers := w.heap.size });have hsz1 : (w.alloc (.deferred (some []))).heap.size = w.heap.size + 1 := hp1.size;have hst2 := pD (x := fQ n ps as bd T0 .ready none) i1 hp2 (fun hxx => ⟨a.tmps, fn, w.heap.size, hp2.new, hs.size, yV fun p hp => by
  have e := oT.get hT p hp;exact ag.mono hxx _ _ (ag.mono x1 _ _ (Le.rel e (hs.tm p.1)))⟩)
 obtain ⟨m1, hk0, i2, x2⟩ : ∃ m1 : Gh, m1.box[H.length]? = some (w.heap.size + 1) /\ bE m1 ((w.alloc (.deferred (some []))).alloc (.loop { state := .ready, pending := none, fn := fn, tmps := a.tmps, params := ps, assign := as, body := bd, defers := w.heap.size })) (H ++ [some [fQ n ps as bd T0 .ready none]]) V ∧
  bh m (w.alloc (.deferred (some []))) V m1 ((w.alloc (.deferred (some []))).alloc (.loop { state := .ready, pending := none, fn := fn, tmps := a.tmps, params := ps, assign := as, body := bd, defers := w.heap.size })) V :=
  ⟨_, by rw [<- hsz1, <- i1.boxlen]; exact List.getElem?_concat_length, hst2.1, hst2.2⟩
 have x12 := x1.trans x2;have hyl : ag m1 ((w.alloc (.deferred (some []))).alloc (.loop { state := .ready, pending := none, fn := fn, tmps := a.tmps, params := ps, assign := as, body := bd, defers := w.heap.size })) V (.yl H.length) (.func (.yield (w.heap.size + 1)) #[] #[]) := by
  rw [ag];exact ⟨w.heap.size + 1, hk0, rfl⟩
 have fm := hc m1 _ (.func (.yield (w.heap.size + 1)) #[] #[] :: us) i2 (by rw [av]; exact ⟨_, _, rfl, hyl, av.mono x12 _ _ hr⟩);have hb' : ¬ fnn.body = none := by cases hbb : fnn.body <;> simp_all
 have f3' : ¬ fnn.name = "runtime.NumGoroutine" := by simpa using f3
 refine ⟨w.heap.size + 1, [KM w.heap.size], ((w.alloc (.deferred (some []))).alloc (.loop { state := .ready, pending := none, fn := fn, tmps := a.tmps, params := ps, assign := as, body := bd, defers := w.heap.size })), { target := .fn (.func f) us.toArray, args := #[.func (.yield (w.heap.size + 1)) #[] #[]] }, ((w.alloc (.deferred (some []))).alloc (.loop { state := .ready, pending := none, fn := fn, tmps := a.tmps, params := ps, assign := as, body := bd, defers := w.heap.size })), f, (Value.func (.yield (w.heap.size + 1)) #[] #[] :: us).toArray, ((w.alloc (.deferred (some []))).alloc (.loop { state := .ready, pending := none, fn := fn, tmps := a.tmps, params := ps, assign := as, body := bd, defers := w.heap.size })), run_enterLoop_outer fn a.tmps ps as bd, ?_, fun _ _ => trivial, ?_, fun h => (by cases h), ?_⟩
 · have e0 : a.eval (.const (.func (.yield (w.heap.size + 1)) #[] #[])) = .func (.yield (w.heap.size + 1)) #[] #[] := rfl
   simp [resolve, eu, e0, Deferred.ofValue]
 · simp [invoke, callFunc, f1, f3', hb']
 · refine iG.2 (Calls.mono fm fun e w3 ⟨u, m3, r, H3, V3, q1, q2, q3, q4, q5⟩ => ?_)
   subst q1;have hk3 := q5.box _ _ hk0;have xx := x12.trans q5;have done : ∀ (st : LoopState) (pd : Option Code), st ≠ .busy -> H3[H.length]? = some (some [fQ n ps as bd T0 st pd]) →
    ∃ w4, (Instr.endLoop (w.heap.size + 1)).run P w3 = .ok pd w4 /\ St D n m3 w4 { a with defers := [KM w.heap.size] ++ a.defers } T (H3.set H.length none) V3 /\ bh m w V m3 w4 V3 := fun st pd hst hb3 => by
    obtain ⟨t4, f4, d4, r4, _⟩ := ji q3 hb3 hk3;obtain ⟨i4, x4⟩ := nK (st' := .exhausted) (pd' := pd) q3 hb3 hk3 r4;have hk := i4.kill H.length;rw [tc] at hk;refine ⟨_, run_endLoop r4 hst, ⟨hk, (hs.tm.mono xx).mono x4, hs.size, ?_⟩, xx.trans x4⟩;obtain ⟨d1, ms, d2, d3, d4⟩ := hs.df;refine ⟨Nat.le_trans d1 (xx.trans x4).size, w.heap.size :: ms, by simp [d2], ⟨List.nodup_cons.2 ⟨fun hm => ?_, d3.1⟩, fun e => by rw [hD] at e; cases e⟩, fun r hr => ?_⟩
    · have := (Array.getElem?_eq_some_iff.1 (d4 _ hm).2).1
      omega
    · rcases mem_cons.1 hr with rfl | hr
      · refine ⟨d1, (q5.trans x4).dfr _ _ (x2.dfr _ _ hp1.new)⟩
      · exact ⟨(d4 r hr).1, (xx.trans x4).dfr _ _ (d4 r hr).2⟩
   rcases q2 with ⟨p1, p2⟩ | ⟨p1, p2⟩ | ⟨id, p1, p2⟩
   · obtain ⟨w4, e1, e2, e3⟩ := done .ready none (by decide) p1
     exact ⟨none, w4, e1, T, _, V3, m3, p2, e2, hx.trans e3⟩
   · obtain ⟨w4, e1, e2, e3⟩ := done .done (some .ret) (by decide) p1
     exact ⟨some .ret, w4, e1, wpIn_ret ⟨T, _, V3, m3, p2, e2, hx.trans e3⟩⟩
   · obtain ⟨w4, e1, e2, e3⟩ := done .done (some (.exit id)) (by decide) p1
     exact ⟨some (.exit id), w4, e1, wpIn_exit ⟨T, _, V3, m3, p2, e2, hx.trans e3⟩⟩
end
end
section
variable {P : Program}
theorem d7 {l2 : List Oper} {ro : Option Nat} {D : Dl} {n : Nat} {ops : List Oper} {K : Tm -> Hp -> List Nat -> Prop} {Q : Exit -> Act -> World -> Prop} : ∀ (l : List Oper) {a : Act} {m : Gh} {w : World} {T : Tm} {H : Hp} {V : List Nat}, St D n m w a T H V -> crun P n ops l T H V K →
 (∀ T' H' V' a' w' m', K T' H' V' -> St D n m' w' a' T' H' V' -> bh m w V m' w' V' -> wpListIn (g8 ro) 0 P ops.toArray Q l2 a' w') -> wpListIn (g8 ro) 0 P ops.toArray Q (l ++ l2) a w
 | [], a, m, w, T, H, V, hs, h, hK => hK T H V a w m h hs (bh.refl m w V)
 | o :: rest, a, m, w, T, H, V, hs, h, hK => by
  have run : ∀ T0, dC m w V T0 a.tmps -> kv o.dst n -> cx P (em T0) H V (fun c H' V' => crun P n ops rest (bQ o.dst c T0) H' V' K) o.op -> o.wpIn (g8 ro) 0 P a w (wpListIn (g8 ro) 0 P ops.toArray Q (rest ++ l2)) Q := by
   intro T0 ht hd hc;refine nX (P := P) hs.inv (fun x => fw ht x) hc fun c H' V' u m' w' h1 h2 h3 h4 => ?_;refine d7 rest (T := bQ o.dst c T0) (m := m') ⟨h2, (ht.mono h4).put h3 (by rw [hs.size]; exact hd), by rw [cg]; exact hs.size, by rw [bu]; exact hs.df.mono h4⟩ h1 (fun T' H' V' a' w' m' k1 k2 k3 => hK T' H' V' a' w' m' k1 k2 (h4.trans k3))
  have skip : ∀ T0, dC m w V T0 a.tmps -> kv o.dst n -> crun P n ops rest (bQ o.dst (.v undef) T0) H V K -> wpListIn (g8 ro) 0 P ops.toArray Q (rest ++ l2) (a.put o.dst undef) w := by
   intro T0 ht hd hc;exact d7 rest (T := bQ o.dst (.v undef) T0) (m := m) ⟨hs.inv, ht.put (by rw [ag]) (by rw [hs.size]; exact hd), by rw [cg]; exact hs.size, by rw [bu]; exact hs.df⟩ hc hK
  rw [cons_append];unfold wpListIn;rw [crun] at h
  cases hg : o.guard with
  | none =>
   simp only [hg] at h;rw [if_pos (by simp [Region.wanted, hg])];exact run T hs.tm h.1 h.2
  | some jw =>
   obtain ⟨j, want⟩ := jw;simp only [hg] at h;obtain ⟨hd, h⟩ := h
   cases hj : kE ops j with
   | none => simp only [hj] at h
   | some g =>
    simp only [hj] at h;have hy := lB ops a.tmps j;rw [hj, Option.bind_some] at hy;have ht := hs.tm g;unfold nY at h
    split at h
    · rename_i b hb
      rw [hb, ag] at ht;have aC : a.tmps[g]? = some (.bool b) := by
       cases hq : a.tmps[g]? with
       | none => simp [hq] at ht; cases ht
       | some x => simp [hq] at ht; rw [ht]
      rw [aC] at hy;simp only at hy;have hw : Region.wanted o (yielded ops.toArray a.tmps) = (b == want) := by
       simp [Region.wanted, hg, hy]
      rw [hw]
      by_cases hbw : b = want
      · subst hbw
        rw [if_pos (by simp)];exact run _ (hs.tm.known (by rw [ag]; exact ht)) hd (h.1 rfl)
      · rw [if_neg (by simpa using hbw)]
        have hb2 : b = !want := by cases b <;> cases want <;> simp_all
        have h3 := h.2 hb2;rw [hb] at h3;exact ⟨fun _ _ => trivial, skip _ (hs.tm.known (by rw [ag, <- hb2]; exact ht)) hd h3⟩
    · rename_i vs hb
      rw [hb, ag] at ht;have hw : Region.wanted o (yielded ops.toArray a.tmps) = false := by
       have : yielded ops.toArray a.tmps j = none := by
        rw [hy]
        cases hq : a.tmps[g]? with
        | none => rfl
        | some x => simp [hq] at ht; subst ht; rfl
       simp [Region.wanted, hg, this]
      rw [hw, if_neg (by simp)];rw [hb] at h;exact ⟨fun _ _ => trivial, skip _ hs.tm hd h⟩
    · exact h.elim
def O0 (P : Program) (o : Oper) (ev : Operand -> CV) (H : Hp) (V : List Nat) (c : CV) (H' : Hp) (V' : List Nat) : Prop :=
 ∀ (m : Gh) (w : World) (a : Act), bE m w H V -> (∀ x, ag m w V (ev x) (a.eval x)) →
  ∃ u w' m', (execOp a.eval o).run P w = .ok (.value u) w' /\ bE m' w' H' V' /\ ag m' w' V' c u /\ bh m w V m' w' V'
section
variable {n nb nv id : Nat} {Q : Exit -> Tm -> Hp -> List Nat -> Prop} {T : Tm} {H : Hp} {V : List Nat}
theorem ac.opx {pre post : List Oper} {o : Oper} (hg : o.guard = none) (hnd : ∀ c, o.op ≠ .defer c)
 (h : gC P n ((pre ++ o :: post).map (·.dst)) pre T H V fun T H V => kv o.dst n /\ ∃ c H' V', O0 P o (em T) H V c H' V' /\ sG P n ((pre ++ o :: post).map (·.dst)) o.dst post T (Q .normal) c H' V') :
 ac P n nb nv (.region id (pre ++ o :: post).toArray false) Q T H V := by
 intro ro D m w a m0 w0 V0 h1 h2 h3 hx hs;generalize hops : pre ++ o :: post = ops at h ⊢;rw [gC, <- bF] at h;refine wpIn_region_list ?_;have e : ops.toArray.toList = pre ++ (o :: post) := by rw [hops]
 rw [e];refine d7 (P := P) (ro := ro) (Q := fun e a' w' => ∃ T' H' V' m', Q e T' H' V' /\ St D n m' w' a' T' H' V' /\ bh m0 w0 V0 m' w' V') pre hs h fun T1 H1 V1 a1 w1 m1 ⟨hd, c, H', V', hk, hq⟩ s1 x1 => ?_;unfold wpListIn;rw [if_pos (by simp [Region.wanted, hg])];obtain ⟨u, w', m', q1, q2, q3, q4⟩ := hk m1 w1 a1 s1.inv (fun x => fw s1.tm x);refine dL hnd q1 ?_;have hq : bS P n (ops.map (·.dst)) post (bQ o.dst c T1) H' V' (Q .normal) := hq;rw [<- bF] at hq;have hst : St D n m' w' (a1.put o.dst u) (bQ o.dst c T1) H' V' := ⟨q2, (dC.mono q4 s1.tm).put q3 (by rw [s1.size]; exact hd), by rw [cg]; exact s1.size, by rw [bu]; exact s1.df.mono q4⟩
 exact fH (P := P) (ro := ro) (Q := fun e a' w' => ∃ T' H' V' m', Q e T' H' V' /\ St D n m' w' a' T' H' V' /\ bh m0 w0 V0 m' w' V') post hst hq fun T' H' V' a' w' m' k1 k2 k3 => ⟨T', H', V', m', k1, k2, (hx.trans x1).trans (q4.trans k3)⟩
end
theorem mc {d : Option Tmp} {t tx ty : TypeId} {pos : String} {after : Array Edge} {x y : Operand} {ev : Operand -> CV} {H : Hp} {V : List Nat} {sz szx : Nat} {e ex : TypeId} {tk : Tk} {ys : List (List CV)} (ht : aZ P t = some (e, sz)) (htx : aZ P tx = some (ex, szx))
 (hx : ev x = .sl .ti sz []) (hy : ev y = .sl tk sz ys) (hn : ys ≠ []) (hl : ys.length <= 1099511627776) :
 O0 P ⟨d, .call ⟨.builtin .append, #[x, y], #[t, tx]⟩, ty, pos, after, none⟩ ev H V (.bsa H.length ys.length sz) (H ++ [some ys.flatten]) V := by
 intro m w a hi hev;obtain ⟨i, z, hu, dO, hsz, bY, hb0, hb1, hz, hzs⟩ := ba ht;obtain ⟨ys', news, hK, oF, hnews, aT⟩ := mT (K := fun q => q = ys) htx bY hi (hev y) (by rw [hy]; exact ⟨rfl, rfl⟩);subst hK;subst hsz;have hnl := oF.newsLen;have hxr := hev x;rw [hx, ag] at hxr;obtain ⟨base, cap, hxe, hcap, htk, _, _⟩ := hxr;have hc0 : cap = 0 := htk;subst hc0;have hy0 : 0 < ys'.length := length_pos_iff.2 hn;have ho : (Builtin.firstCells i.size 0 (.slice base 0 0)).run P w.drew = .ok (#[] : Array Value) w.drew := by
  cases base with
  | none => exact run_firstCells_none w.drew i.size 0 0 0
  | some a => exact run_firstCells_some w.drew i.size 0 a 0 0 [] (by simp) (by simp)
 have hfit : (0 + ys'.length) * i.bytes <= 140737488355328 := by
  have := Nat.mul_le_mul (show 0 + ys'.length <= 1099511627776 by omega) hb1;omega
 have hg : 0 < 0 + ys'.length := by omega
 have iF := run_append_grow_src (P := P) w t tx ty e i z hu dO hz base 0 0 [] ho (a.eval y) ys'.length news oF hg (by omega) (growslice_fits hg hfit);have hp := bC.drewAlloc w (.cells (([] ++ news).toArray ++ Builtin.zeroCells z.cells (grownCap w (0 + ys'.length) 0 e - (0 + ys'.length))) e);have hcapg := grownCap_ge w (0 + ys'.length) 0 e;obtain ⟨s1, s2⟩ := ni (vs := news) (by simp) (fun j hj => by rw [Array.getElem?_append_left (by simpa using hj)]; simp) hi hp hnews oF.one;refine ⟨Value.slice (some ⟨w.heap.size, 0, none⟩) (0 + ys'.length) (grownCap w (0 + ys'.length) 0 e), _, _, ?_, s1, ?_, s2⟩
 · simp [execOp, resolve, invoke, builtin, hxe, iF]
 · rw [ag]
   refine ⟨w.heap.size, grownCap w (0 + ys'.length) 0 e, _, e, congrArg (fun q => Value.slice (some ⟨w.heap.size, 0, none⟩) q _) (Nat.zero_add _), Nat.le_trans (by omega) hcapg, bY, ?_, hp.new, ?_⟩
   · show (m.box ++ [w.heap.size])[H.length]? = _
     rw [<- hi.boxlen]; simp
   · rw [Array.size_append]
     simp only [nil_append, size_toArray, hnl];rw [size_zeroCells, hzs, <- Nat.add_mul];exact Nat.mul_le_mul_right _ (by omega)
end
section
def aa7 (P : Program) (g k : Nat) : Prop := (∃ fn, P.funcs[g]? = some fn /\ fn.body.isSome = true /\ (fn.name == "runtime.NumGoroutine") = false) ∧
 ∀ (us : Array Value) (w : World), us.size = k -> CallsD P g us .returning w fun e u' w' => (∃ v, e = .returned v) /\ u' = .returning /\ w' = w
def CX (P : Program) (f : FuncId) (args : List CV) (H : Hp) (V : List Nat) (K : CV -> Hp -> List Nat -> Prop) (E : List PanicEntry -> Hp -> List Nat -> Prop) : Prop :=
 (∃ fn, P.funcs[f]? = some fn /\ fn.body.isSome = true /\ (fn.name == "runtime.NumGoroutine") = false) ∧
 ∀ (m : Gh) (w : World) (us : List Value), bE m w H V -> av m w V args us →
  Calls P f us.toArray w fun e w' => (∃ u m' r H' V', e = .returned u /\ K r H' V' /\ bE m' w' H' V' /\ ag m' w' V' r u /\ bh m w V m' w' V') ∨
   (∃ ch m' H' V', e = .panicked ch /\ E ch H' V' /\ bE m' w' H' V' /\ bh m w V m' w' V')
theorem CX.mono {P : Program} {f : FuncId} {args : List CV} {H : Hp} {V : List Nat} {K K' : CV -> Hp -> List Nat -> Prop} {E E' : List PanicEntry -> Hp -> List Nat -> Prop} (h : CX P f args H V K E) (hk : ∀ r H V, K r H V -> K' r H V) (he : ∀ c H V, E c H V -> E' c H V) : CX P f args H V K' E' :=
 ⟨h.1, fun m w us hi hu => (h.2 m w us hi hu).mono fun _ _ h => h.elim (fun ⟨u, m', r, H', V', h1, h2, h3⟩ => .inl ⟨u, m', r, H', V', h1, hk _ _ _ h2, h3⟩) (fun ⟨c, m', H', V', h1, h2, h3⟩ => .inr ⟨c, m', H', V', h1, he _ _ _ h2, h3⟩)⟩
def kD (P : Program) (H : Hp) (V : List Nat) (K : CV -> Hp -> List Nat -> Prop) (E : List PanicEntry -> Hp -> List Nat -> Prop) : CV -> List CV -> Prop
 | .fn g caps, args => CX P g (args ++ caps) H V K E
 | _, _ => False
@[go_sem] theorem S0 (P : Program) (H : Hp) (V : List Nat) (K : CV -> Hp -> List Nat -> Prop) (E : List PanicEntry -> Hp -> List Nat -> Prop) (g : Nat) (caps args : List CV) : kD P H V K E (.fn g caps) args = CX P g (args ++ caps) H V K E := id rfl
section
variable {P : Program} {n nb nv id : Nat} {Q : Exit -> Tm -> Hp -> List Nat -> Prop} {T : Tm} {H : Hp} {V : List Nat}
theorem ac.callx {pre post : List Oper} {d : Option Tmp} {ty : TypeId} {pos : String} {after : Array Edge} {f : Operand} {args : Array Operand} {tys : Array TypeId}
 (h : gC P n ((pre ++ ⟨d, .call ⟨.value f, args, tys⟩, ty, pos, after, none⟩ :: post).map (·.dst)) pre T H V fun T H V => kv d n ∧
  kD P H V (sG P n ((pre ++ ⟨d, .call ⟨.value f, args, tys⟩, ty, pos, after, none⟩ :: post).map (·.dst)) d post T (Q .normal)) (fun ch H' V' => Q (.panic ch) T H' V') (em T f) (args.toList.map (em T))) :
 ac P n nb nv (.region id (pre ++ ⟨d, .call ⟨.value f, args, tys⟩, ty, pos, after, none⟩ :: post).toArray false) Q T H V := by
 intro ro D m w a m0 w0 V0 h1 h2 h3 hx hs;generalize hops : pre ++ ⟨d, .call ⟨.value f, args, tys⟩, ty, pos, after, none⟩ :: post = ops at h ⊢;rw [gC, <- bF] at h;refine wpIn_region_list ?_;have e : ops.toArray.toList = pre ++ (⟨d, .call ⟨.value f, args, tys⟩, ty, pos, after, none⟩ :: post) := by rw [hops]
 rw [e];refine d7 (P := P) (Q := fun e a' w' => ∃ T' H' V' m', Q e T' H' V' /\ St D n m' w' a' T' H' V' /\ bh m0 w0 V0 m' w' V') pre hs h fun T1 H1 V1 a1 w1 m1 ⟨hd, hk⟩ s1 x1 => ?_;unfold wpListIn;rw [if_pos (by simp [Region.wanted])];have hev : ∀ x : Operand, ag m1 w1 V1 (em T1 x) (a1.eval x) := fun x => fw s1.tm x;unfold kD at hk
 split at hk
 · rename_i l g caps hf
   have ef := hev f;rw [hf, ag] at ef;obtain ⟨us, eu, hr⟩ := ef;obtain ⟨⟨fn, f1, f2, f3⟩, hc⟩ := hk;have hargs := cf (fW hev args.toList) hr;have fm := hc m1 w1 _ s1.inv hargs;have iF : (execOp a1.eval ⟨d, .call ⟨.value f, args, tys⟩, ty, pos, after, none⟩).run P w1 = .ok (.enter g (args.toList.map a1.eval ++ us).toArray) w1 := by
    have hb : ¬ fn.body = none := by cases hbb : fn.body <;> simp_all
    have f3' : ¬ fn.name = "runtime.NumGoroutine" := by simpa using f3
    have hfa : args.map a1.eval ++ us.toArray = (args.toList.map a1.eval ++ us).toArray := by
     rw [<- Array.toList_map]; simp
    simp [execOp, resolve, eu, Deferred.ofValue, invoke, callFunc, f1, f3', hb, hfa]
   refine ⟨fun _ _ => trivial, ?_⟩;rw [Oper.semAt_eq _ _ _ (by intro c e; cases e), iF, Oper.uponIn_enter];refine ⟨(fun h => by cases h), iG.2 (Calls.mono fm fun e w' he => ?_)⟩;rcases he with ⟨u, m', r, H', V', q1, q2, q3, q4, q5⟩ | ⟨ch, m', H', V', q1, q2, q3, q4⟩
   · subst q1
     have q2 : bS P n (ops.map (·.dst)) post (bQ d r T1) H' V' (Q .normal) := q2;rw [<- bF] at q2;have hst : St D n m' w' (a1.put d u) (bQ d r T1) H' V' := ⟨q3, (dC.mono q5 s1.tm).put q4 (by rw [s1.size]; exact hd), by rw [cg]; exact s1.size, by rw [bu]; exact s1.df.mono q5⟩
     exact fH (P := P) (Q := fun e a' w' => ∃ T' H' V' m', Q e T' H' V' /\ St D n m' w' a' T' H' V' /\ bh m0 w0 V0 m' w' V') post hst q2 fun T' H' V' a' w' m' k1 k2 k3 => ⟨T', H', V', m', k1, k2, (hx.trans x1).trans (q5.trans k3)⟩
   · subst q1
     exact ⟨T1, H', V', m', q2, ⟨q3, dC.mono q4 s1.tm, s1.size, s1.df.mono q4⟩, (hx.trans x1).trans q4⟩
 · exact hk.elim
end
variable {P : Program}
def RtX (P : Program) (nb nv : Nat) (res : List ResultVar) (R : CV -> Hp -> List Nat -> Prop) (E : List PanicEntry -> Hp -> List Nat -> Prop) : Exit -> Tm -> Hp -> List Nat -> Prop
 | .ret, T, H, V => eh P res T H fun cs => ao nb nv R (one cs) H V
 | .normal, T, H, V => eh P res T H fun cs => ao nb nv R (one cs) H V
 | .panic ch, _, H, V => E ch H V
 | _, _, _, _ => False
def CD (P : Program) (g : FuncId) (caps : List CV) (ch : List PanicEntry) (H : Hp) (V : List Nat) (K : Hp -> List Nat -> Prop) : Prop :=
 (∃ fn, P.funcs[g]? = some fn /\ fn.body.isSome = true /\ (fn.name == "runtime.NumGoroutine") = false) ∧
 ∀ (m : Gh) (w : World) (us : List Value), bE m w H V -> av m w V caps us →
  CallsD P g us.toArray (.panicking ch) w fun e u' w' => (∃ v, e = .returned v) /\ settle u' = .returning /\ ∃ m' H' V', K H' V' /\ bE m' w' H' V' /\ bh m w V m' w' V'
theorem CD.mono {g : FuncId} {caps : List CV} {ch : List PanicEntry} {H : Hp} {V : List Nat} {K K' : Hp -> List Nat -> Prop} (h : CD P g caps ch H V K) (hk : ∀ H V, K H V -> K' H V) : CD P g caps ch H V K' :=
 ⟨h.1, fun m w us hi hu => (h.2 m w us hi hu).mono fun _ _ _ ⟨h1, h2, m', H', V', h3, h4⟩ => ⟨h1, h2, m', H', V', hk _ _ h3, h4⟩⟩
def RtD (P : Program) (nb nv : Nat) (res : List ResultVar) (R : CV -> Hp -> List Nat -> Prop) (g : FuncId) (caps : List CV) : Exit -> Tm -> Hp -> List Nat -> Prop
 | .ret, T, H, V => eh P res T H fun cs => ao nb nv R (one cs) H V
 | .normal, T, H, V => eh P res T H fun cs => ao nb nv R (one cs) H V
 | .panic ch, T, H, V => CD P g caps ch H V fun H' V' => eh P res T H' fun cs => ao nb nv R (one cs) H' V'
 | _, _, _, _ => False
section
variable {nb nv : Nat} {T T' : Tm} {H H' : Hp} {V V' : List Nat} {res : List ResultVar} {R : CV -> Hp -> List Nat -> Prop} {E : List PanicEntry -> Hp -> List Nat -> Prop} {g : FuncId} {caps : List CV} {ch : List PanicEntry}
@[go_sem] theorem aeo : RtX P nb nv res R E .ret T H V = eh P res T H fun cs => ao nb nv R (one cs) H V := rfl
@[go_sem] theorem RS : RtX P nb nv res R E .normal T H V = eh P res T H fun cs => ao nb nv R (one cs) H V := rfl
@[go_sem] theorem VW : RtX P nb nv res R E (.panic ch) T H V = E ch H V := rfl
@[go_sem] theorem aeq : RtD P nb nv res R g caps .ret T H V = eh P res T H fun cs => ao nb nv R (one cs) H V := rfl
@[go_sem] theorem RU : RtD P nb nv res R g caps .normal T H V = eh P res T H fun cs => ao nb nv R (one cs) H V := rfl
@[go_sem] theorem VY : RtD P nb nv res R g caps (.panic ch) T H V = CD P g caps ch H V fun H' V' => eh P res T H' fun cs => ao nb nv R (one cs) H' V' := rfl
@[congr] theorem abd {f : FuncId} {args args' : List CV} {K : CV -> Hp -> List Nat -> Prop} (h1 : args = args') (h2 : H = H') (h3 : V = V') : CX P f args H V K E = CX P f args' H' V' K E := by subst h1 h2 h3; rfl
@[congr] theorem abe {caps' : List CV} {K : Hp -> List Nat -> Prop} (h1 : caps = caps') (h2 : H = H') (h3 : V = V') : CD P g caps ch H V K = CD P g caps' ch H' V' K := by subst h1 h2 h3; rfl
@[congr] theorem LD {f f' : CV} {args args' : List CV} {K : CV -> Hp -> List Nat -> Prop} (h1 : f = f') (h2 : args = args') (h3 : H = H') (h4 : V = V') : kD P H V K E f args = kD P H' V' K E f' args' := by subst h1 h2 h3 h4; rfl
end
@[go_sem ↓] theorem R6 {N : Tm -> Hp -> List Nat -> Prop} {Q : Exit -> Tm -> Hp -> List Nat -> Prop} {ch : List PanicEntry} : uq N Q (.panic ch) = Q (.panic ch) := rfl
@[go_sem ↓] theorem VO {id : Nat} {Q : Exit -> Tm -> Hp -> List Nat -> Prop} {ch : List PanicEntry} : DS id Q (.panic ch) = Q (.panic ch) := rfl
theorem ac.condT {n nb nv : Nat} {c : Operand} {x y : Code} {Q : Exit -> Tm -> Hp -> List Nat -> Prop} {T : Tm} {H : Hp} {V : List Nat} (hc : em T c = .v (.bool true)) (h : ac P n nb nv x Q T H V) : ac P n nb nv (.cond c x y) Q T H V := fun ro D m w a m0 w0 V0 h1 h2 h3 hx hs => by
 have := fw hs.tm c;rw [hc, ag] at this;exact wpIn_cond_split this (fun _ => h ro D m w a m0 w0 V0 h1 h2 h3 hx hs) (fun e => by cases e)
theorem ac.condF {n nb nv : Nat} {c : Operand} {x y : Code} {Q : Exit -> Tm -> Hp -> List Nat -> Prop} {T : Tm} {H : Hp} {V : List Nat} (hc : em T c = .v (.bool false)) (h : ac P n nb nv y Q T H V) : ac P n nb nv (.cond c x y) Q T H V := fun ro D m w a m0 w0 V0 h1 h2 h3 hx hs => by
 have := fw hs.tm c;rw [hc, ag] at this;exact wpIn_cond_split this (fun e => by cases e) (fun _ => h ro D m w a m0 w0 V0 h1 h2 h3 hx hs)
theorem st0 {n : Nat} {args : List CV} {us : List Value} {m : Gh} {w : World} {H : Hp} {V : List Nat} (hi : bE m w H V) (hu : av m w V args us) (ha : args.length <= n) : St ⟨[], w.heap.size, true⟩ n m w { tmps := us.toArray ++ Array.replicate (n - us.toArray.size) undef, defers := [] } (ai 0 args) H V := by
 have hl := aG hu;refine ⟨hi, fun k => ?_, by simp [hl]; omega, wB.own _ _⟩;rw [n0];simp only [zero_le, if_true, Nat.sub_zero]
 cases hk : args[k]? with
 | none => rw [Option.getD_none, ag]; trivial
 | some c =>
  obtain ⟨u, h1, h2⟩ := dn hu k c hk;have : (us.toArray ++ Array.replicate (n - us.toArray.size) undef).getD k undef = u := by
   have hlt := (List.getElem?_eq_some_iff.1 h1).1;simp only [Array.getD_eq_getD_getElem?];rw [Array.getElem?_append_left (by simpa using hlt)];simp [h1]
  rw [this]; exact h2
theorem tL {nb nv : Nat} {R : CV -> Hp -> List Nat -> Prop} {rs : List ResultVar} {D : Dl} {n : Nat} {fn : Func} {a' : Act} {m m' : Gh} {w w' : World} {V V' : List Nat} {T' : Tm} {H' : Hp} (hrs : rs = fn.results.toList) (hb : m.box.length = nb) (hv : m.tip.length = nv) (hV : V.length = nv) (k2 : St D n m' w' a' T' H' V') (k3 : bh m w V m' w' V')
 (hk : eh P rs T' H' (fun cs => ao nb nv R (one cs) H' V')) : ∃ v, (results fn a'.tmps).run P w' = .ok v w' /\ ∃ u m' r H' V', Ending.returned v = Ending.returned u /\ R r H' V' /\ bE m' w' H' V' /\ ag m' w' V' r u /\ bh m w V m' w' V' := by
 subst hrs;obtain ⟨cs, u, q1, q2, r', H2, V2, q3, q4⟩ := ol k2.inv k2.tm hk;refine ⟨u, q1, ?_⟩;have hst2 : St ⟨[], w'.heap.size, true⟩ 1 m' w' { tmps := #[u], defers := [] } [(0, one cs)] H' V' := by
  refine ⟨k2.inv, fun k => ?_, rfl, wB.own _ _⟩;simp only [bt]
  by_cases hk : k = 0
  · subst hk; rw [if_pos rfl]; exact q2
  · rw [if_neg hk, ag]; trivial
 obtain ⟨m2, s1, s2⟩ := q3 _ m' w' { tmps := #[u], defers := [] } m w V hb hv hV k3 hst2;refine ⟨u, m2, r', H2, V2, rfl, q4, s1.inv, ?_, s2⟩;have := s1.tm 0
 simpa [bt] using this
theorem CX.of_swp {f : FuncId} {fn : Func} {c : Code} {args : List CV} {H : Hp} {V : List Nat} {R : CV -> Hp -> List Nat -> Prop} {E : List PanicEntry -> Hp -> List Nat -> Prop} (hf : P.funcs[f]? = some fn) (hb : fn.body = some c) (hn : (fn.name == "runtime.NumGoroutine") = false) (ha : args.length <= fn.ntmps)
 (h : okL H.length V.length args -> (∀ (b : Nat) cs, H[b]? = some (some cs) -> okL H.length V.length cs) -> ac P fn.ntmps H.length V.length c (RtX P H.length V.length fn.results.toList R E) (ai 0 args) H V) : CX P f args H V R E := by
 refine ⟨⟨fn, hf, by rw [hb]; rfl, hn⟩, fun m w us hi hu => ?_⟩;have hok : okL H.length V.length args := by rw [<- hi.boxlen]; exact av.ok args us hu
 have oH : ∀ (b : Nat) cs, H[b]? = some (some cs) -> okL H.length V.length cs := fun b cs hbc => by
  rw [<- hi.boxlen]; exact (hi.live b cs hbc).ok
 refine calls_of_wp hf hb ?_;refine wp_mono (wpIn_wide.1 (h hok oH none _ m w _ m w V hi.boxlen hi.tiplen rfl (bh.refl m w V) (st0 hi hu ha))) fun e a' w' ⟨T', H', V', m', k1, k2, k3⟩ => ?_;have fin : eh P fn.results.toList T' H' (fun cs => ao H.length V.length R (one cs) H' V') -> bodyPost P fn (fun e w' => (∃ u m' r H' V', e = .returned u /\ R r H' V' /\ bE m' w' H' V' /\ ag m' w' V' r u /\ bh m w V m' w' V') ∨
  (∃ ch m' H' V', e = .panicked ch /\ E ch H' V' /\ bE m' w' H' V' /\ bh m w V m' w' V')) .ret a' w' := fun hk => by
  obtain ⟨v, q1, q2⟩ := tL (fn := fn) rfl hi.boxlen hi.tiplen rfl k2 k3 hk;exact ⟨k2.df.eq rfl, v, q1, .inl q2⟩
 cases e with
 | normal => exact fin k1
 | ret => exact fin k1
 | panic ch => exact ⟨k2.df.eq rfl, .inr ⟨ch, m', H', V', rfl, k1, k2.inv, k3⟩⟩
 | _ => exact k1.elim
theorem CD.of_swp {g : FuncId} {fn : Func} {i0 i1 a b c d : Nat} {tys : Array TypeId} {y0 y1 y2 y3 y4 y5 : TypeId} {p0 p1 p2 p3 : String} {e0 e1 e2 e3 : Array Edge} {c2 : Code} {caps : List CV} {u : TypeId} {pv : Value} {H : Hp} {V : List Nat} {K : Hp -> List Nat -> Prop}
 (hf : P.funcs[g]? = some fn) (hb : fn.body = some (.seq (.region i0 #[⟨some a, .call ⟨.builtin .recover, #[], tys⟩, y0, p0, e0, none⟩, ⟨some b, .assign (.tmp a), y1, p1, e1, none⟩] false)
  (.seq (.region i1 #[⟨some c, .move (.tmp b), y2, p2, e2, none⟩, ⟨some d, .binOp .neq y3 (.tmp c) (.const .nilIface) y4, y5, p3, e3, none⟩] false) (.cond (.tmp d) c2 .skip))))
 (hn : (fn.name == "runtime.NumGoroutine") = false) (hr : fn.results = #[]) (ha : caps.length <= fn.ntmps) (l1 : a < fn.ntmps) (l2 : b < fn.ntmps) (l3 : c < fn.ntmps) (l4 : d < fn.ntmps)
 (hcmp : ∀ (w : World) (A : Act), A.eval (.tmp c) = .iface u pv -> (execOp A.eval ⟨some d, .binOp .neq y3 (.tmp c) (.const .nilIface) y4, y5, p3, e3, none⟩).run P w = .ok (.value (.bool true)) w)
 (h : ac P fn.ntmps H.length V.length c2 (Rt P H.length V.length [] fun _ => K) (bQ (some d) (.v (.bool true)) (bQ (some c) (.v (.iface u pv)) (bQ (some b) (.v (.iface u pv)) (bQ (some a) (.v (.iface u pv)) (ai 0 caps))))) H V) : CD P g caps [{ v := .iface u pv, recovered := false }] H V K := by
 refine ⟨⟨fn, hf, by rw [hb]; rfl, hn⟩, fun m w us hi hu => ?_⟩;refine callsD_of_wpS hf hb fun c₀ cs hm => ?_;have s0 := st0 (n := fn.ntmps) hi hu ha;generalize ({ tmps := us.toArray ++ Array.replicate (fn.ntmps - us.toArray.size) undef, defers := [] } : Act) = A at s0;have hz := s0.size;have hd := s0.df.eq rfl;have s1 := s0.tm.put (d := some a) (c := .v (.iface u pv)) (u := .iface u pv) (by rw [ag]) (by show a < A.tmps.size; rw [hz]; exact l1);have z1 : (A.put (some a) (.iface u pv)).tmps.size = fn.ntmps := by rw [cg]; exact hz
 have g1 : (A.put (some a) (.iface u pv)).eval (.tmp a) = .iface u pv := by
  simp [Act.put, Act.eval, hz, l1]
 generalize hA1 : A.put (some a) (.iface u pv) = A1 at s1 z1 g1;have s2 := s1.put (d := some b) (c := .v (.iface u pv)) (u := .iface u pv) (by rw [ag]) (by show b < A1.tmps.size; rw [z1]; exact l2);have z2 : (A1.put (some b) (.iface u pv)).tmps.size = fn.ntmps := by rw [cg]; exact z1
 have g2 : (A1.put (some b) (.iface u pv)).eval (.tmp b) = .iface u pv := by
  simp [Act.put, Act.eval, z1, l2]
 generalize hA2 : A1.put (some b) (.iface u pv) = A2 at s2 z2 g2;have s3 := s2.put (d := some c) (c := .v (.iface u pv)) (u := .iface u pv) (by rw [ag]) (by show c < A2.tmps.size; rw [z2]; exact l3);have z3 : (A2.put (some c) (.iface u pv)).tmps.size = fn.ntmps := by rw [cg]; exact z2
 have g3 : (A2.put (some c) (.iface u pv)).eval (.tmp c) = .iface u pv := by
  simp [Act.put, Act.eval, z2, l3]
 generalize hA3 : A2.put (some c) (.iface u pv) = A3 at s3 z3 g3;have s4 := s3.put (d := some d) (c := .v (.bool true)) (u := .bool true) (by rw [ag]) (by show d < A3.tmps.size; rw [z3]; exact l4);have z4 : (A3.put (some d) (.bool true)).tmps.size = fn.ntmps := by rw [cg]; exact z3
 have g4 : (A3.put (some d) (.bool true)).eval (.tmp d) = .bool true := by
  simp [Act.put, Act.eval, z3, l4]
 have d4 : (A3.put (some d) (.bool true)).defers = [] := by rw [bu, <- hA3, bu, <- hA2, bu, <- hA1, bu]; exact hd
 generalize hA4 : A3.put (some d) (.bool true) = A4 at s4 z4 g4 d4;apply wpS_seq;apply wpS_region;have r0 : List.range 2 = [0, 1] := rfl;simp only [size_toArray, length_cons, length_nil, Nat.zero_add, Nat.reduceAdd, r0];have x1 : (execOp A1.eval ⟨some b, .assign (.tmp a), y1, p1, e1, none⟩).run P w = .ok (.value (.iface u pv)) w := by
  simp [execOp, g1]
 have x2 : (execOp A2.eval ⟨some c, .move (.tmp b), y2, p2, e2, none⟩).run P w = .ok (.value (.iface u pv)) w := by
  simp [execOp, g2]
 have x3 := hcmp w A3 g3;have x0 : (execOp A.eval ⟨some a, .call ⟨.builtin .recover, #[], tys⟩, y0, p0, e0, none⟩).run P w = .ok .recover w := by
  simp [go_sem]
 have hw : ∀ d op t p e y, Region.wanted ⟨d, op, t, p, e, none⟩ y = true := fun d op t p e y => by simp [Region.wanted]
 rw [wpOpsS];simp only [getElem?_toArray, getElem?_cons_zero, hw, if_true, x0, recoverD, hm, hA1];rw [wpOpsS];simp only [getElem?_toArray, getElem?_cons_succ, getElem?_cons_zero, hw, if_true, x1, Oper.upon, hA2];rw [wpOpsS];show Exit.thenS _ _ _ _ _ _;unfold Exit.thenS;dsimp only;apply wpS_seq;apply wpS_region;simp only [size_toArray, length_cons, length_nil, Nat.zero_add, Nat.reduceAdd, r0];rw [wpOpsS];simp only [getElem?_toArray, getElem?_cons_zero, hw, if_true, x2, Oper.upon, hA3];rw [wpOpsS];simp only [getElem?_toArray, getElem?_cons_succ, getElem?_cons_zero, hw, if_true, x3, Oper.upon, hA4];rw [wpOpsS];show Exit.thenS _ _ _ _ _ _;unfold Exit.thenS;dsimp only;refine wpS_cond (t := true) g4 ?_;simp only [if_true];refine wpS_of_wp (wp_mono (wpIn_wide.1 (h none ⟨[], w.heap.size, true⟩ m w A4 m w V hi.boxlen hi.tiplen rfl (bh.refl m w V) ⟨hi, s4, z4, by rw [d4]; exact wB.own _ _⟩)) fun e a' w' ⟨T', H', V', m', k1, k2, k3⟩ => ?_);have fin : eh P [] T' H' (fun cs => ao H.length V.length (fun _ => K) (one cs) H' V') -> bodyPostS P fn c₀ cs (fun e u' w' => (∃ v, e = Ending.returned v) /\ settle u' = .returning /\ ∃ m' H' V', K H' V' /\ bE m' w' H' V' /\ bh m w V m' w' V') .ret a' ({ c₀ with mode := .panicking [{ v := .iface u pv, recovered := true }] } :: cs) w' := fun hk => by
  obtain ⟨v, q1, u2, m2, r, H2, V2, _, q2, q3, _, q4⟩ := tL (fn := fn) (by rw [hr]) hi.boxlen hi.tiplen rfl k2 k3 hk;exact ⟨k2.df.eq rfl, _, rfl, v, q1, ⟨_, rfl⟩, rfl, m2, H2, V2, q2, q3, q4⟩
 cases e with
 | normal => exact fin k1
 | ret => exact fin k1
 | _ => exact k1.elim
theorem CC.of_deferX {f : FuncId} {fn : Func} {c1 c2 : Code} {id : Nat} {pre : List Oper} {dd : Option Tmp} {ty : TypeId} {pos : String} {after : Array Edge} {fo : Operand} {tys : Array TypeId} {g k : Nat} {args : List CV} {H : Hp} {V : List Nat} {R : CV -> Hp -> List Nat -> Prop}
 (hf : P.funcs[f]? = some fn) (hb : fn.body = some (.seq c1 (.seq (.region id (pre ++ [(⟨dd, .defer ⟨.value fo, #[], tys⟩, ty, pos, after, none⟩ : Oper)]).toArray false) c2))) (hn : (fn.name == "runtime.NumGoroutine") = false) (ha : args.length <= fn.ntmps) (hD : aa7 P g k)
 (h : okL H.length V.length args -> (∀ (b : Nat) cs, H[b]? = some (some cs) -> okL H.length V.length cs) -> ac P fn.ntmps H.length V.length c1 (uq (fun T H' V' => gC P fn.ntmps ((pre ++ [(⟨dd, .defer ⟨.value fo, #[], tys⟩, ty, pos, after, none⟩ : Oper)]).map (·.dst)) pre T H' V' fun T H' V' => kv dd fn.ntmps ∧
  (∃ caps, em T fo = .fn g caps /\ caps.length = k /\ ac P fn.ntmps H'.length V'.length c2 (RtD P H.length V.length fn.results.toList R g caps) (bQ dd (.v undef) T) H' V')) (fun _ _ _ _ => False)) (ai 0 args) H V) : CC P f args H V R := by
 refine ⟨⟨fn, hf, by rw [hb]; rfl, hn⟩, fun m w us hi hu => ?_⟩;have hok : okL H.length V.length args := by rw [<- hi.boxlen]; exact av.ok args us hu
 have oH : ∀ (b : Nat) cs, H[b]? = some (some cs) -> okL H.length V.length cs := fun b cs hbc => by
  rw [<- hi.boxlen]; exact (hi.live b cs hbc).ok
 refine calls_of_wp_defers hf hb ?_;refine wp_seq (wp_mono (wpIn_wide.1 (h hok oH none _ m w _ m w V hi.boxlen hi.tiplen rfl (bh.refl m w V) (st0 hi hu ha))) fun e a1 w1 ⟨T1, H1, V1, m1, k1, s1, x1⟩ => ?_)
 cases e with
 | normal =>
  have k1 : gC P fn.ntmps ((pre ++ [(⟨dd, .defer ⟨.value fo, #[], tys⟩, ty, pos, after, none⟩ : Oper)]).map (·.dst)) pre T1 H1 V1 _ := k1;refine wp_seq ((wpIn_wide (n := 0)).1 (wpIn_region_list ?_));generalize hops : pre ++ [(⟨dd, .defer ⟨.value fo, #[], tys⟩, ty, pos, after, none⟩ : Oper)] = ops at k1 ⊢;rw [gC, <- bF] at k1;have e : ops.toArray.toList = pre ++ [(⟨dd, .defer ⟨.value fo, #[], tys⟩, ty, pos, after, none⟩ : Oper)] := by rw [hops]
  rw [e];refine d7 (ro := none) pre s1 k1 fun T2 H2 V2 a2 w2 m2 ⟨hd, caps, hcap, aT, iN⟩ s2 x2 => ?_;unfold wpListIn;rw [if_pos (by simp [Region.wanted])];have ef : ag m2 w2 V2 (em T2 fo) (a2.eval fo) := fw s2.tm fo;rw [hcap, ag] at ef;obtain ⟨cus, eu, hr⟩ := ef;have iF : (execOp a2.eval ⟨dd, .defer ⟨.value fo, #[], tys⟩, ty, pos, after, none⟩).run P w2 = .ok (.defer { target := .fn (.func g) cus.toArray, args := #[] }) w2 := by
   simp [execOp, resolve, eu, Deferred.ofValue]
  refine ⟨fun _ _ => trivial, ?_⟩;rw [show (g8 none).round = none from rfl, Oper.semAt_none, iF, Oper.uponIn_defer];unfold wpListIn;have s3 : St ⟨[{ target := .fn (.func g) cus.toArray, args := #[] }], w2.heap.size, true⟩ fn.ntmps m2 w2 (({ a2 with defers := { target := .fn (.func g) cus.toArray, args := #[] } :: a2.defers } : Act).put dd undef) (bQ dd (.v undef) T2) H2 V2 := by
   have hp := s2.tm.put (c := .v undef) (u := undef) (d := dd) (by rw [ag]) (by rw [s2.size]; exact hd);refine ⟨s2.inv, ?_, by rw [cg]; exact s2.size, by rw [bu, s2.df.eq rfl]; exact wB.own _ _⟩;intro j;have := hp j
   cases dd <;> exact this
  have l1 := hi.boxlen;have l2 := hi.tiplen;refine wp_mono (wpIn_wide.1 (iN none _ m2 w2 _ m2 w2 V2 s2.inv.boxlen s2.inv.tiplen rfl (bh.refl _ _ _) s3)) fun e a' w' ⟨T', H', V', m', k1, k2, k4⟩ => ?_;have k3 := (x1.trans x2).trans k4;have fin : ∀ {w1 : World} {m1 : Gh} {H1 : Hp} {V1 : List Nat}, St ⟨[], w1.heap.size, true⟩ fn.ntmps m1 w1 { tmps := a'.tmps, defers := [] } T' H1 V1 -> bh m w V m1 w1 V1 -> eh P fn.results.toList T' H1 (fun cs => ao H.length V.length R (one cs) H1 V1) -> Leaves P fn a'.tmps (fun e w' => ∃ u m' r H' V', e = .returned u /\ R r H' V' /\ bE m' w' H' V' /\ ag m' w' V' r u /\ bh m w V m' w' V') [] .returning w1 := fun q2 q3 hk => by
   obtain ⟨v, z1, z2⟩ := tL (fn := fn) (a' := { tmps := a'.tmps, defers := [] }) rfl l1 l2 rfl q2 q3 hk;refine ⟨v, z1, ?_⟩;obtain ⟨u, m', r, H', V', e1, e2⟩ := z2
   cases e1
   exact ⟨_, m', r, H', V', rfl, e2⟩
  have s' : St ⟨[], w'.heap.size, true⟩ fn.ntmps m' w' { tmps := a'.tmps, defers := [] } T' H' V' := ⟨k2.inv, k2.tm, k2.size, wB.own _ _⟩
  obtain ⟨⟨gn, g1, g2, g3⟩, hcd⟩ := hD;have hb' : ¬ gn.body = none := by cases hbb : gn.body <;> simp_all
  have g3' : ¬ gn.name = "runtime.NumGoroutine" := by simpa using g3
  have ret : eh P fn.results.toList T' H' (fun cs => ao H.length V.length R (one cs) H' V') -> Leaves P fn a'.tmps (fun e w' => ∃ u m' r H' V', e = .returned u /\ R r H' V' /\ bE m' w' H' V' /\ ag m' w' V' r u /\ bh m w V m' w' V') a'.defers .returning w' := fun hk => by
   rw [k2.df.eq rfl];refine leaves_cons (f := g) (args := cus.toArray) (by simp) (by simp [invoke, callFunc, g1, g3', hb']) ?_;refine (hcd cus.toArray w' (by simp [aG hr, aT])).mono ?_;rintro e u' w'' ⟨⟨v, rfl⟩, rfl, rfl⟩;exact fin s' k3 hk
  cases e with
  | normal => exact ret k1
  | ret => exact ret k1
  | panic ch =>
   have k1 : CD P g caps ch H' V' fun H' V' => eh P fn.results.toList T' H' fun cs => ao H.length V.length R (one cs) H' V' := k1;show Leaves P fn a'.tmps _ a'.defers (.panicking ch) w';rw [k2.df.eq rfl];refine leaves_cons (f := g) (args := cus.toArray) (by simp) (by simp [invoke, callFunc, g1, g3', hb']) ?_;refine (k1.2 m' w' cus k2.inv (av.mono k4 _ _ hr)).mono ?_;rintro e u' w'' ⟨⟨v, rfl⟩, hu', m3, H3, V3, q1, q2, q3⟩;dsimp only;rw [hu'];exact fin ⟨q2, dC.mono q3 s'.tm, s'.size, wB.own _ _⟩ (k3.trans q3) q1
  | _ => exact k1.elim
 | _ => exact k1.elim
end
section
def bs (l : List UInt8) : List (List CV) := l.map u8
@[go_sem, simp] theorem qV (l : List UInt8) : (bs l).length = l.length := length_map ..
@[go_sem, simp] theorem afQ (a b : List UInt8) : bs a ++ bs b = bs (a ++ b) := (map_append ..).symm
@[go_sem, simp] theorem M1 (l : List UInt8) (n : Nat) : (bs l).drop n = bs (l.drop n) := (map_drop ..).symm
@[go_sem, simp] theorem adO (l : List UInt8) (n : Nat) : (bs l).take n = bs (l.take n) := (map_take ..).symm
@[go_sem, simp] theorem afP (l : List UInt8) (n : Nat) (h : n < (bs l).length) : (bs l)[n] = u8 (l[n]'(by simpa using h)) := getElem_map ..
@[go_sem, simp] theorem afO : bs [] = [] := rfl
abbrev ci (n : Int) : CV := .v (.int .i64 n)
abbrev cb (b : Bool) : CV := .v (.bool b)
def ic (n : Int) : List CV := [.v (.int .i64 n)]
def wH (n : Int) : UInt8 := UInt8.ofNat (n % 256).toNat
theorem fJ (n : Int) : ((wH n).toNat : Int) = n % 256 := by
 unfold wH;rw [UInt8.toNat_ofNat'];omega
theorem wrap_u8 (n : Int) : IntKind.u8.wrap n = ((wH n).toNat : Int) := by
 rw [fJ, IntKind.wrap_u8]
@[go_sem, simp] theorem adP (l : List UInt8) (n : Int) : bs l ++ [[CV.v (.int .u8 (IntKind.u8.wrap n))]] = bs (l ++ [wH n]) := by
 rw [wrap_u8, bs, bs, map_append]; rfl
theorem FF (jb jv : Nat) (b : UInt8) : okL jb jv (u8 b) := by simp [u8, okL, aK]
@[go_sem] theorem jT (jb jv : Nat) (l : List UInt8) : fO jb jv (bs l) = True := eq_true (fj u8 l (FF jb jv))
theorem KB (jb jv : Nat) (l : List UInt8) : fO jb jv (bs l) := fj u8 l (FF jb jv)
theorem PK (jb jv : Nat) (n : Int) : okL jb jv (ic n) := by simp [ic, okL, aK]
@[go_sem, simp] theorem aft (n : Int) (h : 0 < (ic n).length) : (ic n)[0] = CV.v (.int .i64 n) := rfl
@[go_sem, simp] theorem afs (n : Int) : (ic n).length = 1 := by rw [ic]; rfl
theorem aq {i : Nat} (h : i <= 1000000000) : IntKind.i64.wrap ((i : Int) + 1) = ((i + 1 : Nat) : Int) := by
 rw [IntWalk.i64_in _ ⟨by omega, by omega⟩]; rfl
@[go_sem, simp] theorem aeO (b : UInt8) (h : 0 < (u8 b).length) : (u8 b)[0] = CV.v (.int .u8 (b.toNat : Int)) := rfl
@[go_sem, simp] theorem aeN (b : UInt8) : (u8 b).length = 1 := by rw [u8]; rfl
structure au where
 val : List UInt8
 len : val.length = 8
def aE (s : au) : List CV := s.val.map fun b => CV.v (.int .u8 (b.toNat : Int))
@[go_sem, simp] theorem fc (s : au) : (aE s).length = 8 := by rw [aE, length_map, s.len]
@[go_sem, simp] theorem AW (s : au) : (aE s).take 8 = aE s := take_of_length_le (by simp)
@[go_sem, simp] theorem uE (s : au) : aJ (aE s) = true := by
 simp only [aJ, aE, all_map, all_eq_true]; intros; rfl
theorem sJ : ∀ l : List UInt8, aY 1 l.length (l.map fun b => CV.v (.int .u8 (b.toNat : Int))) = bs l
 | [] => rfl
 | b :: l => by
  rw [length_cons, map_cons, aY, take_succ_cons, take_zero, drop_succ_cons, drop_zero, sJ l]; rfl
@[go_sem, simp] theorem NJ (s : au) : aY 1 8 (aE s) = bs s.val := by
 have := sJ s.val;rw [s.len] at this; exact this
theorem PJ (jb jv : Nat) (l : List au) : fO jb jv (l.map aE) := fj aE l fun s => by
 rw [co]; intro c hc;simp only [aE, mem_map] at hc;obtain ⟨b, _, rfl⟩ := hc;rw [aK]; trivial
structure wA where
 start : Int
 count : Int
def rF (e : wA) : List CV := [.v (.int .i64 e.start), .v (.int .i64 e.count)]
@[go_sem, simp] theorem ZS (e : wA) : (rF e).length = 2 := by rw [rF]; rfl
@[go_sem, simp] theorem UH (e : wA) : (rF e).take 2 = rF e := rfl
@[go_sem, simp] theorem ZT (e : wA) : aJ (rF e) = true := rfl
@[go_sem, simp] theorem afI (e : wA) (h : 0 < (rF e).length) : (rF e)[0] = CV.v (.int .i64 e.start) := rfl
@[go_sem, simp] theorem afH (e : wA) (h : 1 < (rF e).length) : (rF e)[1] = CV.v (.int .i64 e.count) := rfl
structure Wr where
 volume : Int
 start : Int
 data : List au
def bq (x : Wr) : List CV := [.v (.int .i64 x.volume), .v (.int .i64 x.start), .sl .sh 8 (x.data.map aE)]
@[go_sem, simp] theorem abB (x : Wr) : (bq x).length = 3 := by rw [bq]; rfl
@[go_sem, simp] theorem WJ (x : Wr) : (bq x).take 3 = bq x := rfl
@[go_sem, simp] theorem abC (x : Wr) : aJ (bq x) = true := rfl
@[go_sem, simp] theorem agl (x : Wr) (h : 0 < (bq x).length) : (bq x)[0] = CV.v (.int .i64 x.volume) := rfl
@[go_sem, simp] theorem agk (x : Wr) (h : 1 < (bq x).length) : (bq x)[1] = CV.v (.int .i64 x.start) := rfl
@[go_sem, simp] theorem agj (x : Wr) (h : 2 < (bq x).length) : (bq x)[2] = CV.sl .sh 8 (x.data.map aE) := rfl
@[go_sem] theorem u7 (jb jv : Nat) (s : au) : okL jb jv (aE s) = True := by
 refine eq_true (co.2 fun c hc => ?_);simp only [aE, mem_map] at hc;obtain ⟨b, _, rfl⟩ := hc;rw [aK]; trivial
@[go_sem] theorem aR (jb jv : Nat) (l : List Int) : fO jb jv (l.map ic) = True := eq_true (fj ic l (PK jb jv))
@[go_sem] theorem cR (jb jv : Nat) (l : List au) : fO jb jv (l.map aE) = True := eq_true (PJ jb jv l)
@[go_sem] theorem tv (jb jv : Nat) (e : Wr) : okL jb jv (bq e) = True := by simp [bq, okL, aK, gr, cR]
@[go_sem] theorem cQ (jb jv : Nat) (l : List Wr) : fO jb jv (l.map bq) = True := eq_true (fj bq l fun e => by rw [tv]; trivial)
def lX : Nat -> List UInt8
 | n => if h : n < 128 then [UInt8.ofNat n] else UInt8.ofNat (n % 128 + 128) :: lX (n / 128)
termination_by n => n
decreasing_by omega
def jf (n : Int) : Nat := if n < 0 \/ n > 9007199254740991 then 0 else n.toNat
def dP (n : Int) : List UInt8 := lX (jf n)
def gM (l : List au) : List UInt8 := dP l.length ++ l.flatMap au.val
def iz (x : Wr) : List UInt8 := dP x.volume ++ dP x.start ++ gM x.data
def bi (l : List Wr) : List UInt8 := dP l.length ++ l.flatMap iz
section
variable {H H' : Hp} {V V' : List Nat} {sz : Nat} {x y : List UInt8}
theorem ao.ownB {k v : Nat} (hk : k < V.length) (hx : x = y) (oH : ∀ (b : Nat) cs, H[b]? = some (some cs) -> okL H.length V.length cs) (hH : H'.take H.length = H) : ao H.length V.length (Ow k sz (bs y) H V) (.sl (.own k v) sz (bs x)) H' (V.set k v) :=
 ao.own hk (by rw [hx]) (KB _ _ _) oH hH
theorem ao.freshB {v : Nat} {W : List Nat} (hx : x = y) (oH : ∀ (b : Nat) cs, H[b]? = some (some cs) -> okL H.length V.length cs) (hH : H'.take H.length = H) : ao H.length V.length (Fr sz (bs y) H V) (.sl (.own V.length v) sz (bs x)) H' (V ++ v :: W) :=
 ao.fresh (by rw [hx]) (KB _ _ _) oH hH
end
end
section
abbrev er (e : Nat) : CV := .v (.int .i64 e)
section
variable {n nb nv : Nat} {T T' : Tm} {H : Hp} {V : List Nat}
theorem cL.freezeY {b : Nat} {cs : List CV} (hb : H[b]? = some (some cs)) (h : ∀ p ∈ T', Fy b cs (bt T p.1) p.2) : cL n nb nv T H V T' (H.set b none) V := fun D m w a m0 w0 V0 h1 h2 h3 hx hs => by
 cases hs.inv.live b cs hb with
 | row k c e g1 g2 g3 g4 g5 =>
  obtain ⟨hi', hx'⟩ := hs.inv.fix hb g1 g2 g3 g4;refine ⟨_, ⟨hi', fun j => ?_, hs.size, hs.df⟩, hx.trans hx'⟩;have ht := dC.mono hx' hs.tm;rcases dR T' j with h1 | ⟨p, h1, rfl, h2⟩
  · rw [h1, ag]; trivial
  · rw [h2]
    exact Fy.rel (m := { m with lim := fun j => if j = k then cs.length else m.lim j }) (k := k) g1 (by show cs.length <= if k = k then cs.length else m.lim k; rw [if_pos rfl]; exact le_refl _) (i8 hx' rfl g5) (h p h1) (ht p.1)
 | obj k x g1 g2 g3 =>
  refine ⟨m, ⟨hs.inv.kill b, fun j => ?_, hs.size, hs.df⟩, hx⟩;rcases dR T' j with h1 | ⟨p, h1, rfl, h2⟩
  · rw [h1, ag]; trivial
  · rw [h2]
    exact Fy.relO g1 g3.notRow (h p h1) (hs.tm p.1)
end
@[go_sem] theorem afC (cs : List CV) (H : Hp) (K : List CV -> Prop) : dN (some cs :: H) 0 K = K cs := id rfl
@[go_sem] theorem afB (c : Option (List CV)) (H : Hp) (b : Nat) (K : List CV -> Prop) : dN (c :: H) (b + 1) K = dN H b K := id rfl
theorem ao.er {H H' : Hp} {V V' : List Nat} {a b : Nat} (h : b = a) (oH : ∀ (b : Nat) cs, H[b]? = some (some cs) -> okL H.length V.length cs) (hH : H'.take H.length = H) (hV : V'.take V.length = V) : ao H.length V.length (Pu (er b) H V) (er a) H' V' := by
 subst h; exact ao.pu (.refl _) (by simp [go_sem]) oH hH hV
theorem ao.int {H H' : Hp} {V V' : List Nat} {k : IntKind} {a b : Int} (h : a = b) (oH : ∀ (b : Nat) cs, H[b]? = some (some cs) -> okL H.length V.length cs) (hH : H'.take H.length = H) (hV : V'.take V.length = V) : ao H.length V.length (Pu (.v (.int k b)) H V) (.v (.int k a)) H' V' := by
 subst h; exact ao.pu (.refl _) trivial oH hH hV
theorem ao.cut {nb nv : Nat} {R : CV -> Hp -> List Nat -> Prop} {r r' : CV} {H' H'' : Hp} {V' V'' : List Nat} (i j : Nat) (hR : R r' H'' V'') (hi : nb <= i) (hj : nv <= j) (hH : H'.take i = H'') (hV : V'.take j = V'') (hle : Le r r') (hok : aK i j r')
 (oH : ∀ (b : Nat) cs, H''[b]? = some (some cs) -> okL i j cs) : ao nb nv R r H' V' := by
 refine ⟨r', H'', V'', ?_, hR⟩;refine cL.trans (T' := [(0, r')]) (H' := H') (V' := V') (cL.forget fun p hp => ?_) ?_
 · simp at hp; subst hp; exact hle
 · have := cL.cut (n := 1) (nb := nb) (nv := nv) (T := [(0, r')]) (H := H') (V := V') i j hi hj (fun p hp => by simp at hp; subst hp; exact hok) (by rw [hH]; exact oH)
   rwa [hH, hV] at this
theorem ao.self {nb nv : Nat} {R : CV -> Hp -> List Nat -> Prop} {r : CV} {H : Hp} {V : List Nat} (h : R r H V) : ao nb nv R r H V := ⟨r, H, V, cL.refl, h⟩
def Ix (b : Bool) (H : Hp) (V : List Nat) : CV -> Hp -> List Nat -> Prop := fun r H' V' => ∃ k : Int, r = ci k /\ decide (0 <= k) = b /\ H = H' /\ V = V'
theorem ao.ix {k : Int} {b : Bool} {H H' : Hp} {V V' : List Nat} (h : decide (0 <= k) = b) (oH : ∀ (b : Nat) cs, H[b]? = some (some cs) -> okL H.length V.length cs) (hH : H'.take H.length = H) (hV : V'.take V.length = V) : ao H.length V.length (Ix b H V) (ci k) H' V' :=
 ao.pure ⟨k, rfl, h, rfl, rfl⟩ hH hV (.refl _) trivial oH
theorem m7 {α : Type} {p : α -> Bool} {l : List α} {i : Nat} (h : i < l.length) (h1 : (l.take i).any p = false) (h2 : p l[i] = false) : (l.take (i + 1)).any p = false := by
 rw [take_succ_eq_append_getElem h, List.any_append, h1]; simp [h2]
theorem ua {α : Type} {p : α -> Bool} {l : List α} {i : Nat} (h : i < l.length) (h2 : p l[i] = true) : l.any p = true := any_eq_true.2 ⟨_, getElem_mem h, h2⟩
def wD (i j : Nat) : Hp -> Prop
 | [] => True
 | none :: L => wD i j L
 | some cs :: L => okL i j cs /\ wD i j L
@[go_sem] theorem ace (i j : Nat) : wD i j [] = True := rfl
@[go_sem] theorem FH (i j : Nat) (L : Hp) : wD i j (none :: L) = wD i j L := rfl
@[go_sem] theorem aW (i j : Nat) (cs : List CV) (L : Hp) : wD i j (some cs :: L) = (okL i j cs /\ wD i j L) := rfl
theorem cK {i j : Nat} : ∀ {L : Hp}, wD i j L -> ∀ (b : Nat) cs, L[b]? = some (some cs) -> okL i j cs
 | none :: L, h, 0, cs, e => by simp at e
 | none :: L, h, b + 1, cs, e => cK (L := L) h b cs (by simpa using e)
 | some c :: L, h, 0, cs, e => by simp at e; exact e ▸ h.1
 | some c :: L, h, b + 1, cs, e => cK (L := L) h.2 b cs (by simpa using e)
theorem Sh.trim {n : Nat} {T T' : Tm} {H0 L H : Hp} {V0 V V' : List Nat} (h : oT T T') (hT : wI (H0.length + L.length) V'.length T') (oH : ∀ (b : Nat) cs, H0[b]? = some (some cs) -> okL H0.length V0.length cs)
 (hL : wD (H0.length + L.length) V'.length L) (hV0 : V0.length <= V'.length) (eH : H.take (H0.length + L.length) = H0 ++ L) (eV : V.take V'.length = V') : Sh n H0.length V0.length T H V (T', H0 ++ L, V') := by
 refine Sh.cut (H0.length + L.length) V'.length h (Nat.le_add_right _ _) hV0 (wI.all hT) (fun b cs hb => ?_) eH eV;rw [getElem?_append] at hb
 split at hb
 · exact aO (Nat.le_add_right _ _) hV0 (oH b cs hb)
 · exact cK hL _ _ hb
theorem ao.froz {nb nv : Nat} {R : CV -> Hp -> List Nat -> Prop} {r : CV} {H H' : Hp} {V V' : List Nat} {b o n sz : Nat} {cs : List CV} {xs : List (List CV)} (hR : R (.sl .sh sz xs) H V) (hle : Le r (.bsl b o n sz)) (hb : H'[b]? = some (some cs)) (hx : aY sz n (cs.drop o) = xs) (hn : o + n * sz <= cs.length)
 (hb0 : nb <= b) (hok : fO nb nv xs) (oH : ∀ (b : Nat) cs, H[b]? = some (some cs) -> okL nb nv cs) (hH : H'.take nb = H) (hV : V'.take nv = V) : ao nb nv R r H' V' := by
 subst hx;refine ⟨_, H, V, ?_, hR⟩;refine cL.trans (T' := [(0, .bsl b o n sz)]) (H' := H') (V' := V') (cL.forget fun p hp => ?_) ?_
 · simp at hp; subst hp; exact hle
 refine cL.trans (T' := [(0, .sl .sh sz (aY sz n (cs.drop o)))]) (H' := H'.set b none) (V' := V') (cL.freeze hb fun p hp => ?_) ?_
 · simp at hp; subst hp; exact Fz.bsl o n sz hn
 · have hH' : (H'.set b none).take nb = H := by rw [take_set_of_le hb0]; exact hH
   have := cL.cut (n := 1) (nb := nb) (nv := nv) (T := [(0, .sl .sh sz (aY sz n (cs.drop o)))]) (H := H'.set b none) (V := V') nb nv (le_refl _) (le_refl _) (fun p hp => by simp at hp; subst hp; simpa only [go_sem] using hok) (by rw [hH']; exact oH)
   rwa [hH', hV] at this
@[go_sem, simp] theorem take_add {α : Type} (H L : List α) (k : Nat) : (H ++ L).take (H.length + k) = H ++ L.take k := by rw [take_append, take_of_length_le (by omega), Nat.add_sub_cancel_left]
theorem kg {α β : Type} (f : β -> α -> β) (z : β) (l : List α) (i : Nat) (h : i < l.length) : (l.take (i + 1)).foldl f z = f ((l.take i).foldl f z) l[i] := by
 rw [take_succ_eq_append_getElem h, foldl_append]; rfl
theorem ao.tup2 {H H' : Hp} {V V' : List Nat} {a b a' b' : CV} (h1 : Le a a') (h2 : Le b b') (o1 : aK H.length V.length a') (o2 : aK H.length V.length b') (oH : ∀ (b : Nat) cs, H[b]? = some (some cs) -> okL H.length V.length cs) (hH : H'.take H.length = H) (hV : V'.take V.length = V) : ao H.length V.length (Pu (.tup [a', b']) H V) (.tup [a, b]) H' V' :=
 ao.pu (.tup (.cons h1 (.cons h2 .nil))) (by rw [aK]; simp [go_sem, o1, o2]) oH hH hV
theorem CC.le {P : Program} {f : FuncId} {xs ys : List CV} {H : Hp} {V : List Nat} {R : CV -> Hp -> List Nat -> Prop} (h : jD xs ys) (hc : CC P f ys H V R) : CC P f xs H V R :=
 ⟨hc.1, fun m w us hi hu => hc.2 m w us hi (h.rel hu)⟩
@[go_sem] theorem afA {H L : Hp} {X : Nat} {c : List CV} (h : X < H.length) (K : List CV -> Prop) : dN (H.set X (some c) ++ L) X K = K c := by
 unfold dN; rw [getElem?_append_left (by simpa using h), getElem?_set_self h]
@[go_sem] theorem P3 {H L : Hp} {X k : Nat} {c : Option (List CV)} (K : List CV -> Prop) : dN (H.set X c ++ L) (H.length + k) K = dN L k K := by
 unfold dN; rw [getElem?_append_right (by simp)]; simp
@[go_sem] theorem adf {H L : Hp} {X : Nat} {c : Option (List CV)} (K : List CV -> Prop) : dN (H.set X c ++ L) H.length K = dN L 0 K := P3 (k := 0) K
theorem ao.frozG {nb nv : Nat} {R : CV -> Hp -> List Nat -> Prop} {r r1 r2 : CV} {H H' : Hp} {V V' : List Nat} {b : Nat} {cs : List CV} (hR : R r2 H V) (hle : Le r r1) (hb : H'[b]? = some (some cs)) (hz : Fz b cs r1 r2)
 (hb0 : nb <= b) (hok : aK nb nv r2) (oH : ∀ (b : Nat) cs, H[b]? = some (some cs) -> okL nb nv cs) (hH : H'.take nb = H) (hV : V'.take nv = V) : ao nb nv R r H' V' := by
 refine ⟨_, H, V, ?_, hR⟩;refine cL.trans (T' := [(0, r1)]) (H' := H') (V' := V') (cL.forget fun p hp => ?_) ?_
 · simp at hp; subst hp; exact hle
 refine cL.trans (T' := [(0, r2)]) (H' := H'.set b none) (V' := V') (cL.freeze hb fun p hp => ?_) ?_
 · simp at hp; subst hp; exact hz
 · have hH' : (H'.set b none).take nb = H := by rw [take_set_of_le hb0]; exact hH
   have := cL.cut (n := 1) (nb := nb) (nv := nv) (T := [(0, r2)]) (H := H'.set b none) (V := V') nb nv (le_refl _) (le_refl _) (fun p hp => by simp at hp; subst hp; exact hok) (by rw [hH']; exact oH)
   rwa [hH', hV] at this
theorem ao.frozY {nb nv : Nat} {R : CV -> Hp -> List Nat -> Prop} {r r1 r2 : CV} {H H' : Hp} {V V' : List Nat} {b : Nat} {cs : List CV} (hR : R r2 H V) (hle : Le r r1) (hb : H'[b]? = some (some cs)) (hz : Fy b cs r1 r2)
 (hb0 : nb <= b) (hok : aK nb nv r2) (oH : ∀ (b : Nat) cs, H[b]? = some (some cs) -> okL nb nv cs) (hH : H'.take nb = H) (hV : V'.take nv = V) : ao nb nv R r H' V' := by
 refine ⟨_, H, V, ?_, hR⟩;refine cL.trans (T' := [(0, r1)]) (H' := H') (V' := V') (cL.forget fun p hp => ?_) ?_
 · simp at hp; subst hp; exact hle
 refine cL.trans (T' := [(0, r2)]) (H' := H'.set b none) (V' := V') (cL.freezeY hb fun p hp => ?_) ?_
 · simp at hp; subst hp; exact hz
 · have hH' : (H'.set b none).take nb = H := by rw [take_set_of_le hb0]; exact hH
   have := cL.cut (n := 1) (nb := nb) (nv := nv) (T := [(0, r2)]) (H := H'.set b none) (V := V') nb nv (le_refl _) (le_refl _) (fun p hp => by simp at hp; subst hp; exact hok) (by rw [hH']; exact oH)
   rwa [hH', hV] at this
theorem gU {i : Nat} (h : i < 9223372036854775807) : IntKind.i64.wrap ((i : Int) + 1) = ((i + 1 : Nat) : Int) := by
 rw [IntWalk.i64_in _ ⟨by omega, by omega⟩]; rfl
@[go_sem] theorem okV_bm (i j f : Nat) (cs : List CV) : aK i j (.bm f cs) = okL i j cs := by rw [aK]
theorem wz {S : List Nat} {G : Hp} {X : Nat} {c c' : Option (List CV)} (h : X ∉ S) : Kp S (G.set X c) (G.set X c') := fun b hb cs h2 => by
 have : X ≠ b := fun e => h (e ▸ hb);rw [getElem?_set_ne this] at h2 ⊢; exact h2
theorem aC (H L : Hp) (k : Nat) : (H ++ L)[H.length + k]? = L[k]? := by rw [getElem?_append_right (by omega), Nat.add_sub_cancel_left]
theorem ak {H : Hp} {b : Nat} {cs : List CV} (h : H[b]? = some (some cs)) (K : List CV -> Prop) : dN H b K = K cs := by
 unfold dN; rw [h]
theorem tr {H L : Hp} {X : Nat} {c0 c : List CV} {V V' : List Nat} (hX : X < H.length) (hok0 : ∀ (b : Nat) cs, (H.set X (some c0))[b]? = some (some cs) -> okL H.length V.length cs) (h4 : V.length <= V'.length)
 (hc : okL (H.length + L.length) V'.length c) (hL : wD (H.length + L.length) V'.length L) : ∀ (b : Nat) cs, (H.set X (some c) ++ L)[b]? = some (some cs) -> okL (H.length + L.length) V'.length cs := by
 intro b cs hb;rw [getElem?_append] at hb
 split at hb
 · by_cases hbX : b = X
   · subst hbX
     rw [getElem?_set_self hX] at hb;simp at hb; subst hb;exact hc
   · refine aO (Nat.le_add_right _ _) h4 (hok0 b cs ?_)
     rw [getElem?_set_ne (fun e => hbX e.symm)] at hb ⊢;exact hb
 · exact cK hL _ _ hb
end
abbrev aF (l : List au) : CV := .sl .sh 8 (l.map aE)
def aQ (l : List au) : List CV := (l.map aE).flatten
@[go_sem, simp] theorem AU (l : List au) : (aQ l).length = 8 * l.length := by
 induction l with
 | nil => rfl
 | cons a l ih => rw [aQ, map_cons, flatten_cons, length_append, fc, length_cons]; rw [aQ] at ih; rw [ih]; omega
theorem dU (a : au) (l : List au) : aQ (a :: l) = aE a ++ aQ l := by rw [aQ, map_cons, flatten_cons]; rfl
theorem nn (a b : List au) : aQ (a ++ b) = aQ a ++ aQ b := by simp [aQ]
theorem lI : ∀ (l : List au) (i : Nat), (aQ l).take (i * 8) = aQ (l.take i)
 | [], i => by simp [aQ]
 | a :: l, 0 => by simp [aQ]
 | a :: l, i + 1 => by
  rw [dU, take_succ_cons, dU, take_append, fc, take_of_length_le (by rw [fc]; omega), show (i + 1) * 8 - 8 = i * 8 by omega, lI l i]
theorem lJ : ∀ (l : List au) (i : Nat), (aQ l).drop (i * 8) = aQ (l.drop i)
 | [], i => by simp [aQ]
 | a :: l, 0 => by simp
 | a :: l, i + 1 => by
  rw [dU, drop_succ_cons, List.drop_append, fc, drop_of_length_le (by rw [fc]; omega), show (i + 1) * 8 - 8 = i * 8 by omega, lJ l i]; rfl
theorem AR {l : List au} {i : Nat} (h : i < l.length) (s : au) : (aQ l).take (i * 8) ++ aE s ++ (aQ l).drop (i * 8 + 8) = aQ (l.set i s) := by
 rw [show i * 8 + 8 = (i + 1) * 8 by omega, lI, lJ, set_eq_take_append_cons_drop, if_pos h, nn, dU, append_assoc]
theorem pJ {l : List au} {i : Nat} (h : i < l.length) (s : au) : (aQ l).take (i * 8) ++ (aE s ++ (aQ l).drop (i * 8 + 8)) = aQ (l.set i s) := by
 rw [<- append_assoc, AR h]
theorem cU : ∀ l : List au, aY 8 l.length (aQ l) = l.map aE
 | [] => rfl
 | a :: l => by
  rw [length_cons, dU, aY, take_append_of_le_length (by rw [fc]; exact le_refl _), AW, drop_append_of_le_length (by rw [fc]; exact le_refl _), drop_of_length_le (by rw [fc]; exact le_refl _), nil_append, cU l]; rfl
@[go_sem, simp] theorem AV (l : List au) : aJ (aQ l) = true := by
 induction l with
 | nil => rfl
 | cons a l ih => rw [dU, aJ, all_append, <- aJ, <- aJ, uE, ih]; rfl
@[go_sem] theorem nD (jb jv : Nat) (l : List au) : okL jb jv (aQ l) = True := by
 induction l with
 | nil => simp [aQ, okL]
 | cons a l ih =>
  refine eq_true (co.2 fun c hc => ?_);rw [dU] at hc;rcases mem_append.1 hc with h | h
  · exact co.1 (by rw [u7]; trivial) c h
  · exact co.1 (by rw [ih]; trivial) c h
def aP : au := ⟨List.replicate 8 0, rfl⟩
theorem eG : ∀ n : Nat, (List.replicate n (List.map CV.v [.int .u8 0, .int .u8 0, .int .u8 0, .int .u8 0, .int .u8 0, .int .u8 0, .int .u8 0, .int .u8 0])).flatten = aQ (List.replicate n aP)
 | 0 => rfl
 | n + 1 => by rw [replicate_succ, flatten_cons, eG n, replicate_succ, dU]; rfl
theorem cn (i j : Nat) (l : List au) : aK i j (aF l) := by rw [aF, gq, cR]; trivial
def NE (n : Nat) : List au := List.replicate n aP
@[go_sem, simp] theorem yp (n : Nat) : (NE n).length = n := length_replicate
section
section
variable {P : Program} {n nb nv id : Nat} {Q : Exit -> Tm -> Hp -> List Nat -> Prop} {T : Tm} {H : Hp} {V : List Nat}
theorem ac.tassert {pre post : List Oper} {d : Option Tmp} {ty : TypeId} {pos : String} {after : Array Edge} {x : Operand} {t u : TypeId}
 (h : gC P n ((pre ++ ⟨d, .typeAssert x t u true, ty, pos, after, none⟩ :: post).map (·.dst)) pre T H V fun T H V => kv d n ∧
  ∃ c u' pv, em T x = .v (.iface u' pv) /\ (∀ m w V, ag m w V c pv) /\ (∀ (A : Act) (w : World), A.eval x = .iface u' pv -> (execOp A.eval ⟨d, .typeAssert x t u true, ty, pos, after, none⟩).run P w = .ok (.value (.tuple #[pv, .bool true])) w) ∧
   sG P n ((pre ++ ⟨d, .typeAssert x t u true, ty, pos, after, none⟩ :: post).map (·.dst)) d post T (Q .normal) (.tup [c, .v (.bool true)]) H V) :
 ac P n nb nv (.region id (pre ++ ⟨d, .typeAssert x t u true, ty, pos, after, none⟩ :: post).toArray false) Q T H V := by
 intro ro D m w a m0 w0 V0 h1 h2 h3 hx hs;generalize hops : pre ++ ⟨d, .typeAssert x t u true, ty, pos, after, none⟩ :: post = ops at h ⊢;rw [gC, <- bF] at h;refine wpIn_region_list ?_;have e : ops.toArray.toList = pre ++ (⟨d, .typeAssert x t u true, ty, pos, after, none⟩ :: post) := by rw [hops]
 rw [e];refine d7 (P := P) (Q := fun e a' w' => ∃ T' H' V' m', Q e T' H' V' /\ St D n m' w' a' T' H' V' /\ bh m0 w0 V0 m' w' V') pre hs h fun T1 H1 V1 a1 w1 m1 ⟨hd, c, u', pv, he, hr, iF, hk⟩ s1 x1 => ?_;unfold wpListIn;rw [if_pos (by simp [Region.wanted])];have hev := fw s1.tm x;rw [he, ag] at hev;refine ⟨fun _ _ => trivial, ?_⟩;rw [Oper.semAt_eq _ _ _ (by intro c e; cases e), iF a1 w1 hev, Oper.uponIn_value];have q2 : bS P n (ops.map (·.dst)) post (bQ d (.tup [c, .v (.bool true)]) T1) H1 V1 (Q .normal) := hk;rw [<- bF] at q2;have hrel : ag m1 w1 V1 (.tup [c, .v (.bool true)]) (.tuple #[pv, .bool true]) := by
  rw [ag]; exact ⟨[pv, .bool true], rfl, by rw [av]; exact ⟨_, _, rfl, hr _ _ _, by rw [av]; exact ⟨_, _, rfl, by rw [ag], by rw [av]⟩⟩⟩
 have hst : St D n m1 w1 (a1.put d (.tuple #[pv, .bool true])) (bQ d (.tup [c, .v (.bool true)]) T1) H1 V1 := ⟨s1.inv, (s1.tm).put hrel (by rw [s1.size]; exact hd), by rw [cg]; exact s1.size, by rw [bu]; exact s1.df⟩
 exact fH (P := P) (Q := fun e a' w' => ∃ T' H' V' m', Q e T' H' V' /\ St D n m' w' a' T' H' V' /\ bh m0 w0 V0 m' w' V') post hst q2 fun T' H' V' a' w' m' k1 k2 k3 => ⟨T', H', V', m', k1, k2, (hx.trans x1).trans k3⟩
end
def tG (o : Oper) : Option (Operand × Array Operand) :=
 match o with
 | ⟨_, .call ⟨.value f, args, _⟩, _, _, _, none⟩ => some (f, args)
 | _ => none
section
variable {P : Program} {n nb nv id : Nat} {ops : List Oper} {Q : Exit -> Tm -> Hp -> List Nat -> Prop}
theorem B7 {o : Oper} {f : Operand} {args : Array Operand} (h : tG o = some (f, args)) : ∃ tys, o.op = .call ⟨.value f, args, tys⟩ /\ o.guard = none := by
 unfold tG at h
 split at h
 · cases h; exact ⟨_, rfl, rfl⟩
 · cases h
theorem CY {D : Dl} {ro : Option Nat} {i : Nat} {f : Nat} {listed : Array Bool} {m0 : Gh} {w0 : World} {V0 : List Nat} {T : Tm} {H : Hp} {V : List Nat} {m : Gh} {w : World} {a : Act} {K : Tm -> Hp -> List Nat -> Prop}
 (hs : St D n m w a T H V) (hx : bh m0 w0 V0 m w V) (h : bv (ops[i]?) fun o => bS P n (ops.map (·.dst)) [o] T H V K)
 (hk : ∀ T' H' V' m' w' a', K T' H' V' -> St D n m' w' a' T' H' V' -> bh m0 w0 V0 m' w' V' -> wpAnyIn (g8 ro) 0 P .any ops.toArray (fun e a' w' => ∃ T' H' V' m', Q e T' H' V' /\ St D n m' w' a' T' H' V' /\ bh m0 w0 V0 m' w' V') f (listed.setIfInBounds i true) a' w') :
 wpOpIn (g8 ro) 0 P ops.toArray (fun e a' w' => ∃ T' H' V' m', Q e T' H' V' /\ St D n m' w' a' T' H' V' /\ bh m0 w0 V0 m' w' V') i (wpAnyIn (g8 ro) 0 P .any ops.toArray (fun e a' w' => ∃ T' H' V' m', Q e T' H' V' /\ St D n m' w' a' T' H' V' /\ bh m0 w0 V0 m' w' V') f (listed.setIfInBounds i true)) a w := by
 cases hi : ops[i]? with
 | none => rw [hi] at h; exact (show False from h).elim
 | some o =>
  rw [hi, lC, <- bF] at h;refine gN hi hs.inv hs.tm hs.size (jo h) fun E' H' V' a' m' w' k1 k2 k3 k4 k5 k6 => ?_;obtain ⟨T', rfl, k1⟩ := k1;exact hk T' H' V' m' w' a' k1 ⟨k2, k3, k4, by rw [k5]; exact hs.df.mono k6⟩ (hx.trans k6)
end
section
variable {P : Program} {n : Nat} {ops : List Oper} {N : Tm -> Hp -> List Nat -> Prop} {E : List PanicEntry -> Tm -> Hp -> List Nat -> Prop} {T T' : Tm} {H H' : Hp} {V V' : List Nat}
end
end
section
section
variable {P : Program} {n : Nat} {ops : List Oper}
end
section
variable {P : Program} {n : Nat} {ds : List (Option Tmp)} {ls : List Oper} {S : List Nat} {T T' : Tm} {H H' : Hp} {V V' : List Nat} {K : Tm -> Hp -> List Nat -> Prop}
end
end
theorem qT : ∀ (cs : List CV), aY 1 cs.length cs = cs.map fun c => [c]
 | [] => rfl
 | c :: cs => by
  rw [length_cons, aY, take_succ_cons, take_zero, drop_succ_cons, drop_zero, qT cs]; rfl
theorem jD.refl : ∀ (cs : List CV), jD cs cs
 | [] => .nil
 | c :: cs => .cons (.refl c) (jD.refl cs)
def CV.isObj : CV -> Bool
 | .objl .. => true
 | .objm .. => true
 | .obji .. => true
 | _ => false
theorem j4.isObj {m : Gh} {w : World} {V : List Nat} {k : Nat} {x : CV} (h : j4 m w V k x) : x.isObj = true := by
 cases x <;> first | rfl | exact (show False from h).elim
theorem bE.weak {m : Gh} {w : World} {H : Hp} {V : List Nat} {b : Nat} {cs ds : List CV} (hi : bE m w H V) (hb : H[b]? = some (some cs)) (h : jD cs ds) (hno : ∀ x ∈ cs, x.isObj = false) : bE m w (H.set b (some ds)) V := by
 have hbl : b < H.length := (List.getElem?_eq_some_iff.1 hb).1;refine ⟨by rw [length_set]; exact hi.boxlen, hi.tiplen, hi.limv, hi.tips, hi.boxes, fun b1 b2 k c1 c2 g1 g2 g3 g4 => ?_, fun b1 c1 g => ?_⟩
 · have old : ∀ (b1 : Nat) c1, (H.set b (some ds))[b1]? = some (some c1) -> ∃ c0, H[b1]? = some (some c0) := fun b1 c1 g => by
    by_cases e : b = b1
    · subst e; exact ⟨_, hb⟩
    · rw [getElem?_set_ne e] at g; exact ⟨_, g⟩
   obtain ⟨_, o1⟩ := old _ _ g1;obtain ⟨_, o2⟩ := old _ _ g2;exact hi.uniq b1 b2 k _ _ o1 o2 g3 g4
 · by_cases e : b = b1
   · subst e
     rw [getElem?_set_self hbl] at g;obtain rfl : ds = c1 := by simpa using g
     cases hi.live b cs hb with
     | row k c e h1 h2 h3 h4 h5 => exact .row k c e h1 h2 (by rw [<- h.len]; exact h3) h4 (h.relC h5)
     | obj k x h1 h2 h3 =>
      have := hno x (by rw [h2]; simp);rw [h3.isObj] at this; cases this
   · rw [getElem?_set_ne e] at g
     exact hi.live b1 c1 g
theorem cL.weak {n nb nv : Nat} {T : Tm} {H : Hp} {V : List Nat} {b : Nat} {cs ds : List CV} (hb : H[b]? = some (some cs)) (h : jD cs ds) (hno : ∀ x ∈ cs, x.isObj = false) : cL n nb nv T H V T (H.set b (some ds)) V := fun D m w a m0 w0 V0 h1 h2 h3 hx hs =>
 ⟨m, ⟨hs.inv.weak hb h hno, hs.tm, hs.size, hs.df⟩, hx⟩
end Go.Proofs.YtfflhepmkhlppaaGreatDoor
