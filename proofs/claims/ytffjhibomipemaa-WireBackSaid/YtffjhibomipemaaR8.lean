import Derived.Test.YtffjhibomipemaaR1
import Derived.ChangeKeysEq
namespace Go.Proofs.Ytffjhibomipemaa
/-! ### Whether two arrays or structs of integers are equal -/
def ints (k : IntKind) (zs : List Int) : Array Value := (zs.map fun z => Value.int k z).toArray
theorem zip_rep (k : IntKind) : ∀ (n : Nat) (zs : List Int), zs.length = n → (((List.replicate n k).zip zs).map fun p => Value.int p.1 p.2) = zs.map fun z => Value.int k z
  | 0, [], _ => rfl
  | n + 1, z :: zs, h => by
    rw [List.replicate_succ, List.zip_cons_cons, List.map_cons, List.map_cons, zip_rep k n zs (by simpa using h)]
  | 0, _ :: _, h => by simp at h
  | n + 1, [], h => by simp at h
theorem all_range_int : ∀ (xs ys : List Int), xs.length = ys.length → ((List.range xs.length).all fun i => xs.getD i 0 == ys.getD i 0) = decide (xs = ys)
  | [], [], _ => rfl
  | x :: xs, y :: ys, h => by
    have ih := all_range_int xs ys (by simpa using h)
    rw [List.length_cons, List.range_succ_eq_map, List.all_cons, List.all_map]
    simp only [List.getD_cons_zero, Function.comp_def, List.getD_cons_succ, ih]
    by_cases hx : x = y <;> simp [hx]
  | [], _ :: _, h => by simp at h
  | _ :: _, [], h => by simp at h
section
variable {P : Program}
theorem run_eqItems_ints (w : World) (d : Nat) {e : TypeId} {k : IntKind} (he : P.underlying e = some (.int k)) (xs ys : List Int) : ∀ l : List Nat, (∀ i ∈ l, i < xs.length ∧ i < ys.length) →
    (Op.eqItems (d + 1) e 1 (ints k xs) (ints k ys) l).run P w = .ok (l.all fun i => xs.getD i 0 == ys.getD i 0) w
  | [], _ => by simp [Op.eqItems]
  | i :: l, h => by
    obtain ⟨h1, h2⟩ := h i (by simp)
    have px : (part e (ints k xs) (i * 1)).run P w = .ok (.int k (xs.getD i 0)) w := by
      simp [ints, part, isAgg, run_underlying he, List.getD, List.getElem?_eq_getElem h1]
    have py : (part e (ints k ys) (i * 1)).run P w = .ok (.int k (ys.getD i 0)) w := by
      simp [ints, part, isAgg, run_underlying he, List.getD, List.getElem?_eq_getElem h2]
    have pe : (Op.equalIn (d + 1) e (.int k (xs.getD i 0)) (.int k (ys.getD i 0))).run P w = .ok (xs.getD i 0 == ys.getD i 0) w := run_equalIn_int w d e k k _ _ he
    simp only [Op.eqItems, Sem.run_bind, px, py, pe, Result.andThen_ok, List.all_cons]
    cases hb : (xs.getD i 0 == ys.getD i 0)
    · simp
    · simp only [Bool.not_true, Bool.false_eq_true, if_false, Bool.true_and]
      exact run_eqItems_ints w d he xs ys l fun j hj => h j (List.mem_cons_of_mem _ hj)
theorem flatEq_array {t e : TypeId} {n : Nat} {k : IntKind} {i : TypeInfo} (hu : P.underlying t = some (.array n e)) (hi : P.info? e = some i) (he : P.underlying e = some (.int k)) (hc : P.cellsOf e = 1) (hg : P.eqGuardType P.depth t = false) : FlatEq P t (List.replicate n k) := by
  refine ⟨hg, fun w zs zs' h1 h2 => ?_⟩
  rw [List.length_replicate] at h1 h2
  rw [zip_rep k n zs h1, zip_rep k n zs' h2]
  show (Op.equalIn 10000 t (.agg (ints k zs)) (.agg (ints k zs'))).run P w = _
  rw [run_equalIn_array w 9999 _ _ hu hi, hc, run_eqItems_ints w 9998 he _ _ _ (fun i hi => by rw [List.mem_range] at hi; omega), ← h1, all_range_int _ _ (by omega)]
theorem flatEq_pair {t e : TypeId} {f g : Field} {k : IntKind} (hu : P.underlying t = some (.struct #[f, g])) (hf : f.type = e) (hg : g.type = e) (of : f.offset = 0) (og : g.offset = 1) (nf : f.name ≠ "_") (ng : g.name ≠ "_") (he : P.underlying e = some (.int k)) (hs : P.stoodInHeld t = false) (hq : P.eqGuardType P.depth t = false) : FlatEq P t [k, k] := by
  refine ⟨hq, fun w zs zs' h1 h2 => ?_⟩
  match zs, zs', h1, h2 with
  | [a, b], [c, d], _, _ =>
    show (Op.equalIn 10000 t (.agg (ints k [a, b])) (.agg (ints k [c, d]))).run P w = _
    have hF : P.fieldsOf t = #[f, g] := by unfold Program.fieldsOf; rw [hu]
    rw [run_equalIn_agg w 9999 _ _ _ (by rw [hF]; exact hu) hs, hF]
    have p1 : (part e (ints k [a, b]) 0).run P w = .ok (.int k a) w := by simp [ints, part, isAgg, run_underlying he]
    have p2 : (part e (ints k [a, b]) 1).run P w = .ok (.int k b) w := by simp [ints, part, isAgg, run_underlying he]
    have p3 : (part e (ints k [c, d]) 0).run P w = .ok (.int k c) w := by simp [ints, part, isAgg, run_underlying he]
    have p4 : (part e (ints k [c, d]) 1).run P w = .ok (.int k d) w := by simp [ints, part, isAgg, run_underlying he]
    have q1 : (Op.equalIn 9999 e (.int k a) (.int k c)).run P w = .ok (a == c) w := run_equalIn_int w 9998 e k k _ _ he
    have q2 : (Op.equalIn 9999 e (.int k b) (.int k d)).run P w = .ok (b == d) w := run_equalIn_int w 9998 e k k _ _ he
    simp only [Op.eqFields, hf, hg, of, og, nf, ng, ne_eq, not_false_eq_true, if_true, Sem.run_bind, p1, p3, q1, Result.andThen_ok]
    cases h1 : (a == c)
    · have : a ≠ c := by simpa using h1
      simp [this]
    · have h1 : a = c := by simpa using h1
      simp only [Bool.not_true, Bool.false_eq_true, if_false, Sem.run_bind, p2, p4, q2, Result.andThen_ok]
      cases h2 : (b == d)
      · have : b ≠ d := by simpa using h2
        simp [h1, this]
      · have h2 : b = d := by simpa using h2
        simp [h1, h2]
end
theorem fits_rep (k : IntKind) : ∀ zs : List Int, fits (List.replicate zs.length k) (zs.map fun z => CV.v (.int k z))
  | [] => by rw [List.length_nil, List.replicate_zero, fits]; rfl
  | z :: zs => by rw [List.length_cons, List.replicate_succ, fits]; exact ⟨z, _, rfl, fits_rep k zs⟩
end Go.Proofs.Ytffjhibomipemaa
