/-
  A PROGRAM LOGIC, PART 7: slice expressions, composite literals, calls; all operations together.
-/
import Derived.Test.YtffjhibomipemaaL6
namespace Go.Proofs.Ytffjhibomipemaa

section
variable {P : Program} {m : Gh} {w : World} {H : Hp} {V : List Nat}

theorem bound_run {o : Option Operand} {ev : Operand → CV} {ρ : Operand → Value} (hev : ∀ x, RelV m w V (ev x) (ρ x)) (h : bok (o.map ev)) (d y : Nat) (hy : bvl (o.map ev) d ≤ y) (code : BoundsCode) :
    (match o.map ρ with | some v => Instr.sliceBound v y code | none => (pure d : Sem Nat)).run P w = .ok (bvl (o.map ev) d) w := by
  cases o with
  | none => rfl
  | some x =>
    have hx := hev x
    simp only [Option.map_some] at h hy ⊢
    unfold bok at h
    split at h
    · rename_i he; cases he
    · rename_i k n he
      injection he with he
      rw [he, RelV] at hx
      rw [hx, he]
      rw [he] at hy
      exact run_sliceBound w k n y code h (by simp only [bvl] at hy; omega)
    · exact h.elim

theorem bounds_run {lo hi mx : Option Operand} {ev : Operand → CV} {ρ : Operand → Value} (hev : ∀ x, RelV m w V (ev x) (ρ x)) (h1 : bok (lo.map ev)) (h2 : bok (hi.map ev)) (h3 : bok (mx.map ev)) (isSlice : Bool) (len cap : Nat) (hlc : len ≤ cap)
    (hlh : bvl (lo.map ev) 0 ≤ bvl (hi.map ev) len) (hhn : bvl (hi.map ev) len ≤ len) (hm : mx.isSome = true → hi.isSome = true ∧ bvl (mx.map ev) 0 = bvl (hi.map ev) 0) :
    (Instr.sliceBounds isSlice len cap (lo.map ρ) (hi.map ρ) (mx.map ρ)).run P w = .ok (bvl (lo.map ev) 0, bvl (hi.map ev) len, if mx.isSome then bvl (hi.map ev) len else cap) w := by
  cases mx with
  | none =>
    have ha := fun code => bound_run (P := P) hev h2 len cap (Nat.le_trans hhn hlc) code
    have hb := fun code => bound_run (P := P) hev h1 0 (bvl (hi.map ev) len) hlh code
    cases hi with
    | none =>
      simp only [Option.map_none, bvl] at ha hb hlh hhn ⊢
      cases lo with
      | none => simp [Instr.sliceBounds]
      | some l => simp only [Option.map_some] at hb ⊢; simp [Instr.sliceBounds, hb]
    | some x =>
      simp only [Option.map_some] at ha hb ⊢
      cases lo with
      | none =>
        have hz : bvl none 0 = 0 := rfl
        cases isSlice <;> simp [Instr.sliceBounds, ha, hz]
      | some l => simp only [Option.map_some] at hb ⊢; cases isSlice <;> simp [Instr.sliceBounds, ha, hb]
  | some q =>
    obtain ⟨hs, he⟩ := hm rfl
    cases hi with
    | none => cases hs
    | some x =>
      have hd : ∀ d, bvl (some (ev x)) d = bvl (some (ev x)) 0 := fun d => by
        simp only [Option.map_some] at h2
        unfold bok at h2
        split at h2
        · rename_i he; cases he
        · rename_i k n he; injection he with he; rw [he]; rfl
        · exact h2.elim
      simp only [Option.map_some] at *
      rw [hd len] at *
      have hc := fun code => bound_run (P := P) (o := some q) hev h3 0 cap (by simp only [Option.map_some]; rw [he]; omega) code
      have ha := fun code => bound_run (P := P) (o := some x) hev h2 0 (bvl (some (ev q)) 0) (by simp only [Option.map_some]; rw [he]; exact Nat.le_refl _) code
      have hb := fun code => bound_run (P := P) hev h1 0 (bvl (some (ev x)) 0) hlh code
      simp only [Option.map_some] at ha hb hc
      rw [he] at hc ha
      have hz : bvl none 0 = 0 := rfl
      cases lo with
      | none => simp [Instr.sliceBounds, hc, ha, hz]
      | some l => simp only [Option.map_some] at hb ⊢; simp [Instr.sliceBounds, hc, ha, hb]

theorem relV_dropped {tk : Tk} {sz : Nat} {xs : List (List CV)} {base : Option Addr} {cap l : Nat} (hu : RelV m w V (.sl tk sz xs) (.slice base xs.length cap)) (hl : l ≤ xs.length) :
    RelV m w V (.sl tk sz (xs.drop l)) (.slice (if cap = l then base else base.map (·.add (l * sz))) (xs.length - l) (cap - l)) := by
  rw [RelV] at hu ⊢
  obtain ⟨base', cap', he, h1, h2, h3, h4⟩ := hu
  cases he
  refine ⟨(if cap = l then base else base.map (·.add (l * sz))), cap - l, by simp, by simp; omega, ?_, h3, ?_⟩
  · cases tk with
    | sh => trivial
    | ti => have h2 : cap = xs.length := h2; show cap - l = _; simp [h2]
    | own t v =>
      obtain ⟨v', q1, q2, q3⟩ := (h2 : OwnOk m w V t v sz xs.length cap base)
      refine ⟨v', q1, q2, fun e => ?_⟩
      rcases q3 e with q3 | ⟨k, o, c, ec, rfl, ht1, ht2, ht3, ht4⟩
      · left; simp [q3]
      · by_cases hcl : cap = l
        · left; simp; omega
        · refine .inr ⟨k, o + l * sz, c, ec, by simp [hcl, addr_add], ht1, ?_, ht3, ?_⟩
          · rw [← ht2, List.length_drop, Nat.add_assoc, ← Nat.add_mul]; congr 2; omega
          · rw [Nat.add_assoc, ← Nat.add_mul]
            refine Nat.le_trans (Nat.add_le_add_left (Nat.mul_le_mul_right _ ?_) _) ht4
            omega
  · by_cases hl2 : l = xs.length
    · left; simp [hl2]
    · rcases h4 with rfl | ⟨k, o, rfl, h5, h6⟩
      · left; simp
      · right
        refine ⟨k, o + l * sz, ?_, ?_, relE_drop h6 l⟩
        · rw [if_neg (by omega)]; simp [addr_add]
        · rw [List.length_drop, Nat.add_assoc, ← Nat.add_mul]
          refine Nat.le_trans (Nat.add_le_add_left (Nat.mul_le_mul_right _ ?_) _) h5
          omega

theorem relV_taken {tk : Tk} {sz : Nat} {xs : List (List CV)} {base : Option Addr} {cap n : Nat} (hu : RelV m w V (.sl tk sz xs) (.slice base xs.length cap)) (hl : n ≤ xs.length) (cap' : Nat) (hc : n ≤ cap') :
    RelV m w V (.sl .sh sz (xs.take n)) (.slice base n cap') ∧ (cap' = n → RelV m w V (.sl .ti sz (xs.take n)) (.slice base n cap')) := by
  rw [RelV] at hu
  obtain ⟨base', cap0, he, h1, h2, h3, h4⟩ := hu
  cases he
  have hlen : (xs.take n).length = n := by simp; omega
  have h5 : xs.take n = [] ∨ ∃ k o, base = some ⟨k, o, none⟩ ∧ o + (xs.take n).length * sz ≤ m.lim k ∧ RelE m w V k sz (xs.take n) o := by
    rcases h4 with rfl | ⟨k, o, rfl, h5, h6⟩
    · left; simp
    · right
      refine ⟨k, o, rfl, ?_, relE_take h6 n⟩
      rw [hlen]
      exact Nat.le_trans (Nat.add_le_add_left (Nat.mul_le_mul_right _ hl) _) h5
  constructor
  · rw [RelV]; exact ⟨base, cap', by rw [hlen], by omega, trivial, h3, h5⟩
  · intro e; rw [RelV]; exact ⟨base, cap', by rw [hlen], by omega, by rw [hlen]; exact e, h3, h5⟩

theorem cslice_run {t : TypeId} {x : CV} {u : Value} (hx : RelV m w V x u) {lo hi' mx : Option Operand} {ev : Operand → CV} {ρ : Operand → Value} (hev : ∀ x, RelV m w V (ev x) (ρ x)) {K : CV → Prop}
    (h : cslice P t x (lo.map ev) (hi'.map ev) (mx.map ev) K) : ∃ c r, (Instr.sliceAt t u (lo.map ρ) (hi'.map ρ) (mx.map ρ)).run P w = .ok r w ∧ RelV m w V c r ∧ K c := by
  obtain ⟨b1, b2, b3, h⟩ := h
  split at h
  · rename_i tk sz xs
    obtain ⟨ht, hlh, hhn, h⟩ := h
    obtain ⟨e, ht⟩ := sl2 ht
    obtain ⟨_, _, hu, _⟩ := slTy_some ht
    have hx' := hx
    rw [RelV] at hx
    obtain ⟨base, cap, rfl, h1, h2, h3, h4⟩ := hx
    have run := fun hm => bounds_run (P := P) (mx := mx) hev b1 b2 b3 true xs.length cap h1 hlh hhn hm
    have fin : ∀ l h q, (Instr.sliceBounds true xs.length cap (lo.map ρ) (hi'.map ρ) (mx.map ρ)).run P w = .ok (l, h, q) w →
        (Instr.sliceAt t (.slice base xs.length cap) (lo.map ρ) (hi'.map ρ) (mx.map ρ)).run P w = .ok (.slice (if q = l then base else base.map (·.add (l * sz))) (h - l) (q - l)) w := fun l h q hb => by
      simp [Instr.sliceAt, Instr.slice, run_underlying hu, hb, slSize_run ht]
    cases hi' with
    | none =>
      cases mx with
      | some q => exact h.elim
      | none =>
        refine ⟨_, _, fin _ _ _ (run (by simp)), ?_, h⟩
        exact relV_dropped hx' hlh
    | some y =>
      have hd : ∀ d, bvl (some (ev y)) d = bvl (some (ev y)) 0 := fun d => by
        simp only [Option.map_some] at b2
        unfold bok at b2
        split at b2
        · rename_i he; cases he
        · rename_i k n he; injection he with he; rw [he]; rfl
        · exact b2.elim
      simp only [Option.map_some] at hlh hhn run h
      rw [hd xs.length] at hlh hhn
      have hlen : (xs.take (bvl (some (ev y)) 0)).length = bvl (some (ev y)) 0 := by simp; omega
      cases mx with
      | none =>
        refine ⟨_, _, fin _ _ _ (run (by simp)), ?_, h⟩
        have ht1 := (relV_taken hx' hhn cap (by omega)).1
        have := relV_dropped (l := bvl (lo.map ev) 0) (by rw [hlen]; exact ht1) (by rw [hlen]; exact hlh)
        rw [hlen] at this
        simpa [hd] using this
      | some q =>
        obtain ⟨he, h⟩ := h
        refine ⟨_, _, fin _ _ _ (run (fun _ => ⟨rfl, he⟩)), ?_, h⟩
        have ht1 := (relV_taken hx' hhn (bvl (some (ev y)) 0) (Nat.le_refl _)).2 rfl
        have := relV_dropped (l := bvl (lo.map ev) 0) (by rw [hlen]; exact ht1) (by rw [hlen]; exact hlh)
        rw [hlen] at this
        simpa [hd] using this
  · obtain ⟨ht, hm, hl, hh, h⟩ := h
    obtain ⟨e, sz, ht⟩ := sl1 ht
    obtain ⟨_, _, hu, _⟩ := slTy_some ht
    rw [RelV] at hx; subst hx
    have hmx : mx = none := by cases mx <;> simp_all
    subst hmx
    have run := bounds_run (P := P) (mx := none) hev b1 b2 b3 true 0 0 (Nat.le_refl _) (by omega) (by omega) (by simp)
    refine ⟨_, .slice none 0 0, ?_, by rw [RelV], h⟩
    simp only [hl, hh, Option.map_none] at run
    simp [Instr.sliceAt, Instr.slice, run_underlying hu, run, slSize_run ht]
  · rename_i b o
    obtain ⟨hm, n, g, sz, ht, hlh, hhn, h⟩ := h
    obtain ⟨e, hu, hl, hsz, _⟩ := arTy_some ht
    rw [RelV] at hx
    obtain ⟨k, hk, rfl⟩ := hx
    have hmx : mx = none := by cases mx <;> simp_all
    subst hmx
    have run := bounds_run (P := P) (mx := none) hev b1 b2 b3 false n n (Nat.le_refl _) hlh hhn (by simp)
    simp only [Option.map_none] at run
    refine ⟨_, .slice (some (if n = bvl (lo.map ev) 0 then ⟨k, o, none⟩ else (⟨k, o, none⟩ : Addr).add (bvl (lo.map ev) 0 * sz))) (bvl (hi'.map ev) n - bvl (lo.map ev) 0) (n - bvl (lo.map ev) 0), by simp [Instr.sliceAt, run_underlying hu, Instr.sureAddr, run, sizeOf_run hl], ?_, h⟩
    rw [RelV]
    refine ⟨_, _, k, rfl, by omega, Nat.pos_of_ne_zero hsz, hk, ?_⟩
    by_cases hz : bvl (hi'.map ev) n - bvl (lo.map ev) 0 = 0
    · exact .inl hz
    · right
      rw [if_neg (by omega), addr_add]
  · rename_i b o n sz
    obtain ⟨hm, ht, hlh, hhn, h⟩ := h
    obtain ⟨e, ht⟩ := sl2 ht
    obtain ⟨_, _, hu, _, _, hpos, _⟩ := slTy_some ht
    rw [RelV] at hx
    obtain ⟨base, cap, k, rfl, h1, h2, hk, h3⟩ := hx
    have hmx : mx = none := by cases mx <;> simp_all
    subst hmx
    have run := bounds_run (P := P) (mx := none) hev b1 b2 b3 true n cap h1 hlh hhn (by simp)
    simp only [Option.map_none] at run
    refine ⟨_, .slice (if cap = bvl (lo.map ev) 0 then base else base.map (·.add (bvl (lo.map ev) 0 * sz))) (bvl (hi'.map ev) n - bvl (lo.map ev) 0) (cap - bvl (lo.map ev) 0), by simp [Instr.sliceAt, Instr.slice, run_underlying hu, run, slSize_run ht], ?_, h⟩
    rw [RelV]
    refine ⟨_, _, k, rfl, by omega, hpos, hk, ?_⟩
    by_cases hz : bvl (hi'.map ev) n - bvl (lo.map ev) 0 = 0
    · exact .inl hz
    · right
      rcases h3 with rfl | rfl
      · omega
      · rw [if_neg (by omega)]; simp [addr_add]
  · exact h.elim
end
end Go.Proofs.Ytffjhibomipemaa
