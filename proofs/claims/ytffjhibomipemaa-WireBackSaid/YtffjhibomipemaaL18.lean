/-
  A PROGRAM LOGIC, PART 18: a box that is handed over within a value is let go.
-/
import Derived.Test.YtffjhibomipemaaL17
namespace Go.Proofs.Ytffjhibomipemaa

mutual
inductive Fy (b : Nat) (cs : List CV) : CV → CV → Prop
  | refl (c : CV) : Fy b cs c c
  | bsl (o n sz : Nat) (h : o + n * sz ≤ cs.length) : Fy b cs (.bsl b o n sz) (.sl .sh sz (chunks sz n (cs.drop o)))
  | agg {xs ys : List CV} (h : FyL b cs xs ys) : Fy b cs (.agg xs) (.agg ys)
  | tup {xs ys : List CV} (h : FyL b cs xs ys) : Fy b cs (.tup xs) (.tup ys)
  | sl (tk : Tk) (sz : Nat) {xs ys : List (List CV)} (h : FyE b cs xs ys) : Fy b cs (.sl tk sz xs) (.sl .sh sz ys)
inductive FyL (b : Nat) (cs : List CV) : List CV → List CV → Prop
  | nil : FyL b cs [] []
  | cons {c d : CV} {xs ys : List CV} (h : Fy b cs c d) (t : FyL b cs xs ys) : FyL b cs (c :: xs) (d :: ys)
inductive FyE (b : Nat) (cs : List CV) : List (List CV) → List (List CV) → Prop
  | nil : FyE b cs [] []
  | cons {c d : List CV} {xs ys : List (List CV)} (h : FyL b cs c d) (t : FyE b cs xs ys) : FyE b cs (c :: xs) (d :: ys)
end
theorem FyL.len {b : Nat} {cs : List CV} : ∀ {xs ys : List CV}, FyL b cs xs ys → xs.length = ys.length
  | _, _, .nil => rfl
  | _, _, .cons _ t => by rw [List.length_cons, List.length_cons, FyL.len t]
theorem FyE.len {b : Nat} {cs : List CV} : ∀ {xs ys : List (List CV)}, FyE b cs xs ys → xs.length = ys.length
  | _, _, .nil => rfl
  | _, _, .cons _ t => by rw [List.length_cons, List.length_cons, FyE.len t]

section
variable {m : Gh} {w : World} {V : List Nat} {b k : Nat} {cs : List CV}
mutual
theorem Fy.rel (hb : m.box[b]? = some k) (hl : cs.length ≤ m.lim k) (hc : RelC m w V k cs 0) {x y : CV} : ∀ {u : Value}, Fy b cs x y → RelV m w V x u → RelV m w V y u
  | _, .refl _, h => h
  | _, .bsl o n sz ho, h => Fz.rel hb hl hc (.bsl o n sz ho) h
  | _, .agg hq, h => by rw [RelV] at h; rw [RelV]; obtain ⟨us, h1, h2⟩ := h; exact ⟨us, h1, FyL.rel hb hl hc hq h2⟩
  | _, .tup hq, h => by rw [RelV] at h; rw [RelV]; obtain ⟨us, h1, h2⟩ := h; exact ⟨us, h1, FyL.rel hb hl hc hq h2⟩
  | _, .sl tk sz hq, h => by
    rw [RelV] at h; rw [RelV]
    obtain ⟨base, cap, h1, h2, h3, h4, h5⟩ := h
    have e := hq.len
    refine ⟨base, cap, by rw [← e]; exact h1, by rw [← e]; exact h2, trivial, h4, ?_⟩
    rcases h5 with h5 | ⟨k', o, h6, h7, h8⟩
    · left
      subst h5
      exact List.eq_nil_of_length_eq_zero e.symm
    · exact .inr ⟨k', o, h6, by rw [← e]; exact h7, FyE.rel hb hl hc hq h8⟩
theorem FyL.rel (hb : m.box[b]? = some k) (hl : cs.length ≤ m.lim k) (hc : RelC m w V k cs 0) {xs ys : List CV} : ∀ {us : List Value}, FyL b cs xs ys → RelL m w V xs us → RelL m w V ys us
  | _, .nil, h => h
  | _, .cons h t, hr => by
    rw [RelL] at hr; rw [RelL]
    obtain ⟨u, r, h1, h2, h3⟩ := hr
    exact ⟨u, r, h1, Fy.rel hb hl hc h h2, FyL.rel hb hl hc t h3⟩
theorem FyC.rel (hb : m.box[b]? = some k) (hl : cs.length ≤ m.lim k) (hc : RelC m w V k cs 0) {xs ys : List CV} {k' : Nat} : ∀ {o : Nat}, FyL b cs xs ys → RelC m w V k' xs o → RelC m w V k' ys o
  | _, .nil, h => h
  | _, .cons h t, hr => by
    rw [RelC] at hr; rw [RelC]
    obtain ⟨⟨u, h1, h2, h3⟩, h4⟩ := hr
    exact ⟨⟨u, h1, Fy.rel hb hl hc h h2, h3⟩, FyC.rel hb hl hc t h4⟩
theorem FyE.rel (hb : m.box[b]? = some k) (hl : cs.length ≤ m.lim k) (hc : RelC m w V k cs 0) {xs ys : List (List CV)} {k' sz : Nat} : ∀ {o : Nat}, FyE b cs xs ys → RelE m w V k' sz xs o → RelE m w V k' sz ys o
  | _, .nil, h => h
  | _, .cons h t, hr => by
    rw [RelE] at hr; rw [RelE]
    obtain ⟨h1, h2, h3⟩ := hr
    exact ⟨by rw [← h.len]; exact h1, FyC.rel hb hl hc h h2, FyE.rel hb hl hc t h3⟩
end
end

/-- A call to which a box is handed over within a value: from then on its contents are fixed. -/
theorem CC.let_go {P : Program} {f : FuncId} {xs : List CV} (ys : List CV) {H : Hp} {V : List Nat} {R : CV → Hp → List Nat → Prop} (b : Nat) (cs : List CV) (hb : H[b]? = some (some cs)) (h : FyL b cs xs ys) (hc : CC P f ys (H.set b none) V R) : CC P f xs H V R := by
  refine ⟨hc.1, fun m w us hi hu => ?_⟩
  obtain ⟨k, c, e, g1, g2, g3, g4, g5⟩ := hi.alive b cs hb
  let m' : Gh := { m with lim := fun j => if j = k then cs.length else m.lim j }
  have hml : ∀ j, m'.lim j = if j = k then cs.length else m.lim j := fun _ => rfl
  have hx' : Ext m w V m' w V := by
    refine ⟨rfl, rfl, rfl, Nat.le_refl _, fun k c e fr h => ⟨c, h, rfl⟩, fun j => ?_, fun _ _ _ => rfl, fun _ _ _ _ => rfl, fun _ _ h => h, fun _ _ h => .inl h, fun t k h => .inl h, fun t v h => ⟨v, h, Nat.le_refl _, fun _ => ⟨rfl, fun j hj => ?_⟩⟩⟩
    · rw [hml]; split
      · rename_i h; rw [h, g4]; omega
      · exact Nat.le_refl _
    · have : j ≠ k := fun e => (hi.tips t j hj).2.1 b (by rw [e]; exact g1)
      rw [hml, if_neg this]
  have hi' : Inv m' w (H.set b none) V := by
    refine ⟨by simp [m', hi.boxlen], hi.tiplen, fun j hj => ?_, hi.tips, hi.boxes, fun b' c0 h => ?_⟩
    · by_cases hjk : j = k
      · subst hjk; exact ⟨c, e, (0, 0), g2, by rw [hml, if_pos rfl]; exact g3⟩
      · rw [hml, if_neg hjk] at hj ⊢; exact hi.limv j hj
    · by_cases hbb : b = b'
      · subst hbb
        rw [List.getElem?_set_self (List.getElem?_eq_some_iff.1 hb).1] at h
        cases h
      · rw [List.getElem?_set_ne hbb] at h
        obtain ⟨k', c1, e1, q1, q2, q3, q4, q5⟩ := hi.alive b' c0 h
        have hkk : k' ≠ k := fun e => hbb ((hi.boxes b' k' q1).2 b (by rw [e]; exact g1))
        exact ⟨k', c1, e1, q1, q2, q3, by rw [hml, if_neg hkk]; exact q4, relC_box hx' rfl q5⟩
  have hu' : RelL m' w V ys us := FyL.rel (m := m') (k := k) g1 (by rw [hml, if_pos rfl]; exact Nat.le_refl _) (relC_box hx' rfl g5) h (RelL.mono hx' _ _ hu)
  exact (hc.2 m' w us hi' hu').mono fun _ _ ⟨u, m2, r, H', V', h1, h2, h3, h4, h5⟩ => ⟨u, m2, r, H', V', h1, h2, h3, h4, hx'.trans h5⟩
end Go.Proofs.Ytffjhibomipemaa
