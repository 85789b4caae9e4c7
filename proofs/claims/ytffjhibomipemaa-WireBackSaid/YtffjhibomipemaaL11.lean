/-
  A PROGRAM LOGIC, PART 11: what may be let go; code; functions.
-/
import Derived.Test.YtffjhibomipemaaL10
import Derived.Deep.LoopGhost
namespace Go.Proofs.Ytffjhibomipemaa

/-! ### No box from jb on, no token from jv on -/
def okTk (jv : Nat) : Tk → Prop
  | .own t _ => t < jv
  | _ => True
mutual
def okV (jb jv : Nat) : CV → Prop
  | .any => True
  | .v _ => True
  | .agg cs => okL jb jv cs
  | .tup cs => okL jb jv cs
  | .sl tk _ xs => okTk jv tk ∧ okE jb jv xs
  | .bsl b _ _ _ => b < jb
  | .ptr b _ => b < jb
  | .eptr cs _ => okL jb jv cs
  | .fn _ caps => okL jb jv caps
def okL (jb jv : Nat) : List CV → Prop
  | [] => True
  | c :: cs => okV jb jv c ∧ okL jb jv cs
def okE (jb jv : Nat) : List (List CV) → Prop
  | [] => True
  | e :: es => okL jb jv e ∧ okE jb jv es
end
theorem okL_iff {jb jv : Nat} : ∀ {cs : List CV}, okL jb jv cs ↔ ∀ c ∈ cs, okV jb jv c
  | [] => by simp [okL]
  | c :: cs => by simp [okL, okL_iff (cs := cs)]
theorem okE_iff {jb jv : Nat} : ∀ {es : List (List CV)}, okE jb jv es ↔ ∀ e ∈ es, ∀ c ∈ e, okV jb jv c
  | [] => by simp [okE]
  | e :: es => by simp [okE, okE_iff (es := es), okL_iff]

mutual
theorem okV_mono {jb jv jb' jv' : Nat} (h1 : jb ≤ jb') (h2 : jv ≤ jv') : ∀ {c : CV}, okV jb jv c → okV jb' jv' c
  | .any, _ => by rw [okV]; trivial
  | .v _, _ => by rw [okV]; trivial
  | .agg cs, h => by rw [okV] at h; rw [okV]; exact okL_mono h1 h2 h
  | .tup cs, h => by rw [okV] at h; rw [okV]; exact okL_mono h1 h2 h
  | .sl tk sz xs, h => by
    rw [okV] at h; rw [okV]
    refine ⟨?_, okE_mono h1 h2 h.2⟩
    cases tk with
    | own t v => exact Nat.lt_of_lt_of_le h.1 h2
    | _ => trivial
  | .bsl b _ _ _, h => by rw [okV] at h; rw [okV]; omega
  | .ptr b _, h => by rw [okV] at h; rw [okV]; omega
  | .eptr cs _, h => by rw [okV] at h; rw [okV]; exact okL_mono h1 h2 h
  | .fn _ cs, h => by rw [okV] at h; rw [okV]; exact okL_mono h1 h2 h
theorem okL_mono {jb jv jb' jv' : Nat} (h1 : jb ≤ jb') (h2 : jv ≤ jv') : ∀ {cs : List CV}, okL jb jv cs → okL jb' jv' cs
  | [], _ => by rw [okL]; trivial
  | c :: cs, h => by rw [okL] at h; rw [okL]; exact ⟨okV_mono h1 h2 h.1, okL_mono h1 h2 h.2⟩
theorem okE_mono {jb jv jb' jv' : Nat} (h1 : jb ≤ jb') (h2 : jv ≤ jv') : ∀ {es : List (List CV)}, okE jb jv es → okE jb' jv' es
  | [], _ => by rw [okE]; trivial
  | e :: es, h => by rw [okE] at h; rw [okE]; exact ⟨okL_mono h1 h2 h.1, okE_mono h1 h2 h.2⟩
end

def Gh.cut (m : Gh) (i j : Nat) : Gh := { m with box := m.box.take i, tip := m.tip.take j }

theorem take_get {α : Type} {l : List α} {i t : Nat} {x : α} (h : t < i) (hx : l[t]? = some x) : (l.take i)[t]? = some x := by rw [List.getElem?_take, if_pos h]; exact hx
theorem get_take {α : Type} {l : List α} {i t : Nat} {x : α} (hx : (l.take i)[t]? = some x) : t < i ∧ l[t]? = some x := by
  rw [List.getElem?_take] at hx
  split at hx
  · exact ⟨by assumption, hx⟩
  · cases hx

section
variable {P : Program} {m : Gh} {w : World} {H : Hp} {V : List Nat}

section
variable (i j : Nat)
mutual
theorem RelV.cut : ∀ (c : CV) (u : Value), okV i j c → RelV m w V c u → RelV (m.cut i j) w (V.take j) c u
  | .any, _, _, _ => by rw [RelV]; trivial
  | .v x, u, _, h => by rw [RelV] at h; rw [RelV]; exact h
  | .agg cs, u, ho, h => by rw [RelV] at h; rw [RelV]; rw [okV] at ho; obtain ⟨us, h1, h2⟩ := h; exact ⟨us, h1, RelL.cut cs us ho h2⟩
  | .tup cs, u, ho, h => by rw [RelV] at h; rw [RelV]; rw [okV] at ho; obtain ⟨us, h1, h2⟩ := h; exact ⟨us, h1, RelL.cut cs us ho h2⟩
  | .sl tk sz xs, u, ho, h => by
    rw [RelV] at h; rw [RelV]; rw [okV] at ho
    obtain ⟨base, cap, h1, h2, h3, h4, h5⟩ := h
    refine ⟨base, cap, h1, h2, ?_, h4, ?_⟩
    · cases tk with
      | sh => trivial
      | ti => exact h3
      | own t v =>
        obtain ⟨v', q1, q2, q3⟩ := (h3 : OwnOk m w V t v sz xs.length cap base)
        have ht : t < j := ho.1
        refine ⟨v', take_get ht q1, q2, fun e => ?_⟩
        rcases q3 e with q3 | ⟨k, o, c, ec, hb, ht1, r⟩
        · exact .inl q3
        · exact .inr ⟨k, o, c, ec, hb, take_get ht ht1, r⟩
    · rcases h5 with h5 | ⟨k, o, hb, hl, he⟩
      · exact .inl h5
      · exact .inr ⟨k, o, hb, hl, RelE.cut k sz xs o ho.2 he⟩
  | .bsl b o n sz, u, ho, h => by
    rw [RelV] at h; rw [RelV]; rw [okV] at ho
    obtain ⟨base, cap, k, h1, h2, h3, h4, h5⟩ := h
    exact ⟨base, cap, k, h1, h2, h3, take_get ho h4, h5⟩
  | .ptr b o, u, ho, h => by rw [RelV] at h; rw [RelV]; rw [okV] at ho; obtain ⟨k, h1, h2⟩ := h; exact ⟨k, take_get ho h1, h2⟩
  | .eptr cs o, u, ho, h => by rw [RelV] at h; rw [RelV]; rw [okV] at ho; obtain ⟨k, a, h1, h2, h3⟩ := h; exact ⟨k, a, h1, h2, RelC.cut k cs a ho h3⟩
  | .fn f caps, u, ho, h => by rw [RelV] at h; rw [RelV]; rw [okV] at ho; obtain ⟨us, h1, h2⟩ := h; exact ⟨us, h1, RelL.cut caps us ho h2⟩
theorem RelL.cut : ∀ (cs : List CV) (us : List Value), okL i j cs → RelL m w V cs us → RelL (m.cut i j) w (V.take j) cs us
  | [], us, _, h => by rw [RelL] at h; rw [RelL]; exact h
  | c :: cs, us, ho, h => by rw [RelL] at h; rw [RelL]; rw [okL] at ho; obtain ⟨u, r, h1, h2, h3⟩ := h; exact ⟨u, r, h1, RelV.cut c u ho.1 h2, RelL.cut cs r ho.2 h3⟩
theorem RelC.cut (k : Nat) : ∀ (cs : List CV) (o : Nat), okL i j cs → RelC m w V k cs o → RelC (m.cut i j) w (V.take j) k cs o
  | [], o, _, h => by rw [RelC]; trivial
  | c :: cs, o, ho, h => by
    rw [RelC] at h; rw [RelC]; rw [okL] at ho
    obtain ⟨⟨u, h1, h2, h4⟩, h3⟩ := h
    exact ⟨⟨u, h1, RelV.cut c u ho.1 h2, h4⟩, RelC.cut k cs (o + 1) ho.2 h3⟩
theorem RelE.cut (k sz : Nat) : ∀ (es : List (List CV)) (o : Nat), okE i j es → RelE m w V k sz es o → RelE (m.cut i j) w (V.take j) k sz es o
  | [], o, _, h => by rw [RelE]; trivial
  | e :: es, o, ho, h => by
    rw [RelE] at h; rw [RelE]; rw [okE] at ho
    obtain ⟨h1, h2, h3⟩ := h
    exact ⟨h1, RelC.cut k e o ho.1 h2, RelE.cut k sz es (o + sz) ho.2 h3⟩
end
end

mutual
/-- What is related refers to boxes and tokens that are there. -/
theorem RelV.ok : ∀ (c : CV) (u : Value), RelV m w V c u → okV m.box.length V.length c
  | .any, _, _ => by rw [okV]; trivial
  | .v x, u, _ => by rw [okV]; trivial
  | .agg cs, u, h => by rw [RelV] at h; rw [okV]; obtain ⟨us, h1, h2⟩ := h; exact RelL.ok cs us h2
  | .tup cs, u, h => by rw [RelV] at h; rw [okV]; obtain ⟨us, h1, h2⟩ := h; exact RelL.ok cs us h2
  | .sl tk sz xs, u, h => by
    rw [RelV] at h; rw [okV]
    obtain ⟨base, cap, h1, h2, h3, h4, h5⟩ := h
    refine ⟨?_, ?_⟩
    · cases tk with
      | sh => trivial
      | ti => trivial
      | own t v =>
        obtain ⟨v', q1, q2, q3⟩ := (h3 : OwnOk m w V t v sz xs.length cap base)
        exact (List.getElem?_eq_some_iff.1 q1).1
    · rcases h5 with rfl | ⟨k, o, hb, hl, he⟩
      · rw [okE]; trivial
      · exact RelE.ok k sz xs o he
  | .bsl b o n sz, u, h => by
    rw [RelV] at h; rw [okV]
    obtain ⟨base, cap, k, h1, h2, h3, h4, h5⟩ := h
    exact (List.getElem?_eq_some_iff.1 h4).1
  | .ptr b o, u, h => by rw [RelV] at h; rw [okV]; obtain ⟨k, h1, h2⟩ := h; exact (List.getElem?_eq_some_iff.1 h1).1
  | .eptr cs o, u, h => by rw [RelV] at h; rw [okV]; obtain ⟨k, a, h1, h2, h3⟩ := h; exact RelC.ok k cs a h3
  | .fn f caps, u, h => by rw [RelV] at h; rw [okV]; obtain ⟨us, h1, h2⟩ := h; exact RelL.ok caps us h2
theorem RelL.ok : ∀ (cs : List CV) (us : List Value), RelL m w V cs us → okL m.box.length V.length cs
  | [], us, _ => by rw [okL]; trivial
  | c :: cs, us, h => by rw [RelL] at h; rw [okL]; obtain ⟨u, r, h1, h2, h3⟩ := h; exact ⟨RelV.ok c u h2, RelL.ok cs r h3⟩
theorem RelC.ok (k : Nat) : ∀ (cs : List CV) (o : Nat), RelC m w V k cs o → okL m.box.length V.length cs
  | [], o, _ => by rw [okL]; trivial
  | c :: cs, o, h => by
    rw [RelC] at h; rw [okL]
    obtain ⟨⟨u, h1, h2, h4⟩, h3⟩ := h
    exact ⟨RelV.ok c u h2, RelC.ok k cs (o + 1) h3⟩
theorem RelE.ok (k sz : Nat) : ∀ (es : List (List CV)) (o : Nat), RelE m w V k sz es o → okE m.box.length V.length es
  | [], o, _ => by rw [okE]; trivial
  | e :: es, o, h => by
    rw [RelE] at h; rw [okE]
    obtain ⟨h1, h2, h3⟩ := h
    exact ⟨RelC.ok k e o h2, RelE.ok k sz es (o + sz) h3⟩
end

theorem Inv.cut (hi : Inv m w H V) {i j : Nat} (hH : ∀ (b : Nat) cs, (H.take i)[b]? = some (some cs) → okL i j cs) : Inv (m.cut i j) w (H.take i) (V.take j) where
  boxlen := by simp [Gh.cut, hi.boxlen]
  tiplen := by simp [Gh.cut, hi.tiplen]
  limv := hi.limv
  tips t k h := by
    obtain ⟨h1, h2, h3⟩ := hi.tips t k (get_take h).2
    exact ⟨h1, fun b hb => h2 b (get_take hb).2, fun t' h' => h3 t' (get_take h').2⟩
  boxes b k h := by
    obtain ⟨h1, h2⟩ := hi.boxes b k (get_take h).2
    exact ⟨h1, fun b' h' => h2 b' (get_take h').2⟩
  alive b cs h := by
    obtain ⟨hb, h'⟩ := get_take h
    obtain ⟨k, c, e, h1, h2, h3, h4, h5⟩ := hi.alive b cs h'
    exact ⟨k, c, e, take_get hb h1, h2, h3, h4, RelC.cut i j k cs 0 (hH b cs h) h5⟩

theorem Ext.cut {m' : Gh} {w' : World} {V' : List Nat} (hx : Ext m w V m' w' V') {i j : Nat} (hi : m.box.length ≤ i) (hv : V.length ≤ j) : Ext m w V (m'.cut i j) w' (V'.take j) where
  os := hx.os
  tape := hx.tape
  output := hx.output
  size := hx.size
  shape := hx.shape
  lim := hx.lim
  prot := hx.prot
  same := hx.same
  box b k h := take_get (Nat.lt_of_lt_of_le (List.getElem?_eq_some_iff.1 h).1 hi) (hx.box b k h)
  boxnew b k h := hx.boxnew b k (get_take h).2
  tipnew t k h := hx.tipnew t k (get_take h).2
  tok t v h := by
    obtain ⟨v', h1, h2, h3⟩ := hx.tok t v h
    have ht : t < j := Nat.lt_of_lt_of_le (List.getElem?_eq_some_iff.1 h).1 hv
    refine ⟨v', take_get ht h1, h2, fun e => ?_⟩
    obtain ⟨p1, p2⟩ := h3 e
    refine ⟨?_, p2⟩
    show (m'.tip.take j)[t]? = _
    rw [List.getElem?_take, if_pos ht]; exact p1
end

/-- A STEP OF THE GHOST STATE ALONE. nb, nv: the boxes and tokens that were there when the function was entered. -/
def Gst (n nb nv : Nat) (T : Tm) (H : Hp) (V : List Nat) (T' : Tm) (H' : Hp) (V' : List Nat) : Prop :=
  ∀ m w a m0 w0 V0, m0.box.length = nb → m0.tip.length = nv → V0.length = nv → Ext m0 w0 V0 m w V → St n m w a T H V → ∃ m', St n m' w a T' H' V' ∧ Ext m0 w0 V0 m' w V'

section
variable {n nb nv : Nat} {T T' T'' : Tm} {H H' H'' : Hp} {V V' V'' : List Nat}

theorem Gst.refl : Gst n nb nv T H V T H V := fun m _ _ _ _ _ _ _ _ hx hs => ⟨m, hs, hx⟩
theorem Gst.trans (h : Gst n nb nv T H V T' H' V') (g : Gst n nb nv T' H' V' T'' H'' V'') : Gst n nb nv T H V T'' H'' V'' := fun m w a m0 w0 V0 h1 h2 h3 hx hs => by
  obtain ⟨m', s1, s2⟩ := h m w a m0 w0 V0 h1 h2 h3 hx hs
  exact g m' w a m0 w0 V0 h1 h2 h3 s2 s1

theorem tget_mem : ∀ (T : Tm) (k : Nat), tget T k = .any ∨ ∃ p ∈ T, p.1 = k ∧ tget T k = p.2
  | [], k => .inl rfl
  | (k', c) :: r, k => by
    simp only [tget]
    by_cases h : k = k'
    · rw [if_pos h]; exact .inr ⟨(k', c), by simp, h.symm, rfl⟩
    · rw [if_neg h]
      rcases tget_mem r k with h1 | ⟨p, h1, h2⟩
      · exact .inl h1
      · exact .inr ⟨p, by simp [h1], h2⟩

theorem Gst.forget (h : ∀ p ∈ T', Le (tget T p.1) p.2) : Gst n nb nv T H V T' H V := fun m w a m0 w0 V0 _ _ _ hx hs => by
  refine ⟨m, ⟨hs.inv, fun k => ?_, hs.size, hs.df⟩, hx⟩
  rcases tget_mem T' k with h1 | ⟨p, h1, rfl, h2⟩
  · rw [h1, RelV]; trivial
  · rw [h2]; exact Le.rel (h p h1) (hs.tm p.1)

theorem Gst.cut (i j : Nat) (hi : nb ≤ i) (hj : nv ≤ j) (hT : ∀ p ∈ T, okV i j p.2) (hH : ∀ (b : Nat) cs, (H.take i)[b]? = some (some cs) → okL i j cs) : Gst n nb nv T H V T (H.take i) (V.take j) := fun m w a m0 w0 V0 h1 h2 h3 hx hs => by
  refine ⟨m.cut i j, ⟨hs.inv.cut hH, fun k => ?_, hs.size, hs.df⟩, hx.cut (by omega) (by omega)⟩
  refine RelV.cut i j _ _ ?_ (hs.tm k)
  rcases tget_mem T k with h1 | ⟨p, h1, rfl, h2⟩
  · rw [h1, okV]; trivial
  · rw [h2]; exact hT p h1

-- A box is let go for good: slices of it have fixed contents from now on.
mutual
inductive Fz (b : Nat) (cs : List CV) : CV → CV → Prop
  | refl (c : CV) : Fz b cs c c
  | bsl (o n sz : Nat) (h : o + n * sz ≤ cs.length) : Fz b cs (.bsl b o n sz) (.sl .sh sz (chunks sz n (cs.drop o)))
  | agg {xs ys : List CV} (h : FzL b cs xs ys) : Fz b cs (.agg xs) (.agg ys)
  | tup {xs ys : List CV} (h : FzL b cs xs ys) : Fz b cs (.tup xs) (.tup ys)
inductive FzL (b : Nat) (cs : List CV) : List CV → List CV → Prop
  | nil : FzL b cs [] []
  | cons {c d : CV} {xs ys : List CV} (h : Fz b cs c d) (t : FzL b cs xs ys) : FzL b cs (c :: xs) (d :: ys)
end

section
variable {m : Gh} {w : World} {b k : Nat} {cs : List CV}
mutual
theorem Fz.rel (hb : m.box[b]? = some k) (hl : cs.length ≤ m.lim k) (hc : RelC m w V k cs 0) {x y : CV} : ∀ {u : Value}, Fz b cs x y → RelV m w V x u → RelV m w V y u
  | _, .refl _, h => h
  | _, .bsl o n sz ho, h => by
    rw [RelV] at h; rw [RelV]
    obtain ⟨base, cap, k', h1, h2, h3, h4, h5⟩ := h
    rw [hb] at h4; cases h4
    refine ⟨base, cap, by rw [chunks_length]; exact h1, by rw [chunks_length]; exact h2, trivial, h3, ?_⟩
    rcases h5 with rfl | rfl
    · exact .inl rfl
    · refine .inr ⟨k, o, rfl, by rw [chunks_length]; omega, relE_of_flat (fun j e he => chunks_get sz n _ j e (by simp; omega) he) ?_⟩
      rw [chunks_flatten]
      have := relC_take (relC_drop hc o) (n * sz)
      rwa [Nat.zero_add] at this
  | _, .agg hq, h => by rw [RelV] at h; rw [RelV]; obtain ⟨us, h1, h2⟩ := h; exact ⟨us, h1, FzL.rel hb hl hc hq h2⟩
  | _, .tup hq, h => by rw [RelV] at h; rw [RelV]; obtain ⟨us, h1, h2⟩ := h; exact ⟨us, h1, FzL.rel hb hl hc hq h2⟩
theorem FzL.rel (hb : m.box[b]? = some k) (hl : cs.length ≤ m.lim k) (hc : RelC m w V k cs 0) {xs ys : List CV} : ∀ {us : List Value}, FzL b cs xs ys → RelL m w V xs us → RelL m w V ys us
  | _, .nil, h => h
  | _, .cons h t, hr => by
    rw [RelL] at hr; rw [RelL]
    obtain ⟨u, r, h1, h2, h3⟩ := hr
    exact ⟨u, r, h1, Fz.rel hb hl hc h h2, FzL.rel hb hl hc t h3⟩
end
end

theorem Gst.freeze {b : Nat} {cs : List CV} (hb : H[b]? = some (some cs)) (h : ∀ p ∈ T', Fz b cs (tget T p.1) p.2) : Gst n nb nv T H V T' (H.set b none) V := fun m w a m0 w0 V0 h1 h2 h3 hx hs => by
  obtain ⟨k, c, e, g1, g2, g3, g4, g5⟩ := hs.inv.alive b cs hb
  let m' : Gh := { m with lim := fun j => if j = k then cs.length else m.lim j }
  have hml : ∀ j, m'.lim j = if j = k then cs.length else m.lim j := fun _ => rfl
  have hx' : Ext m w V m' w V := by
    refine ⟨rfl, rfl, rfl, Nat.le_refl _, fun k c e fr h => ⟨c, h, rfl⟩, fun j => ?_, fun _ _ _ => rfl, fun _ _ _ _ => rfl, fun _ _ h => h, fun _ _ h => .inl h, fun t k h => .inl h, fun t v h => ⟨v, h, Nat.le_refl _, fun _ => ⟨rfl, fun j hj => ?_⟩⟩⟩
    · rw [hml]; split
      · rename_i h; rw [h, g4]; omega
      · exact Nat.le_refl _
    · have : j ≠ k := fun e => (hs.inv.tips t j hj).2.1 b (by rw [e]; exact g1)
      rw [hml, if_neg this]
  have hi' : Inv m' w (H.set b none) V := by
    refine ⟨by simp [m', hs.inv.boxlen], hs.inv.tiplen, fun j hj => ?_, hs.inv.tips, hs.inv.boxes, fun b' c0 h => ?_⟩
    · by_cases hjk : j = k
      · subst hjk; exact ⟨c, e, (0, 0), g2, by rw [hml, if_pos rfl]; exact g3⟩
      · rw [hml, if_neg hjk] at hj ⊢; exact hs.inv.limv j hj
    · by_cases hbb : b = b'
      · subst hbb
        rw [List.getElem?_set_self (List.getElem?_eq_some_iff.1 hb).1] at h
        cases h
      · rw [List.getElem?_set_ne hbb] at h
        obtain ⟨k', c1, e1, q1, q2, q3, q4, q5⟩ := hs.inv.alive b' c0 h
        have hkk : k' ≠ k := fun e => hbb ((hs.inv.boxes b' k' q1).2 b (by rw [e]; exact g1))
        exact ⟨k', c1, e1, q1, q2, q3, by rw [hml, if_neg hkk]; exact q4, relC_box hx' rfl q5⟩
  refine ⟨m', ⟨hi', fun j => ?_, hs.size, hs.df⟩, hx.trans hx'⟩
  have ht := RelT.mono hx' hs.tm
  rcases tget_mem T' j with h1 | ⟨p, h1, rfl, h2⟩
  · rw [h1, RelV]; trivial
  · rw [h2]
    exact Fz.rel (m := m') (k := k) g1 (by rw [hml, if_pos rfl]; exact Nat.le_refl _) (relC_box hx' rfl g5) (h p h1) (ht p.1)
end

/-! ### Code -/
/-- From every state that fits, the code runs to Q. -/
def SWp (P : Program) (n nb nv : Nat) (c : Code) (Q : Exit → Tm → Hp → List Nat → Prop) (T : Tm) (H : Hp) (V : List Nat) : Prop :=
  ∀ m w a m0 w0 V0, m0.box.length = nb → m0.tip.length = nv → V0.length = nv → Ext m0 w0 V0 m w V → St n m w a T H V →
    c.wp P (fun e a' w' => ∃ T' H' V' m', Q e T' H' V' ∧ St n m' w' a' T' H' V' ∧ Ext m0 w0 V0 m' w' V') a w

def thn (N : Tm → Hp → List Nat → Prop) (Q : Exit → Tm → Hp → List Nat → Prop) : Exit → Tm → Hp → List Nat → Prop
  | .normal => N
  | e => Q e
def blk (id : Nat) (Q : Exit → Tm → Hp → List Nat → Prop) : Exit → Tm → Hp → List Nat → Prop
  | .exit id' => if id' = id then Q .normal else Q (.exit id')
  | e => Q e

/-- A loop: I holds at every round's head, with a number that goes down. -/
def Ent (n nb nv : Nat) (I : Tm → Hp → List Nat → Prop) (T : Tm) (H : Hp) (V : List Nat) : Prop := ∃ T' H' V', Gst n nb nv T H V T' H' V' ∧ I T' H' V'
def Wl (n nb nv : Nat) (body : (Exit → Tm → Hp → List Nat → Prop) → Tm → Hp → List Nat → Prop) (Q : Exit → Tm → Hp → List Nat → Prop) (T : Tm) (H : Hp) (V : List Nat) : Prop :=
  ∃ (I : Nat → Tm → Hp → List Nat → Prop) (k : Nat), Ent n nb nv (I k) T H V ∧
    ∀ k T H V, I k T H V → body (thn (fun T H V => ∃ k', k' < k ∧ Ent n nb nv (I k') T H V) Q) T H V

def cbranch (c : CV) (yes no : Prop) : Prop :=
  match c with
  | .v (.bool t) => (t = true → yes) ∧ (t = false → no)
  | _ => False

/-- WHAT CODE DOES, reckoned from its text. -/
def Wp (P : Program) (n nb nv : Nat) : Code → (Exit → Tm → Hp → List Nat → Prop) → Tm → Hp → List Nat → Prop
  | .skip, Q, T, H, V => Q .normal T H V
  | .label _, Q, T, H, V => Q .normal T H V
  | .region id ops true, Q, T, H, V => SWp P n nb nv (.region id ops true) Q T H V
  | .region _ ops false, Q, T, H, V => crun P n ops.toList ops.toList T H V (Q .normal)
  | .seq a b, Q, T, H, V => Wp P n nb nv a (thn (Wp P n nb nv b Q) Q) T H V
  | .cond c a b, Q, T, H, V => cbranch (evT T c) (Wp P n nb nv a Q T H V) (Wp P n nb nv b Q T H V)
  | .block id c, Q, T, H, V => Wp P n nb nv c (blk id Q) T H V
  | .loop c, Q, T, H, V => Wl n nb nv (fun Q T H V => Wp P n nb nv c Q T H V) Q T H V
  | .ret, Q, T, H, V => Q .ret T H V
  | .exit id, Q, T, H, V => Q (.exit id) T H V
  | _, _, _, _, _ => False

section
variable {P : Program} {n nb nv : Nat}

theorem SWp.mono {c : Code} {Q Q' : Exit → Tm → Hp → List Nat → Prop} {T : Tm} {H : Hp} {V : List Nat} (h : SWp P n nb nv c Q T H V) (hq : ∀ e T H V, Q e T H V → Q' e T H V) : SWp P n nb nv c Q' T H V :=
  fun m w a m0 w0 V0 h1 h2 h3 hx hs => wp_mono (h m w a m0 w0 V0 h1 h2 h3 hx hs) fun _ _ _ ⟨T', H', V', m', k1, k2⟩ => ⟨T', H', V', m', hq _ _ _ _ k1, k2⟩

theorem SWp.seq {x y : Code} {Q : Exit → Tm → Hp → List Nat → Prop} {T : Tm} {H : Hp} {V : List Nat} (h : SWp P n nb nv x (thn (SWp P n nb nv y Q) Q) T H V) : SWp P n nb nv (.seq x y) Q T H V := by
  intro m w a m0 w0 V0 h1 h2 h3 hx hs
  refine wp_seq (wp_mono (h m w a m0 w0 V0 h1 h2 h3 hx hs) fun e a' w' ⟨T', H', V', m', k1, k2, k3⟩ => ?_)
  cases e with
  | normal => exact k1 m' w' a' m0 w0 V0 h1 h2 h3 k3 k2
  | _ => exact ⟨T', H', V', m', k1, k2, k3⟩

theorem SWp.ghost {c : Code} {Q : Exit → Tm → Hp → List Nat → Prop} {T T' : Tm} {H H' : Hp} {V V' : List Nat} (g : Gst n nb nv T H V T' H' V') (h : SWp P n nb nv c Q T' H' V') : SWp P n nb nv c Q T H V := by
  intro m w a m0 w0 V0 h1 h2 h3 hx hs
  obtain ⟨m', s1, s2⟩ := g m w a m0 w0 V0 h1 h2 h3 hx hs
  exact h m' w a m0 w0 V0 h1 h2 h3 s2 s1

theorem Wp.sound : ∀ (c : Code) {Q : Exit → Tm → Hp → List Nat → Prop} {T : Tm} {H : Hp} {V : List Nat}, Wp P n nb nv c Q T H V → SWp P n nb nv c Q T H V
  | .skip, Q, T, H, V, h => fun m w a m0 w0 V0 _ _ _ hx hs => wp_skip ⟨T, H, V, m, h, hs, hx⟩
  | .label _, Q, T, H, V, h => fun m w a m0 w0 V0 _ _ _ hx hs => wp_label ⟨T, H, V, m, h, hs, hx⟩
  | .region id ops true, Q, T, H, V, h => h
  | .region id ops false, Q, T, H, V, h => fun m w a m0 w0 V0 _ _ _ hx hs => by
    have h : crun P n ops.toList ops.toList T H V (Q .normal) := h
    refine wp_region_list ?_
    have := crun_sound (P := P) (Q := fun e a' w' => ∃ T' H' V' m', Q e T' H' V' ∧ St n m' w' a' T' H' V' ∧ Ext m0 w0 V0 m' w' V') ops.toList hs h (fun T' H' V' a' w' m' k1 k2 k3 => ⟨T', H', V', m', k1, k2, hx.trans k3⟩)
    simpa using this
  | .seq x y, Q, T, H, V, h => SWp.seq ((Wp.sound x h).mono fun e T H V k => by
      cases e with
      | normal => exact Wp.sound y k
      | _ => exact k)
  | .cond c x y, Q, T, H, V, h => fun m w a m0 w0 V0 h1 h2 h3 hx hs => by
    have h : cbranch (evT T c) (Wp P n nb nv x Q T H V) (Wp P n nb nv y Q T H V) := h
    unfold cbranch at h
    split at h
    · rename_i t hc
      have := ev_rel hs.tm c
      rw [hc, RelV] at this
      exact wp_cond_split this (fun e => Wp.sound x (h.1 e) m w a m0 w0 V0 h1 h2 h3 hx hs) (fun e => Wp.sound y (h.2 e) m w a m0 w0 V0 h1 h2 h3 hx hs)
    · exact h.elim
  | .block id c, Q, T, H, V, h => fun m w a m0 w0 V0 h1 h2 h3 hx hs => by
    refine wp_block (wp_mono (Wp.sound c h m w a m0 w0 V0 h1 h2 h3 hx hs) fun e a' w' ⟨T', H', V', m', k1, k2⟩ => ?_)
    cases e with
    | exit id' =>
      simp only [blk] at k1
      simp only [Exit.inBlock]
      split
      · rename_i hid; rw [if_pos hid] at k1; exact ⟨T', H', V', m', k1, k2⟩
      · rename_i hid; rw [if_neg hid] at k1; exact ⟨T', H', V', m', k1, k2⟩
    | _ => exact ⟨T', H', V', m', k1, k2⟩
  | .loop c, Q, T, H, V, h => fun m w a m0 w0 V0 h1 h2 h3 hx hs => by
    obtain ⟨I, k, ⟨T1, H1, V1, hg, hI⟩, hbody⟩ := h
    obtain ⟨m1, s1, s2⟩ := hg m w a m0 w0 V0 h1 h2 h3 hx hs
    refine wp_loop_ghost (fun k a w => ∃ T H V m, I k T H V ∧ St n m w a T H V ∧ Ext m0 w0 V0 m w V) k ⟨T1, H1, V1, m1, hI, s1, s2⟩ ?_
    rintro k a' w' ⟨T2, H2, V2, m2, k1, k2, k3⟩
    refine wp_mono (Wp.sound c (hbody k T2 H2 V2 k1) m2 w' a' m0 w0 V0 h1 h2 h3 k3 k2) fun e a3 w3 ⟨T3, H3, V3, m3, q1, q2, q3⟩ => ?_
    cases e with
    | normal =>
      obtain ⟨k', hlt, T4, H4, V4, hg4, hI4⟩ := q1
      obtain ⟨m4, r1, r2⟩ := hg4 m3 w3 a3 m0 w0 V0 h1 h2 h3 q3 q2
      exact ⟨k', hlt, T4, H4, V4, m4, hI4, r1, r2⟩
    | _ => exact ⟨T3, H3, V3, m3, q1, q2, q3⟩
  | .ret, Q, T, H, V, h => fun m w a m0 w0 V0 _ _ _ hx hs => wp_ret ⟨T, H, V, m, h, hs, hx⟩
  | .exit id, Q, T, H, V, h => fun m w a m0 w0 V0 _ _ _ hx hs => wp_exit ⟨T, H, V, m, h, hs, hx⟩
  | .rangeFunc .., _, _, _, _, h => False.elim h
  | .scope _, _, _, _, _, h => False.elim h
  | .goto _, _, _, _, _, h => False.elim h
  | .refuse _, _, _, _, _, h => False.elim h
end
end Go.Proofs.Ytffjhibomipemaa
