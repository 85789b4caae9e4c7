/-
  A PROGRAM LOGIC, PART 2: the steps that a world and its ghost state take together.
-/
import Derived.Test.YtffjhibomipemaaL1
namespace Go.Proofs.Ytffjhibomipemaa

theorem splice_get {α : Type} (l d : List α) (o j : Nat) (h : o ≤ l.length) :
    (l.take o ++ d ++ l.drop (o + d.length))[j]? = if j < o then l[j]? else if j < o + d.length then d[j - o]? else l[j]? := by
  by_cases h1 : j < o
  · rw [if_pos h1, List.getElem?_append_left (by simp; omega), List.getElem?_append_left (by simp; omega), List.getElem?_take, if_pos h1]
  · rw [if_neg h1]
    by_cases h2 : j < o + d.length
    · rw [if_pos h2, List.getElem?_append_left (by simp; omega), List.getElem?_append_right (by simp; omega)]
      congr 1; simp; omega
    · rw [if_neg h2, List.getElem?_append_right (by simp; omega), List.getElem?_drop]
      congr 1; simp; omega

theorem Inv.lim_new {m : Gh} {w : World} {H : List (Option (List CV))} {V : List Nat} (hi : Inv m w H V) {k : Nat} (hk : w.heap.size ≤ k) : m.lim k = 0 := by
  rcases Nat.eq_zero_or_pos (m.lim k) with h | h
  · exact h
  · obtain ⟨c, e, fr, h1, _⟩ := hi.limv k h
    have := (Array.getElem?_eq_some_iff.1 h1).1
    omega

theorem Inv.tip_lt {m : Gh} {w : World} {H : List (Option (List CV))} {V : List Nat} (hi : Inv m w H V) {t k : Nat} (h : m.tip[t]? = some (some k)) : k < w.heap.size := by
  obtain ⟨⟨c, e, h1⟩, _⟩ := hi.tips t k h
  exact (Array.getElem?_eq_some_iff.1 h1).1

/-- A world that has one block more. -/
structure Pushed (w w' : World) (o : Obj) : Prop where
  os : w'.os = w.os
  tape : w'.tape = w.tape
  output : w'.output = w.output
  heap : w'.heap = w.heap.push o

theorem Pushed.alloc (w : World) (o : Obj) : Pushed w (w.alloc o) o := ⟨rfl, rfl, rfl, rfl⟩
theorem Pushed.drewAlloc (w : World) (o : Obj) : Pushed w (w.drew.alloc o) o := ⟨rfl, rfl, rfl, rfl⟩

section
variable {w w' : World} {o : Obj} (hp : Pushed w w' o)
include hp
theorem Pushed.old {k : Nat} (h : k < w.heap.size) : w'.heap[k]? = w.heap[k]? := by rw [hp.heap, Array.getElem?_push, if_neg (by omega)]
theorem Pushed.new : w'.heap[w.heap.size]? = some o := by rw [hp.heap, Array.getElem?_push, if_pos rfl]
theorem Pushed.size : w'.heap.size = w.heap.size + 1 := by rw [hp.heap, Array.size_push]
theorem Pushed.some {k : Nat} {x : Obj} (h : w.heap[k]? = some x) : w'.heap[k]? = some x := by rw [hp.old (Array.getElem?_eq_some_iff.1 h).1, h]
theorem Pushed.cell {k o' : Nat} (h : k < w.heap.size) : w'.cell? ⟨k, o', none⟩ = w.cell? ⟨k, o', none⟩ := World.cell?_of_block (hp.old h)
end

/-- A draw alone, or nothing. -/
theorem Inv.drew {m : Gh} {w : World} {H : List (Option (List CV))} {V : List Nat} (hi : Inv m w H V) : Inv m w.drew H V ∧ Ext m w V m w.drew V := by
  have hx : Ext m w V m w.drew V := ⟨rfl, rfl, rfl, Nat.le_refl _, fun _ c _ _ h => ⟨c, h, rfl⟩, fun _ => Nat.le_refl _, fun _ _ _ => rfl, fun _ _ _ _ => rfl, fun _ _ h => h, fun _ _ h => .inl h, fun _ _ h => .inl h,
    fun _ v h => ⟨v, h, Nat.le_refl _, fun _ => ⟨rfl, fun _ _ => rfl⟩⟩⟩
  refine ⟨⟨hi.boxlen, hi.tiplen, hi.limv, hi.tips, hi.boxes, fun b cs h => ?_⟩, hx⟩
  obtain ⟨k, c, e, h1, h2, h3, h4, h5⟩ := hi.alive b cs h
  refine ⟨k, c, e, h1, h2, h3, h4, relC_mk fun j x hj => ?_⟩
  obtain ⟨u, g1, g2, g3⟩ := relC_get h5 j x hj
  exact ⟨u, g1, RelV.mono hx _ _ g2, g3⟩

/-- The contents of the boxes stay related, where their blocks stay. -/
theorem relC_box {m m' : Gh} {w w' : World} {V V' : List Nat} (hx : Ext m w V m' w' V') {k : Nat} (hk : w'.heap[k]? = w.heap[k]?) {cs : List CV} {o : Nat} (h : RelC m w V k cs o) : RelC m' w' V' k cs o :=
  relC_mk fun j c hc => by
    obtain ⟨u, g1, g2, g3⟩ := relC_get h j c hc
    exact ⟨u, by rw [World.cell?_of_block (w := w) (a := ⟨k, o + j, none⟩) hk]; exact g1, RelV.mono hx _ _ g2, g3⟩

/-- A new block of cells, of which the first n are fixed; no token. -/
theorem step_row {m : Gh} {w w' : World} {H : List (Option (List CV))} {V : List Nat} {cs : Array Value} {e : TypeId} (hi : Inv m w H V) (hp : Pushed w w' (.cells cs e)) (n : Nat) (hn : n ≤ cs.size) :
    let m' : Gh := { m with lim := fun k => if k = w.heap.size then n else m.lim k }
    Inv m' w' H V ∧ Ext m w V m' w' V := by
  intro m'
  have hx : Ext m w V m' w' V := by
    refine ⟨hp.os, hp.tape, hp.output, by rw [hp.size]; omega, fun k c e fr h => ⟨c, hp.some h, rfl⟩, fun k => ?_, fun k o ho => ?_, fun k hk _ _ => hp.old hk, fun _ _ h => h, fun _ _ h => .inl h, fun _ _ h => .inl h,
      fun t v h => ⟨v, h, Nat.le_refl _, fun _ => ⟨rfl, fun k hk => ?_⟩⟩⟩
    · show m.lim k ≤ if k = w.heap.size then n else m.lim k
      split
      · rename_i h; rw [hi.lim_new (by omega)]; omega
      · exact Nat.le_refl _
    · refine hp.cell ?_
      rcases Nat.lt_or_ge k w.heap.size with h | h
      · exact h
      · rw [hi.lim_new h] at ho; omega
    · have := hi.tip_lt hk
      show (if k = w.heap.size then n else m.lim k) = m.lim k
      rw [if_neg (by omega)]
  refine ⟨⟨hi.boxlen, hi.tiplen, fun k hk => ?_, fun t k h => ?_, fun b k h => ?_, fun b c h => ?_⟩, hx⟩
  · by_cases h : k = w.heap.size
    · subst h; exact ⟨cs, e, (0, 0), hp.new, by simpa [m'] using hn⟩
    · have h' : 0 < m.lim k := by simpa [m', h] using hk
      obtain ⟨c, e', fr, h1, h2⟩ := hi.limv k h'
      exact ⟨c, e', fr, hp.some h1, by simpa [m', h] using h2⟩
  · obtain ⟨⟨c, e', h1⟩, h2⟩ := hi.tips t k h
    exact ⟨⟨c, e', hp.some h1⟩, h2⟩
  · obtain ⟨h1, h2⟩ := hi.boxes b k h
    exact ⟨by rw [hp.size]; omega, h2⟩
  · obtain ⟨k, c', e', h1, h2, h3, h4, h5⟩ := hi.alive b c h
    have hk := (Array.getElem?_eq_some_iff.1 h2).1
    exact ⟨k, c', e', h1, hp.some h2, h3, by show (if k = w.heap.size then n else m.lim k) = 0; rw [if_neg (by omega)]; exact h4, relC_box hx (hp.old hk) h5⟩

/-- A new token, of which no block is known yet. -/
theorem step_tok {m : Gh} {w : World} {H : List (Option (List CV))} {V : List Nat} (hi : Inv m w H V) :
    let m' : Gh := { m with tip := m.tip ++ [none] }
    Inv m' w H (V ++ [0]) ∧ Ext m w V m' w (V ++ [0]) := by
  intro m'
  have htip : ∀ (t k : Nat), m'.tip[t]? = some (some k) → m.tip[t]? = some (some k) := fun t k h => by
    have h' : (m.tip ++ [none])[t]? = some (some k) := h
    rw [List.getElem?_append] at h'
    split at h'
    · exact h'
    · have : t - m.tip.length = 0 ∨ 0 < t - m.tip.length := by omega
      rcases this with h0 | h0
      · rw [h0] at h'; simp at h'
      · rw [List.getElem?_eq_none (by simp; omega)] at h'; cases h'
  have hx : Ext m w V m' w (V ++ [0]) := by
    refine ⟨rfl, rfl, rfl, Nat.le_refl _, fun k c e fr h => ⟨c, h, rfl⟩, fun _ => Nat.le_refl _, fun _ _ _ => rfl, fun _ _ _ _ => rfl, fun _ _ h => h, fun _ _ h => .inl h, fun t k h => .inl (htip t k h), fun t v h => ⟨v, ?_, Nat.le_refl _, fun _ => ⟨?_, fun _ _ => rfl⟩⟩⟩
    · rw [List.getElem?_append_left (List.getElem?_eq_some_iff.1 h).1]; exact h
    · show (m.tip ++ [none])[t]? = _
      rw [List.getElem?_append_left (by rw [hi.tiplen]; exact (List.getElem?_eq_some_iff.1 h).1)]
  refine ⟨⟨hi.boxlen, by simp [m', hi.tiplen], hi.limv, fun t k h => ?_, hi.boxes, fun b c h => ?_⟩, hx⟩
  · obtain ⟨h1, h2, h3⟩ := hi.tips t k (htip t k h)
    exact ⟨h1, h2, fun t' h' => h3 t' (htip t' k h')⟩
  · obtain ⟨k, c', e', h1, h2, h3, h4, h5⟩ := hi.alive b c h
    exact ⟨k, c', e', h1, h2, h3, h4, relC_box hx rfl h5⟩

/-- Token t moves to a new block, all of whose first n cells are fixed. -/
theorem step_move {m : Gh} {w w' : World} {H : List (Option (List CV))} {V : List Nat} {cs : Array Value} {e : TypeId} {t v : Nat} (hi : Inv m w H V) (hv : V[t]? = some v) (hp : Pushed w w' (.cells cs e)) (n : Nat) (hn : n ≤ cs.size) :
    let m' : Gh := { m with lim := fun k => if k = w.heap.size then n else m.lim k, tip := m.tip.set t (some w.heap.size) }
    Inv m' w' H (V.set t (v + 1)) ∧ Ext m w V m' w' (V.set t (v + 1)) := by
  intro m'
  have htV : t < V.length := (List.getElem?_eq_some_iff.1 hv).1
  have hmt : ∀ s : Nat, m'.tip[s]? = if t = s then some (some w.heap.size) else m.tip[s]? := fun s => by
    show (m.tip.set t (some w.heap.size))[s]? = _
    rw [List.getElem?_set]
    by_cases h : t = s
    · subst h; simp [hi.tiplen, htV]
    · simp [h]
  have hml : ∀ k, m'.lim k = if k = w.heap.size then n else m.lim k := fun k => rfl
  have hx : Ext m w V m' w' (V.set t (v + 1)) := by
    refine ⟨hp.os, hp.tape, hp.output, by rw [hp.size]; omega, fun k c e fr h => ⟨c, hp.some h, rfl⟩, fun k => ?_, fun k o ho => ?_, fun k hk _ _ => hp.old hk, fun _ _ h => h, fun _ _ h => .inl h, fun s k h => ?_,
      fun s x h => ?_⟩
    · rw [hml]
      split
      · rename_i h; rw [hi.lim_new (by omega)]; omega
      · exact Nat.le_refl _
    · refine hp.cell ?_
      rcases Nat.lt_or_ge k w.heap.size with h | h
      · exact h
      · rw [hi.lim_new h] at ho; omega
    · rw [hmt] at h
      split at h
      · simp at h; exact .inr (by omega)
      · exact .inl h
    · by_cases hst : t = s
      · subst hst
        rw [hv] at h; cases h
        exact ⟨v + 1, by simp [htV], by omega, fun e => by omega⟩
      · refine ⟨x, by rw [List.getElem?_set_ne hst]; exact h, Nat.le_refl _, fun _ => ⟨by rw [hmt, if_neg hst], fun k hk => ?_⟩⟩
        have := hi.tip_lt hk
        rw [hml, if_neg (by omega)]
  refine ⟨⟨hi.boxlen, by simp [m', hi.tiplen], fun k hk => ?_, fun s k h => ?_, fun b k h => ?_, fun b c h => ?_⟩, hx⟩
  · by_cases h : k = w.heap.size
    · subst h; exact ⟨cs, e, (0, 0), hp.new, by simpa [m'] using hn⟩
    · have h' : 0 < m.lim k := by simpa [m', h] using hk
      obtain ⟨c, e', fr, h1, h2⟩ := hi.limv k h'
      exact ⟨c, e', fr, hp.some h1, by simpa [m', h] using h2⟩
  · rw [hmt] at h
    by_cases hst : t = s
    · subst hst
      simp at h; subst h
      refine ⟨⟨cs, e, hp.new⟩, fun b hb => ?_, fun t' h' => ?_⟩
      · have := (hi.boxes b _ hb).1; omega
      · rw [hmt] at h'
        split at h'
        · rename_i h; exact h.symm
        · have := hi.tip_lt h'; omega
    · rw [if_neg hst] at h
      obtain ⟨⟨c, e', h1⟩, h2, h3⟩ := hi.tips s k h
      refine ⟨⟨c, e', hp.some h1⟩, h2, fun t' h' => ?_⟩
      rw [hmt] at h'
      split at h'
      · simp at h'; have := hi.tip_lt h; omega
      · exact h3 t' h'
  · obtain ⟨h1, h2⟩ := hi.boxes b k h
    exact ⟨by rw [hp.size]; omega, h2⟩
  · obtain ⟨k, c', e', h1, h2, h3, h4, h5⟩ := hi.alive b c h
    have hk := (Array.getElem?_eq_some_iff.1 h2).1
    exact ⟨k, c', e', h1, hp.some h2, h3, by rw [hml, if_neg (by omega)]; exact h4, relC_box hx (hp.old hk) h5⟩

/-- A new box. -/
theorem step_box {m : Gh} {w w' : World} {H : List (Option (List CV))} {V : List Nat} {us : Array Value} {e : TypeId} {cs : List CV} (hi : Inv m w H V) (hp : Pushed w w' (.cells us e)) (hc : RelL m w V cs us.toList) (h1 : ∀ u ∈ us.toList, u.oneCell' = true) :
    let m' : Gh := { m with box := m.box ++ [w.heap.size] }
    Inv m' w' (H ++ [some cs]) V ∧ Ext m w V m' w' V := by
  intro m'
  have hmb : ∀ b : Nat, m'.box[b]? = if b = m.box.length then some w.heap.size else m.box[b]? := fun b => by
    show (m.box ++ [w.heap.size])[b]? = _
    rw [List.getElem?_append]
    by_cases h : b < m.box.length
    · rw [if_pos h, if_neg (by omega)]
    · rw [if_neg h]
      by_cases h' : b = m.box.length
      · subst h'; simp
      · rw [if_neg h', List.getElem?_eq_none (by simp; omega), List.getElem?_eq_none (by omega)]
  have hx : Ext m w V m' w' V := by
    refine ⟨hp.os, hp.tape, hp.output, by rw [hp.size]; omega, fun k c e fr h => ⟨c, hp.some h, rfl⟩, fun k => Nat.le_refl _, fun k o ho => ?_, fun k hk _ _ => hp.old hk, fun b k h => ?_, fun b k h => ?_, fun _ _ h => .inl h,
      fun t v h => ⟨v, h, Nat.le_refl _, fun _ => ⟨rfl, fun k hk => rfl⟩⟩⟩
    · refine hp.cell ?_
      rcases Nat.lt_or_ge k w.heap.size with h | h
      · exact h
      · rw [hi.lim_new h] at ho; omega
    · have := (List.getElem?_eq_some_iff.1 h).1
      rw [hmb, if_neg (by omega)]; exact h
    · rw [hmb] at h
      split at h
      · simp at h; exact .inr (by omega)
      · exact .inl h
  refine ⟨⟨by simp [m', hi.boxlen], hi.tiplen, fun k hk => ?_, fun t k h => ?_, fun b k h => ?_, fun b c h => ?_⟩, hx⟩
  · obtain ⟨c, e', fr, h1, h2⟩ := hi.limv k hk
    exact ⟨c, e', fr, hp.some h1, h2⟩
  · obtain ⟨⟨c, e', h1⟩, h2, h3⟩ := hi.tips t k h
    refine ⟨⟨c, e', hp.some h1⟩, fun b hb => ?_, h3⟩
    rw [hmb] at hb
    split at hb
    · simp at hb; have := hi.tip_lt h; omega
    · exact h2 b hb
  · rw [hmb] at h
    split at h
    · rename_i hb
      simp at h
      refine ⟨by rw [hp.size]; omega, fun b' h' => ?_⟩
      rw [hmb] at h'
      split at h'
      · omega
      · have := (hi.boxes b' k h').1; omega
    · obtain ⟨h1, h2⟩ := hi.boxes b k h
      refine ⟨by rw [hp.size]; omega, fun b' h' => ?_⟩
      rw [hmb] at h'
      split at h'
      · simp at h'; omega
      · exact h2 b' h'
  · by_cases hb : b = H.length
    · subst hb
      simp at h; subst h
      refine ⟨w.heap.size, us, e, by rw [hmb, if_pos hi.boxlen.symm], hp.new, by have := relL_length hc; simp at this; omega, hi.lim_new (Nat.le_refl _), relC_mk fun j c hj => ?_⟩
      obtain ⟨u, q1, q2⟩ := relL_get hc j c hj
      refine ⟨u, ?_, RelV.mono hx _ _ q2, h1 u (List.mem_of_getElem? q1)⟩
      rw [cell_of_row w' _ _ us e (0, 0) hp.new, Nat.zero_add]
      simpa using q1
    · rw [List.getElem?_append] at h
      split at h
      · obtain ⟨k, c', e', h1, h2, h3, h4, h5⟩ := hi.alive b c h
        have hk := (Array.getElem?_eq_some_iff.1 h2).1
        exact ⟨k, c', e', by rw [hmb, if_neg (by rw [hi.boxlen]; omega)]; exact h1, hp.some h2, h3, h4, relC_box hx (hp.old hk) h5⟩
      · rw [List.getElem?_eq_none (by simp; omega)] at h; cases h

/-- A store into a box. -/
theorem step_store {m : Gh} {w : World} {H : List (Option (List CV))} {V : List Nat} {b k : Nat} {cs ds : List CV} {c : Array Value} {e : TypeId} {us : List Value} {o : Nat} (hi : Inv m w H V) (hb : H[b]? = some (some cs)) (hk : m.box[b]? = some k)
    (hc : w.heap[k]? = some (.cells c e (0, 0))) (hd : RelL m w V ds us) (h1' : ∀ u ∈ us, u.oneCell' = true) (ho : o + ds.length ≤ cs.length) :
    let w' := w.setRow k (c.toList.take o ++ us ++ c.toList.drop (o + us.length)).toArray
    Inv m w' (H.set b (some (cs.take o ++ ds ++ cs.drop (o + ds.length)))) V ∧ Ext m w V m w' V := by
  intro w'
  obtain ⟨k', c', e', h1, h2, h3, h4, h5⟩ := hi.alive b cs hb
  rw [hk] at h1; cases h1
  rw [hc] at h2; cases h2
  have hul := relL_length hd
  have hnew : w'.heap[k]? = some (.cells (c.toList.take o ++ us ++ c.toList.drop (o + us.length)).toArray e (0, 0)) := setRow_heap w k c _ e (0, 0) hc
  have hoth : ∀ j, j ≠ k → w'.heap[j]? = w.heap[j]? := fun j hj => setRow_other w k j _ hj
  have hsz : (c.toList.take o ++ us ++ c.toList.drop (o + us.length)).toArray.size = c.size := by
    simp [List.length_take]; omega
  have hbox := hi.boxes b k hk
  have hx : Ext m w V m w' V := by
    refine ⟨rfl, rfl, rfl, by simp [w'], fun j c0 e0 fr h => ?_, fun _ => Nat.le_refl _, fun j o' ho' => ?_, fun j hj hb' _ => hoth j (fun e => hb' b (by rw [e]; exact hk)), fun _ _ h => h, fun _ _ h => .inl h, fun _ _ h => .inl h,
      fun t v h => ⟨v, h, Nat.le_refl _, fun _ => ⟨rfl, fun k hk => rfl⟩⟩⟩
    · by_cases hj : j = k
      · subst hj; rw [hc] at h; cases h; exact ⟨_, hnew, hsz⟩
      · exact ⟨c0, by rw [hoth j hj]; exact h, rfl⟩
    · have hj : j ≠ k := fun e => by subst e; omega
      exact World.cell?_of_block (w := w) (a := ⟨j, o', none⟩) (hoth j hj)
  refine ⟨⟨by simp [hi.boxlen], hi.tiplen, fun j hj => ?_, fun t j h => ?_, fun b' j h => ?_, fun b' c0 h => ?_⟩, hx⟩
  · obtain ⟨c0, e0, fr, g1, g2⟩ := hi.limv j hj
    have hjk : j ≠ k := fun e => by subst e; omega
    exact ⟨c0, e0, fr, by rw [hoth j hjk]; exact g1, g2⟩
  · obtain ⟨⟨c0, e0, g1⟩, g2⟩ := hi.tips t j h
    have hjk : j ≠ k := fun e => g2.1 b (by rw [e]; exact hk)
    exact ⟨⟨c0, e0, by rw [hoth j hjk]; exact g1⟩, g2⟩
  · obtain ⟨g1, g2⟩ := hi.boxes b' j h
    exact ⟨by simpa [w'] using g1, g2⟩
  · by_cases hbb : b = b'
    · subst hbb
      rw [List.getElem?_set_self (List.getElem?_eq_some_iff.1 hb).1] at h
      cases h
      refine ⟨k, _, e, hk, hnew, by rw [hsz]; simp [List.length_take]; omega, h4, relC_mk fun j x hj => ?_⟩
      rw [cell_of_row w' _ _ _ e (0, 0) hnew, Nat.zero_add]
      have hcell : ∀ (j : Nat) x, cs[j]? = some x → ∃ u, c.toList[j]? = some u ∧ RelV m w' V x u ∧ u.oneCell' = true := fun j x hj => by
        obtain ⟨u, q1, q2, q3⟩ := relC_get h5 j x hj
        rw [cell_of_row w _ _ c e (0, 0) hc, Nat.zero_add] at q1
        exact ⟨u, by rw [Array.getElem?_toList]; exact q1, RelV.mono hx _ _ q2, q3⟩
      have hlc : o ≤ c.toList.length := by simp; omega
      rw [splice_get _ _ _ _ (by omega)] at hj
      rw [List.getElem?_toArray, splice_get _ _ _ _ hlc, hul]
      by_cases h1 : j < o
      · rw [if_pos h1] at hj ⊢; exact hcell j x hj
      · rw [if_neg h1] at hj ⊢
        by_cases h2 : j < o + ds.length
        · rw [if_pos h2] at hj ⊢
          obtain ⟨u, q1, q2⟩ := relL_get hd _ x hj
          exact ⟨u, q1, RelV.mono hx _ _ q2, h1' u (List.mem_of_getElem? q1)⟩
        · rw [if_neg h2] at hj ⊢; exact hcell j x hj
    · rw [List.getElem?_set_ne hbb] at h
      obtain ⟨k', c1, e1, g1, g2, g3, g4, g5⟩ := hi.alive b' c0 h
      have hkk : k' ≠ k := fun e => hbb ((hi.boxes b' k' g1).2 b (by rw [e]; exact hk))
      exact ⟨k', c1, e1, g1, by rw [hoth k' hkk]; exact g2, g3, g4, relC_box hx (hoth k' hkk) g5⟩

/-- An append in place: token t, at whose block's fixed end the new cells are laid. -/
theorem step_place {m : Gh} {w : World} {H : List (Option (List CV))} {V : List Nat} {t v k : Nat} {c : Array Value} {e : TypeId} {us : List Value} (hi : Inv m w H V) (hv : V[t]? = some v) (hk : m.tip[t]? = some (some k))
    (hc : w.heap[k]? = some (.cells c e (0, 0))) (ho : m.lim k + us.length ≤ c.size) :
    let w' := w.setRow k (c.toList.take (m.lim k) ++ us ++ c.toList.drop (m.lim k + us.length)).toArray
    let m' : Gh := { m with lim := fun j => if j = k then m.lim k + us.length else m.lim j }
    Inv m' w' H (V.set t (v + 1)) ∧ Ext m w V m' w' (V.set t (v + 1)) := by
  intro w' m'
  have htV : t < V.length := (List.getElem?_eq_some_iff.1 hv).1
  have hml : ∀ j, m'.lim j = if j = k then m.lim k + us.length else m.lim j := fun j => rfl
  have hnew : w'.heap[k]? = some (.cells (c.toList.take (m.lim k) ++ us ++ c.toList.drop (m.lim k + us.length)).toArray e (0, 0)) := setRow_heap w k c _ e (0, 0) hc
  have hoth : ∀ j, j ≠ k → w'.heap[j]? = w.heap[j]? := fun j hj => setRow_other w k j _ hj
  have hsz : (c.toList.take (m.lim k) ++ us ++ c.toList.drop (m.lim k + us.length)).toArray.size = c.size := by
    simp [List.length_take]; omega
  obtain ⟨_, hnb, hdist⟩ := hi.tips t k hk
  have hx : Ext m w V m' w' (V.set t (v + 1)) := by
    refine ⟨rfl, rfl, rfl, by simp [w'], fun j c0 e0 fr h => ?_, fun j => ?_, fun j o' ho' => ?_, fun j hj _ ht' => hoth j (fun e => ht' t (by rw [e]; exact hk)), fun _ _ h => h, fun _ _ h => .inl h, fun _ _ h => .inl h,
      fun s x h => ?_⟩
    · by_cases hj : j = k
      · subst hj; rw [hc] at h; cases h; exact ⟨_, hnew, hsz⟩
      · exact ⟨c0, by rw [hoth j hj]; exact h, rfl⟩
    · rw [hml]; split
      · rename_i h; subst h; omega
      · exact Nat.le_refl _
    · by_cases hj : j = k
      · subst hj
        rw [cell_of_row w' _ _ _ e (0, 0) hnew, cell_of_row w _ _ _ e (0, 0) hc]
        rw [List.getElem?_toArray, splice_get _ _ _ _ (by simp; omega), if_pos ho']
        simp
      · exact World.cell?_of_block (w := w) (a := ⟨j, o', none⟩) (hoth j hj)
    · by_cases hst : t = s
      · subst hst
        rw [hv] at h; cases h
        exact ⟨v + 1, by simp [htV], by omega, fun e => by omega⟩
      · refine ⟨x, by rw [List.getElem?_set_ne hst]; exact h, Nat.le_refl _, fun _ => ⟨rfl, fun j hj => ?_⟩⟩
        have hjk : j ≠ k := fun e => hst (by subst e; exact (hdist s hj).symm)
        rw [hml, if_neg hjk]
  refine ⟨⟨hi.boxlen, by simp [m', hi.tiplen], fun j hj => ?_, fun s j h => ?_, fun b j h => ?_, fun b c0 h => ?_⟩, hx⟩
  · by_cases hjk : j = k
    · subst hjk
      exact ⟨_, e, (0, 0), hnew, by rw [hml, if_pos rfl, hsz]; exact ho⟩
    · rw [hml, if_neg hjk] at hj ⊢
      obtain ⟨c0, e0, fr, g1, g2⟩ := hi.limv j hj
      exact ⟨c0, e0, fr, by rw [hoth j hjk]; exact g1, g2⟩
  · obtain ⟨⟨c0, e0, g1⟩, g2⟩ := hi.tips s j h
    by_cases hjk : j = k
    · subst hjk; exact ⟨⟨_, e, hnew⟩, g2⟩
    · exact ⟨⟨c0, e0, by rw [hoth j hjk]; exact g1⟩, g2⟩
  · obtain ⟨g1, g2⟩ := hi.boxes b j h
    exact ⟨by simpa [w'] using g1, g2⟩
  · obtain ⟨k', c1, e1, g1, g2, g3, g4, g5⟩ := hi.alive b c0 h
    have hkk : k' ≠ k := fun e => hnb b (by rw [← e]; exact g1)
    exact ⟨k', c1, e1, g1, by rw [hoth k' hkk]; exact g2, g3, by rw [hml, if_neg hkk]; exact g4, relC_box hx (hoth k' hkk) g5⟩

/-- A new token at a new block, whose first n cells are fixed. -/
theorem step_fresh {m : Gh} {w w' : World} {H : List (Option (List CV))} {V : List Nat} {cs : Array Value} {e : TypeId} (hi : Inv m w H V) (hp : Pushed w w' (.cells cs e)) (n : Nat) (hn : n ≤ cs.size) :
    let m' : Gh := { m with lim := fun k => if k = w.heap.size then n else m.lim k, tip := m.tip ++ [some w.heap.size] }
    Inv m' w' H (V ++ [0]) ∧ Ext m w V m' w' (V ++ [0]) := by
  intro m'
  have hmt : ∀ s : Nat, m'.tip[s]? = if s = m.tip.length then some (some w.heap.size) else m.tip[s]? := fun s => by
    show (m.tip ++ [some w.heap.size])[s]? = _
    rw [List.getElem?_append]
    by_cases h : s < m.tip.length
    · rw [if_pos h, if_neg (by omega)]
    · rw [if_neg h]
      by_cases h' : s = m.tip.length
      · subst h'; simp
      · rw [if_neg h', List.getElem?_eq_none (by simp; omega), List.getElem?_eq_none (by omega)]
  have hml : ∀ k, m'.lim k = if k = w.heap.size then n else m.lim k := fun k => rfl
  have hx : Ext m w V m' w' (V ++ [0]) := by
    refine ⟨hp.os, hp.tape, hp.output, by rw [hp.size]; omega, fun k c e fr h => ⟨c, hp.some h, rfl⟩, fun k => ?_, fun k o ho => ?_, fun k hk _ _ => hp.old hk, fun _ _ h => h, fun _ _ h => .inl h, fun s k h => ?_,
      fun s x h => ⟨x, ?_, Nat.le_refl _, fun _ => ⟨?_, fun k hk => ?_⟩⟩⟩
    · rw [hml]
      split
      · rename_i h; rw [hi.lim_new (by omega)]; omega
      · exact Nat.le_refl _
    · refine hp.cell ?_
      rcases Nat.lt_or_ge k w.heap.size with h | h
      · exact h
      · rw [hi.lim_new h] at ho; omega
    · rw [hmt] at h
      split at h
      · simp at h; exact .inr (by omega)
      · exact .inl h
    · rw [List.getElem?_append_left (List.getElem?_eq_some_iff.1 h).1]; exact h
    · have := (List.getElem?_eq_some_iff.1 h).1
      rw [hmt, if_neg (by rw [hi.tiplen]; omega)]
    · have := hi.tip_lt hk
      rw [hml, if_neg (by omega)]
  refine ⟨⟨hi.boxlen, by simp [m', hi.tiplen], fun k hk => ?_, fun s k h => ?_, fun b k h => ?_, fun b c h => ?_⟩, hx⟩
  · by_cases h : k = w.heap.size
    · subst h; exact ⟨cs, e, (0, 0), hp.new, by simpa [m'] using hn⟩
    · have h' : 0 < m.lim k := by simpa [m', h] using hk
      obtain ⟨c, e', fr, h1, h2⟩ := hi.limv k h'
      exact ⟨c, e', fr, hp.some h1, by simpa [m', h] using h2⟩
  · rw [hmt] at h
    by_cases hst : s = m.tip.length
    · rw [if_pos hst] at h
      simp at h; subst h
      refine ⟨⟨cs, e, hp.new⟩, fun b hb => ?_, fun t' h' => ?_⟩
      · have := (hi.boxes b _ hb).1; omega
      · rw [hmt] at h'
        split at h'
        · omega
        · have := hi.tip_lt h'; omega
    · rw [if_neg hst] at h
      obtain ⟨⟨c, e', h1⟩, h2, h3⟩ := hi.tips s k h
      refine ⟨⟨c, e', hp.some h1⟩, h2, fun t' h' => ?_⟩
      rw [hmt] at h'
      split at h'
      · simp at h'; have := hi.tip_lt h; omega
      · exact h3 t' h'
  · obtain ⟨h1, h2⟩ := hi.boxes b k h
    exact ⟨by rw [hp.size]; omega, h2⟩
  · obtain ⟨k, c', e', h1, h2, h3, h4, h5⟩ := hi.alive b c h
    have hk := (Array.getElem?_eq_some_iff.1 h2).1
    exact ⟨k, c', e', h1, hp.some h2, h3, by rw [hml, if_neg (by omega)]; exact h4, relC_box hx (hp.old hk) h5⟩

/-- A token's version goes on; nothing else. -/
theorem step_bump {m : Gh} {w : World} {H : List (Option (List CV))} {V : List Nat} {t v : Nat} (hi : Inv m w H V) (hv : V[t]? = some v) :
    Inv m w H (V.set t (v + 1)) ∧ Ext m w V m w (V.set t (v + 1)) := by
  have htV : t < V.length := (List.getElem?_eq_some_iff.1 hv).1
  have hx : Ext m w V m w (V.set t (v + 1)) := by
    refine ⟨rfl, rfl, rfl, Nat.le_refl _, fun k c e fr h => ⟨c, h, rfl⟩, fun _ => Nat.le_refl _, fun _ _ _ => rfl, fun _ _ _ _ => rfl, fun _ _ h => h, fun _ _ h => .inl h, fun t k h => .inl h, fun s x h => ?_⟩
    by_cases hst : t = s
    · subst hst
      rw [hv] at h; cases h
      exact ⟨v + 1, by simp [htV], by omega, fun e => by omega⟩
    · exact ⟨x, by rw [List.getElem?_set_ne hst]; exact h, Nat.le_refl _, fun _ => ⟨rfl, fun _ _ => rfl⟩⟩
  refine ⟨⟨hi.boxlen, by simp [hi.tiplen], hi.limv, hi.tips, hi.boxes, fun b c h => ?_⟩, hx⟩
  obtain ⟨k, c', e', h1, h2, h3, h4, h5⟩ := hi.alive b c h
  exact ⟨k, c', e', h1, h2, h3, h4, relC_box hx rfl h5⟩
end Go.Proofs.Ytffjhibomipemaa
