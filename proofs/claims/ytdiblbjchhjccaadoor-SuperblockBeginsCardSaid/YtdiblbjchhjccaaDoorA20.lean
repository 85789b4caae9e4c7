import Derived.Test.YtdiblbjchhjccaaDoorA19
import Derived.Test.YtdiblbjchhjccaaDoorA18
set_option linter.unusedSimpArgs false
set_option linter.unusedVariables false
set_option linter.unusedSectionVars false
namespace Go.Proofs.YtdiblbjchhjccaaDoor
open Go.Proofs
theorem runR_0 {s : List Sec} (h : s.length ≤ 4096) : runR ⟨s, []⟩ [] = (⟨s, []⟩, 0, 0) := by
  rw [runR, if_neg (by simp [chk_nil h])]; rfl
theorem runR_w {s : List Sec} {a : Nat} {l : List Sec} (h : s.length ≤ 4096) (ha : a + l.length ≤ s.length) : runR ⟨s, []⟩ [opW a l] = (⟨s, puts a l⟩, 1, 0) := by
  rw [runR, if_neg (by simp [chk_nil h]), runD_w ha]; rfl
theorem runR_ws {s : List Sec} {a : Nat} {l : List Sec} (h : s.length ≤ 4096) (ha : a + l.length ≤ s.length) : runR ⟨s, []⟩ [opW a l, opS] = (⟨patS s a l, []⟩, 2, 0) := by
  rw [runR, if_neg (by simp [chk_nil h]), runD_ws ha]; rfl
theorem runR_wsw {s : List Sec} {a b : Nat} {l m : List Sec} (h : s.length ≤ 4096) (ha : a + l.length ≤ s.length) (hb : b + m.length ≤ s.length) : runR ⟨s, []⟩ [opW a l, opS, opW b m] = (⟨patS s a l, puts b m⟩, 3, 0) := by
  rw [runR, if_neg (by simp [chk_nil h]), runD_ws ha, runD_w (by rw [patS_len]; exact hb)]; rfl
theorem runR_wsws {s : List Sec} {a b : Nat} {l m : List Sec} (h : s.length ≤ 4096) (ha : a + l.length ≤ s.length) (hb : b + m.length ≤ s.length) : runR ⟨s, []⟩ [opW a l, opS, opW b m, opS] = (⟨patS (patS s a l) b m, []⟩, 4, 0) := by
  rw [runR, if_neg (by simp [chk_nil h]), runD_ws ha, runD_ws (by rw [patS_len]; exact hb)]; rfl
/-- An interrupted run of operations that fit. -/
theorem itr_ok {d : Dk} {ops : List Opn} {k : Nat} {d' : Dk} {e : Nat} (h : ItrS d ops k d' e) (hc : checkD d = 0) (hk : k ≤ ops.length) (hr : (runR d (ops.take k)).2.2 = 0) : e = 0 ∧ Mix (runR d (ops.take k)).1 d' := by
  rw [ItrS, if_neg (by simp [hc]), if_neg (by omega)] at h
  rw [Int.toNat_natCast, if_neg (by simp [hr])] at h
  exact h
theorem itr_ws {s : List Sec} {a : Nat} {l : List Sec} {k : Nat} {d' : Dk} {e : Nat} (h : s.length ≤ 4096) (ha : a + l.length ≤ s.length) (hk : k ≤ 2) (hi : ItrS ⟨s, []⟩ [opW a l, opS] k d' e) :
    e = 0 ∧ d'.cache = [] ∧ Mx s d'.stable a l ∧ (k = 2 → d'.stable = patS s a l) := by
  have hc := chk_nil h
  match k, hk with
  | 0, _ =>
    obtain ⟨h1, h2⟩ := itr_ok hi hc (by simp) (by rw [List.take_zero, runR_0 h])
    rw [List.take_zero, runR_0 h] at h2
    rw [mix_nil h2]
    exact ⟨h1, rfl, .refl _ _ _, fun q => by omega⟩
  | 1, _ =>
    have e1 : [opW a l, opS].take 1 = [opW a l] := rfl
    obtain ⟨h1, h2⟩ := itr_ok hi hc (by simp) (by rw [e1, runR_w h ha])
    rw [e1, runR_w h ha] at h2
    obtain ⟨h3, h4⟩ := mix_puts h2
    exact ⟨h1, h3, h4, fun q => by omega⟩
  | 2, _ =>
    have e1 : [opW a l, opS].take 2 = [opW a l, opS] := rfl
    obtain ⟨h1, h2⟩ := itr_ok hi hc (by simp) (by rw [e1, runR_ws h ha])
    rw [e1, runR_ws h ha] at h2
    rw [mix_nil h2]
    exact ⟨h1, rfl, .pat ha, fun _ => rfl⟩
theorem stp {s : List Sec} {g : Nat} {v : List UInt8} {T : Nat} (h : Gd s g v T) (hT : T < 4294967295) {st : Stp} (hp : st.payload.length ≤ 31) {d' : Dk} {done right : Bool} (hs : StpS ⟨s, []⟩ st d' done right) :
    right = true ∧ d'.cache = [] ∧ Mx s d'.stable (if (pA s).1 < (pB s).1 then 5 else 13) (copyS (topS (win s) + 1) st.payload) ∧
    (done = true → d'.stable = patS s (if (pA s).1 < (pB s).1 then 5 else 13 : Nat) (copyS (topS (win s) + 1) st.payload)) := by
  have h1 := h.l1
  have h2 := h.l2
  have hst := h.store hp hT
  have hpl : (if (pA s).1 < (pB s).1 then 5 else 13) + (copyS (topS (win s) + 1) st.payload).length ≤ s.length := by
    rw [copyS_len]; split <;> omega
  rw [StpS, hst] at hs
  generalize (if (pA s).1 < (pB s).1 then 5 else 13) = a at *
  dsimp only at hs
  rw [if_neg (by simp)] at hs
  by_cases ha : 2 < st.after.toNat
  · rw [if_pos ha, runR_ws h2 hpl] at hs
    obtain ⟨rfl, rfl, rfl⟩ := hs
    exact ⟨rfl, rfl, .pat hpl, fun _ => rfl⟩
  · rw [if_neg ha] at hs
    obtain ⟨e, hi, rfl, rfl⟩ := hs
    obtain ⟨rfl, q1, q2, q3⟩ := itr_ws h2 hpl (by omega) hi
    refine ⟨rfl, q1, q2, fun hd => q3 ?_⟩
    have : 2 ≤ st.after.toNat := of_decide_eq_true hd
    omega
/-- A STEP. -/
theorem stpG {s : List Sec} {g : Nat} {v : List UInt8} {T : Nat} (h : Gd s g v T) (hT : T < 4294967295) {st : Stp} (hp : st.payload.length ≤ 31) {d' : Dk} {done right : Bool} (hs : StpS ⟨s, []⟩ st d' done right) :
    right = true ∧ ∃ s' g' v', d' = ⟨s', []⟩ ∧ s'.length = s.length ∧ Gd s' g' v' (T + 1) ∧ (∀ j, j < 5 ∨ 21 ≤ j → s'[j]? = s[j]?) ∧ ((g' = g ∧ v' = v ∧ done = false) ∨ (g < g' ∧ v' = st.payload)) ∧
    (∀ x, x = pA s' ∨ x = pB s' → x.1 = 0 ∨ x = pA s ∨ x = pB s ∨ x.2 = st.payload) := by
  obtain ⟨q1, q2, q3, q4⟩ := stp h hT hp hs
  obtain ⟨s', c'⟩ := d'
  dsimp only at q2 q3 q4
  subst q2
  obtain ⟨m1, m2, m3, m4, m5⟩ := h.mx hp hT q3
  refine ⟨q1, s', ?_⟩
  cases done with
  | true =>
    have hpl : (if (pA s).1 < (pB s).1 then 5 else 13) + (copyS (topS (win s) + 1) st.payload).length ≤ s.length := by
      have := h.l1
      rw [copyS_len]; split <;> omega
    have := m5 fun j j1 j2 => by
      rw [q4 rfl, patS_get hpl, if_pos ⟨j1, by rw [copyS_len]; exact j2⟩]
    exact ⟨_, _, rfl, q3.len, this, m3, .inr ⟨m4, rfl⟩, m2⟩
  | false =>
    rcases m1 with m1 | m1
    · exact ⟨_, _, rfl, q3.len, m1, m3, .inl ⟨rfl, rfl, rfl⟩, m2⟩
    · exact ⟨_, _, rfl, q3.len, m1, m3, .inr ⟨m4, rfl⟩, m2⟩
/-! ### Zeros -/
theorem gn_0 : gn sec0 = 0 := by kernel_rfl
theorem zero_half {l : List Sec} (h0 : 0 < l.length) (h : ∀ x ∈ l, gn x = 0) : (parseS l).1 = 0 := by
  rcases Nat.eq_zero_or_pos (parseS l).1 with e | e
  · exact e
  · have := parse_gn e _ (List.getElem_mem h0)
    rw [h _ (List.getElem_mem h0)] at this
    omega
abbrev z16 : List Sec := List.replicate 16 sec0
theorem z16_len : z16.length = 16 := List.length_replicate
theorem z16_get {j : Nat} (h : j < 16) : z16[j]? = some sec0 := by rw [List.getElem?_replicate, if_pos h]
theorem zeros_A {s : List Sec} (h : 21 ≤ s.length) (hz : ∀ j, 5 ≤ j → j < 21 → s[j]? = some sec0) : (∀ x ∈ hA s, gn x = 0) ∧ (∀ x ∈ hB s, gn x = 0) := by
  have : ∀ x ∈ win s, gn x = 0 := fun x hx => by
    obtain ⟨j, j1, j2, j3⟩ := mem_win.1 hx
    rw [hz j j1 j2] at j3
    rw [← Option.some.inj j3, gn_0]
  exact ⟨fun x hx => this x (mem_hA hx), fun x hx => this x (mem_hB hx)⟩
theorem pat_z {s : List Sec} (h : 21 ≤ s.length) : ∀ j, 5 ≤ j → j < 21 → (patS s (5 : Nat) z16)[j]? = some sec0 := fun j j1 j2 => by
  rw [patS_get (by rw [z16_len]; omega), if_pos (by rw [z16_len]; omega), z16_get (by omega)]
/-- A new superblock. -/
theorem fmtG {s : List Sec} {p : List UInt8} (h1 : 21 ≤ s.length) (h2 : s.length ≤ 4096) (hp : p.length ≤ 31) (hz : ∀ j, 5 ≤ j → j < 21 → s[j]? = some sec0) {s' : List Sec} (hm : Mx s s' 5 (copyS 1 p)) :
    (pA s' = (1, p) ∨ (pA s').1 = 0) ∧ (pB s').1 = 0 ∧ ((∀ j, j < 8 → s'[5 + j]? = some (secOf 1 p j)) → Gd s' 1 p 1) := by
  have hl := hm.len
  have hget := hm.get
  rw [copyS_len] at hget
  obtain ⟨z1, z2⟩ := zeros_A h1 hz
  have hB : pB s' = pB s := by
    rw [pB, pB]; congr 1
    refine List.ext_getElem? fun j => ?_
    rcases Nat.lt_or_ge j 8 with hj | hj
    · rw [hB_get _ _ hj, hB_get _ _ hj]
      rcases hget (13 + j) with e | ⟨e1, e2, e3⟩
      · exact e
      · omega
    · rw [List.getElem?_eq_none (by rw [hB_len (by omega)]; exact hj), List.getElem?_eq_none (by rw [hB_len (by omega)]; exact hj)]
  have hB0 : (pB s').1 = 0 := by rw [hB]; exact zero_half (by rw [hB_len h1]; decide) z2
  have hA0 : (pA s).1 = 0 := zero_half (by rw [hA_len h1]; decide) z1
  refine ⟨?_, hB0, fun hf => ?_⟩
  · rcases half (h := hA s) (h' := hA s') (n := 1) (p := p) (by decide) hp (hA_len h1) (hA_len (by omega)) (fun x hx => by rw [z1 x hx]; decide) (fun j hj => by
      rw [hA_get _ _ hj, hA_get _ _ hj]
      rcases hget (5 + j) with e | ⟨e1, e2, e3⟩
      · exact .inl e
      · right; rw [e3, Nat.add_sub_cancel_left, copyS_get _ _ _ hj]) with e | e | e
    · exact .inl e
    · right; show (parseS (hA s')).1 = 0; rw [e]; exact hA0
    · exact .inr e
  · have hAf := half_full (h' := hA s') (n := 1) (p := p) (by decide) hp (hA_len (by omega)) (fun j hj => by rw [hA_get _ _ hj]; exact hf j hj)
    refine ⟨by omega, by omega, ?_, Nat.le_refl _, ?_⟩
    · rw [bestw_eq, pA, hAf, if_neg (by dsimp only; omega)]
    · rw [top_le]
      intro x hx
      obtain ⟨j, j1, j2, j3⟩ := mem_win.1 hx
      rcases hget j with e | ⟨e1, e2, e3⟩
      · rw [e, hz j j1 j2] at j3
        rw [← Option.some.inj j3, gn_0]; decide
      · rw [j3, copyS_get _ _ _ (by omega)] at e3
        rw [Option.some.inj e3, gn_secOf (by decide) hp (by omega)]
        exact Nat.le_refl _
theorem beginG (l : List Sec) {p : List UInt8} (hl : l.length ≤ 4000) (hp : p.length ≤ 31) : ∃ s, beginR l p = (⟨s, []⟩, true) ∧ Gd s 1 p 1 ∧ s.length = l.length + 30 ∧ (∀ j, j < 5 ∨ 21 ≤ j → s[j]? = (l ++ List.replicate 30 sec0)[j]?) ∧ pA s = (1, p) ∧ (pB s).1 = 0 := by
  obtain ⟨S0, hS0⟩ : ∃ S0, l ++ List.replicate 30 sec0 = S0 := ⟨_, rfl⟩
  have hl0 : S0.length = l.length + 30 := by rw [← hS0, List.length_append, List.length_replicate]
  have hf : formatS 5 p = ([opW ((5 : Nat) : Int) z16, opS, opW ((5 : Nat) : Int) (copyS 1 p), opS], 0) := by
    rw [formatS, if_neg (by omega), if_neg (by omega)]; rfl
  have h5 : 5 + z16.length ≤ S0.length := by rw [z16_len]; omega
  have h6 : 5 + (copyS 1 p).length ≤ S0.length := by rw [copyS_len]; omega
  have hr := runR_wsws (s := S0) (a := 5) (b := 5) (l := z16) (m := copyS 1 p) (by omega) h5 h6
  have hz := pat_z (s := S0) (by omega)
  have hm : Mx (patS S0 (5 : Nat) z16) (patS (patS S0 (5 : Nat) z16) (5 : Nat) (copyS 1 p)) 5 (copyS 1 p) := .pat (by rw [patS_len]; exact h6)
  obtain ⟨g1, g2, g3⟩ := fmtG (s := patS S0 (5 : Nat) z16) (by rw [patS_len]; omega) (by rw [patS_len]; omega) hp hz hm
  have hg : ∀ j, (patS (patS S0 (5 : Nat) z16) (5 : Nat) (copyS 1 p))[j]? = if 5 ≤ j ∧ j < 5 + 8 then (copyS 1 p)[j - 5]? else (patS S0 (5 : Nat) z16)[j]? := fun j => by
    rw [patS_get (by rw [patS_len]; exact h6), copyS_len]
  have hgd := g3 fun j hj => by
    rw [hg, if_pos (by omega), Nat.add_sub_cancel_left, copyS_get _ _ _ hj]
  refine ⟨patS (patS S0 (5 : Nat) z16) (5 : Nat) (copyS 1 p), ?_, hgd, by rw [patS_len, patS_len, hl0], fun j hj => ?_, ?_, g2⟩
  · rw [beginR, hS0, hf]
    dsimp only
    rw [hr]; rfl
  · rw [hg, if_neg (by omega), patS_get h5, if_neg (by rw [z16_len]; omega), hS0]
  · have hb := hgd.bst
    rw [bestw_eq, g2, if_neg (by omega)] at hb
    exact hb
theorem load_cases {s : List Sec} (h1 : 21 ≤ s.length) (h2 : s.length ≤ 4096) : loadS ⟨s, []⟩ 5 = ([], 0, 9) ∨ ∃ x, (x = pA s ∨ x = pB s) ∧ 1 ≤ x.1 ∧ loadS ⟨s, []⟩ 5 = (x.2, x.1, 0) := by
  obtain ⟨f1, f2⟩ := find_nil h1 h2
  rw [loadS, if_neg (by simp [f1]), f2]
  by_cases hb : (best (win s)).1 = 0
  · left; rw [if_pos hb]
  · right
    rw [if_neg hb]
    refine ⟨best (win s), ?_, by omega, rfl⟩
    rw [bestw_eq]
    split
    · exact .inr rfl
    · exact .inl rfl
set_option maxHeartbeats 2000000 in
/-- AN INTERRUPTED FORMAT. -/
theorem fmtI {s : List Sec} {p old sp : List UInt8} (h1 : 21 ≤ s.length) (h2 : s.length ≤ 4096) (hp : p.length ≤ 31) (hk0 : ∀ x, x = pA s ∨ x = pB s → x.1 = 0 ∨ x.2 = old ∨ x.2 = sp) {k : Nat} (hk : k ≤ 4) {d' : Dk} {e : Nat} (hi : ItrS ⟨s, []⟩ (formatS 5 p).1 k d' e) :
    e = 0 ∧ d'.stable.length = s.length ∧ d'.cache = [] ∧ ((loadS d' 5).2.2 = 9 ∧ k ≠ 4 ∨ (loadS d' 5).2.2 = 0 ∧ ((loadS d' 5).1 = p ∨ (k < 2 ∧ ((loadS d' 5).1 = old ∨ (loadS d' 5).1 = sp)))) := by
  have hc := chk_nil h2
  have hf : (formatS 5 p).1 = [opW ((5 : Nat) : Int) z16, opS, opW ((5 : Nat) : Int) (copyS 1 p), opS] := by
    rw [formatS, if_neg (by omega), if_neg (by omega)]; rfl
  have h5 : 5 + z16.length ≤ s.length := by rw [z16_len]; omega
  have h6 : 5 + (copyS 1 p).length ≤ s.length := by rw [copyS_len]; omega
  rw [hf] at hi
  have known : ∀ {s' : List Sec}, s'.length = s.length → (∀ x, x = pA s' ∨ x = pB s' → x.1 = 0 ∨ x = pA s ∨ x = pB s) → ∀ k : Nat, k < 2 → ((loadS ⟨s', []⟩ 5).2.2 = 9 ∧ k ≠ 4 ∨ (loadS ⟨s', []⟩ 5).2.2 = 0 ∧ ((loadS ⟨s', []⟩ 5).1 = p ∨ (k < 2 ∧ ((loadS ⟨s', []⟩ 5).1 = old ∨ (loadS ⟨s', []⟩ 5).1 = sp)))) := fun {s'} hl hx k hk => by
    rcases load_cases (s := s') (by omega) (by omega) with e | ⟨x, x1, x2, e⟩
    · left; rw [e]; exact ⟨rfl, by omega⟩
    · right
      rw [e]
      refine ⟨rfl, .inr ⟨hk, ?_⟩⟩
      rcases hx x x1 with q | q
      · omega
      · exact (hk0 x q).resolve_left (by omega)
  match k, hk with
  | 0, _ =>
    obtain ⟨g1, g2⟩ := itr_ok hi hc (by simp) (by rw [List.take_zero, runR_0 h2])
    rw [List.take_zero, runR_0 h2] at g2
    rw [mix_nil g2]
    exact ⟨g1, rfl, rfl, known rfl (fun x hx => .inr hx) 0 (by omega)⟩
  | 1, _ =>
    have e1 : [opW ((5 : Nat) : Int) z16, opS, opW ((5 : Nat) : Int) (copyS 1 p), opS].take 1 = [opW ((5 : Nat) : Int) z16] := rfl
    obtain ⟨g1, g2⟩ := itr_ok hi hc (by simp) (by rw [e1, runR_w h2 h5])
    rw [e1, runR_w h2 h5] at g2
    obtain ⟨g3, g4⟩ := mix_puts g2
    obtain ⟨s', c'⟩ := d'
    dsimp only at g3 g4
    subst g3
    have hl := g4.len
    have hget := g4.get
    rw [z16_len] at hget
    refine ⟨g1, hl, rfl, known hl (fun x hx => ?_) 1 (by omega)⟩
    have gen : ∀ (h h' : List Sec), h.length = 8 → h'.length = 8 → (∀ j, j < 8 → h'[j]? = h[j]? ∨ h'[j]? = some sec0) → (parseS h').1 = 0 ∨ parseS h' = parseS h := fun h h' l1 l2 hx => by
      rcases Nat.eq_zero_or_pos (parseS h').1 with e | e
      · exact .inl e
      · right; congr 1
        refine List.ext_getElem? fun j => ?_
        rcases Nat.lt_or_ge j 8 with hj | hj
        · rcases hx j hj with q | q
          · exact q
          · have := parse_gn e _ (List.mem_of_getElem? q)
            rw [gn_0] at this; omega
        · rw [List.getElem?_eq_none (by omega), List.getElem?_eq_none (by omega)]
    rcases hx with rfl | rfl
    · rcases gen (hA s) (hA s') (hA_len h1) (hA_len (by omega)) (fun j hj => by
        rw [hA_get _ _ hj, hA_get _ _ hj]
        rcases hget (5 + j) with e | ⟨e1, e2, e3⟩
        · exact .inl e
        · right; rw [e3, z16_get (by omega)]) with q | q
      · exact .inl q
      · exact .inr (.inl q)
    · rcases gen (hB s) (hB s') (hB_len h1) (hB_len (by omega)) (fun j hj => by
        rw [hB_get _ _ hj, hB_get _ _ hj]
        rcases hget (13 + j) with e | ⟨e1, e2, e3⟩
        · exact .inl e
        · right; rw [e3, z16_get (by omega)]) with q | q
      · exact .inl q
      · exact .inr (.inr q)
  | 2, _ =>
    have e1 : [opW ((5 : Nat) : Int) z16, opS, opW ((5 : Nat) : Int) (copyS 1 p), opS].take 2 = [opW ((5 : Nat) : Int) z16, opS] := rfl
    obtain ⟨g1, g2⟩ := itr_ok hi hc (by simp) (by rw [e1, runR_ws h2 h5])
    rw [e1, runR_ws h2 h5] at g2
    rw [mix_nil g2]
    have hl : (patS s (5 : Nat) z16).length = s.length := patS_len _ _ _
    refine ⟨g1, by rw [patS_len], rfl, .inl ⟨?_, by omega⟩⟩
    obtain ⟨z1, z2⟩ := zeros_A (s := patS s (5 : Nat) z16) (by omega) (pat_z h1)
    rcases load_cases (s := patS s (5 : Nat) z16) (by omega) (by omega) with e | ⟨x, x1, x2, e⟩
    · rw [e]
    · rcases x1 with rfl | rfl
      · have : (pA (patS s (5 : Nat) z16)).1 = 0 := zero_half (by rw [hA_len (by omega)]; decide) z1
        omega
      · have : (pB (patS s (5 : Nat) z16)).1 = 0 := zero_half (by rw [hB_len (by omega)]; decide) z2
        omega
  | 3, _ =>
    have e1 : [opW ((5 : Nat) : Int) z16, opS, opW ((5 : Nat) : Int) (copyS 1 p), opS].take 3 = [opW ((5 : Nat) : Int) z16, opS, opW ((5 : Nat) : Int) (copyS 1 p)] := rfl
    obtain ⟨g1, g2⟩ := itr_ok hi hc (by simp) (by rw [e1, runR_wsw h2 h5 h6])
    rw [e1, runR_wsw h2 h5 h6] at g2
    obtain ⟨g3, g4⟩ := mix_puts g2
    obtain ⟨s', c'⟩ := d'
    dsimp only at g3 g4
    subst g3
    have hl0 : (patS s (5 : Nat) z16).length = s.length := patS_len _ _ _
    have hl : s'.length = s.length := g4.len.trans hl0
    obtain ⟨q1, q2, _⟩ := fmtG (s := patS s (5 : Nat) z16) (by omega) (by omega) hp (pat_z h1) g4
    refine ⟨g1, hl, rfl, ?_⟩
    rcases load_cases (s := s') (by omega) (by omega) with e | ⟨x, x1, x2, e⟩
    · left; rw [e]; exact ⟨rfl, by omega⟩
    · right; rw [e]
      refine ⟨rfl, .inl ?_⟩
      rcases x1 with rfl | rfl
      · rcases q1 with q1 | q1
        · rw [q1]
        · omega
      · omega
  | 4, _ =>
    have e1 : [opW ((5 : Nat) : Int) z16, opS, opW ((5 : Nat) : Int) (copyS 1 p), opS].take 4 = [opW ((5 : Nat) : Int) z16, opS, opW ((5 : Nat) : Int) (copyS 1 p), opS] := rfl
    obtain ⟨g1, g2⟩ := itr_ok hi hc (by simp) (by rw [e1, runR_wsws h2 h5 h6])
    rw [e1, runR_wsws h2 h5 h6] at g2
    rw [mix_nil g2]
    have hl0 : (patS s (5 : Nat) z16).length = s.length := patS_len _ _ _
    have hm : Mx (patS s (5 : Nat) z16) (patS (patS s (5 : Nat) z16) (5 : Nat) (copyS 1 p)) 5 (copyS 1 p) := .pat (by omega)
    obtain ⟨_, _, g3⟩ := fmtG (s := patS s (5 : Nat) z16) (by omega) (by omega) hp (pat_z h1) hm
    have hgd := g3 fun j hj => by
      rw [patS_get (by omega), copyS_len, if_pos (by omega), Nat.add_sub_cancel_left, copyS_get _ _ _ hj]
    refine ⟨g1, by rw [patS_len, patS_len], rfl, .inr ?_⟩
    rw [hgd.load]
    exact ⟨rfl, .inl rfl⟩
end Go.Proofs.YtdiblbjchhjccaaDoor
namespace Go.Proofs.YtdiblbjchhjccaaDoor
open Go.Proofs
theorem bigS_f {l : List Stp} (h : smallL l = true) : l.length ≤ 12 ∧ ∀ s ∈ l, s.payload.length ≤ 31 ∧ s.choices.length ≤ 40 := by
  simp only [smallL, Bool.and_eq_true, decide_eq_true_eq, Bool.not_eq_true'] at h
  refine ⟨h.2, fun s hs => ?_⟩
  have : ¬ bigS s = true := fun hb => by rw [List.any_eq_true.2 ⟨s, hs, hb⟩] at h; exact absurd h.1 (by decide)
  simp only [bigS, Bool.or_eq_true, decide_eq_true_eq] at this
  omega
@[go_sem] theorem okL_stpC (jb jv : Nat) (x : Stp) : okL jb jv (stpC x) = True := by simp [stpC, okL, okV, okTk, okBs_t, okE_ints]
@[go_sem] theorem okE_stps (jb jv : Nat) (l : List Stp) : okE jb jv (l.map stpC) = True := eq_true (okE_map stpC l fun e => by rw [okL_stpC]; trivial)
/-- A disk's sectors, and what a step says. -/
structure DR where
  s : List Sec
  done : Bool
  right : Bool
theorem Interrupts_cc (H : Hp) (V : List Nat) (c : List Sec) (l : List Stp) (hl : l.length ≤ 9223372036854775807) : CC Tryd.prog 6 [.sl .sh 8 (c.map secC), .sl .sh 3 (l.map stpC)] H V (Pu (cb true) H V) := by
  refine CC.of_swp Tryd.func6 rfl (by kernel_rfl) (by rw [Tryd.ntmps6]; exact len_le _ _ rfl) fun hok hokH => ?_
  clear hok
  refine SWp.seq (Wp.s ?_)
  simp -implicitDefEqProofs [go_sem, args0]
  refine SWp.seq (Wp.s ?_)
  simp -implicitDefEqProofs [go_sem]
  refine ⟨fun h1 => ?_, fun h1 => ?_⟩
  case refine_2 =>
    refine CC.mono (awake_cc _ _) ?_
    rintro _ _ _ ⟨rfl, rfl, rfl⟩
    simp -implicitDefEqProofs [go_sem]
    exact Fin.bool rfl hokH (by simp) (by simp)
  refine CC.mono (small_cc _ _ _ l hl) ?_
  rintro _ _ _ ⟨rfl, rfl, rfl⟩
  simp -implicitDefEqProofs [go_sem]
  refine ⟨fun h2 => ?_, fun h2 => ?_⟩
  case refine_1 =>
    refine CC.mono (awake_cc _ _) ?_
    rintro _ _ _ ⟨rfl, rfl, rfl⟩
    simp -implicitDefEqProofs [go_sem]
    exact Fin.bool rfl hokH (by simp) (by simp)
  obtain ⟨hl12, hbig⟩ := bigS_f h2
  have hv0 : [[CV.v (.int .u8 1)], [CV.v (.int .u8 2)], [CV.v (.int .u8 3)]] = bs [1, 2, 3] := rfl
  refine SWp.seq (Wp.s ?_)
  simp -implicitDefEqProofs [go_sem]
  rw [hv0]
  refine SWp.seq (Wp.s ?_)
  simp -implicitDefEqProofs [go_sem]
  refine CC.mono (begin_cc _ _ _ _ c [1, 2, 3] (by omega)) ?_
  rintro _ _ _ ⟨rfl, rfl, rfl⟩
  obtain ⟨s0, hb, hg, hsl, _, _, _⟩ := beginG c (p := [1, 2, 3]) (by omega) (by decide)
  rw [hb]
  simp -implicitDefEqProofs [go_sem]
  refine SWp.join (α := List Sec) (fun s => ([(7, cb true)], H ++ [some (dkC ⟨s, []⟩)], V)) (fun _ => True) ?_ ?_
  · refine SWp.seq (Wp.s ?_)
    simp -implicitDefEqProofs [go_sem]
    refine SWp.block ?_
    refine SWp.loop (α := Nat × List Sec × Nat × List UInt8) (fun x => ([(1, .sl .sh 3 (l.map stpC)), (5, .sl .sh 1 (bs x.2.2.2)), (6, .ptr H.length 0), (7, cb true), (8, ci x.1)], H ++ [some (dkC ⟨x.2.1, []⟩)], V)) (fun x => x.1 ≤ l.length ∧ Gd x.2.1 x.2.2.1 x.2.2.2 (1 + x.1) ∧ x.2.1.length ≤ 60) (fun x => l.length - x.1) (0, s0, 1, [1, 2, 3]) ⟨Nat.zero_le _, hg, (show s0.length ≤ 60 by omega)⟩ (Sh.forget (by simp [go_sem]) rfl rfl) ?_
    rintro ⟨i, s, g, v⟩ ⟨hi, hgd, hsl2⟩
    dsimp only at hi hgd hsl2 ⊢
    refine SWp.seq (Wp.s ?_)
    simp -implicitDefEqProofs [go_sem]
    refine ⟨fun h => ?_, fun h => ⟨s, Sh.forget (by simp [go_sem]) rfl rfl⟩⟩
    refine SWp.seq (SWp.block ?_)
    refine SWp.join (α := DR) (fun x => ([(1, .sl .sh 3 (l.map stpC)), (5, .sl .sh 1 (bs v)), (6, .ptr H.length 0), (7, cb true), (8, ci i), (9, .ptr (H.length + 1) 0), (10, cb x.done), (11, cb x.right)], H ++ [some (dkC ⟨s, []⟩), some (dkC ⟨x.s, []⟩)], V)) (fun x => StpS ⟨s, []⟩ l[i] ⟨x.s, []⟩ x.done x.right) ?_ ?_
    · refine SWp.drawnT [] [11] (.s 0 .pl <| .s 1 .pl <| .s 2 .pl <| .s 3 .pl <| .s 4 .pl <| .f 5 .pl (.s 6 .pl <| .s 7 .pl <| .s 8 .pl <| .s 9 .pl <| .s 10 .pl <| .s 11 .st <| .s 12 .pl <| .s 13 .pl <| .n) 10 .pl (.s 5 .pl <| .s 6 .pl <| .s 7 .pl <| .s 8 .pl <| .s 9 .pl <| .s 11 .st <| .s 12 .pl <| .s 13 .pl <| .n)) (by kernel_rfl) (by kernel_rfl) ?_
      simp -implicitDefEqProofs [go_sem, h]
      have hst := step_cc (H ++ [some (dkC ⟨s, []⟩)]) V ⟨s, []⟩ l[i] (by dsimp only; omega) (by simp) (by have := (hbig _ (List.getElem_mem h)).2; omega) sortOK
      have hst2 := step_cc (H ++ [some (dkC ⟨s, []⟩), some [.v (.slice none 0 0), .v (.slice none 0 0)]]) V ⟨s, []⟩ l[i] (by dsimp only; omega) (by simp) (by have := (hbig _ (List.getElem_mem h)).2; omega) sortOK
      have fin : ∀ {d' : Dk} {done right : Bool}, StpS ⟨s, []⟩ l[i] d' done right → d'.cache = [] := fun hs => by
        obtain ⟨_, s', _, _, rfl, _⟩ := stpG hgd (by omega) (hbig _ (List.getElem_mem h)).1 hs
        rfl
      refine ⟨CC.mono hst ?_, ?_⟩
      · rintro _ _ _ ⟨⟨s', c'⟩, done, right, hS, rfl, rfl, rfl⟩
        obtain rfl : c' = [] := fin hS
        simp -implicitDefEqProofs [go_sem]
        exact ⟨⟨s', done, right⟩, hS, Sh.forget (by simp [go_sem]) rfl rfl⟩
      · refine CC.mono hst2 ?_
        rintro _ _ _ ⟨⟨s', c'⟩, done, right, hS, rfl, rfl, rfl⟩
        obtain rfl : c' = [] := fin hS
        simp -implicitDefEqProofs [go_sem]
        exact ⟨⟨s', done, right⟩, hS, Sh.forget (by simp [go_sem]) rfl rfl⟩
    · rintro ⟨s', done, right⟩ hS
      dsimp only at hS ⊢
      obtain ⟨rfl, s2, g', v', e2, hl2, hg2, hout, hor, _⟩ := stpG hgd (by omega) (hbig _ (List.getElem_mem h)).1 hS
      obtain rfl : s' = s2 := congrArg Dk.stable e2
      refine SWp.seq (Wp.s ?_)
      simp -implicitDefEqProofs [go_sem]
      refine CC.mono (Load_cc _ _ ⟨s', []⟩ 5 ⟨by dsimp only; omega, by simp⟩) ?_
      rintro _ _ _ ⟨rfl, rfl, rfl⟩
      rw [hg2.load]
      simp -implicitDefEqProofs [go_sem, ldV]
      refine SWp.join (α := Unit) (fun _ => ([(1, .sl .sh 3 (l.map stpC)), (6, .ptr H.length 0), (7, cb true), (8, ci i), (9, .ptr (H.length + 1) 0), (12, .sl .sh 1 (bs v'))], H ++ [some (dkC ⟨s, []⟩), some (dkC ⟨s', []⟩)], V)) (fun _ => True) ?_ ?_
      · refine SWp.seq (Wp.s ?_)
        rcases hor with ⟨rfl, rfl, rfl⟩ | ⟨hlt, rfl⟩
        · simp -implicitDefEqProofs [go_sem]
          refine CC.mono (Equal_cc _ _ .sh .sh _ _) ?_
          rintro _ _ _ ⟨rfl, rfl, rfl⟩
          simp -implicitDefEqProofs [go_sem]
          refine Wp.s ?_
          simp -implicitDefEqProofs [go_sem]
          exact Sh.forget (by simp [go_sem]) rfl rfl
        · cases done with
          | true =>
            simp -implicitDefEqProofs [go_sem, h]
            refine CC.mono (Equal_cc _ _ .sh .sh _ _) ?_
            rintro _ _ _ ⟨rfl, rfl, rfl⟩
            simp -implicitDefEqProofs [go_sem]
            refine CC.mono (Equal_cc _ _ .sh .sh _ _) ?_
            rintro _ _ _ ⟨rfl, rfl, rfl⟩
            simp -implicitDefEqProofs [go_sem, h]
            refine ⟨fun hq => ?_, fun hq => ?_⟩
            · refine CC.mono (Equal_cc _ _ .sh .sh _ _) ?_
              rintro _ _ _ ⟨rfl, rfl, rfl⟩
              simp -implicitDefEqProofs [go_sem]
              refine Wp.s ?_
              simp -implicitDefEqProofs [go_sem]
              exact Sh.forget (by simp [go_sem]) rfl rfl
            · refine Wp.s ?_
              simp -implicitDefEqProofs [go_sem]
              exact Sh.forget (by simp [go_sem]) rfl rfl
          | false =>
            simp -implicitDefEqProofs [go_sem, h]
            refine CC.mono (Equal_cc _ _ .sh .sh _ _) ?_
            rintro _ _ _ ⟨rfl, rfl, rfl⟩
            simp -implicitDefEqProofs [go_sem, h]
            refine ⟨fun hq => ?_, fun hq => ?_⟩
            · refine CC.mono (Equal_cc _ _ .sh .sh _ _) ?_
              rintro _ _ _ ⟨rfl, rfl, rfl⟩
              simp -implicitDefEqProofs [go_sem]
              refine Wp.s ?_
              simp -implicitDefEqProofs [go_sem]
              exact Sh.forget (by simp [go_sem]) rfl rfl
            · refine Wp.s ?_
              simp -implicitDefEqProofs [go_sem]
              exact Sh.forget (by simp [go_sem]) rfl rfl
      · rintro _ -
        dsimp only
        refine Wp.s ?_
        simp -implicitDefEqProofs [go_sem]
        refine Wp.s ?_
        simp -implicitDefEqProofs [go_sem, wrap_succ (show i ≤ 1000000000 by omega)]
        exact ⟨i + 1, s', g', v', ⟨by omega, by rw [← Nat.add_assoc]; exact hg2, by omega⟩, by omega, Sh.trim (L := [some (dkC ⟨s', []⟩)]) (by simp [go_sem]) (by simp [go_sem]) hokH (by simp [go_sem]) (Nat.le_refl _) (by simp) (by simp)⟩
  · rintro s -
    dsimp only
    refine SWp.seq (Wp.s ?_)
    simp -implicitDefEqProofs [go_sem]
    refine CC.mono (awake_cc _ _) ?_
    rintro _ _ _ ⟨rfl, rfl, rfl⟩
    simp -implicitDefEqProofs [go_sem]
    refine Wp.s ?_
    simp -implicitDefEqProofs [go_sem]
    exact Fin.bool rfl hokH (by simp) (by simp)
end Go.Proofs.YtdiblbjchhjccaaDoor
