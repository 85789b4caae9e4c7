import Derived.Test.YtbnkggbpocaaiaaGreatDoorB6
import Derived.Test.YtbnkggbpocaaiaaGreatDoorB3
import Derived.ProofKit
import Derived.OpenShut
import Derived.Below
import Derived.Test.YtbnkggbpocaaiaaGreatDoorB5
set_option linter.unusedSimpArgs false
set_option linter.unusedVariables false
set_option linter.unusedSectionVars false
namespace Go.Proofs.YtbnkggbpocaaiaaGreatDoor
open Go.Proofs
/-! ### Writes applied, sector by sector -/
def apF (l : Img) (ws : List Wr) : Img := ws.foldl ap1 l
theorem apF_nil (l : Img) : apF l [] = l := rfl
theorem apF_snoc (l : Img) (ws : List Wr) (w : Wr) : apF l (ws ++ [w]) = ap1 (apF l ws) w := by rw [apF, List.foldl_append]; rfl
theorem imgSz_eq (x : Img) : imgSz x = (x.map List.length).map (fun n : Nat => (n : Int)) := by rw [imgSz, List.map_map]; rfl
theorem imgSz_ap1 {l : Img} {w : Wr} (h : fitsS (imgSz l) w = 0) : imgSz (ap1 l w) = imgSz l := by rw [imgSz_eq, ap1_sz h, ← imgSz_eq]
theorem apF_sz : ∀ (ws : List Wr) (l : Img), (∀ w ∈ ws, fitsS (imgSz l) w = 0) → imgSz (apF l ws) = imgSz l
  | [], l, _ => rfl
  | w :: ws, l, h => by
    have h0 := h w (by simp)
    show imgSz (apF (ap1 l w) ws) = _
    rw [apF_sz ws _ (fun x hx => by rw [imgSz_ap1 h0]; exact h x (by simp [hx])), imgSz_ap1 h0]
theorem apI_F : ∀ (ws : List Wr) (l : Img) (i : Nat), (∀ w ∈ ws, fitsS (imgSz l) w = 0) → apI l ws i = (apF l ws, 0, 0)
  | [], l, i, _ => rfl
  | w :: ws, l, i, h => by
    have h0 := h w (by simp)
    rw [apI, if_neg (by simp [h0]), apI_F ws _ _ (fun x hx => by rw [imgSz_ap1 h0]; exact h x (by simp [hx]))]
    rfl
theorem apR_F {l : Img} {ws : List Wr} (hs : sizesE (imgSz l) = 0) (h : ∀ w ∈ ws, fitsS (imgSz l) w = 0) : apR l ws = (apF l ws, 0, 0) := by
  rw [apR, if_neg (by simp [hs]), apI_F _ _ _ h]
def sat (l : Img) (v p : Nat) : Option Sec := (l[v]?).bind (fun x => x[p]?)
def cov (w : Wr) (v p : Nat) : Prop := w.volume = (v : Int) ∧ w.start ≤ (p : Int) ∧ (p : Int) < w.start + w.data.length
instance (w : Wr) (v p : Nat) : Decidable (cov w v p) := by unfold cov; infer_instance
theorem putV_get {u : List Sec} {q : Nat} {d : List Sec} (h : q + d.length ≤ u.length) (p : Nat) : (putV u q d)[p]? = if q ≤ p ∧ p < q + d.length then d[p - q]? else u[p]? := by
  rw [putV, List.getElem?_append, List.getElem?_append]
  simp only [List.length_append, List.length_take, List.getElem?_take, List.getElem?_drop]
  by_cases h1 : p < q
  · rw [if_pos (by omega), if_pos (by omega), if_pos h1, if_neg (by omega)]
  · by_cases h2 : p < q + d.length
    · rw [if_pos (by omega), if_neg (by omega), if_pos (by omega)]
      congr 1; omega
    · rw [if_neg (by omega), if_neg (by omega)]
      congr 1; omega
theorem sat_ap1 {l : Img} {w : Wr} (h : fitsS (imgSz l) w = 0) (v p : Nat) : sat (ap1 l w) v p = if cov w v p then w.data[p - w.start.toNat]? else sat l v p := by
  obtain ⟨n, hvn, hnk, hd0, q, hpn, hpl⟩ := fitsI_0 h
  have e : ap1 l w = l.set n (putV l[n] q w.data) := by
    rw [ap1, hvn, hpn, Int.toNat_natCast, Int.toNat_natCast, List.getD_eq_getElem?_getD, List.getElem?_eq_getElem hnk, Option.getD_some]
  rw [e, sat, sat, List.getElem?_set]
  by_cases e1 : n = v
  · subst e1
    rw [if_pos rfl, if_pos hnk, Option.bind_some, putV_get hpl, List.getElem?_eq_getElem hnk, Option.bind_some]
    by_cases e2 : q ≤ p ∧ p < q + w.data.length
    · rw [if_pos e2, if_pos ⟨hvn, by omega, by omega⟩, hpn, Int.toNat_natCast]
    · rw [if_neg e2, if_neg (by rintro ⟨-, q1, q2⟩; exact e2 ⟨by omega, by omega⟩)]
  · rw [if_neg e1, if_neg (by rintro ⟨q1, -, -⟩; omega)]
theorem img_ext {a b : Img} (hs : imgSz a = imgSz b) (h : ∀ v p, sat a v p = sat b v p) : a = b := by
  have hl : a.length = b.length := by have := congrArg List.length hs; rwa [imgSz_len, imgSz_len] at this
  refine List.ext_getElem hl fun v h1 h2 => ?_
  have hv := imgSz_at hs v h1 h2
  refine List.ext_getElem hv fun p g1 g2 => ?_
  have := h v p
  rw [sat, sat, List.getElem?_eq_getElem h1, List.getElem?_eq_getElem h2, Option.bind_some, Option.bind_some, List.getElem?_eq_getElem g1, List.getElem?_eq_getElem g2] at this
  exact Option.some.inj this
/-- What stands at a sector depends on what stood there. -/
theorem sat_apF : ∀ (ws : List Wr) (l k : Img) (v p : Nat), imgSz l = imgSz k → (∀ w ∈ ws, fitsS (imgSz l) w = 0) → sat l v p = sat k v p → sat (apF l ws) v p = sat (apF k ws) v p
  | [], l, k, v, p, _, _, h => h
  | w :: ws, l, k, v, p, hs, hf, h => by
    have h0 := hf w (by simp)
    have h0' : fitsS (imgSz k) w = 0 := by rw [← hs]; exact h0
    show sat (apF (ap1 l w) ws) v p = sat (apF (ap1 k w) ws) v p
    refine sat_apF ws _ _ v p (by rw [imgSz_ap1 h0, imgSz_ap1 h0', hs]) (fun x hx => by rw [imgSz_ap1 h0]; exact hf x (by simp [hx])) ?_
    rw [sat_ap1 h0, sat_ap1 h0', h]
theorem apF_again {l : Img} {ws : List Wr} {w : Wr} (hf : ∀ x ∈ ws, fitsS (imgSz l) x = 0) (hw : fitsS (imgSz l) w = 0) (h : apF l ws = l) : apF (ap1 l w) (ws ++ [w]) = ap1 l w := by
  have hz := imgSz_ap1 hw
  have hf' : ∀ x ∈ ws, fitsS (imgSz (ap1 l w)) x = 0 := fun x hx => by rw [hz]; exact hf x hx
  have hz2 := apF_sz ws _ hf'
  have hw2 : fitsS (imgSz (apF (ap1 l w) ws)) w = 0 := by rw [hz2, hz]; exact hw
  rw [apF_snoc]
  refine img_ext (by rw [imgSz_ap1 hw2, hz2]) fun v p => ?_
  rw [sat_ap1 hw2, sat_ap1 hw]
  by_cases c : cov w v p
  · rw [if_pos c, if_pos c]
  · rw [if_neg c, if_neg c, sat_apF ws (ap1 l w) l v p hz hf' (by rw [sat_ap1 hw, if_neg c]), h]
/-! ### Stores that are in order -/
theorem stOk_chk {s : Sto} (h : StOk s) : chkV s = 0 := by
  rw [chkV, if_neg (by simp [h.sz]), if_neg (by simp [h.A.j]), if_neg h.A.a, if_neg h.A.b, if_neg (by simp [h.e1]), if_neg (by simp [h.im]), if_neg (by simp [h.e2, h.e3])]
theorem stOk_fits {s : Sto} (h : StOk s) : ∀ w ∈ s.pend, fitsS s.sizes w = 0 := fun w hw => by
  have := apR_fits h.e1 hw
  rwa [imgSz_of h.sz] at this
theorem stOk_F {s : Sto} (h : StOk s) : apF s.img s.pend = s.img := by
  have := h.e3
  rw [apR_F (by rw [h.im]; exact h.sz) (by rw [h.im]; exact stOk_fits h)] at this
  exact this
theorem stOk_of {s : Sto} (hz : sizesE s.sizes = 0) (hA : ChkA s) (hf : ∀ w ∈ s.pend, fitsS s.sizes w = 0) (hi : imgSz s.img = s.sizes) (ha : apF s.img s.pend = s.img) : StOk s := by
  have e1 : apR (imOf s.sizes) s.pend = (apF (imOf s.sizes) s.pend, 0, 0) := apR_F (by rw [imgSz_of hz]; exact hz) (by rw [imgSz_of hz]; exact hf)
  have e2 : apR s.img s.pend = (apF s.img s.pend, 0, 0) := apR_F (by rw [hi]; exact hz) (by rw [hi]; exact hf)
  exact ⟨hz, hA, by rw [e1], hi, by rw [e2], by rw [e2]; exact ha⟩
end Go.Proofs.YtbnkggbpocaaiaaGreatDoor
namespace Go.Proofs.YtbnkggbpocaaiaaGreatDoor
open Go.Proofs
theorem gn_eq (s : Sec) : gn s = ((sb s 3 * 256 + sb s 2) * 256 + sb s 1) * 256 + sb s 0 := by
  simp [gn, gi]
theorem gn_secOf {n : Nat} {p : List UInt8} (hn : n < 4294967296) (hp : p.length ≤ 31) {i : Nat} (hi : i < 8) : gn (secOf n p i) = n := by
  have h : ∀ j, j < 4 → sb (secOf n p i) j = n / 256 ^ j % 256 := fun j hj => by
    rw [sb, secOf_val n hp hi]
    rcases j with _ | _ | _ | _ | j
    · simp [le4]
    · simp [le4]
    · simp [le4]
    · simp [le4]
    · omega
  rw [gn_eq, h 3 (by omega), h 2 (by omega), h 1 (by omega), h 0 (by omega)]
  omega
theorem copyS_get (n : Nat) (p : List UInt8) (j : Nat) (h : j < 8) : (copyS n p)[j]? = some (secOf n p j) := by
  rw [copyS, List.getElem?_map, List.getElem?_range h]; rfl
theorem parts_take (D : List UInt8) : ∀ k, (List.range k).flatMap (fun i => (D.drop (4 * i)).take 4) = D.take (4 * k)
  | 0 => rfl
  | k + 1 => by
    rw [List.range_succ, List.flatMap_append, parts_take D k, Nat.mul_succ, List.take_add]
    simp
theorem dataS_copy {n : Nat} {p : List UInt8} (hp : p.length ≤ 31) : dataS (copyS n p) = dataOf p := by
  have h : dataS (copyS n p) = (List.range 8).flatMap (fun i => ((dataOf p).drop (4 * i)).take 4) := by
    rw [dataS, copyS, List.flatMap_map, List.flatMap_def, List.flatMap_def]
    congr 1
    refine List.map_congr_left fun i hi => ?_
    rw [List.mem_range] at hi
    rw [secOf_val n hp hi, List.drop_append_of_le_length (by rw [le4_len]; exact Nat.le_refl _), List.drop_of_length_le (by rw [le4_len]; exact Nat.le_refl _), List.nil_append]
    rfl
  rw [h, parts_take, List.take_of_length_le (by rw [dataOf_len hp]; decide)]
theorem dataOf_0 {p : List UInt8} (hp : p.length ≤ 31) : ((dataOf p).getD 0 0).toNat = p.length := by
  simp [dataOf]; omega
theorem okData_of {p : List UInt8} (hp : p.length ≤ 31) : okData (dataOf p) = true := by
  rw [okData, dataOf_0 hp]
  simp only [Bool.and_eq_true, decide_eq_true_eq]
  refine ⟨hp, ?_⟩
  rw [dataOf, List.cons_append, List.drop_succ_cons, List.drop_append_of_le_length (Nat.le_refl _), List.drop_length, List.nil_append]
  simp
theorem g0_copy {n : Nat} {p : List UInt8} (hn : n < 4294967296) (hp : p.length ≤ 31) : g0 (copyS n p) = n := by
  rw [g0, List.getD_eq_getElem?_getD, copyS_get n p 0 (by decide)]
  exact gn_secOf hn hp (by decide)
theorem parse_copy {n : Nat} {p : List UInt8} (hn : n < 4294967296) (hp : p.length ≤ 31) : parseS (copyS n p) = (n, p) := by
  have hv : valid (copyS n p) = true := by
    rw [valid, g0_copy hn hp, dataS_copy hp, okData_of hp, Bool.and_true, List.all_eq_true]
    intro s hs
    obtain ⟨i, hi, rfl⟩ := List.mem_map.1 hs
    rw [List.mem_range] at hi
    simp [gn_secOf hn hp hi]
  rw [parseS, if_pos hv, g0_copy hn hp, pay, dataS_copy hp, dataOf_0 hp, dataOf, List.cons_append, List.drop_succ_cons, List.drop_zero, List.take_append_of_le_length (Nat.le_refl _), List.take_length]
/-! ### Disks with no cache -/
theorem puts_get (a : Nat) (l s : List Sec) : ∀ i, i ≤ l.length → a + l.length ≤ s.length → ∀ j, ((puts a (l.take i)).foldl setC s)[j]? = if a ≤ j ∧ j < a + i then l[j - a]? else s[j]?
  | 0, _, _, j => by
    rw [if_neg (by omega)]; rfl
  | i + 1, h1, h2, j => by
    have ih := puts_get a l s i (by omega) h2 j
    rw [puts_succ _ _ _ (by omega), List.foldl_append, List.foldl_cons, List.foldl_nil, setC]
    have hp : ((a : Int) + (i : Int)).toNat = a + i := by omega
    dsimp only
    rw [hp, List.getElem?_set]
    by_cases e : a + i = j
    · subst e
      rw [if_pos rfl, if_pos (by rw [foldl_setC_len]; omega), if_pos (by omega), Nat.add_sub_cancel_left, List.getElem?_eq_getElem (by omega)]
    · rw [if_neg e, ih]
      by_cases h : a ≤ j ∧ j < a + i
      · rw [if_pos h, if_pos (by omega)]
      · rw [if_neg h, if_neg (by omega)]
/-- Sectors written over. -/
def patS (s : List Sec) (a : Nat) (l : List Sec) : List Sec := (puts a l).foldl setC s
theorem patS_len (s : List Sec) (a : Nat) (l : List Sec) : (patS s a l).length = s.length := foldl_setC_len _ _
theorem patS_get {s : List Sec} {a : Nat} {l : List Sec} (h : a + l.length ≤ s.length) (j : Nat) : (patS s a l)[j]? = if a ≤ j ∧ j < a + l.length then l[j - a]? else s[j]? := by
  have := puts_get a l s l.length (Nat.le_refl _) h j
  rwa [List.take_length] at this
theorem inside_ok {s : List Sec} {c : List Cach} {a : Nat} {l : List Sec} (h : a + l.length ≤ s.length) : insideB ⟨s, c⟩ a l.length = true := by
  simp only [insideB, Bool.and_eq_true, decide_eq_true_eq]; omega
theorem runD_s {s : List Sec} {c : List Cach} (r : List Opn) (i : Nat) : runD ⟨s, c⟩ (opS :: r) i = runD ⟨newestD ⟨s, c⟩, []⟩ r (i + 1) := by
  rw [runD, stepD, if_neg (by simp [opS]), if_neg (by simp [opS])]
theorem chk_nil {s : List Sec} (h : s.length ≤ 4096) : checkD ⟨s, []⟩ = 0 := by
  rw [checkD_iff]; exact ⟨h, fun c hc => by cases hc⟩
/-- Some of the sectors l have come to place a. -/
structure Mx (s s' : List Sec) (a : Nat) (l : List Sec) : Prop where
  len : s'.length = s.length
  get : ∀ j : Nat, s'[j]? = s[j]? ∨ (a ≤ j ∧ j < a + l.length ∧ s'[j]? = l[j - a]?)
theorem Mx.refl (s : List Sec) (a : Nat) (l : List Sec) : Mx s s a l := ⟨rfl, fun _ => .inl rfl⟩
theorem Mx.pat {s : List Sec} {a : Nat} {l : List Sec} (h : a + l.length ≤ s.length) : Mx s (patS s a l) a l :=
  ⟨patS_len _ _ _, fun j => by
    rw [patS_get h]
    by_cases hj : a ≤ j ∧ j < a + l.length
    · rw [if_pos hj]; exact .inr ⟨hj.1, hj.2, rfl⟩
    · rw [if_neg hj]; exact .inl rfl⟩
theorem valid_gn {l : List Sec} (h : valid l = true) : ∀ s ∈ l, gn s = g0 l := fun s hs => by
  rw [valid, Bool.and_eq_true, List.all_eq_true] at h
  simpa using h.1 s hs
theorem parse_bad {l : List Sec} {s t : Sec} (hs : s ∈ l) (ht : t ∈ l) (h : gn s ≠ gn t) : (parseS l).1 = 0 := by
  by_cases hv : valid l = true
  · exact absurd ((valid_gn hv s hs).trans (valid_gn hv t ht).symm) h
  · rw [parseS, if_neg hv]
theorem parse_gn {l : List Sec} (h : 1 ≤ (parseS l).1) : ∀ s ∈ l, gn s = (parseS l).1 := fun s hs => by
  by_cases hv : valid l = true
  · rw [parseS, if_pos hv]; exact valid_gn hv s hs
  · rw [parseS, if_neg hv] at h; cases h
/-- A half, some of whose sectors are those of a newer copy. -/
theorem half {h h' : List Sec} {n : Nat} {p : List UInt8} (hn : n < 4294967296) (hp : p.length ≤ 31) (l1 : h.length = 8) (l2 : h'.length = 8) (hg : ∀ s ∈ h, gn s < n) (hx : ∀ j, j < 8 → h'[j]? = h[j]? ∨ h'[j]? = some (secOf n p j)) :
    parseS h' = (n, p) ∨ parseS h' = parseS h ∨ (parseS h').1 = 0 := by
  by_cases a : ∀ j, j < 8 → h'[j]? = h[j]?
  · right; left
    congr 1
    refine List.ext_getElem? fun j => ?_
    rcases Nat.lt_or_ge j 8 with hj | hj
    · exact a j hj
    · rw [List.getElem?_eq_none (by omega), List.getElem?_eq_none (by omega)]
  by_cases b : ∀ j, j < 8 → h'[j]? = some (secOf n p j)
  · left
    have : h' = copyS n p := by
      refine List.ext_getElem? fun j => ?_
      rcases Nat.lt_or_ge j 8 with hj | hj
      · rw [b j hj, copyS_get n p j hj]
      · rw [List.getElem?_eq_none (by omega), List.getElem?_eq_none (by rw [copyS_len]; exact hj)]
    rw [this, parse_copy hn hp]
  · right; right
    obtain ⟨i, hi⟩ := Classical.not_forall.1 a
    obtain ⟨hi8, hi⟩ := Classical.not_imp.1 hi
    obtain ⟨j, hj⟩ := Classical.not_forall.1 b
    obtain ⟨hj8, hj⟩ := Classical.not_imp.1 hj
    have e1 : h'[i]? = some (secOf n p i) := (hx i hi8).resolve_left hi
    have e2 : h'[j]? = h[j]? := (hx j hj8).resolve_right hj
    rw [List.getElem?_eq_getElem (by omega : j < h.length)] at e2
    refine parse_bad (List.mem_of_getElem? e1) (List.mem_of_getElem? e2) ?_
    rw [gn_secOf hn hp hi8]
    have := hg _ (List.getElem_mem (by omega : j < h.length))
    omega
/-- A half that was written whole. -/
theorem half_full {h' : List Sec} {n : Nat} {p : List UInt8} (hn : n < 4294967296) (hp : p.length ≤ 31) (l2 : h'.length = 8) (b : ∀ j, j < 8 → h'[j]? = some (secOf n p j)) : parseS h' = (n, p) := by
  have : h' = copyS n p := by
    refine List.ext_getElem? fun j => ?_
    rcases Nat.lt_or_ge j 8 with hj | hj
    · rw [b j hj, copyS_get n p j hj]
    · rw [List.getElem?_eq_none (by omega), List.getElem?_eq_none (by rw [copyS_len]; exact hj)]
  rw [this, parse_copy hn hp]
/-! ### The window -/
def win (o : Nat) (s : List Sec) : List Sec := (s.drop o).take 16
def hA (o : Nat) (s : List Sec) : List Sec := (s.drop o).take 8
def hB (o : Nat) (s : List Sec) : List Sec := (s.drop (o + 8)).take 8
theorem win_A (o : Nat) (s : List Sec) : (win o s).take 8 = hA o s := by rw [win, hA, List.take_take]; rfl
theorem win_B (o : Nat) (s : List Sec) : (win o s).drop 8 = hB o s := by rw [win, hB, List.drop_take, List.drop_drop]
theorem hA_len {o : Nat} {s : List Sec} (h : o + 16 ≤ s.length) : (hA o s).length = 8 := by rw [hA, List.length_take, List.length_drop]; omega
theorem hB_len {o : Nat} {s : List Sec} (h : o + 16 ≤ s.length) : (hB o s).length = 8 := by rw [hB, List.length_take, List.length_drop]; omega
theorem hA_get (o : Nat) (s : List Sec) (j : Nat) (h : j < 8) : (hA o s)[j]? = s[o + j]? := by rw [hA, List.getElem?_take, if_pos h, List.getElem?_drop]
theorem hB_get (o : Nat) (s : List Sec) (j : Nat) (h : j < 8) : (hB o s)[j]? = s[o + 8 + j]? := by rw [hB, List.getElem?_take, if_pos h, List.getElem?_drop]
def pA (o : Nat) (s : List Sec) : Nat × List UInt8 := parseS (hA o s)
def pB (o : Nat) (s : List Sec) : Nat × List UInt8 := parseS (hB o s)
theorem bestw_eq (o : Nat) (s : List Sec) : best (win o s) = if (pA o s).1 < (pB o s).1 then pB o s else pA o s := by
  rw [best, cA, cB, win_A, win_B]; rfl
theorem new1_eq (o : Nat) (s : List Sec) : new1 (win o s) = if (pA o s).1 < (pB o s).1 then 1 else 0 := by
  rw [new1, cA, cB, win_A, win_B]; rfl
theorem mem_win {o : Nat} {s : List Sec} {x : Sec} : x ∈ win o s ↔ ∃ j, o ≤ j ∧ j < o + 16 ∧ s[j]? = some x := by
  constructor
  · intro h
    obtain ⟨i, hi, rfl⟩ := List.getElem_of_mem h
    have hi2 := hi
    rw [win, List.length_take, List.length_drop] at hi2
    refine ⟨o + i, by omega, by omega, ?_⟩
    rw [List.getElem?_eq_getElem (by omega)]
    simp [win]
  · rintro ⟨j, h1, h2, h3⟩
    refine List.mem_of_getElem? (i := j - o) ?_
    rw [win, List.getElem?_take, if_pos (by omega), List.getElem?_drop, ← h3]
    congr 1; omega
theorem mxS_le : ∀ (l : List Sec) (m k : Nat), mxS m l ≤ k ↔ m ≤ k ∧ ∀ s ∈ l, gn s ≤ k
  | [], m, k => by simp [mxS]
  | a :: l, m, k => by
    have := mxS_le l (max m (gn a)) k
    rw [mxS] at this ⊢
    rw [List.foldl_cons, this]
    simp only [List.mem_cons, forall_eq_or_imp, Nat.max_le, and_assoc]
theorem top_le (l : List Sec) (k : Nat) : topS l ≤ k ↔ ∀ s ∈ l, gn s ≤ k := by
  rw [topS_eq, mxS_le]; simp
theorem mem_hA {o : Nat} {s : List Sec} {x : Sec} (h : x ∈ hA o s) : x ∈ win o s := by rw [← win_A] at h; exact List.mem_of_mem_take h
theorem mem_hB {o : Nat} {s : List Sec} {x : Sec} (h : x ∈ hB o s) : x ∈ win o s := by rw [← win_B] at h; exact List.mem_of_mem_drop h
/-- A disk with a superblock at sector 5. -/
structure Gd (o : Nat) (s : List Sec) (g : Nat) (v : List UInt8) (T : Nat) : Prop where
  l1 : o + 16 ≤ s.length
  l2 : s.length ≤ 4096
  bst : best (win o s) = (g, v)
  pos : 1 ≤ g
  top : topS (win o s) ≤ T
theorem find_nil {o : Nat} {s : List Sec} (h1 : o + 16 ≤ s.length) (h2 : s.length ≤ 4096) : findE ⟨s, []⟩ o = 0 ∧ findL ⟨s, []⟩ o = win o s := by
  have hc := chk_nil h2
  have hi : insideB ⟨s, []⟩ o 16 = true := by simp only [insideB, Bool.and_eq_true, decide_eq_true_eq]; omega
  have : readD ⟨s, []⟩ o 16 = (win o s, 0) := by
    rw [readD, if_neg (by simp [hc]), if_neg (by simp [hi])]; rfl
  rw [findE, findL, this]; exact ⟨rfl, rfl⟩
theorem Gd.load {o : Nat} {s : List Sec} {g : Nat} {v : List UInt8} {T : Nat} (h : Gd o s g v T) : loadS ⟨s, []⟩ o = (v, g, 0) := by
  obtain ⟨f1, f2⟩ := find_nil h.l1 h.l2
  have := h.pos
  rw [loadS, if_neg (by simp [f1]), f2, h.bst, if_neg (by dsimp only; omega)]
theorem Gd.store {o : Nat} {s : List Sec} {g : Nat} {v p : List UInt8} {T : Nat} (h : Gd o s g v T) (hp : p.length ≤ 31) (hT : T < 4294967295) :
    storeS ⟨s, []⟩ o p = ([opW ((if (pA o s).1 < (pB o s).1 then o else o + 8 : Nat) : Int) (copyS (topS (win o s) + 1) p), opS], 0) := by
  obtain ⟨f1, f2⟩ := find_nil h.l1 h.l2
  have h1 := h.pos
  have h2 := h.top
  rw [storeS, if_neg (by simp [f1]), f2, h.bst, if_neg (by dsimp only; omega), if_neg (by omega), if_neg (by omega), new1_eq]
  split
  · rw [show (o : Int) + 8 - 8 * ((1 : Nat) : Int) = (o : Int) by omega]
  · rw [show (o : Int) + 8 - 8 * ((0 : Nat) : Int) = ((o + 8 : Nat) : Int) by omega]
/-- A newer copy has come, or not, or in part, to the place of the elder one. -/
theorem Gd.mx {o : Nat} {s s' : List Sec} {g : Nat} {v p : List UInt8} {T : Nat} (h : Gd o s g v T) (hp : p.length ≤ 31) (hT : T < 4294967295)
    (hm : Mx s s' (if (pA o s).1 < (pB o s).1 then o else o + 8) (copyS (topS (win o s) + 1) p)) :
    (Gd o s' g v (T + 1) ∨ Gd o s' (topS (win o s) + 1) p (T + 1)) ∧ (∀ x, x = pA o s' ∨ x = pB o s' → x.1 = 0 ∨ x = pA o s ∨ x = pB o s ∨ x.2 = p) ∧ (∀ j, j < o ∨ o + 16 ≤ j → s'[j]? = s[j]?) ∧ g < topS (win o s) + 1 ∧
    ((∀ j, (if (pA o s).1 < (pB o s).1 then o else o + 8) ≤ j → j < (if (pA o s).1 < (pB o s).1 then o else o + 8) + 8 → s'[j]? = (copyS (topS (win o s) + 1) p)[j - (if (pA o s).1 < (pB o s).1 then o else o + 8)]?) → Gd o s' (topS (win o s) + 1) p (T + 1)) := by
  have h1 := h.l1
  have h2 := h.l2
  have hl := hm.len
  have hpos := h.pos
  have hb := h.bst
  rw [bestw_eq] at hb
  have htop := h.top
  have hall := (top_le (win o s) (topS (win o s))).1 (Nat.le_refl _)
  generalize hn : topS (win o s) + 1 = n at *
  have hn32 : n < 4294967296 := by omega
  have hget := hm.get
  rw [copyS_len] at hget
  have htop' : topS (win o s') ≤ T + 1 := by
    rw [top_le]
    intro x hx
    obtain ⟨j, a1, a2, a3⟩ := mem_win.1 hx
    rcases hget j with e | ⟨e1, e2, e3⟩
    · rw [e] at a3
      have := hall x (mem_win.2 ⟨j, a1, a2, a3⟩)
      omega
    · rw [a3, copyS_get _ _ _ (by omega)] at e3
      rw [Option.some.inj e3, gn_secOf hn32 hp (by omega)]
      omega
  have hout : ∀ j, j < o ∨ o + 16 ≤ j → s'[j]? = s[j]? := fun j hj => by
    rcases hget j with e | ⟨e1, e2, e3⟩
    · exact e
    · split at e1 <;> split at e2 <;> omega
  by_cases hlt : (pA o s).1 < (pB o s).1
  · simp only [if_pos hlt] at hget hb ⊢
    have hBe : pB o s' = pB o s := by
      rw [pB, pB]; congr 1
      refine List.ext_getElem? fun j => ?_
      rcases Nat.lt_or_ge j 8 with hj | hj
      · rw [hB_get _ _ _ hj, hB_get _ _ _ hj]
        rcases hget (o + 8 + j) with e | ⟨e1, e2, e3⟩
        · exact e
        · omega
      · rw [List.getElem?_eq_none (by rw [hB_len (by omega)]; exact hj), List.getElem?_eq_none (by rw [hB_len (by omega)]; exact hj)]
    have hgn : g < n := by
      have h0l : 0 < (hB o s).length := by rw [hB_len h1]; decide
      have hm0 : (hB o s)[0] ∈ hB o s := List.getElem_mem h0l
      have h1g : 1 ≤ (parseS (hB o s)).1 := by show 1 ≤ (pB o s).1; rw [hb]; exact hpos
      have e1 := parse_gn h1g _ hm0
      have e2 := hall _ (mem_hB hm0)
      have e3 : (parseS (hB o s)).1 = g := by show (pB o s).1 = g; rw [hb]
      omega
    have hAh := half (h := hA o s) (h' := hA o s') (n := n) (p := p) hn32 hp (hA_len h1) (hA_len (by omega)) (fun x hx => by have := hall x (mem_hA hx); omega) (fun j hj => by
      rw [hA_get _ _ _ hj, hA_get _ _ _ hj]
      rcases hget (o + j) with e | ⟨e1, e2, e3⟩
      · exact .inl e
      · right; rw [e3, Nat.add_sub_cancel_left, copyS_get _ _ _ hj])
    refine ⟨?_, ?_, hout, hgn, fun hf => ⟨by omega, by omega, ?_, by omega, htop'⟩⟩
    · rcases hAh with e | e | e
      · right; refine ⟨by omega, by omega, ?_, by omega, htop'⟩
        rw [bestw_eq, hBe, hb, pA, e, if_neg (by dsimp only; omega)]
      · left; refine ⟨by omega, by omega, ?_, by omega, htop'⟩
        rw [bestw_eq, hBe, pA, e]
        show (if (pA o s).1 < (pB o s).1 then pB o s else pA o s) = _
        rw [if_pos hlt, hb]
      · left; refine ⟨by omega, by omega, ?_, by omega, htop'⟩
        rw [bestw_eq, hBe, hb, pA, e, if_pos (by dsimp only; omega)]
    · rintro x (rfl | rfl)
      · rcases hAh with e | e | e
        · right; right; right; rw [pA, e]
        · right; left; exact e
        · left; exact e
      · right; right; left; exact hBe
    · have := half_full (h' := hA o s') (n := n) (p := p) hn32 hp (hA_len (by omega)) (fun j hj => by
        rw [hA_get _ _ _ hj, hf (o + j) (by omega) (by omega), Nat.add_sub_cancel_left, copyS_get _ _ _ hj])
      rw [bestw_eq, hBe, hb, pA, this, if_neg (by dsimp only; omega)]
  · simp only [if_neg hlt] at hget hb ⊢
    have hAe : pA o s' = pA o s := by
      rw [pA, pA]; congr 1
      refine List.ext_getElem? fun j => ?_
      rcases Nat.lt_or_ge j 8 with hj | hj
      · rw [hA_get _ _ _ hj, hA_get _ _ _ hj]
        rcases hget (o + j) with e | ⟨e1, e2, e3⟩
        · exact e
        · omega
      · rw [List.getElem?_eq_none (by rw [hA_len (by omega)]; exact hj), List.getElem?_eq_none (by rw [hA_len (by omega)]; exact hj)]
    have hgn : g < n := by
      have h0l : 0 < (hA o s).length := by rw [hA_len h1]; decide
      have hm0 : (hA o s)[0] ∈ hA o s := List.getElem_mem h0l
      have h1g : 1 ≤ (parseS (hA o s)).1 := by show 1 ≤ (pA o s).1; rw [hb]; exact hpos
      have e1 := parse_gn h1g _ hm0
      have e2 := hall _ (mem_hA hm0)
      have e3 : (parseS (hA o s)).1 = g := by show (pA o s).1 = g; rw [hb]
      omega
    have hBh := half (h := hB o s) (h' := hB o s') (n := n) (p := p) hn32 hp (hB_len h1) (hB_len (by omega)) (fun x hx => by have := hall x (mem_hB hx); omega) (fun j hj => by
      rw [hB_get _ _ _ hj, hB_get _ _ _ hj]
      rcases hget (o + 8 + j) with e | ⟨e1, e2, e3⟩
      · exact .inl e
      · right; rw [e3, Nat.add_sub_cancel_left, copyS_get _ _ _ hj])
    refine ⟨?_, ?_, hout, hgn, fun hf => ⟨by omega, by omega, ?_, by omega, htop'⟩⟩
    · rcases hBh with e | e | e
      · right; refine ⟨by omega, by omega, ?_, by omega, htop'⟩
        rw [bestw_eq, hAe, hb, pB, e, if_pos (by dsimp only; omega)]
      · left; refine ⟨by omega, by omega, ?_, by omega, htop'⟩
        rw [bestw_eq, hAe, pB, e]
        show (if (pA o s).1 < (pB o s).1 then pB o s else pA o s) = _
        rw [if_neg hlt, hb]
      · left; refine ⟨by omega, by omega, ?_, by omega, htop'⟩
        rw [bestw_eq, hAe, hb, pB, e, if_neg (by dsimp only; omega)]
    · rintro x (rfl | rfl)
      · right; left; exact hAe
      · rcases hBh with e | e | e
        · right; right; right; rw [pB, e]
        · right; right; left; exact e
        · left; exact e
    · have := half_full (h' := hB o s') (n := n) (p := p) hn32 hp (hB_len (by omega)) (fun j hj => by
        rw [hB_get _ _ _ hj, hf (o + 8 + j) (by omega) (by omega), Nat.add_sub_cancel_left, copyS_get _ _ _ hj])
      rw [bestw_eq, hAe, hb, pB, this, if_pos (by dsimp only; omega)]
end Go.Proofs.YtbnkggbpocaaiaaGreatDoor
namespace Go.Proofs.YtbnkggbpocaaiaaGreatDoor
open Go.Proofs
/-! ### Operations carried out -/
/-- An operation that fits on a disk of n sectors. -/
def OpOk (n : Nat) (o : Opn) : Prop := o = opS ∨ ∃ (a : Nat) (l : List Sec), o = opW a l ∧ a + l.length ≤ n
/-- What stands on a disk after operations. -/
def execS : List Sec → List Opn → List Sec
  | s, [] => s
  | s, o :: os => execS (if o.kind = 0 then patS s o.pos.toNat o.data else s) os
theorem execS_w (s : List Sec) (a : Nat) (l : List Sec) (os : List Opn) : execS s (opW a l :: os) = execS (patS s a l) os := rfl
theorem execS_s (s : List Sec) (os : List Opn) : execS s (opS :: os) = execS s os := rfl
theorem execS_app : ∀ (a b : List Opn) (s : List Sec), execS s (a ++ b) = execS (execS s a) b
  | [], b, s => rfl
  | o :: a, b, s => by rw [List.cons_append, execS, execS_app a b, execS]
theorem execS_len : ∀ (os : List Opn) (s : List Sec), (execS s os).length = s.length
  | [], s => rfl
  | o :: os, s => by
    rw [execS, execS_len os]
    split
    · exact patS_len _ _ _
    · rfl
/-- Sectors that no operation reaches. -/
theorem execS_get : ∀ (os : List Opn) (s : List Sec), (∀ o ∈ os, OpOk s.length o) → ∀ j, (∀ o ∈ os, ∀ (a : Nat) (l : List Sec), o = opW a l → j < a ∨ a + l.length ≤ j) → (execS s os)[j]? = s[j]?
  | [], s, _, j, _ => rfl
  | o :: os, s, h, j, hj => by
    rcases h o (by simp) with rfl | ⟨a, l, rfl, hl⟩
    · rw [execS_s]
      exact execS_get os s (fun x hx => h x (by simp [hx])) j (fun x hx => hj x (by simp [hx]))
    · rw [execS_w, execS_get os _ (fun x hx => by rw [patS_len]; exact h x (by simp [hx])) j (fun x hx => hj x (by simp [hx])), patS_get hl, if_neg]
      have := hj _ (by simp) a l rfl
      omega
theorem runD_exec : ∀ (os : List Opn) (s : List Sec) (c : List Cach) (i : Nat), (∀ o ∈ os, OpOk s.length o) → ∃ d', runD ⟨s, c⟩ os i = .ok (d', i + os.length) ∧ d'.stable.length = s.length ∧ newestD d' = execS (newestD ⟨s, c⟩) os ∧ (os.getLast? = some opS → d'.cache = []) ∧ (os = [] → d' = ⟨s, c⟩)
  | [], s, c, i, _ => ⟨⟨s, c⟩, rfl, rfl, rfl, fun h => (by cases h), fun _ => rfl⟩
  | o :: os, s, c, i, h => by
    have ht : ∀ o ∈ os, OpOk s.length o := fun x hx => h x (by simp [hx])
    rcases h o (by simp) with rfl | ⟨a, l, rfl, hl⟩
    · obtain ⟨d', h1, h2, h3, h4, h5⟩ := runD_exec os (newestD ⟨s, c⟩) [] (i + 1) (by rw [newestD_len]; exact ht)
      refine ⟨d', ?_, by rw [h2, newestD_len], by rw [h3, execS_s]; rfl, fun q => ?_, fun q => by cases q⟩
      · rw [runD_s, h1, List.length_cons, show i + 1 + os.length = i + (os.length + 1) by omega]
      · cases os with
        | nil => rw [h5 rfl]
        | cons x os => exact h4 (by rw [List.getLast?_cons_cons] at q; exact q)
    · have hst : stepD ⟨s, c⟩ (opW a l) = .ok ⟨s, c ++ puts a l⟩ := by
        rw [stepD, if_neg (by simp [opW]), if_pos (by rfl)]
        show (match writeD ⟨s, c⟩ a l with | some d' => Except.ok d' | none => Except.error 2) = _
        rw [writeD, if_pos (inside_ok hl)]; rfl
      obtain ⟨d', h1, h2, h3, h4, h5⟩ := runD_exec os s (c ++ puts a l) (i + 1) ht
      refine ⟨d', ?_, h2, ?_, fun q => ?_, fun q => by cases q⟩
      · rw [runD, hst]
        show runD _ os (i + 1) = _
        rw [h1, List.length_cons, show i + 1 + os.length = i + (os.length + 1) by omega]
      · rw [h3, execS_w]
        congr 1
        rw [newestD, List.foldl_append]; rfl
      · cases os with
        | nil => rw [List.getLast?_singleton] at q; cases q
        | cons x os => exact h4 (by rw [List.getLast?_cons_cons] at q; exact q)
theorem runR_exec {s : List Sec} {os : List Opn} (h : s.length ≤ 4096) (ho : ∀ o ∈ os, OpOk s.length o) (hl : os = [] ∨ os.getLast? = some opS) : runR ⟨s, []⟩ os = (⟨execS s os, []⟩, os.length, 0) := by
  obtain ⟨d', h1, h2, h3, h4, h5⟩ := runD_exec os s [] 0 ho
  rw [runR, if_neg (by simp [chk_nil h]), h1]
  have hc : d'.cache = [] := by
    rcases hl with rfl | hl
    · rw [h5 rfl]
    · exact h4 hl
  have : d' = ⟨execS s os, []⟩ := by
    obtain ⟨st, ca⟩ := d'
    dsimp only at hc
    subst hc
    congr 1
  rw [this, Nat.zero_add]
end Go.Proofs.YtbnkggbpocaaiaaGreatDoor
namespace Go.Proofs.YtbnkggbpocaaiaaGreatDoor
open Go.Proofs
/-! ### Journals in memory -/
theorem enc_sz {r : Rcd} {l : List Sec} (h : encR r = .ok l) : okSz l.length = true := by
  rw [encR] at h
  split at h
  · cases h
  · split at h
    · cases h
    · cases h
      rw [okSz_iff, secsR, List.length_map, List.length_range, strm_len]
      omega
theorem chkJ_app {j : Jrn} {n : Nat} (h : chkJ j = true) (h1 : ¬ 1073741824 ≤ nextJ j) (h2 : ¬ freeJ j < (n : Int)) (hz : okSz n = true) :
    chkJ ⟨j.start, j.count, j.head, (j.tail + n) % (j.count - 16), j.first, j.sizes ++ [(n : Int)]⟩ = true := by
  have g := (chkJ_iff j).1 h
  have g2 := (preJ_iff j).1 g.2.1
  have hv := (validJ_iff _ _).1 g.1
  rw [chkJ_iff, preJ_iff]
  unfold nextJ at h1
  unfold freeJ at h2
  refine ⟨g.1, ⟨g2.1, g2.2.1, g2.2.2.1, g2.2.2.2.1, by simp; omega⟩, ?_, ?_, ?_⟩
  · show (j.sizes ++ [(n : Int)]).all okSz = true
    rw [List.all_append, g.2.2.1, List.all_cons, hz]; rfl
  · show sumI (j.sizes ++ [(n : Int)]) ≤ j.count - 16
    rw [sumI_snoc]; omega
  · show (j.tail + (n : Int)) % (j.count - 16) = (j.head + sumI (j.sizes ++ [(n : Int)])) % (j.count - 16)
    rw [sumI_snoc, g.2.2.2.2, Int.emod_add_emod, Int.add_assoc]
theorem chkJ_drop {j : Jrn} {n : Nat} (h : chkJ j = true) (hn : n ≤ j.sizes.length) :
    chkJ ⟨j.start, j.count, (j.head + sumI (j.sizes.take n)) % (j.count - 16), j.tail, j.first + n, j.sizes.drop n⟩ = true := by
  have g := (chkJ_iff j).1 h
  have g2 := (preJ_iff j).1 g.2.1
  have hv := (validJ_iff _ _).1 g.1
  have hall := g.2.2.1
  have e3 := sumI_app (j.sizes.take n) (j.sizes.drop n)
  rw [List.take_append_drop] at e3
  have e1 := sumI_ge (j.sizes.take n) (List.all_eq_true.2 fun x hx => List.all_eq_true.1 hall x (List.mem_of_mem_take hx))
  have hall2 : (j.sizes.drop n).all okSz = true := List.all_eq_true.2 fun x hx => List.all_eq_true.1 hall x (List.mem_of_mem_drop hx)
  rw [chkJ_iff, preJ_iff]
  refine ⟨g.1, ⟨Int.emod_nonneg _ (by show j.count - 16 ≠ 0; omega), Int.emod_lt_of_pos _ (by show 0 < j.count - 16; omega), ?_, ?_, ?_⟩, hall2, ?_, ?_⟩
  · show 1 ≤ j.first + (n : Int); omega
  · show j.first + (n : Int) ≤ 1073741824; omega
  · show (((j.sizes.drop n).length : Nat) : Int) ≤ 1073741824 - (j.first + (n : Int))
    rw [List.length_drop]; omega
  · show sumI (j.sizes.drop n) ≤ j.count - 16; omega
  · show j.tail = ((j.head + sumI (j.sizes.take n)) % (j.count - 16) + sumI (j.sizes.drop n)) % (j.count - 16)
    rw [Int.emod_add_emod, g.2.2.2.2, Int.add_assoc, ← e3]
/-! ### Journals on disk -/
theorem super_len (h f : Int) : (superJ h f).length ≤ 31 := by
  have := enc_len h; have := enc_len f
  rw [superJ, List.length_append]; omega
theorem Gd.keep {o : Nat} {s s' : List Sec} {g : Nat} {v : List UInt8} {T : Nat} (h : Gd o s g v T) (hl : s'.length = s.length) (hk : ∀ j, o ≤ j → j < o + 16 → s'[j]? = s[j]?) : Gd o s' g v T := by
  have hw : win o s' = win o s := by
    rw [win, win]
    refine List.ext_getElem? fun i => ?_
    rw [List.getElem?_take, List.getElem?_take]
    split
    · rw [List.getElem?_drop, List.getElem?_drop, hk _ (by omega) (by omega)]
    · rfl
  exact ⟨by rw [hl]; exact h.l1, by rw [hl]; exact h.l2, by rw [hw]; exact h.bst, h.pos, by rw [hw]; exact h.top⟩
/-- A disk with a journal's superblock. -/
structure JD (s : List Sec) (j : Jrn) (T : Nat) : Prop where
  chk : chkJ j = true
  len : j.start.toNat + j.count.toNat ≤ s.length
  gd : ∃ g, Gd j.start.toNat s g (superJ j.head j.first) T
theorem JD.val {s : List Sec} {j : Jrn} {T : Nat} (h : JD s j T) : ∃ st n : Nat, j.start = st ∧ j.count = (n : Int) + 16 ∧ 4 ≤ n ∧ n ≤ 4096 ∧ st ≤ 4096 ∧ st + 16 + n ≤ s.length ∧ s.length ≤ 4096 := by
  have hv := (validJ_iff _ _).1 (chkJ_val h.chk)
  have hl := h.len
  obtain ⟨g, hg⟩ := h.gd
  exact ⟨j.start.toNat, (j.count - 16).toNat, by omega, by omega, by omega, by omega, by omega, by omega, hg.l2⟩
theorem wrapW_ok {s : List Sec} {j : Jrn} {T : Nat} (h : JD s j T) {l : List Sec} (hl : ¬ freeJ j < l.length) :
    ∀ o ∈ wrapW j.start j.count j.tail l, ∃ (a : Nat) (m : List Sec), o = opW a m ∧ j.start.toNat + 16 ≤ a ∧ a + m.length ≤ j.start.toNat + j.count.toNat := by
  obtain ⟨st, n, e1, e2, h4, h5, h6, h7, h8⟩ := h.val
  have ht := chkJ_tail h.chk
  have hsu := chkJ_sum h.chk
  unfold freeJ at hl
  intro o ho
  by_cases hk : kW j.count j.tail l < l.length
  · rw [wrapW_1 hk] at ho
    simp only [List.mem_cons, List.not_mem_nil, or_false] at ho
    unfold kW at hk ho
    rcases ho with rfl | rfl
    · refine ⟨st + 16 + j.tail.toNat, l.take (min l.length (j.count - 16 - j.tail).toNat), ?_, by omega, by rw [List.length_take]; omega⟩
      rw [e1, show ((st + 16 + j.tail.toNat : Nat) : Int) = (st : Int) + 16 + j.tail by omega]
    · exact ⟨st + 16, _, by rw [e1]; rfl, by omega, by rw [List.length_drop]; omega⟩
  · rw [wrapW_0 hk] at ho
    obtain rfl : o = _ := by simpa using ho
    unfold kW at hk
    refine ⟨st + 16 + j.tail.toNat, l.take (kW j.count j.tail l), ?_, by omega, by rw [List.length_take]; unfold kW; omega⟩
    rw [e1, show ((st + 16 + j.tail.toNat : Nat) : Int) = (st : Int) + 16 + j.tail by omega]
/-- Appending. -/
theorem JD.app {s : List Sec} {j : Jrn} {T : Nat} (h : JD s j T) {k : Int} {p : List UInt8} (he : (appJ j k p).2.2 = 0) :
    JD (execS s (appJ j k p).2.1) (appJ j k p).1 T ∧ (∀ o ∈ (appJ j k p).2.1, OpOk s.length o) ∧ (appJ j k p).2.1.getLast? = some opS ∧
    (∀ i, i < j.start.toNat + 16 ∨ j.start.toNat + j.count.toNat ≤ i → (execS s (appJ j k p).2.1)[i]? = s[i]?) ∧
    ∃ l, encR ⟨k, nextJ j, p⟩ = .ok l ∧ ¬ 1073741824 ≤ nextJ j ∧ ¬ freeJ j < l.length ∧ (appJ j k p).1 = ⟨j.start, j.count, j.head, (j.tail + l.length) % (j.count - 16), j.first, j.sizes ++ [(l.length : Int)]⟩ ∧ (appJ j k p).2.1 = wrapW j.start j.count j.tail l ++ [opS] := by
  cases hen : encR ⟨k, nextJ j, p⟩ with
  | error e =>
    rw [appJ_err h.chk hen] at he
    have := enc_err hen
    dsimp only at he
    omega
  | ok l =>
    by_cases h1 : 1073741824 ≤ nextJ j
    · rw [appJ_many h.chk hen h1] at he; cases he
    by_cases h2 : freeJ j < l.length
    · rw [appJ_full h.chk hen h1 h2] at he; cases he
    rw [appJ_ok h.chk hen h1 h2]
    dsimp only
    have hw := wrapW_ok h h2
    have hlen := h.len
    have hops : ∀ o ∈ wrapW j.start j.count j.tail l ++ [opS], OpOk s.length o := fun o ho => by
      rcases List.mem_append.1 ho with ho | ho
      · obtain ⟨a, m, rfl, a1, a2⟩ := hw o ho
        exact .inr ⟨a, m, rfl, by omega⟩
      · rw [List.mem_singleton] at ho; exact .inl ho
    have hout : ∀ i, i < j.start.toNat + 16 ∨ j.start.toNat + j.count.toNat ≤ i → (execS s (wrapW j.start j.count j.tail l ++ [opS]))[i]? = s[i]? := fun i hi => by
      refine execS_get _ s hops i fun o ho a m e => ?_
      rcases List.mem_append.1 ho with ho | ho
      · obtain ⟨a', m', e', a1, a2⟩ := hw o ho
        rw [e] at e'
        obtain ⟨q1, q2⟩ : (a : Int) = a' ∧ m = m' := by
          simp only [opW, Opn.mk.injEq] at e'
          exact ⟨e'.2.1, e'.2.2⟩
        have : a = a' := by omega
        subst this q2
        omega
      · rw [List.mem_singleton] at ho
        rw [e] at ho
        simp [opW, opS] at ho
    refine ⟨⟨chkJ_app h.chk h1 h2 (enc_sz hen), by rw [execS_len]; exact hlen, ?_⟩, hops, by simp, hout, l, rfl, h1, h2, rfl, rfl⟩
    obtain ⟨g, hg⟩ := h.gd
    exact ⟨g, hg.keep (execS_len _ _) fun i i1 i2 => hout i (.inl i2)⟩
/-- Releasing. -/
theorem JD.rel {s : List Sec} {j : Jrn} {T : Nat} (h : JD s j T) (hT : T < 4294967295) {n : Nat} (hn : n ≤ j.sizes.length) :
    ∃ ops, relJ ⟨s, []⟩ j (j.first - 1 + n) = (if n = 0 then j else ⟨j.start, j.count, (j.head + sumI (j.sizes.take n)) % (j.count - 16), j.tail, j.first + n, j.sizes.drop n⟩, ops, 0) ∧
      JD (execS s ops) (if n = 0 then j else ⟨j.start, j.count, (j.head + sumI (j.sizes.take n)) % (j.count - 16), j.tail, j.first + n, j.sizes.drop n⟩) (T + 1) ∧
      (∀ o ∈ ops, OpOk s.length o) ∧ (ops = [] ∨ ops.getLast? = some opS) ∧ (∀ o ∈ ops, ∀ (a : Nat) (l : List Sec), o = opW a l → j.start.toNat ≤ a ∧ a + l.length ≤ j.start.toNat + 16) := by
  obtain ⟨g, hg⟩ := h.gd
  have hc := chk_nil hg.l2
  have hnx : nextJ j = j.first + j.sizes.length := rfl
  have hr : relJ ⟨s, []⟩ j (j.first - 1 + n) = if (j.first - 1 + n : Int) = j.first - 1 then (j, [], 0) else
      if (storeS ⟨s, []⟩ j.start (superJ ((j.head + sumI (j.sizes.take n)) % (j.count - 16)) (j.first + n))).2 ≠ 0 then (zjr, [], (storeS ⟨s, []⟩ j.start (superJ ((j.head + sumI (j.sizes.take n)) % (j.count - 16)) (j.first + n))).2)
      else (⟨j.start, j.count, (j.head + sumI (j.sizes.take n)) % (j.count - 16), j.tail, j.first + n, j.sizes.drop n⟩, (storeS ⟨s, []⟩ j.start (superJ ((j.head + sumI (j.sizes.take n)) % (j.count - 16)) (j.first + n))).1, 0) := by
    rw [relJ, if_neg (by simp [hc]), if_neg (by simp [h.chk]), if_neg (by omega)]
    have : (j.first - 1 + n + 1 - j.first).toNat = n := by omega
    rw [this, show j.first - 1 + (n : Int) + 1 = j.first + n by omega]
  by_cases h0 : n = 0
  · subst h0
    refine ⟨[], ?_, ?_, fun o ho => (by cases ho), .inl rfl, fun o ho => (by cases ho)⟩
    · rw [hr, if_pos (by simp), if_pos rfl]
    · rw [if_pos rfl]
      exact ⟨h.chk, h.len, g, hg.l1, hg.l2, hg.bst, hg.pos, Nat.le_succ_of_le hg.top⟩
  · rw [if_neg h0]
    have hp := super_len ((j.head + sumI (j.sizes.take n)) % (j.count - 16)) (j.first + n)
    obtain ⟨st, m, e1, e2, h4, h5, h6, h7, h8⟩ := h.val
    rw [e1, Int.toNat_natCast] at hg
    have hst := hg.store hp hT
    rw [e1, hst, if_neg (by omega), if_neg (by simp)] at hr
    generalize hv : superJ ((j.head + sumI (j.sizes.take n)) % (j.count - 16)) (j.first + n) = v at *
    obtain ⟨a, ha⟩ : ∃ a, a = if (pA st s).1 < (pB st s).1 then st else st + 8 := ⟨_, rfl⟩
    rw [← ha] at hr
    have ha2 : st ≤ a ∧ a + 8 ≤ st + 16 := by rw [ha]; split <;> omega
    have hcl := copyS_len (topS (win st s) + 1) v
    have hfit : a + (copyS (topS (win st s) + 1) v).length ≤ s.length := by rw [hcl]; omega
    have hm := hg.mx hp hT (s' := patS s a (copyS (topS (win st s) + 1) v)) (by rw [← ha]; exact .pat hfit)
    refine ⟨[opW a (copyS (topS (win st s) + 1) v), opS], by rw [hr, e1], ⟨?_, ?_, topS (win st s) + 1, ?_⟩, ?_, .inr rfl, ?_⟩
    · have := chkJ_drop h.chk hn
      rwa [e1] at this ⊢
    · rw [execS_len]; exact h.len
    · show Gd j.start.toNat _ _ (superJ _ _) _
      rw [e1, Int.toNat_natCast, hv]
      refine hm.2.2.2.2 fun i i1 i2 => ?_
      rw [← ha] at i1 i2 ⊢
      rw [patS_get hfit, if_pos ⟨i1, by rw [hcl]; exact i2⟩]
    · intro o ho
      simp only [List.mem_cons, List.not_mem_nil, or_false] at ho
      rcases ho with rfl | rfl
      · exact .inr ⟨a, _, rfl, hfit⟩
      · exact .inl rfl
    · intro o ho b l e
      simp only [List.mem_cons, List.not_mem_nil, or_false] at ho
      rcases ho with rfl | rfl
      · simp only [opW, Opn.mk.injEq] at e
        obtain ⟨-, q1, rfl⟩ := e
        rw [hcl, e1]
        omega
      · simp [opW, opS] at e
end Go.Proofs.YtbnkggbpocaaiaaGreatDoor
namespace Go.Proofs.YtbnkggbpocaaiaaGreatDoor
open Go.Proofs
theorem execS_congr : ∀ (os : List Opn) (s t : List Sec), s.length = t.length → (∀ o ∈ os, OpOk s.length o) → ∀ i : Nat, s[i]? = t[i]? → (execS s os)[i]? = (execS t os)[i]?
  | [], s, t, _, _, i, h => h
  | o :: os, s, t, hl, ho, i, h => by
    have ht : ∀ o ∈ os, OpOk s.length o := fun x hx => ho x (by simp [hx])
    rcases ho o (by simp) with rfl | ⟨a, l, rfl, hf⟩
    · rw [execS_s, execS_s]; exact execS_congr os s t hl ht i h
    · rw [execS_w, execS_w]
      refine execS_congr os _ _ (by rw [patS_len, patS_len, hl]) (by rw [patS_len]; exact ht) i ?_
      rw [patS_get hf, patS_get (by omega), h]
/-! ### The data area of a run -/
def areaQ (s : List Sec) : Img := [(s.drop 40).take 6, (s.drop 46).take 3]
theorem areaQ_sz {s : List Sec} (h : s.length = 49) : imgSz (areaQ s) = [6, 3] := by
  simp [areaQ, imgSz, h]
theorem sat_area (s : List Sec) (v p : Nat) : sat (areaQ s) v p = if v = 0 then (if p < 6 then s[40 + p]? else none) else if v = 1 then (if p < 3 then s[46 + p]? else none) else none := by
  match v with
  | 0 => simp [sat, areaQ, List.getElem?_take, List.getElem?_drop]
  | 1 => simp [sat, areaQ, List.getElem?_take, List.getElem?_drop]
  | v + 2 => simp [sat, areaQ]
theorem area_keep {s t : List Sec} (h : ∀ i, 40 ≤ i → i < 49 → s[i]? = t[i]?) : areaQ s = areaQ t := by
  have e : ∀ a n, 40 ≤ a → a + n ≤ 49 → (s.drop a).take n = (t.drop a).take n := fun a n h1 h2 => by
    refine List.ext_getElem? fun i => ?_
    rw [List.getElem?_take, List.getElem?_take]
    split
    · rw [List.getElem?_drop, List.getElem?_drop, h _ (by omega) (by omega)]
    · rfl
  rw [areaQ, areaQ, e 40 6 (by decide) (by decide), e 46 3 (by decide) (by decide)]
theorem fits63 {w : Wr} (h : fitsS [6, 3] w = 0) : ∃ n p : Nat, w.volume = n ∧ w.start = p ∧ ((n = 0 ∧ p + w.data.length ≤ 6) ∨ (n = 1 ∧ p + w.data.length ≤ 3)) := by
  have h' : fitsS (imgSz qI0) w = 0 := by rw [show imgSz qI0 = [6, 3] from imgSz_of (by kernel_rfl)]; exact h
  obtain ⟨n, hv, hn, hd, p, hp, hpl⟩ := fitsI_0 h'
  have hz : imgSz qI0 = [6, 3] := imgSz_of (by kernel_rfl)
  have hl : qI0.length = 2 := by have := congrArg List.length hz; rwa [imgSz_len] at this
  refine ⟨n, p, hv, hp, ?_⟩
  have hg := imgSz_getD qI0 n hn
  rw [hz] at hg
  match n, hn with
  | 0, _ => left; refine ⟨rfl, ?_⟩; have : (6 : Int) = (qI0[0].length : Int) := hg; omega
  | 1, _ => right; refine ⟨rfl, ?_⟩; have : (3 : Int) = (qI0[1].length : Int) := hg; omega
  | n + 2, hn => omega
/-- Where a write goes. -/
theorem opOf_63 {v : Sto} (hs : v.sizes = [6, 3]) (hd : v.data = 40) {w : Wr} (h : fitsS [6, 3] w = 0) : ∃ a : Nat, opOf v w = opW a w.data ∧ 40 ≤ a ∧ a + w.data.length ≤ 49 ∧ ∀ s : List Sec, s.length = 49 → areaQ (patS s a w.data) = ap1 (areaQ s) w := by
  obtain ⟨n, p, hv, hp, hc⟩ := fits63 h
  have key : ∀ a : Nat, ((n = 0 ∧ p + w.data.length ≤ 6 ∧ a = 40 + p) ∨ (n = 1 ∧ p + w.data.length ≤ 3 ∧ a = 46 + p)) → opOf v w = opW a w.data ∧ 40 ≤ a ∧ a + w.data.length ≤ 49 ∧ ∀ s : List Sec, s.length = 49 → areaQ (patS s a w.data) = ap1 (areaQ s) w := fun a ha => by
    refine ⟨?_, by omega, by omega, fun s hsl => ?_⟩
    · rw [opOf, hs, hd, hv, hp, Int.toNat_natCast]
      rcases ha with ⟨rfl, -, rfl⟩ | ⟨rfl, -, rfl⟩
      · simp [sumI]
      · simp [sumI]
    · have hf : fitsS (imgSz (areaQ s)) w = 0 := by rw [areaQ_sz hsl]; exact h
      refine img_ext ?_ fun v' p' => ?_
      · rw [imgSz_ap1 hf, areaQ_sz hsl, areaQ_sz (by rw [patS_len]; exact hsl)]
      · have hg := fun j => patS_get (s := s) (a := a) (l := w.data) (by omega) j
        rw [sat_ap1 hf, sat_area, sat_area, hg, hg]
        have hcov : cov w v' p' ↔ (n = v' ∧ p ≤ p' ∧ p' < p + w.data.length) := by unfold cov; rw [hv, hp]; omega
        rw [show w.start.toNat = p by rw [hp]; rfl]
        rcases ha with ⟨rfl, q1, rfl⟩ | ⟨rfl, q1, rfl⟩
        · by_cases e0 : v' = 0
          · subst e0
            rw [if_pos rfl, if_pos rfl]
            by_cases e1 : p ≤ p' ∧ p' < p + w.data.length
            · rw [if_pos (show p' < 6 by omega), if_pos (show 40 + p ≤ 40 + p' ∧ 40 + p' < 40 + p + w.data.length by omega), if_pos (hcov.2 ⟨rfl, e1⟩)]
              congr 1; omega
            · rw [if_neg (show ¬ (40 + p ≤ 40 + p' ∧ 40 + p' < 40 + p + w.data.length) by omega), if_neg (fun q => e1 (hcov.1 q).2)]
          · rw [if_neg e0, if_neg e0, if_neg (fun q => e0 (hcov.1 q).1.symm)]
            by_cases e1 : v' = 1
            · subst e1
              rw [if_pos rfl, if_pos rfl]
              by_cases e2 : p' < 3
              · rw [if_pos e2, if_pos e2, if_neg (by omega)]
              · rw [if_neg e2, if_neg e2]
            · rw [if_neg e1, if_neg e1]
        · by_cases e0 : v' = 0
          · subst e0
            rw [if_pos rfl, if_pos rfl, if_neg (c := cov w 0 p') (fun q => absurd (hcov.1 q).1 (by decide))]
            by_cases e2 : p' < 6
            · rw [if_pos e2, if_pos e2, if_neg (by omega)]
            · rw [if_neg e2, if_neg e2]
          · rw [if_neg e0, if_neg e0]
            by_cases e1 : v' = 1
            · subst e1
              rw [if_pos rfl, if_pos rfl]
              by_cases e2 : p ≤ p' ∧ p' < p + w.data.length
              · rw [if_pos (show p' < 3 by omega), if_pos (show 46 + p ≤ 46 + p' ∧ 46 + p' < 46 + p + w.data.length by omega), if_pos (hcov.2 ⟨rfl, e2⟩)]
                congr 1; omega
              · rw [if_neg (show ¬ (46 + p ≤ 46 + p' ∧ 46 + p' < 46 + p + w.data.length) by omega), if_neg (fun q => e2 (hcov.1 q).2)]
            · rw [if_neg e1, if_neg e1, if_neg (fun q => e1 (hcov.1 q).1.symm)]
  rcases hc with ⟨q1, q2⟩ | ⟨q1, q2⟩
  · exact ⟨40 + p, key _ (.inl ⟨q1, q2, rfl⟩)⟩
  · exact ⟨46 + p, key _ (.inr ⟨q1, q2, rfl⟩)⟩
/-- The pending writes, written home. -/
theorem home63 {v : Sto} (hs : v.sizes = [6, 3]) (hd : v.data = 40) : ∀ (ws : List Wr) (s : List Sec), s.length = 49 → (∀ w ∈ ws, fitsS [6, 3] w = 0) →
    (∀ o ∈ ws.map (opOf v), OpOk 49 o) ∧ areaQ (execS s (ws.map (opOf v))) = apF (areaQ s) ws ∧ ∀ i, i < 40 → (execS s (ws.map (opOf v)))[i]? = s[i]?
  | [], s, _, _ => ⟨fun o ho => (by cases ho), rfl, fun i _ => rfl⟩
  | w :: ws, s, hl, h => by
    obtain ⟨a, e, a1, a2, ha⟩ := opOf_63 hs hd (h w (by simp))
    obtain ⟨h1, h2, h3⟩ := home63 hs hd ws (patS s a w.data) (by rw [patS_len]; exact hl) (fun x hx => h x (by simp [hx]))
    rw [List.map_cons, e, execS_w]
    refine ⟨fun o ho => ?_, by rw [h2, ha s hl]; rfl, fun i hi => ?_⟩
    · rcases List.mem_cons.1 ho with rfl | ho
      · exact .inr ⟨a, _, rfl, a2⟩
      · exact h1 o ho
    · rw [h3 i hi, patS_get (by omega), if_neg (by omega)]
end Go.Proofs.YtbnkggbpocaaiaaGreatDoor
namespace Go.Proofs.YtbnkggbpocaaiaaGreatDoor
open Go.Proofs
/-! ### What holds of a run -/
structure QI (N : Nat) (s : List Sec) (v : Sto) (im : Img) : Prop where
  len : s.length = 49
  ok : StOk v
  sz : v.sizes = [6, 3]
  js : v.jr.start = 0
  jc : v.jr.count = 40
  img : v.img = im
  jd : JD s v.jr (N + 1)
  nx : nextJ v.jr ≤ N + 1
  ar : apF (areaQ s) v.pend = im
theorem QI.dt {N : Nat} {s : List Sec} {v : Sto} {im : Img} (h : QI N s v im) : v.data = 40 := by
  have := h.ok.A.a
  have hd : v.data = v.jr.count := Classical.byContradiction fun e => this (.inr (.inl e))
  rw [hd, h.jc]
theorem JD.mono {s : List Sec} {j : Jrn} {T T' : Nat} (h : JD s j T) (ht : T ≤ T') : JD s j T' := by
  obtain ⟨g, hg⟩ := h.gd
  exact ⟨h.chk, h.len, g, hg.l1, hg.l2, hg.bst, hg.pos, Nat.le_trans hg.top ht⟩
theorem QI.mono {N : Nat} {s : List Sec} {v : Sto} {im : Img} (h : QI N s v im) : QI (N + 1) s v im :=
  ⟨h.len, h.ok, h.sz, h.js, h.jc, h.img, h.jd.mono (Nat.le_succ _), by have := h.nx; omega, h.ar⟩
theorem dq_fits (x : Stq) : fitsS [6, 3] (dataQ x) = 0 := by
  have hz := zqN_r x
  have ha := atN_lt x
  have hc := cntN_r x
  have hl : (dataQ x).data.length = cntN x := by simp [dataQ]
  have hq : x.v.toNat % 2 < 2 := Nat.mod_lt _ (by decide)
  have hg : ([6, 3] : List Int).getD (dataQ x).volume.toNat 0 = (zqN x : Int) := by
    show ([6, 3] : List Int).getD ((x.v.toNat % 2 : Nat) : Int).toNat 0 = _
    rw [Int.toNat_natCast]
    unfold zqN
    rcases Nat.mod_two_eq_zero_or_one x.v.toNat with e | e <;> rw [e] <;> simp
  have hv : (dataQ x).volume = ((x.v.toNat % 2 : Nat) : Int) := rfl
  have hs : (dataQ x).start = (atN x : Int) := rfl
  rw [fitsS, if_neg (by rw [hv]; simp; omega), if_neg (by omega), hg, if_neg (by rw [hs, hl]; omega)]
theorem dq_pay (x : Stq) : (encWrs [dataQ x]).length ≤ 4096 := by
  have hl := dataQ_len x
  have h1 := enc_len ([dataQ x].length : Int)
  have h2 := enc_len (dataQ x).volume
  have h3 := enc_len (dataQ x).start
  have h4 := enc_len ((dataQ x).data.length : Int)
  have h5 := encSecs_len (dataQ x).data
  rw [encWrs, List.length_append, List.flatMap_cons, List.flatMap_nil, List.append_nil, encWr, List.length_append, List.length_append]
  omega
/-- What comes of a write. -/
theorem QI.wr {N : Nat} {s : List Sec} {v : Sto} {im : Img} (h : QI N s v im) (hN : N ≤ 1000) (x : Stq) :
    ((writeV v (dataQ x)).2.2.2 = 11) ∨
    ∃ ops j', writeV v (dataQ x) = (⟨v.sizes, j', v.data, v.applied, v.pend ++ [dataQ x], ap1 v.img (dataQ x)⟩, nextJ v.jr, ops, 0) ∧ appJ v.jr 1 (encWrs [dataQ x]) = (j', ops, 0) ∧ QI (N + 1) (execS s ops) ⟨v.sizes, j', v.data, v.applied, v.pend ++ [dataQ x], ap1 v.img (dataQ x)⟩ (ap1 im (dataQ x)) ∧
      runR ⟨s, []⟩ ops = (⟨execS s ops, []⟩, ops.length, 0) ∧ ops ≠ [] ∧ (∀ o ∈ ops, OpOk 49 o) ∧ ops.length ≤ 100 := by
  have hf := dq_fits x
  have hp := dq_pay x
  have hJ := h.ok.A.j
  have hn := chkJ_next hJ
  have hnx := h.nx
  have hnd : nextJ v.jr = v.jr.first + v.jr.sizes.length := rfl
  have hwv : writeV v (dataQ x) = if (appJ v.jr 1 (encWrs [dataQ x])).2.2 ≠ 0 then (zsto, 0, [], (appJ v.jr 1 (encWrs [dataQ x])).2.2) else (⟨v.sizes, (appJ v.jr 1 (encWrs [dataQ x])).1, v.data, v.applied, v.pend ++ [dataQ x], ap1 v.img (dataQ x)⟩, nextJ v.jr, (appJ v.jr 1 (encWrs [dataQ x])).2.1, 0) := by
    rw [writeV, if_neg (by simp [stOk_chk h.ok]), if_neg (by rw [h.sz]; simp [hf])]
  cases hen : encR ⟨1, nextJ v.jr, encWrs [dataQ x]⟩ with
  | error e =>
    rw [enc_ok (by show ¬ ((1 : Int) < 1 ∨ 255 < (1 : Int) ∨ nextJ v.jr < 1 ∨ 4294967295 < nextJ v.jr); omega) (by show ¬ 4096 < (encWrs [dataQ x]).length; omega)] at hen
    cases hen
  | ok l =>
    by_cases h2 : freeJ v.jr < l.length
    · left
      rw [hwv, appJ_full hJ hen (by omega) h2]; rfl
    right
    have he0 : (appJ v.jr 1 (encWrs [dataQ x])).2.2 = 0 := by rw [appJ_ok hJ hen (by omega) h2]
    obtain ⟨g1, g2, g3, g4, l', g5, g6, g7, g8, g9⟩ := h.jd.app he0
    rw [if_neg (by simp [he0])] at hwv
    generalize appJ v.jr 1 (encWrs [dataQ x]) = r at *
    obtain ⟨j', ops, e⟩ := r
    dsimp only at *
    subst he0
    refine ⟨ops, j', hwv, rfl, ?_, ?_, fun q => (by rw [q] at g3; cases g3), by rw [← h.len]; exact g2, by have := wrapW_len v.jr.start v.jr.count v.jr.tail l'; rw [g9]; simp; omega⟩
    · have hj' : j'.start = 0 ∧ j'.count = 40 ∧ j'.first = v.jr.first ∧ j'.sizes.length = v.jr.sizes.length + 1 := by rw [g8]; exact ⟨h.js, h.jc, rfl, by simp⟩
      have hfi : fitsS (imgSz v.img) (dataQ x) = 0 := by rw [h.ok.im, h.sz]; exact hf
      have hfs : ∀ w ∈ v.pend, fitsS (imgSz v.img) w = 0 := fun w hw => by rw [h.ok.im]; exact stOk_fits h.ok w hw
      have hA := h.ok.A.a
      have hB := h.ok.A.b
      have hb1 : v.applied = v.jr.first - 1 := Classical.byContradiction fun e => hB (.inl e)
      have hb2 : v.pend.length = v.jr.sizes.length := Classical.byContradiction fun e => hB (.inr e)
      refine ⟨by rw [execS_len]; exact h.len, ?_, h.sz, hj'.1, hj'.2.1, ?_, g1.mono (Nat.le_succ _), ?_, ?_⟩
      · refine stOk_of h.ok.sz ⟨g1.chk, ?_, ?_⟩ ?_ ?_ ?_
        · show ¬ (j'.start ≠ 0 ∨ v.data ≠ j'.count ∨ 4096 - sumI v.sizes < v.data)
          rw [hj'.1, hj'.2.1, ← h.js, ← h.jc]; exact fun q => by
            rcases q with q | q
            · exact q rfl
            · exact hA (.inr q)
        · show ¬ (v.applied ≠ j'.first - 1 ∨ (v.pend ++ [dataQ x]).length ≠ j'.sizes.length)
          rw [hj'.2.2.1, hj'.2.2.2, List.length_append, List.length_singleton, hb1, hb2]; simp
        · intro w hw
          rcases List.mem_append.1 hw with hw | hw
          · exact stOk_fits h.ok w hw
          · rw [List.mem_singleton] at hw; rw [hw]; show fitsS v.sizes _ = 0; rw [h.sz]; exact hf
        · show imgSz (ap1 v.img (dataQ x)) = v.sizes
          rw [imgSz_ap1 hfi, h.ok.im]
        · exact apF_again hfs hfi (stOk_F h.ok)
      · show ap1 v.img (dataQ x) = ap1 im (dataQ x)
        rw [h.img]
      · show nextJ j' ≤ ((N + 1 : Nat) : Int) + 1
        unfold nextJ
        omega
      · show apF (areaQ (execS s ops)) (v.pend ++ [dataQ x]) = _
        have : areaQ (execS s ops) = areaQ s := area_keep fun i i1 i2 => g4 i (.inr (by rw [h.js, h.jc]; exact i1))
        rw [this, apF_snoc, h.ar]
    · exact runR_exec (by rw [h.len]; decide) g2 (.inr g3)
/-- What comes of a flush. -/
theorem QI.fl {N : Nat} {s : List Sec} {v : Sto} {im : Img} (h : QI N s v im) (hN : N ≤ 1000) :
    ∃ v' ops, flushV ⟨s, []⟩ v = (v', ops, 0) ∧ QI (N + 1) (execS s ops) v' im ∧ runR ⟨s, []⟩ ops = (⟨execS s ops, []⟩, ops.length, 0) ∧ v'.pend = [] ∧ v'.jr.sizes = [] ∧ areaQ (execS s ops) = im ∧ (∀ o ∈ ops, OpOk 49 o) ∧ ops.length ≤ 100 := by
  have hJ := h.ok.A.j
  have hA := h.ok.A.a
  have hB := h.ok.A.b
  have hb1 : v.applied = v.jr.first - 1 := Classical.byContradiction fun e => hB (.inl e)
  have hb2 : v.pend.length = v.jr.sizes.length := Classical.byContradiction fun e => hB (.inr e)
  have hdt := h.dt
  have hsl : s.length ≤ 4096 := by rw [h.len]; decide
  have hc := chk_nil hsl
  have hnd : nextJ v.jr = v.jr.first + v.jr.sizes.length := rfl
  have e1 : flushV ⟨s, []⟩ v = if v.pend.length = 0 then (v, [], 0)
      else if (relJ ⟨s, []⟩ v.jr (nextJ v.jr - 1)).2.2 ≠ 0 then (zsto, [], (relJ ⟨s, []⟩ v.jr (nextJ v.jr - 1)).2.2)
      else (⟨v.sizes, (relJ ⟨s, []⟩ v.jr (nextJ v.jr - 1)).1, v.data, nextJ v.jr - 1, [], v.img⟩, v.pend.map (opOf v) ++ opS :: (relJ ⟨s, []⟩ v.jr (nextJ v.jr - 1)).2.1, 0) := by
    rw [flushV, if_neg (by simp [hc]), if_neg (by simp [stOk_chk h.ok]), if_neg (by rw [hdt, h.sz]; simp [sumI, h.len])]
  by_cases h0 : v.pend.length = 0
  · rw [if_pos h0] at e1
    have hp : v.pend = [] := List.eq_nil_of_length_eq_zero h0
    have ha := h.ar
    rw [hp, apF_nil] at ha
    exact ⟨v, [], e1, h.mono, by rw [runR, if_neg (by simp [hc])]; rfl, hp, List.eq_nil_of_length_eq_zero (by omega), ha, fun o ho => (by cases ho), by simp⟩
  rw [if_neg h0] at e1
  obtain ⟨ops, r1, r2, r3, r4, r5⟩ := h.jd.rel (by omega) (n := v.jr.sizes.length) (Nat.le_refl _)
  rw [if_neg (by omega)] at r1 r2
  rw [show v.jr.first - 1 + (v.jr.sizes.length : Int) = nextJ v.jr - 1 by omega] at r1
  rw [r1, if_neg (by simp)] at e1
  dsimp only at e1
  have hfs : ∀ w ∈ v.pend, fitsS [6, 3] w = 0 := fun w hw => by rw [← h.sz]; exact stOk_fits h.ok w hw
  obtain ⟨k1, k2, k3⟩ := home63 h.sz hdt v.pend s h.len hfs
  obtain ⟨s1, hs1⟩ : ∃ s1, s1 = execS s (v.pend.map (opOf v)) := ⟨_, rfl⟩
  have hs1l : s1.length = 49 := by rw [hs1, execS_len]; exact h.len
  have hex : execS s (v.pend.map (opOf v) ++ opS :: ops) = execS s1 ops := by rw [execS_app, execS_s, hs1]
  have r3' : ∀ o ∈ ops, OpOk s1.length o := by rw [hs1l, ← h.len]; exact r3
  have harea : areaQ (execS s1 ops) = im := by
    have : areaQ (execS s1 ops) = areaQ s1 := by
      refine area_keep fun i i1 i2 => ?_
      refine execS_get ops s1 r3' i fun o ho a l e => ?_
      have := r5 o ho a l e
      rw [h.js] at this
      have : a + l.length ≤ 0 + 16 := this.2
      right; omega
    rw [this, hs1, k2, h.ar]
  have hgd : JD (execS s1 ops) ⟨v.jr.start, v.jr.count, (v.jr.head + sumI (v.jr.sizes.take v.jr.sizes.length)) % (v.jr.count - 16), v.jr.tail, v.jr.first + v.jr.sizes.length, v.jr.sizes.drop v.jr.sizes.length⟩ (N + 1 + 1) := by
    obtain ⟨c1, c2, g, c3⟩ := r2
    refine ⟨c1, by rw [execS_len, hs1l, ← h.len, ← execS_len ops s]; exact c2, g, c3.keep (by rw [execS_len, execS_len, hs1l, h.len]) fun i i1 i2 => ?_⟩
    have i2 : i < v.jr.start.toNat + 16 := i2
    rw [h.js] at i2
    have i2 : i < 0 + 16 := i2
    exact execS_congr ops s1 s (by rw [hs1l, h.len]) r3' i (by rw [hs1]; exact k3 i (by omega))
  have hok : ∀ o ∈ v.pend.map (opOf v) ++ opS :: ops, OpOk 49 o := fun o ho => by
    rcases List.mem_append.1 ho with ho | ho
    · exact k1 o ho
    · rcases List.mem_cons.1 ho with rfl | ho
      · exact .inl rfl
      · rw [← h.len]; exact r3 o ho
  have hol : (v.pend.map (opOf v) ++ opS :: ops).length ≤ 100 := by
    have q1 := chkJ_sum hJ
    rw [h.jc] at q1
    have q2 := relJ_len ⟨s, []⟩ v.jr (nextJ v.jr - 1)
    rw [r1] at q2
    have q2 : ops.length ≤ 2 := q2
    simp; omega
  refine ⟨_, _, e1, ?_, ?_, rfl, by simp, by rw [hex]; exact harea, hok, hol⟩
  · rw [hex]
    refine ⟨by rw [execS_len]; exact hs1l, ?_, h.sz, h.js, h.jc, h.img, hgd, ?_, ?_⟩
    · refine stOk_of h.ok.sz ⟨hgd.chk, ?_, ?_⟩ (fun w hw => (by cases hw)) h.ok.im rfl
      · exact hA
      · show ¬ (nextJ v.jr - 1 ≠ v.jr.first + v.jr.sizes.length - 1 ∨ ([] : List Wr).length ≠ (v.jr.sizes.drop v.jr.sizes.length).length)
        simp [hnd]
    · have := h.nx
      show v.jr.first + v.jr.sizes.length + (((v.jr.sizes.drop v.jr.sizes.length).length : Nat) : Int) ≤ ((N + 1 : Nat) : Int) + 1
      simp; omega
    · rw [apF_nil]; exact harea
  · refine runR_exec hsl (by rw [h.len]; exact hok) (.inr ?_)
    · rcases r4 with rfl | r4
      · simp
      · rw [List.getLast?_append, List.getLast?_cons, r4]; simp
end Go.Proofs.YtbnkggbpocaaiaaGreatDoor
namespace Go.Proofs.YtbnkggbpocaaiaaGreatDoor
open Go.Proofs
/-! ### Runs without a crash -/
def stQ (z : List Sec × Sto × Img) (x : Stq) : List Sec × Sto × Img :=
  (execS z.1 (nextQ ⟨z.1, []⟩ z.2.1 z.2.2 x).2.1, (nextQ ⟨z.1, []⟩ z.2.1 z.2.2 x).1, (nextQ ⟨z.1, []⟩ z.2.1 z.2.2 x).2.2.1)
def QZ (N : Nat) (z : List Sec × Sto × Img) : Prop := QI N z.1 z.2.1 z.2.2
structure StepQ (N : Nat) (z : List Sec × Sto × Img) (x : Stq) : Prop where
  nx : nextQ ⟨z.1, []⟩ z.2.1 z.2.2 x = ((stQ z x).2.1, (nextQ ⟨z.1, []⟩ z.2.1 z.2.2 x).2.1, (stQ z x).2.2, true)
  rn : runR ⟨z.1, []⟩ (nextQ ⟨z.1, []⟩ z.2.1 z.2.2 x).2.1 = (⟨(stQ z x).1, []⟩, (nextQ ⟨z.1, []⟩ z.2.1 z.2.2 x).2.1.length, 0)
  qi : QZ (N + 1) (stQ z x)
  ops : ∀ o ∈ (nextQ ⟨z.1, []⟩ z.2.1 z.2.2 x).2.1, OpOk 49 o
  len : (nextQ ⟨z.1, []⟩ z.2.1 z.2.2 x).2.1.length ≤ 100
  im : if x.fl = true ∨ (nextQ ⟨z.1, []⟩ z.2.1 z.2.2 x).2.1 = [] then (stQ z x).2.2 = z.2.2 else (stQ z x).2.2 = ap1 z.2.2 (dataQ x)
theorem QZ.step {N : Nat} {z : List Sec × Sto × Img} (h : QZ N z) (hN : N ≤ 1000) (x : Stq) : StepQ N z x := by
  obtain ⟨s, v, im⟩ := z
  have h : QI N s v im := h
  by_cases hfl : x.fl = true
  · obtain ⟨v', ops, e1, e2, e3, e4, e5, e6, e7, e8⟩ := h.fl hN
    have hn : nextQ ⟨s, []⟩ v im x = (v', ops, im, true) := by rw [nextQ, if_pos hfl, e1]; rfl
    have hs : stQ (s, v, im) x = (execS s ops, v', im) := by unfold stQ; dsimp only; rw [hn]
    exact ⟨by rw [hs]; dsimp only; rw [hn], by rw [hs]; dsimp only; rw [hn]; exact e3, by rw [hs]; exact e2, by dsimp only; rw [hn]; exact e7, by dsimp only; rw [hn]; exact e8, by rw [if_pos (.inl hfl), hs]⟩
  · rcases h.wr hN x with e | ⟨ops, j', e1, e0, e2, e3, e4, e7, e8⟩
    · have hn : nextQ ⟨s, []⟩ v im x = (v, [], im, true) := by rw [nextQ, if_neg hfl, if_pos e]
      have hs : stQ (s, v, im) x = (s, v, im) := by unfold stQ; dsimp only; rw [hn]; rfl
      have hsl : s.length ≤ 4096 := by rw [h.len]; decide
      exact ⟨by rw [hs]; dsimp only; rw [hn], by rw [hs]; dsimp only; rw [hn, runR, if_neg (by simp [chk_nil hsl])]; rfl, by rw [hs]; exact h.mono, by dsimp only; rw [hn]; exact fun o ho => (by cases ho), by dsimp only; rw [hn]; exact Nat.zero_le _, by rw [if_pos (.inr (by dsimp only; rw [hn])), hs]⟩
    · have hf := dq_fits x
      have har : apR im [dataQ x] = (ap1 im (dataQ x), 0, 0) := apR_one (by rw [← h.img, h.ok.im]; exact h.ok.sz) (by rw [← h.img, h.ok.im, h.sz]; exact hf)
      have hn : nextQ ⟨s, []⟩ v im x = (⟨v.sizes, j', v.data, v.applied, v.pend ++ [dataQ x], ap1 v.img (dataQ x)⟩, ops, ap1 im (dataQ x), true) := by
        rw [nextQ, if_neg hfl, e1, if_neg (by simp), har]; rfl
      have hs : stQ (s, v, im) x = (execS s ops, ⟨v.sizes, j', v.data, v.applied, v.pend ++ [dataQ x], ap1 v.img (dataQ x)⟩, ap1 im (dataQ x)) := by unfold stQ; dsimp only; rw [hn]
      exact ⟨by rw [hs]; dsimp only; rw [hn], by rw [hs]; dsimp only; rw [hn]; exact e3, by rw [hs]; exact e2, by dsimp only; rw [hn]; exact e7, by dsimp only; rw [hn]; exact e8, by rw [if_neg (by dsimp only; rw [hn]; rintro (q | q); exact hfl q; exact e4 q), hs]⟩
def qs1 : List Sec := qD1.stable
theorem qD1_c : qD1.cache = [] := by kernel_rfl
theorem qD1_eq : qD1 = ⟨qs1, []⟩ := by
  have := qD1_c
  unfold qs1
  generalize qD1 = d at *
  obtain ⟨a, b⟩ := d
  dsimp only at this
  rw [this]
theorem qz1 : Nat.beq qs1.length 49 = true := by kernel_rfl
theorem qz2 : Nat.beq (chkV qS0) 0 = true := by kernel_rfl
theorem qz3 : qS0.sizes = [6, 3] := by kernel_rfl
theorem qz4 : qS0.jr = ⟨0, 40, 0, 0, 1, []⟩ := by kernel_rfl
theorem qz5 : best (win 0 qs1) = (1, superJ 0 1) := by kernel_rfl
theorem qz6 : Nat.ble (topS (win 0 qs1)) 1 = true := by kernel_rfl
theorem qz7 : areaQ qs1 = qI0 := by kernel_rfl
theorem qz8 : qS0.img = qI0 := by kernel_rfl
theorem qz9 : qS0.pend = [] := by kernel_rfl
def qZ0 : List Sec × Sto × Img := (qs1, qS0, qI0)
theorem QZ.begin : QZ 0 qZ0 := by
  have hl : qs1.length = 49 := Nat.eq_of_beq_eq_true qz1
  have hok : StOk qS0 := chkV_ok (Nat.eq_of_beq_eq_true qz2)
  refine ⟨hl, hok, qz3, by show qS0.jr.start = 0; rw [qz4], by show qS0.jr.count = 40; rw [qz4], qz8, ⟨hok.A.j, ?_, 1, ?_⟩, ?_, ?_⟩
  · show qS0.jr.start.toNat + qS0.jr.count.toNat ≤ qs1.length
    rw [qz4, hl]; decide
  · show Gd qS0.jr.start.toNat qs1 1 (superJ qS0.jr.head qS0.jr.first) (0 + 1)
    rw [qz4]
    exact ⟨by rw [hl]; decide, by rw [hl]; decide, qz5, Nat.le_refl _, Nat.le_of_ble_eq_true qz6⟩
  · show nextJ qS0.jr ≤ ((0 : Nat) : Int) + 1
    rw [qz4]; decide
  · show apF (areaQ qs1) qS0.pend = qI0
    rw [qz9, apF_nil, qz7]
def runQ (xs : List Stq) : List Sec × Sto × Img := xs.foldl stQ qZ0
theorem runQ_s {xs : List Stq} {i : Nat} (h : i < xs.length) : runQ (xs.take (i + 1)) = stQ (runQ (xs.take i)) xs[i] := by
  rw [runQ, List.take_succ_eq_append_getElem h, List.foldl_append]; rfl
theorem runQ_QZ (xs : List Stq) : ∀ i, i ≤ xs.length → i ≤ 1000 → QZ i (runQ (xs.take i))
  | 0, _, _ => QZ.begin
  | i + 1, h, h2 => by
    rw [runQ_s (by omega)]
    exact ((runQ_QZ xs i (by omega) (by omega)).step (by omega) _).qi
theorem tot_ok {ops : List Opn} {n : Nat} (h : ∀ o ∈ ops, OpOk n o) : tot ops ≤ ops.length * n := by
  induction ops with
  | nil => simp [tot]
  | cons o ops ih =>
    have := ih fun x hx => h x (by simp [hx])
    have e : tot (o :: ops) = o.data.length + tot ops := by simp [tot]
    have : o.data.length ≤ n := by
      rcases h o (by simp) with rfl | ⟨a, l, rfl, hl⟩
      · exact Nat.zero_le _
      · show l.length ≤ n; omega
    rw [e, List.length_cons, Nat.succ_mul]; omega
theorem QI.S {N : Nat} {s : List Sec} {v : Sto} {im : Img} (h : QI N s v im) : StS v := by
  have q1 := chkJ_sum h.ok.A.j
  rw [h.jc] at q1
  have hB := h.ok.A.b
  have hb2 : v.pend.length = v.jr.sizes.length := Classical.byContradiction fun e => hB (.inr e)
  obtain ⟨i1, i2⟩ := sizes_pos (l := v.img) (by rw [h.ok.im]; exact h.ok.sz)
  refine ⟨by rw [h.sz]; decide, by omega, by omega, fun w hw => ?_, by omega, fun u hu => by have := (i2 u hu).2; omega⟩
  have hf := stOk_fits h.ok w hw
  rw [h.sz] at hf
  obtain ⟨n, p, -, -, hc⟩ := fits63 hf
  omega
end Go.Proofs.YtbnkggbpocaaiaaGreatDoor
namespace Go.Proofs.YtbnkggbpocaaiaaGreatDoor
open Go.Proofs
@[go_sem, simp] theorem dkC_drop2Q (d : Dk) : (dkC d).drop 2 = [] := rfl
set_option maxRecDepth 8000 in
set_option maxHeartbeats 1600000 in
theorem VFrees_law (H : Hp) (V : List Nat) (xs : List Stq) : CC Tryz.prog 5 [.sl .sh 5 (xs.map stqC)] H V (Pu (cb true) H V) := by
  refine CC.of_swp Tryz.func5 rfl (by kernel_rfl) (by rw [Tryz.ntmps5]; exact len_le _ _ rfl) fun hok hokH => ?_
  clear hok
  have aw : ∀ (H0 : Hp) (V0 : List Nat), CC Tryz.prog 11 [] H0 V0 (Pu (cb true) H0 V0) := fun H0 V0 => vawake_cc H0 V0
  refine SWp.seq (Wp.s ?_)
  simp -implicitDefEqProofs [go_sem, args0]
  refine SWp.seq (SWp.seq (Wp.s ?_))
  by_cases h25 : 25 < xs.length
  · have h25' : 25 < (xs.length : Int) := by omega
    simp -implicitDefEqProofs [go_sem, h25']
    refine Wp.s ?_
    simp -implicitDefEqProofs [go_sem]
    refine CC.mono (aw _ _) ?_
    rintro _ _ _ ⟨rfl, rfl, rfl⟩
    simp -implicitDefEqProofs [go_sem]
    exact Fin.bool rfl hokH (by simp) (by simp)
  have h25' : ¬ 25 < (xs.length : Int) := by omega
  simp -implicitDefEqProofs [go_sem, h25']
  refine Wp.s ?_
  simp -implicitDefEqProofs [go_sem]
  refine SWp.seq (Wp.s ?_)
  simp -implicitDefEqProofs [go_sem]
  refine CC.mono (begin_cc _ _) ?_
  rintro _ _ _ ⟨rfl, rfl, rfl⟩
  simp -implicitDefEqProofs [go_sem, bgV]
  rw [qD1_eq]
  refine SWp.join (α := Unit) (fun _ => ([(3, .ptr H.length 0), (4, .ptr (H.length + 1) 0), (5, imV (runQ xs).2.2), (6, cb true)], H ++ [some (dkC ⟨(runQ xs).1, []⟩), some (stoC (runQ xs).2.1)], V)) (fun _ => True) ?_ ?_
  · refine SWp.seq (Wp.s ?_)
    simp -implicitDefEqProofs [go_sem]
    refine SWp.block ?_
    refine SWp.loop (α := Nat) (fun i => ([(0, .sl .sh 5 (xs.map stqC)), (3, .ptr H.length 0), (4, .ptr (H.length + 1) 0), (5, imV (runQ (xs.take i)).2.2), (6, cb true), (7, ci i)], H ++ [some (dkC ⟨(runQ (xs.take i)).1, []⟩), some (stoC (runQ (xs.take i)).2.1)], V)) (fun i => i ≤ xs.length) (fun i => xs.length - i) 0 (Nat.zero_le _) (Sh.forget (by simp [go_sem]; exact .refl _) rfl rfl) ?_
    intro i hi
    dsimp only
    refine SWp.seq (SWp.seq (Wp.s ?_))
    by_cases h : i < xs.length
    case neg =>
      obtain rfl : i = xs.length := by omega
      simp -implicitDefEqProofs [go_sem]
      refine Wp.s ?_
      simp -implicitDefEqProofs [go_sem]
      exact Sh.forget (by simp [go_sem]) rfl rfl
    simp -implicitDefEqProofs [go_sem, h]
    refine Wp.s ?_
    simp -implicitDefEqProofs [go_sem]
    have hz := runQ_QZ xs i (by omega) (by omega)
    have hst := hz.step (by omega) xs[i]
    have hrs := runQ_s h
    generalize runQ (xs.take i) = z at hz hst hrs ⊢
    have hsm := QI.S hz
    have hsl : z.1.length = 49 := hz.len
    have him : z.2.2.length ≤ 1000000000 := by rw [← hz.img]; have := hsm.il; omega
    have htot := tot_ok hst.ops
    have hol := hst.len
    have hd : DkS ⟨z.1, []⟩ := ⟨by show z.1.length ≤ _; omega, by simp⟩
    have w5 : IntKind.i64.wrap ((i : Int) + 1) = (i : Int) + 1 := IntWalk.i64_in _ ⟨by omega, by omega⟩
    refine SWp.seq (SWp.block (SWp.seq (SWp.drawnT [] [14] (.s 0 .pl <| .s 1 .pl <| .s 2 .pl <| .s 3 .pl <| .s 4 .pl <| .s 5 .pl <| .s 6 .pl <| .c 7 <| .s 8 .pl <| .s 9 .pl <| .s 10 .pl <| .s 11 .pl <| .s 12 .pl <| .s 13 .pl <| .s 14 .st <| .s 15 .pl <| .s 16 .pl <| .s 17 .pl <| .n) (by kernel_rfl) (by kernel_rfl) ?_)))
    simp -implicitDefEqProofs [go_sem, h]
    refine ⟨nxQV (nextQ ⟨z.1, []⟩ z.2.1 z.2.2 xs[i]), fun H V => nextQ_cc H V ⟨z.1, []⟩ z.2.1 z.2.2 xs[i] hd hsm him, ?_⟩
    rw [hst.nx]
    have hrn := hst.rn
    generalize (nextQ ⟨z.1, []⟩ z.2.1 z.2.2 xs[i]).2.1 = ops at hrn htot hol ⊢
    simp -implicitDefEqProofs [go_sem, nxQV]
    refine SWp.seq (Wp.s ?_)
    simp -implicitDefEqProofs [go_sem]
    refine CC.mono (sRun_cc _ _ ⟨z.1, []⟩ ops (by show z.1.length ≤ _; omega) (by show [].length + _ ≤ _; simp; omega) (by omega)) ?_
    rintro _ _ _ ⟨rfl, rfl, rfl⟩
    rw [hrn]
    simp -implicitDefEqProofs [go_sem, runV]
    have hkp : ∀ (a b c d a' b' : Option (List CV)), Kp [H.length + 2] (H ++ [a, b, c, d]) (H ++ [a', b', c, d]) := fun a b c d a' b' => Kp.keep fun y hy => by
      obtain rfl : y = H.length + 2 := by simpa using hy
      rw [hget, hget]; rfl
    refine SWp.drawnT [H.length + 2] [8, 9] (.s 0 .pl <| .s 1 .ld <| .s 2 .pl <| .s 3 .pl <| .s 4 .pl <| .s 5 .pl <| .s 6 .pl <| .s 7 .pl <| .s 8 .st <| .s 9 .st <| .s 10 .pl <| .s 11 .pl <| .n) (by kernel_rfl) (by kernel_rfl) ?_
    simp -implicitDefEqProofs [go_sem]
    refine ⟨hkp _ _ _ _ _ _, hkp _ _ _ _ _ _, ?_⟩
    refine Wp.s ?_
    simp -implicitDefEqProofs [go_sem, w5]
    refine ⟨i + 1, by omega, by omega, ?_⟩
    rw [hrs]
    refine Sh.trim (L := [some (dkC ⟨(stQ z xs[i]).1, []⟩), some (stoC (stQ z xs[i]).2.1)]) (by simp [go_sem]) (by simp [go_sem, okE_stqs, okE_ims]) hokH (by simp [go_sem, okL_dkC, okL_stoC]) (by simp) (by simp) (by simp)
  rintro _ -
  dsimp only
  have hz := runQ_QZ xs xs.length (Nat.le_refl _) (by omega)
  rw [List.take_length] at hz
  generalize runQ xs = z at hz ⊢
  have hsm := QI.S hz
  have hsl : z.1.length = 49 := hz.len
  have hd : DkS ⟨z.1, []⟩ := ⟨by show z.1.length ≤ _; omega, by simp⟩
  obtain ⟨v', ops, e1, e2, e3, e4, e5, e6, e7, e8⟩ := hz.fl (by omega)
  have htot := tot_ok e7
  have hS' := QI.S e2
  refine SWp.seq (Wp.s ?_)
  simp -implicitDefEqProofs [go_sem]
  refine CC.mono (vFlush_cc _ _ ⟨z.1, []⟩ z.2.1 hd hsm) ?_
  rintro _ _ _ ⟨rfl, rfl, rfl⟩
  rw [e1]
  simp -implicitDefEqProofs [go_sem, flV]
  refine SWp.seq (Wp.s ?_)
  simp -implicitDefEqProofs [go_sem]
  refine CC.mono (sRun_cc _ _ ⟨z.1, []⟩ ops (by show z.1.length ≤ _; omega) (by show [].length + _ ≤ _; simp; omega) (by omega)) ?_
  rintro _ _ _ ⟨rfl, rfl, rfl⟩
  rw [e3]
  simp -implicitDefEqProofs [go_sem, runV]
  have hi1 : v'.img = z.2.2 := e2.img
  have him := img_small (x := z.2.2) hz.ok.sz (by rw [← hz.img]; exact hz.ok.im)
  have hdl : execS z.1 ops = execS z.1 ops := rfl
  have hfr : frJ v'.jr = 24 := by rw [frJ, if_pos e2.ok.A.j, freeJ, e2.jc, e5]; decide
  refine SWp.seq (SWp.seq (Wp.s ?_))
  simp -implicitDefEqProofs [go_sem, stoC]
  rw [hi1]
  refine CC.mono (SameImg_cc _ _ .sh .sh z.2.2 z.2.2 him.1 him.2) ?_
  rintro _ _ _ ⟨rfl, rfl, rfl⟩
  simp -implicitDefEqProofs [go_sem, e4]
  refine CC.mono (JFree_cc _ _ v'.jr (by rw [e5]; simp)) ?_
  rintro _ _ _ ⟨rfl, rfl, rfl⟩
  rw [hfr]
  simp -implicitDefEqProofs [go_sem]
  refine Wp.s ?_
  simp -implicitDefEqProofs [go_sem]
  obtain ⟨t, ht⟩ : ∃ t, t = execS z.1 ops := ⟨_, rfl⟩
  rw [← ht] at e6 ⊢
  have htl : t.length = 49 := by rw [ht, execS_len]; exact hsl
  have hrd : ∀ a n : Nat, a + n ≤ 49 → readD ⟨t, []⟩ a n = ((t.drop a).take n, 0) := fun a n hn => by
    rw [readD, if_neg (by simp [chk_nil (show t.length ≤ 4096 by omega)]), if_neg]
    · rfl
    · simp only [insideB]; simp; omega
  have hdt : DkS ⟨t, []⟩ := ⟨by show t.length ≤ _; omega, by simp⟩
  refine SWp.seq (Wp.s ?_)
  simp -implicitDefEqProofs [go_sem]
  refine CC.mono (sRead_cc _ _ ⟨t, []⟩ ⟨40, 6⟩ hdt) ?_
  rintro _ _ _ ⟨rfl, rfl, rfl⟩
  rw [show readD ⟨t, []⟩ (⟨40, 6⟩ : Ext2).start (⟨40, 6⟩ : Ext2).count = ((t.drop 40).take 6, 0) from hrd 40 6 (by decide)]
  simp -implicitDefEqProofs [go_sem]
  refine SWp.seq (Wp.s ?_)
  simp -implicitDefEqProofs [go_sem]
  refine CC.mono (sRead_cc _ _ ⟨t, []⟩ ⟨46, 3⟩ hdt) ?_
  rintro _ _ _ ⟨rfl, rfl, rfl⟩
  rw [show readD ⟨t, []⟩ (⟨46, 3⟩ : Ext2).start (⟨46, 3⟩ : Ext2).count = ((t.drop 46).take 3, 0) from hrd 46 3 (by decide)]
  simp -implicitDefEqProofs [go_sem]
  refine SWp.seq (Wp.s ?_)
  simp -implicitDefEqProofs [go_sem]
  refine CC.mono (aw _ _) ?_
  rintro _ _ _ ⟨rfl, rfl, rfl⟩
  simp -implicitDefEqProofs [go_sem]
  have hx : [[CV.sl .sh 8 (List.take 6 (List.drop 40 (List.map secC t)))], [CV.sl .sh 8 (List.take 3 (List.drop 46 (List.map secC t)))]] = z.2.2.map imE := by
    rw [← e6, areaQ, ← List.map_drop, ← List.map_drop, ← List.map_take, ← List.map_take]; rfl
  rw [hx]
  refine CC.mono (SameImg_cc _ _ .ti .sh z.2.2 z.2.2 him.1 him.2) ?_
  rintro _ _ _ ⟨rfl, rfl, rfl⟩
  simp -implicitDefEqProofs [go_sem]
  refine Wp.s ?_
  simp -implicitDefEqProofs [go_sem]
  exact Fin.bool rfl hokH (by simp) (by simp)
end Go.Proofs.YtbnkggbpocaaiaaGreatDoor
namespace Go.Proofs.YtbnkggbpocaaiaaGreatDoor
open Go.Proofs
/-! ### The last write to a sector -/
def wantQ (k at' : Nat) (x : Stq) (ops : List Opn) (w : Sec) : Sec := if x.fl = false ∧ ops ≠ [] ∧ cov (dataQ x) k at' then (dataQ x).data.getD (at' - (dataQ x).start.toNat) sec0 else w
theorem want_no {k at' : Nat} {x : Stq} {ops : List Opn} {w : Sec} (h : ¬ (x.fl = false ∧ ops ≠ [] ∧ cov (dataQ x) k at')) : wantQ k at' x ops w = w := if_neg h
theorem want_yes {k at' : Nat} {x : Stq} {ops : List Opn} {w : Sec} (h : x.fl = false ∧ ops ≠ [] ∧ cov (dataQ x) k at') : wantQ k at' x ops w = (dataQ x).data.getD (at' - (dataQ x).start.toNat) sec0 := if_pos h
theorem want_s {N : Nat} {z : List Sec × Sto × Img} {x : Stq} (hz : QZ N z) (h : StepQ N z x) {k at' : Nat} {w : Sec} (hw : sat z.2.2 k at' = some w) : sat (stQ z x).2.2 k at' = some (wantQ k at' x (nextQ ⟨z.1, []⟩ z.2.1 z.2.2 x).2.1 w) := by
  have hi := h.im
  by_cases c : x.fl = true ∨ (nextQ ⟨z.1, []⟩ z.2.1 z.2.2 x).2.1 = []
  · rw [if_pos c] at hi
    rw [hi, hw, want_no]
    rintro ⟨a, b, -⟩
    rcases c with c | c
    · rw [a] at c; cases c
    · exact b c
  · rw [if_neg c] at hi
    have hf : fitsS (imgSz z.2.2) (dataQ x) = 0 := by rw [← hz.img, hz.ok.im, hz.sz]; exact dq_fits x
    rw [hi, sat_ap1 hf]
    by_cases c2 : cov (dataQ x) k at'
    · rw [if_pos c2, want_yes ⟨by simpa using (fun q => c (.inl q)), fun q => c (.inr q), c2⟩]
      obtain ⟨q1, q2, q3⟩ := c2
      rw [List.getD_eq_getElem?_getD, List.getElem?_eq_getElem (by omega)]; rfl
    · rw [if_neg c2, hw, want_no (fun q => c2 q.2.2)]
theorem sat_q0 {k p : Nat} (h : (k = 0 ∧ p < 6) ∨ (k = 1 ∧ p < 3)) : sat qI0 k p = some sec0 := by
  rcases h with ⟨rfl, h⟩ | ⟨rfl, h⟩
  · show (List.replicate 6 sec0)[p]? = _
    rw [List.getElem?_replicate, if_pos h]
  · show (List.replicate 3 sec0)[p]? = _
    rw [List.getElem?_replicate, if_pos h]
theorem sec0_cells : secC sec0 = [CV.v (.int .u8 0), .v (.int .u8 0), .v (.int .u8 0), .v (.int .u8 0), .v (.int .u8 0), .v (.int .u8 0), .v (.int .u8 0), .v (.int .u8 0)] := rfl
theorem read_sat {N : Nat} {s : List Sec} {v : Sto} {im : Img} (h : QI N s v im) {k p : Nat} {w : Sec} (hw : sat im k p = some w) : readV v k ⟨p, 1⟩ = ([w], 0) := by
  rw [← h.img] at hw
  obtain ⟨l, hl, hp⟩ : ∃ l, v.img[k]? = some l ∧ l[p]? = some w := by
    rw [sat] at hw
    cases e : v.img[k]? with
    | none => rw [e] at hw; cases hw
    | some l => rw [e] at hw; exact ⟨l, rfl, hw⟩
  obtain ⟨hk, hl2⟩ := List.getElem?_eq_some_iff.1 hl
  obtain ⟨hp1, hp2⟩ := List.getElem?_eq_some_iff.1 hp
  rw [readV, if_neg (by simp [stOk_chk h.ok]), if_neg (by omega)]
  have e : v.img.getD (k : Int).toNat [] = l := by rw [Int.toNat_natCast, List.getD_eq_getElem?_getD, hl]; rfl
  dsimp only
  rw [e, if_neg (by omega), Int.toNat_natCast, List.drop_eq_getElem_cons hp1, hp2]
  rfl
set_option maxRecDepth 8000 in
set_option maxHeartbeats 1600000 in
theorem VReads_law (H : Hp) (V : List Nat) (xs : List Stq) (vv sc : UInt8) : CC Tryz.prog 7 [.sl .sh 5 (xs.map stqC), .v (.int .u8 (vv.toNat : Int)), .v (.int .u8 (sc.toNat : Int))] H V (Pu (cb true) H V) := by
  refine CC.of_swp Tryz.func7 rfl (by kernel_rfl) (by rw [Tryz.ntmps7]; exact len_le _ _ rfl) fun hok hokH => ?_
  clear hok
  have aw : ∀ (H0 : Hp) (V0 : List Nat), CC Tryz.prog 11 [] H0 V0 (Pu (cb true) H0 V0) := fun H0 V0 => vawake_cc H0 V0
  refine SWp.seq (Wp.s ?_)
  simp -implicitDefEqProofs [go_sem, args0]
  refine SWp.seq (SWp.seq (Wp.s ?_))
  by_cases h25 : 25 < xs.length
  · have h25' : 25 < (xs.length : Int) := by omega
    simp -implicitDefEqProofs [go_sem, h25']
    refine Wp.s ?_
    simp -implicitDefEqProofs [go_sem]
    refine CC.mono (aw _ _) ?_
    rintro _ _ _ ⟨rfl, rfl, rfl⟩
    simp -implicitDefEqProofs [go_sem]
    exact Fin.bool rfl hokH (by simp) (by simp)
  have h25' : ¬ 25 < (xs.length : Int) := by omega
  simp -implicitDefEqProofs [go_sem, h25']
  refine Wp.s ?_
  simp -implicitDefEqProofs [go_sem]
  refine SWp.seq (Wp.s ?_)
  simp -implicitDefEqProofs [go_sem]
  refine CC.mono (begin_cc _ _) ?_
  rintro _ _ _ ⟨rfl, rfl, rfl⟩
  simp -implicitDefEqProofs [go_sem, bgV]
  rw [qD1_eq]
  obtain ⟨k, hk⟩ : ∃ k, k = vv.toNat % 2 := ⟨_, rfl⟩
  have hk2 : k < 2 := by omega
  obtain ⟨zk, hzk⟩ : ∃ zk : Nat, zk = if k = 0 then 6 else 3 := ⟨_, rfl⟩
  have hzk2 : 3 ≤ zk ∧ zk ≤ 6 := by rw [hzk]; split <;> omega
  obtain ⟨p, hp⟩ : ∃ p, p = sc.toNat % zk := ⟨_, rfl⟩
  have hpz : p < zk := by rw [hp]; exact Nat.mod_lt _ (by omega)
  have hs1 := vv.toNat_lt
  have hs2 := sc.toNat_lt
  have m1 : (vv.toNat : Int).tmod 2 = (k : Int) := by rw [Int.tmod_eq_emod_of_nonneg (by omega)]; omega
  have m1' : (vv.toNat : Int) % 2 = (k : Int) := by omega
  have m2 : IntKind.u8.wrap (k : Int) = (k : Int) := by rw [IntKind.wrap_u8]; omega
  have m3 : IntKind.i64.wrap (k : Int) = (k : Int) := IntWalk.i64_in _ ⟨by omega, by omega⟩
  have m4' : (sc.toNat : Int) % (zk : Int) = (p : Int) := by rw [hp]; simp
  have m4 : (sc.toNat : Int).tmod (zk : Int) = (p : Int) := by rw [Int.tmod_eq_emod_of_nonneg (by omega), m4']
  have m5 : IntKind.i64.wrap (sc.toNat : Int) = (sc.toNat : Int) := IntWalk.i64_in _ ⟨by omega, by omega⟩
  have m6 : IntKind.i64.wrap (p : Int) = (p : Int) := IntWalk.i64_in _ ⟨by omega, by omega⟩
  have mz : ¬ zk = 0 := by omega
  have hg : ∀ (h : k < [ic 6, ic 3].length), [ic 6, ic 3][k] = ic (zk : Int) := fun h => by
    rw [hzk]
    match k, hk2 with
    | 0, _ => rfl
    | 1, _ => rfl
  have hw0 : sat qI0 k p = some sec0 := sat_q0 (by
    rcases (by omega : k = 0 ∨ k = 1) with h | h
    · left; rw [if_pos h] at hzk; omega
    · right; rw [if_neg (by omega)] at hzk; omega)
  refine SWp.seq (Wp.s ?_)
  simp -implicitDefEqProofs [go_sem, m1, m1', m2, m3]
  refine SWp.seq (Wp.s ?_)
  simp -implicitDefEqProofs [go_sem, m5]
  refine CC.mono (sizesQ_cc _ _) ?_
  rintro _ _ _ ⟨rfl, rfl, rfl⟩
  simp -implicitDefEqProofs [go_sem, hg, hk2, m4, m4', m5, m6, mz]
  refine SWp.seq (Wp.s ?_)
  simp -implicitDefEqProofs [go_sem]
  rw [← sec0_cells]
  refine SWp.join (α := Sec) (fun w => ([(7, .ptr H.length 0), (8, .ptr (H.length + 1) 0), (9, imV (runQ xs).2.2), (10, cb true), (11, ci k), (12, ci p), (13, .ptr (H.length + 2) 0)], H ++ [some (dkC ⟨(runQ xs).1, []⟩), some (stoC (runQ xs).2.1), some (secC w)], V)) (fun w => sat (runQ xs).2.2 k p = some w) ?_ ?_
  · refine SWp.seq (Wp.s ?_)
    simp -implicitDefEqProofs [go_sem]
    refine SWp.block ?_
    refine SWp.loop (α := Nat × Sec) (fun i => ([(0, .sl .sh 5 (xs.map stqC)), (7, .ptr H.length 0), (8, .ptr (H.length + 1) 0), (9, imV (runQ (xs.take i.1)).2.2), (10, cb true), (11, ci k), (12, ci p), (13, .ptr (H.length + 2) 0), (14, ci i.1)], H ++ [some (dkC ⟨(runQ (xs.take i.1)).1, []⟩), some (stoC (runQ (xs.take i.1)).2.1), some (secC i.2)], V)) (fun i => i.1 ≤ xs.length ∧ sat (runQ (xs.take i.1)).2.2 k p = some i.2) (fun i => xs.length - i.1) (0, sec0) ⟨Nat.zero_le _, hw0⟩ (Sh.forget (by simp [go_sem]; exact .refl _) rfl rfl) ?_
    rintro ⟨i, w⟩ ⟨hi, hw⟩
    dsimp only at hi hw ⊢
    refine SWp.seq (SWp.seq (Wp.s ?_))
    by_cases h : i < xs.length
    case neg =>
      obtain rfl : i = xs.length := by omega
      simp -implicitDefEqProofs [go_sem]
      refine Wp.s ?_
      simp -implicitDefEqProofs [go_sem]
      rw [List.take_length] at hw
      exact ⟨w, hw, Sh.forget (by simp [go_sem]) rfl rfl⟩
    simp -implicitDefEqProofs [go_sem, h]
    refine Wp.s ?_
    simp -implicitDefEqProofs [go_sem]
    have hz := runQ_QZ xs i (by omega) (by omega)
    have hst := hz.step (by omega) xs[i]
    have hrs := runQ_s h
    generalize runQ (xs.take i) = z at hz hst hrs hw ⊢
    have hws := want_s hz hst hw
    have hsm := QI.S hz
    have hsl : z.1.length = 49 := hz.len
    have him : z.2.2.length ≤ 1000000000 := by rw [← hz.img]; have := hsm.il; omega
    have htot := tot_ok hst.ops
    have hol := hst.len
    have hd : DkS ⟨z.1, []⟩ := ⟨by show z.1.length ≤ _; omega, by simp⟩
    have w5 : IntKind.i64.wrap ((i : Int) + 1) = (i : Int) + 1 := IntWalk.i64_in _ ⟨by omega, by omega⟩
    refine SWp.seq (SWp.block (SWp.seq (SWp.drawnT [] [14] (.s 0 .pl <| .s 1 .pl <| .s 2 .pl <| .s 3 .pl <| .s 4 .pl <| .s 5 .pl <| .s 6 .pl <| .c 7 <| .s 8 .pl <| .s 9 .pl <| .s 10 .pl <| .s 11 .pl <| .s 12 .pl <| .s 13 .pl <| .s 14 .st <| .s 15 .pl <| .s 16 .pl <| .s 17 .pl <| .n) (by kernel_rfl) (by kernel_rfl) ?_)))
    simp -implicitDefEqProofs [go_sem, h]
    refine ⟨nxQV (nextQ ⟨z.1, []⟩ z.2.1 z.2.2 xs[i]), fun H V => nextQ_cc H V ⟨z.1, []⟩ z.2.1 z.2.2 xs[i] hd hsm him, ?_⟩
    rw [hst.nx]
    have hrn := hst.rn
    generalize (nextQ ⟨z.1, []⟩ z.2.1 z.2.2 xs[i]).2.1 = ops at hrn htot hol hws ⊢
    simp -implicitDefEqProofs [go_sem, nxQV]
    refine SWp.seq (Wp.s ?_)
    simp -implicitDefEqProofs [go_sem]
    refine CC.mono (sRun_cc _ _ ⟨z.1, []⟩ ops (by show z.1.length ≤ _; omega) (by show [].length + _ ≤ _; simp; omega) (by omega)) ?_
    rintro _ _ _ ⟨rfl, rfl, rfl⟩
    rw [hrn]
    simp -implicitDefEqProofs [go_sem, runV]
    generalize hx : xs[i] = x at hst hrs hrn hws ⊢
    have hdl := dataQ_len x
    have hda : 0 ≤ (dataQ x).start := by show 0 ≤ (atN x : Int); omega
    have hda2 : (dataQ x).start ≤ 100 := by show (atN x : Int) ≤ 100; have := atN_lt x; have := zqN_r x; omega
    refine SWp.join (α := Unit) (fun _ => ([(0, .sl .sh 5 (xs.map stqC)), (7, .ptr H.length 0), (8, .ptr (H.length + 1) 0), (11, ci k), (12, ci p), (13, .ptr (H.length + 2) 0), (14, ci i), (15, .ptr (H.length + 3) 0), (17, imV (stQ z x).2.2), (18, cb true), (19, .ptr (H.length + 4) 0), (21, er 0)], H ++ [some (dkC ⟨z.1, []⟩), some (stoC z.2.1), some (secC (wantQ k p x ops w)), some (stoC (stQ z x).2.1), some (dkC ⟨(stQ z x).1, []⟩), some (wrC (dataQ x))], V)) (fun _ => True) ?_ ?_
    · refine SWp.seq (Wp.s ?_)
      simp -implicitDefEqProofs [go_sem, h, hx]
      refine CC.mono (dataQ_cc _ _ x) ?_
      rintro _ _ _ ⟨rfl, rfl, rfl⟩
      simp -implicitDefEqProofs [go_sem]
      have no : ¬ (x.fl = false ∧ ops ≠ [] ∧ cov (dataQ x) k p) → wantQ k p x ops w = w := want_no
      refine SWp.seq (Wp.s ?_)
      have wsl : IntKind.i64.wrap ((dataQ x).start + ((dataQ x).data.length : Int)) = (dataQ x).start + ((dataQ x).data.length : Int) := IntWalk.i64_in _ ⟨by omega, by omega⟩
      cases hfl : x.fl with
      | true =>
        rw [no (by rw [hfl]; rintro ⟨q, -⟩; cases q)]
        simp -implicitDefEqProofs [go_sem, h, hx, hfl]
        refine Wp.s ?_
        simp -implicitDefEqProofs [go_sem]
        exact Sh.forget (by simp [go_sem]) rfl rfl
      | false =>
      by_cases c1 : ops = []
      · rw [no (fun q => q.2.1 c1)]
        subst c1
        simp -implicitDefEqProofs [go_sem, h, hx, hfl]
        refine Wp.s ?_
        simp -implicitDefEqProofs [go_sem]
        exact Sh.forget (by simp [go_sem]) rfl rfl
      have c1' : ¬ ops.length = 0 := fun e => c1 (List.eq_nil_of_length_eq_zero e)
      have c1'' : 0 < ops.length := by omega
      by_cases c2 : (dataQ x).volume = (k : Int)
      case neg =>
        rw [no (fun q => c2 q.2.2.1)]
        simp -implicitDefEqProofs [go_sem, h, hx, hfl, c1, c1'', wrC, c2]
        refine Wp.s ?_
        simp -implicitDefEqProofs [go_sem]
        exact Sh.forget (by simp [go_sem, wrC]) rfl rfl
      by_cases c3 : (dataQ x).start ≤ (p : Int)
      case neg =>
        rw [no (fun q => c3 q.2.2.2.1)]
        simp -implicitDefEqProofs [go_sem, h, hx, hfl, c1, c1'', wrC, c2, c3]
        refine Wp.s ?_
        simp -implicitDefEqProofs [go_sem]
        exact Sh.forget (by simp [go_sem, wrC]) rfl rfl
      by_cases c4 : (p : Int) < (dataQ x).start + (dataQ x).data.length
      case neg =>
        rw [no (fun q => c4 q.2.2.2.2)]
        simp -implicitDefEqProofs [go_sem, h, hx, hfl, c1, c1'', wrC, c2, c3, c4, wsl]
        refine Wp.s ?_
        simp -implicitDefEqProofs [go_sem]
        exact Sh.forget (by simp [go_sem, wrC]) rfl rfl
      obtain ⟨q, hq⟩ : ∃ q : Nat, (p : Int) - (dataQ x).start = (q : Int) := ⟨((p : Int) - (dataQ x).start).toNat, by omega⟩
      have hql : q < (dataQ x).data.length := by omega
      have hwv : wantQ k p x ops w = (dataQ x).data[q] := by
        rw [want_yes ⟨hfl, c1, c2, c3, c4⟩, show p - (dataQ x).start.toNat = q by omega, List.getD_eq_getElem?_getD, List.getElem?_eq_getElem hql]; rfl
      rw [hwv]
      simp -implicitDefEqProofs [go_sem, h, hx, hfl, c1, c1'', wrC, c2, c3, c4, wsl]
      have wsm : IntKind.i64.wrap ((p : Int) - (dataQ x).start) = (q : Int) := by rw [hq]; exact IntWalk.i64_in _ ⟨by omega, by omega⟩
      refine Wp.s ?_
      simp -implicitDefEqProofs [go_sem, wsm, hql, wrC]
      exact Sh.forget (by simp [go_sem, wrC]) (by simp [go_sem]) rfl
    rintro _ -
    dsimp only
    have hkp : ∀ (a b c d e f a' b' : Option (List CV)), Kp [H.length + 3] (H ++ [a, b, c, d, e, f]) (H ++ [a', b', c, d, e, f]) := fun a b c d e f a' b' => Kp.keep fun y hy => by
      obtain rfl : y = H.length + 3 := by simpa using hy
      rw [hget, hget]; rfl
    refine SWp.drawnT [H.length + 3] [8, 9] (.s 0 .pl <| .s 1 .ld <| .s 2 .pl <| .s 3 .pl <| .s 4 .pl <| .s 5 .pl <| .s 6 .pl <| .s 7 .pl <| .s 8 .st <| .s 9 .st <| .s 10 .pl <| .s 11 .pl <| .n) (by kernel_rfl) (by kernel_rfl) ?_
    simp -implicitDefEqProofs [go_sem]
    refine ⟨hkp _ _ _ _ _ _ _ _, hkp _ _ _ _ _ _ _ _, ?_⟩
    refine Wp.s ?_
    simp -implicitDefEqProofs [go_sem, w5]
    refine ⟨i + 1, wantQ k p x ops w, ⟨by omega, by rw [hrs]; exact hws⟩, by omega, ?_⟩
    rw [hrs]
    refine Sh.trim (L := [some (dkC ⟨(stQ z x).1, []⟩), some (stoC (stQ z x).2.1), some (secC (wantQ k p x ops w))]) (by simp [go_sem]) (by simp [go_sem, okE_stqs, okE_ims]) hokH (by simp [go_sem, okL_dkC, okL_stoC, okL_secC]) (by simp) (by simp) (by simp)
  rintro w hw
  dsimp only
  have hz := runQ_QZ xs xs.length (Nat.le_refl _) (by omega)
  rw [List.take_length] at hz
  generalize runQ xs = z at hz hw ⊢
  have hsm := QI.S hz
  refine SWp.seq (Wp.s ?_)
  simp -implicitDefEqProofs [go_sem]
  refine CC.mono (vRead_cc _ _ z.2.1 k ⟨p, 1⟩ hsm) ?_
  rintro _ _ _ ⟨rfl, rfl, rfl⟩
  rw [read_sat hz hw]
  simp -implicitDefEqProofs [go_sem]
  refine SWp.seq (SWp.drawnT [] [] (.s 0 .pl <| .s 1 .pl <| .s 2 .pl <| .s 3 .pl <| .s 4 .pl <| .s 5 .pl <| .s 6 .pl <| .s 7 .pl <| .s 8 .pl <| .s 9 .pl <| .s 10 .pl <| .s 11 .pl <| .s 12 .pl <| .s 13 .pl <| .s 14 .pl <| .s 15 .pl <| .s 16 .pl <| .s 17 .pl <| .s 18 .pl <| .s 19 .pl <| .s 20 .pl <| .n) (by kernel_rfl) (by kernel_rfl) ?_)
  simp -implicitDefEqProofs [go_sem]
  refine CC.mono (aw _ _) ?_
  rintro _ _ _ ⟨rfl, rfl, rfl⟩
  simp -implicitDefEqProofs [go_sem]
  refine ⟨_, flatSec, fits_secW _, ?_⟩
  refine Wp.s ?_
  simp -implicitDefEqProofs [go_sem]
  exact Fin.bool rfl hokH (by simp) (by simp)
end Go.Proofs.YtbnkggbpocaaiaaGreatDoor
namespace Go.Proofs.YtbnkggbpocaaiaaGreatDoor
open Go.RowKit

/-- The ghost state at the beginning of a call: all blocks are fixed; no boxes, no tokens. -/
def gh0 (w : World) : Gh where
  lim k := match w.heap[k]? with
    | some (.cells c _ _) => c.size
    | _ => 0
  box := []
  tip := []

theorem gh0_inv (w : World) : Inv (gh0 w) w [] [] where
  boxlen := rfl
  tiplen := rfl
  limv k h := by
    simp only [gh0] at h ⊢
    split at h
    · rename_i c e fr hc
      exact ⟨c, e, fr, hc, by simp⟩
    · omega
  tips := by intro t k h; simp [gh0] at h
  boxes := by intro b k h; simp [gh0] at h
  uniq := by intro b b' k cs cs' h; simp at h
  live := by intro b cs h; simp at h

theorem gh0_lim {w : World} {k o : Nat} {u : Value} (h : w.cell? ⟨k, o, none⟩ = some u) : o < (gh0 w).lim k := by
  simp only [World.cell?] at h
  simp only [gh0]
  split at h
  · rename_i c e fr hc
    simp only [hc]
    simp at h
    obtain ⟨h, _⟩ := Array.getElem?_eq_some_iff.1 h
    exact h
  · cases h

/-- What a law gives: true, and below nothing is changed. -/
theorem law_calls {P : Program} {f : FuncId} {args : Array Value} {W : World} {cs : List CV} {R : CV → Hp → List Nat → Prop} (hrel : RelL (gh0 W) W [] cs args.toList) (h : CC P f cs [] [] R)
    (hR : ∀ r H V, R r H V → r = .v (.bool true)) : Calls P f args W fun e W' => e = .returned (.bool true) ∧ Below W.heap.size W W' := by
  have := h.2 (gh0 W) W args.toList (gh0_inv W) hrel
  rw [Array.toArray_toList] at this
  refine this.mono ?_
  rintro e w' ⟨u, m', r, H', V', rfl, hr, _, hu, hx⟩
  obtain rfl := hR _ _ _ hr
  rw [RelV] at hu
  subst hu
  exact ⟨rfl, hx.os, hx.tape, hx.output, hx.size, fun k hk => hx.same k hk (by simp [gh0]) (by simp [gh0])⟩

/-- The cells of a value of type t that came in: S holds of their contents. -/
def Opens (P : Program) (t : TypeId) (S : List CV → Prop) : Prop :=
  ∀ (H : Type) (enc : TypeId × Value → H) (w : World) (base : Nat) (spare : Nat → Bool) (held : Bool) (fuel : Nat) (us : List Value) (x : DataW H × List MemPlace),
    DataW.trod enc P w base spare held fuel t us = some x → ∃ cs, S cs ∧ RelL (gh0 w) w [] cs us ∧ ∀ u ∈ us, u.oneCell' = true

theorem relL_one {m : Gh} {w : World} {V : List Nat} {c : CV} {u : Value} (h : RelV m w V c u) : RelL m w V [c] [u] := by
  rw [RelL]; exact ⟨u, [], rfl, h, by rw [RelL]⟩

theorem relL_one' {m : Gh} {w : World} {V : List Nat} {c : CV} {u : Value} (h : RelL m w V [c] [u]) : RelV m w V c u := by
  rw [RelL] at h; obtain ⟨_, _, h1, h2, _⟩ := h; cases h1; exact h2

theorem relL_nil {m : Gh} {w : World} {V : List Nat} : RelL m w V [] [] := by rw [RelL]
theorem relL_mk2 {m : Gh} {w : World} {V : List Nat} {c : CV} {u : Value} {cs : List CV} {us : List Value} (h : RelV m w V c u) (h2 : RelL m w V cs us) : RelL m w V (c :: cs) (u :: us) := by
  rw [RelL]; exact ⟨u, us, rfl, h, h2⟩
variable {P : Program} {t e : TypeId}
theorem Opens.int {k : IntKind} (ht : P.underlying t = some (.int k)) : Opens P t fun cs => ∃ n, cs = [.v (.int k n)] ∧ (Lit.int k n).wf = true := by
  intro H enc w base spare held fuel us x h
  obtain ⟨n, rfl, _, hw⟩ := DataW.trod_int ht h
  exact ⟨_, ⟨n, rfl, hw⟩, relL_one (by rw [RelV]), by simp [Value.oneCell']⟩

theorem Opens.bool (ht : P.underlying t = some .bool) : Opens P t fun cs => ∃ b, cs = [.v (.bool b)] := by
  intro H enc w base spare held fuel us x h
  obtain ⟨n, rfl, _⟩ := DataW.trod_bool ht h
  exact ⟨_, ⟨n, rfl⟩, relL_one (by rw [RelV]), by simp [Value.oneCell']⟩

theorem Opens.string (ht : P.underlying t = some .string) : Opens P t fun cs => ∃ s : ByteArray, cs = [.v (.string s)] ∧ s.size ≤ maxLen := by
  intro H enc w base spare held fuel us x h
  obtain ⟨n, rfl, _, hs⟩ := DataW.trod_string ht h
  exact ⟨_, ⟨n, rfl, hs⟩, relL_one (by rw [RelV]), by simp [Value.oneCell']⟩

theorem cells_get {w : World} {base : Nat} {a : Addr} {n : Nat} {us : List Value} (h : w.cells? base a n = some us) : us.length = n ∧ ∀ j, j < n → w.cell? (a.add j) = us[j]? := by
  unfold World.cells? at h
  split at h
  · exact ⟨by simpa using mapM_some_length h, fun j hj => mapM_some_get h j j (by simp [hj])⟩
  · cases h

theorem add_none {a : Addr} (ha : a.spot = none) (i : Nat) : a.add i = ⟨a.block, a.off + i, none⟩ := by
  cases a with
  | mk b o s =>
    simp only at ha
    subst ha
    unfold Addr.add
    split <;> simp_all

theorem Opens.slice {sz : Nat} {S : List CV → Prop} (ht : P.underlying t = some (.slice e)) (hs : P.cellsOf e = sz) (h0 : 0 < sz) (he : Opens P e S) :
    Opens P t fun cs => ∃ xs, cs = [.sl .sh sz xs] ∧ xs.length ≤ maxLen ∧ ∀ x ∈ xs, S x := by
  intro H enc w base spare held fuel us x h
  rcases DataW.trod_slice ht h with ⟨rfl, _⟩ | ⟨a, len, cap, elems, rest, n, _, rfl, rfl, hb, hl, hm, hlen, hel, hsp, hns⟩
  · refine ⟨_, ⟨[], rfl, by simp, by simp⟩, relL_one ?_, by simp [Value.oneCell']⟩
    rw [RelV]
    exact ⟨none, 0, rfl, by simp, trivial, h0, .inl rfl⟩
  · have key : ∀ i, i < len → ∃ (cs : List CV) (vs : List Value), S cs ∧ RelL (gh0 w) w [] cs vs ∧ (∀ u ∈ vs, u.oneCell' = true) ∧ vs.length = sz ∧ ∀ j, j < sz → w.cell? ((a.add (i * sz)).add j) = vs[j]? := by
      intro i hi
      have h1 := hel i hi
      rw [List.getElem?_eq_getElem (by omega)] at h1
      obtain ⟨vs, h2, h3⟩ := Option.bind_eq_some_iff.1 h1
      obtain ⟨cs, h4, h5, h6⟩ := he _ enc w base spare held n vs _ h3
      rw [hs] at h2
      obtain ⟨h7, h8⟩ := cells_get h2
      exact ⟨cs, vs, h4, h5, h6, h7, h8⟩
    by_cases hz : len = 0
    · subst hz
      refine ⟨_, ⟨[], rfl, by simp, by simp⟩, relL_one ?_, by simp [Value.oneCell']⟩
      rw [RelV]
      exact ⟨some a, cap, rfl, by simp, trivial, h0, .inl rfl⟩
    · have hsp : a.spot = none := by
        obtain ⟨cs, vs, _, _, _, h7, h8⟩ := key 0 (by omega)
        have h9 := h8 0 h0
        rw [List.getElem?_eq_getElem (by omega)] at h9
        have : (a.add (0 * sz)).add 0 = a := by simp [Addr.add]
        rw [this] at h9
        simp only [World.cell?] at h9
        split at h9
        · split at h9
          · cases h9
          · rename_i h; simpa using h
        · cases h9
      let g : Nat → List CV := fun i => if h : i < len then Classical.choose (key i h) else []
      have hg : ∀ i (h : i < len), ∃ (vs : List Value), S (g i) ∧ RelL (gh0 w) w [] (g i) vs ∧ (∀ u ∈ vs, u.oneCell' = true) ∧ vs.length = sz ∧ ∀ j, j < sz → w.cell? ((a.add (i * sz)).add j) = vs[j]? := by
        intro i h
        have := Classical.choose_spec (key i h)
        simp only [g, h, dif_pos]
        exact this
      have cell : ∀ i j, i < len → j < sz → ∃ u, w.cell? ⟨a.block, a.off + i * sz + j, none⟩ = some u := by
        intro i j hi hj
        obtain ⟨vs, _, _, _, h7, h8⟩ := hg i hi
        have h9 := h8 j hj
        rw [List.getElem?_eq_getElem (by omega), add_none hsp, add_none rfl] at h9
        exact ⟨_, h9⟩
      refine ⟨_, ⟨(List.range len).map g, rfl, by simp; omega, ?_⟩, relL_one ?_, by simp [Value.oneCell']⟩
      · intro x hx
        obtain ⟨i, hi, rfl⟩ := List.mem_map.1 hx
        obtain ⟨_, h4, _⟩ := hg i (by simpa using hi)
        exact h4
      · rw [RelV]
        refine ⟨some a, cap, by simp, by simp; omega, trivial, h0, .inr ⟨a.block, a.off, by cases a; simp_all, ?_, relE_mk fun j c hc => ?_⟩⟩
        · obtain ⟨u, hu⟩ := cell (len - 1) (sz - 1) (by omega) (by omega)
          have := gh0_lim hu
          simp only [List.length_map, List.length_range]
          have h1 : len * sz = (len - 1) * sz + sz := by
            rw [← Nat.succ_mul]; congr 1; omega
          omega
        · simp only [List.getElem?_map, Option.map_eq_some_iff] at hc
          obtain ⟨i, hi, rfl⟩ := hc
          obtain ⟨hi', hi⟩ := List.getElem?_eq_some_iff.1 hi
          simp at hi hi'
          subst hi
          obtain ⟨vs, h4, h5, h6, h7, h8⟩ := hg j hi'
          have hl := relL_length h5
          refine ⟨by omega, relC_mk fun q c hc => ?_⟩
          obtain ⟨u, hu, hv⟩ := relL_get h5 q c hc
          have hq : q < sz := by
            have := (List.getElem?_eq_some_iff.1 hc).1
            omega
          have h9 := h8 q hq
          rw [hu, add_none hsp, add_none rfl] at h9
          exact ⟨u, h9, hv, h6 u (List.mem_of_getElem? hu)⟩

/-- Fields, from cell o on, of a struct of N cells. -/
def OpensF (P : Program) (N : Nat) (fs : List Field) (o : Nat) (S : List CV → Prop) : Prop :=
  ∀ (H : Type) (enc : TypeId × Value → H) (w : World) (base : Nat) (spare : Nat → Bool) (held : Bool) (fuel : Nat) (us : List Value), us.length = N →
    (∀ f ∈ fs, ∃ x, DataW.trod enc P w base spare held fuel f.type ((us.drop f.offset).take (P.cellsOf f.type)) = some x) →
    ∃ cs, S cs ∧ RelL (gh0 w) w [] cs (us.drop o) ∧ ∀ u ∈ us.drop o, u.oneCell' = true

theorem OpensF.nil {N : Nat} : OpensF P N [] N fun cs => cs = [] := by
  intro H enc w base spare held fuel us hl h
  subst hl
  exact ⟨_, rfl, by rw [List.drop_length, RelL], by simp⟩

theorem OpensF.cons {N : Nat} {f : Field} {fs : List Field} {o n : Nat} {S S' : List CV → Prop} (ho : f.offset = o) (hn : P.cellsOf f.type = n) (h1 : Opens P f.type S) (h2 : OpensF P N fs (o + n) S') :
    OpensF P N (f :: fs) o fun cs => ∃ a b, cs = a ++ b ∧ S a ∧ S' b := by
  intro H enc w base spare held fuel us hl h
  obtain ⟨x, hx⟩ := h f (by simp)
  rw [ho, hn] at hx
  obtain ⟨a, ha, ra, oa⟩ := h1 _ enc w base spare held fuel _ _ hx
  obtain ⟨b, hb, rb, ob⟩ := h2 _ enc w base spare held fuel us hl fun g hg => h g (List.mem_cons_of_mem _ hg)
  have hd : us.drop o = (us.drop o).take n ++ us.drop (o + n) := by
    rw [← List.drop_drop, List.take_append_drop]
  refine ⟨_, ⟨a, b, rfl, ha, hb⟩, ?_, ?_⟩
  · rw [hd]; exact relL_append ra rb
  · rw [hd]
    intro u hu
    rcases List.mem_append.1 hu with h | h
    · exact oa u h
    · exact ob u h

theorem Opens.struct {fs : Array Field} {S : List CV → Prop} (ht : P.underlying t = some (.struct fs)) {N : Nat} (hN : P.cellsOf t = N) (h : OpensF P N fs.toList 0 S) : Opens P t S := by
  intro H enc w base spare held fuel us x hx
  obtain ⟨xs, n, _, _, hl, hl2, hf⟩ := DataW.trod_struct ht hx
  obtain ⟨cs, h1, h2, h3⟩ := h _ enc w base spare held n us (by omega) (by
    intro f hf'
    obtain ⟨i, hi⟩ := List.getElem?_of_mem hf'
    have := hf i f (by simpa using hi)
    have hi' : i < fs.size := by
      have := (List.getElem?_eq_some_iff.1 hi).1
      simpa using this
    rw [this, List.getElem?_eq_getElem (by omega)]
    exact ⟨_, rfl⟩)
  exact ⟨cs, h1, by simpa using h2, by simpa using h3⟩

theorem Opens.array {n sz : Nat} {S : List CV → Prop} (ht : P.underlying t = some (.array n e)) (hs : P.cellsOf e = sz) (hN : P.cellsOf t = n * sz) (he : Opens P e S) :
    Opens P t fun cs => ∃ xs : List (List CV), cs = xs.flatten ∧ xs.length = n ∧ ∀ x ∈ xs, S x := by
  intro H enc w base spare held fuel us x hx
  obtain ⟨xs, m, _, _, hl, hl2, hf⟩ := DataW.trod_array ht hx
  rw [hN] at hl
  rw [hs] at hf
  have key : ∀ q, q ≤ n → ∃ ys : List (List CV), ys.length = q ∧ (∀ x ∈ ys, S x) ∧ RelL (gh0 w) w [] ys.flatten (us.drop ((n - q) * sz)) ∧ ∀ u ∈ us.drop ((n - q) * sz), u.oneCell' = true := by
    intro q
    induction q with
    | zero =>
      intro _
      refine ⟨[], rfl, by simp, ?_, ?_⟩
      · rw [Nat.sub_zero, List.drop_of_length_le (by omega), List.flatten_nil, RelL]
      · rw [Nat.sub_zero, List.drop_of_length_le (by omega)]; simp
    | succ q ih =>
      intro hq
      obtain ⟨ys, h1, h2, h3, h4⟩ := ih (by omega)
      have hx := hf (n - (q + 1)) (by omega)
      rw [List.getElem?_eq_getElem (by omega)] at hx
      obtain ⟨a, ha, ra, oa⟩ := he _ enc w base spare held m _ _ hx
      have hd : us.drop ((n - (q + 1)) * sz) = (us.drop ((n - (q + 1)) * sz)).take sz ++ us.drop ((n - q) * sz) := by
        have : (n - q) * sz = (n - (q + 1)) * sz + sz := by
          rw [← Nat.succ_mul]; congr 1; omega
        rw [this, ← List.drop_drop, List.take_append_drop]
      refine ⟨a :: ys, by simp [h1], by simpa using ⟨ha, h2⟩, ?_, ?_⟩
      · rw [hd, List.flatten_cons]; exact relL_append ra h3
      · rw [hd]
        intro u hu
        rcases List.mem_append.1 hu with h | h
        · exact oa u h
        · exact h4 u h
  obtain ⟨ys, h1, h2, h3, h4⟩ := key n (Nat.le_refl _)
  rw [Nat.sub_self, Nat.zero_mul, List.drop_zero] at h3 h4
  exact ⟨_, ⟨ys, rfl, h1, h2⟩, h3, h4⟩

theorem Opens.mono {S S' : List CV → Prop} (h : Opens P t S) (hs : ∀ cs, S cs → S' cs) : Opens P t S' := by
  intro H enc w base spare held fuel us x hx
  obtain ⟨cs, h1, h2, h3⟩ := h _ enc w base spare held fuel us x hx
  exact ⟨cs, hs cs h1, h2, h3⟩

variable {H : Type} {enc : TypeId × Value → H} {w : World} {base : Nat} {spare : Nat → Bool} {held : Bool}
/-- An argument of one cell. -/
theorem Opens.arg {S : List CV → Prop} (h : Opens P t S) {v : Value} {d : DataW H} {p : List MemPlace} (hv : v.cells.toList = [v]) (hd : DataW.Trod enc P w base spare held t v d p) :
    ∃ c, S [c] ∧ RelV (gh0 w) w [] c v := by
  obtain ⟨fuel, hf⟩ := hd
  rw [hv] at hf
  obtain ⟨cs, h1, h2, _⟩ := h _ enc w base spare held fuel _ _ hf
  have := relL_length h2
  match cs, this with
  | [c], _ => exact ⟨c, h1, relL_one' h2⟩
/-- A struct or an array. -/
theorem Opens.args {S : List CV → Prop} (h : Opens P t S) {us : Array Value} {d : DataW H} {p : List MemPlace} (hd : DataW.Trod enc P w base spare held t (.agg us) d p) :
    ∃ cs, S cs ∧ RelV (gh0 w) w [] (.agg cs) (.agg us) := by
  obtain ⟨fuel, hf⟩ := hd
  obtain ⟨cs, h1, h2, _⟩ := h _ enc w base spare held fuel _ _ hf
  refine ⟨cs, h1, ?_⟩
  rw [RelV]
  refine ⟨us.toList, by simp, ?_⟩
  simpa [Value.cells] using h2

/-- All arguments read as they did. -/
theorem trodAll_below (hl : laidOutB P = true) {W W' : World} (hb : Below W.heap.size W W') : ∀ {ts : List TypeId} {vs : List Value} {ds : List (DataW H)} {p : List MemPlace},
    (ts.all fun t => P.readableRec t && decide (t < P.types.size)) = true → DataW.TrodAll enc P W 0 (fun _ => true) true ts vs ds p → DataW.TrodAll enc P W' 0 (fun b => decide (b < W.heap.size)) true ts vs ds p
  | [], [], [], p, _, h => h
  | t :: ts, v :: vs, d :: ds, p, ht, h => by
    obtain ⟨p, q, h1, h2, rfl⟩ := h
    simp only [List.all_cons, Bool.and_eq_true, decide_eq_true_eq] at ht
    refine ⟨p, q, Below.trod hl ht.1.1 ht.1.2 h1 hb ?_, trodAll_below hl hb ht.2 h2, rfl⟩
    obtain ⟨m, hm⟩ := h1
    exact DataW.trod_lt m _ _ _ hm
  | [], [], _ :: _, _, _, h => h.elim
  | [], _ :: _, _, _, _, h => h.elim
  | _ :: _, [], _, _, _, h => h.elim
  | _ :: _, _ :: _, [], _, _, h => h.elim
end Go.Proofs.YtbnkggbpocaaiaaGreatDoor
namespace Go.Proofs.YtbnkggbpocaaiaaGreatDoor
open Go.Proofs
theorem exMapF {α : Type} {f : α → List CV} : ∀ {xs : List (List CV)}, (∀ x ∈ xs, ∃ a, x = f a) → ∃ ys : List α, xs = ys.map f
  | [], _ => ⟨[], rfl⟩
  | x :: xs, h => by
    obtain ⟨a, rfl⟩ := h x (by simp)
    obtain ⟨ys, rfl⟩ := exMapF fun y hy => h y (List.mem_cons_of_mem _ hy)
    exact ⟨a :: ys, rfl⟩
theorem opens_u8 : Opens Tryz.prog 5 fun cs => ∃ b, cs = u8 b :=
  (Opens.int Tryz.underlying5).mono fun _ ⟨n, h, hw⟩ => ⟨byt n, by
    simp only [Lit.wf, Bool.and_eq_true, decide_eq_true_eq] at hw
    have h1 : 0 ≤ n := hw.1
    have h2 : n ≤ 255 := hw.2
    rw [h, u8, byt_toNat, Int.emod_eq_of_lt h1 (by omega)]⟩
theorem opens_sl {t e sz : Nat} {α : Type} {f : α → List CV} (ht : Tryz.prog.underlying t = some (.slice e)) (hs : Tryz.prog.cellsOf e = sz) (h0 : 0 < sz) (he : Opens Tryz.prog e fun cs => ∃ a, cs = f a) :
    Opens Tryz.prog t fun cs => ∃ l : List α, cs = [.sl .sh sz (l.map f)] ∧ l.length ≤ maxLen :=
  (Opens.slice ht hs h0 he).mono fun _ ⟨xs, h, hl, hx⟩ => by
    obtain ⟨ys, rfl⟩ := exMapF hx
    exact ⟨ys, h, by simpa using hl⟩
end Go.Proofs.YtbnkggbpocaaiaaGreatDoor
namespace Go.Proofs.YtbnkggbpocaaiaaGreatDoor
open Go.Proofs
end Go.Proofs.YtbnkggbpocaaiaaGreatDoor
namespace Go.Proofs.YtbnkggbpocaaiaaGreatDoor
open Go.Proofs
end Go.Proofs.YtbnkggbpocaaiaaGreatDoor
namespace Go.Proofs.YtbnkggbpocaaiaaGreatDoor
open Go.Proofs
theorem opens_boolQ : Opens Tryz.prog 4 fun cs => ∃ b, cs = [.v (.bool b)] := Opens.bool Tryz.underlying4
theorem opens_stq : Opens Tryz.prog 66 fun cs => ∃ x, cs = stqC x :=
  (Opens.struct Tryz.underlying66 (N := 5) (by kernel_rfl) (.cons rfl (n := 1) (by kernel_rfl) opens_u8 (.cons rfl (n := 1) (by kernel_rfl) opens_u8 (.cons rfl (n := 1) (by kernel_rfl) opens_u8 (.cons rfl (n := 1) (by kernel_rfl) opens_u8 (.cons rfl (n := 1) (by kernel_rfl) opens_boolQ .nil)))))).mono fun cs h => by
    obtain ⟨_, _, rfl, ⟨a, rfl⟩, _, _, rfl, ⟨b, rfl⟩, _, _, rfl, ⟨c, rfl⟩, _, _, rfl, ⟨d, rfl⟩, _, _, rfl, ⟨e, rfl⟩, rfl⟩ := h
    exact ⟨⟨a, b, c, d, e⟩, rfl⟩
theorem opens_stqs : Opens Tryz.prog 57 fun cs => ∃ l : List Stq, cs = [.sl .sh 5 (l.map stqC)] ∧ l.length ≤ maxLen := opens_sl Tryz.underlying57 (by kernel_rfl) (by decide) opens_stq
end Go.Proofs.YtbnkggbpocaaiaaGreatDoor
