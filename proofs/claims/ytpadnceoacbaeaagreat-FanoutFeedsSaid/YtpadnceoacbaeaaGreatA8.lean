import Derived.Test.YtpadnceoacbaeaaGreatA7
import Derived.Test.YtpadnceoacbaeaaGreatA3
import Derived.ProofKit
import Derived.OpenShut
import Derived.Below
import Derived.Test.YtpadnceoacbaeaaGreatA4
import Derived.Test.YtpadnceoacbaeaaGreatProg
set_option linter.unusedSimpArgs false
set_option linter.unusedVariables false
set_option linter.unusedSectionVars false
namespace Go.Proofs.YtpadnceoacbaeaaGreat
theorem apI_sz : ∀ (ws : List Wr) (l : Img) (i : Nat) {y : Img} {j : Nat}, apI l ws i = (y, j, 0) → imgSz y = imgSz l
  | [], l, i, y, j, h => by rw [apI] at h; cases h; rfl
  | w :: ws, l, i, y, j, h => by
    rw [apI] at h
    split at h
    · rename_i q
      exact absurd (congrArg (fun x => x.2.2) h) q
    · rename_i q
      rw [apI_sz ws _ _ h]
      have := ap1_sz (k := l) (w := w) (by simpa using q)
      have e : ∀ x : Img, imgSz x = (x.map List.length).map (fun n : Nat => (n : Int)) := fun x => by rw [imgSz, List.map_map]; rfl
      rw [e, e, this]
theorem apC_0 {x : Img} {c : Cyc} {y : Img} (h : apC x c = (y, 0)) : sizesE (imgSz x) = 0 ∧ chkC c (imgSz x) = 0 ∧ imgSz y = imgSz x := by
  unfold apC at h
  split at h
  · rename_i q; exact absurd (congrArg Prod.snd h) q
  · rename_i q
    split at h
    · rename_i q2; exact absurd (congrArg Prod.snd h) q2
    · rename_i q2
      have q' : sizesE (imgSz x) = 0 := by simpa using q
      refine ⟨q', by simpa using q2, ?_⟩
      rw [apR, if_neg q] at h
      obtain ⟨h1, h2⟩ := Prod.mk.inj h
      refine apI_sz c.wrs x 0 (j := (apI x c.wrs 0).2.1) ?_
      generalize apI x c.wrs 0 = z at h1 h2 ⊢
      obtain ⟨a, b, d⟩ := z
      dsimp only at h1 h2 ⊢
      rw [h1, h2]
theorem fits_most {s : List Int} (hs : sizesE s = 0) {w : Wr} (h : fitsS s w = 0) : fitsS mostS w = 0 := by
  obtain ⟨s1, s2, s3⟩ := sizesE_0 hs
  unfold fitsS at h
  split at h
  · cases h
  · rename_i h1
    split at h
    · cases h
    · rename_i h2
      split at h
      · cases h
      · rename_i h3
        obtain ⟨n, hn⟩ := Int.eq_ofNat_of_zero_le (show 0 ≤ w.volume by omega)
        have hns : n < s.length := by omega
        rw [hn, Int.toNat_natCast, getD_at hns] at h3
        have := s3 _ (List.getElem_mem hns)
        have hm : mostS.length = 8 := rfl
        have hg : mostS.getD n 0 = 4096 := by
          rw [getD_at (show n < mostS.length by omega)]
          exact List.getElem_replicate ..
        rw [fitsS, hm, if_neg (by omega), if_neg h2, hn, Int.toNat_natCast, hg, if_neg (by omega)]
theorem chkW_most {f g : Wr → Nat} (h : ∀ w, f w = 0 → g w = 0) : ∀ (ws : List Wr) (o : Option Wr), chkW f o ws = 0 → chkW g o ws = 0
  | [], o, _ => by cases o <;> rfl
  | w :: ws, none, q => by
    rw [chkW] at q ⊢
    split at q
    · rename_i q1; exact absurd q q1
    · rename_i q1
      rw [if_neg (by simpa using h w (by simpa using q1))]
      exact chkW_most h ws _ q
  | w :: ws, some x, q => by
    rw [chkW] at q ⊢
    split at q
    · rename_i q1; exact absurd q q1
    · rename_i q1
      rw [if_neg (by simpa using h w (by simpa using q1))]
      split at q
      · cases q
      · rename_i q2
        rw [if_neg q2]
        exact chkW_most h ws _ q
theorem chk_most {s : List Int} {c : Cyc} (hs : sizesE s = 0) (h : chkC c s = 0) : chkC c mostS = 0 := by
  rw [chkC, if_neg (by simpa using hs)] at h
  rw [chkC, if_neg (by simpa using mostS_ok)]
  split at h
  · cases h
  · rename_i q1
    rw [if_neg q1]
    split at h
    · cases h
    · rename_i q2
      rw [if_neg q2]
      split at h
      · rename_i q3; exact absurd h q3
      · rename_i q3
        rw [if_neg q3]
        rw [wsE, if_neg (by simpa using hs)] at h
        rw [wsE, if_neg (by simpa using mostS_ok)]
        exact chkW_most (fun w => fits_most hs) _ _ h
theorem hasI_lostU (n : Int) (app : List Int) (lost : List Bool) (t : Nat) : ∀ i, hasI (lostU n app lost i) t = true ↔ t < i ∧ app[t]? = some n ∧ lost[t]? = some false
  | 0 => by simp [lostU, hasI]
  | i + 1 => by
    have ih := hasI_lostU n app lost t i
    rw [lostU]
    split
    · rename_i q
      rw [hasI, List.contains_iff_mem, List.mem_append, List.mem_singleton, ← List.contains_iff_mem, ← hasI, ih]
      constructor
      · rintro (⟨h1, h2⟩ | h)
        · exact ⟨by omega, h2⟩
        · obtain rfl : t = i := by omega
          exact ⟨by omega, q⟩
      · rintro ⟨h1, h2⟩
        by_cases e : t = i
        · exact .inr (by rw [e])
        · exact .inl ⟨by omega, h2⟩
    · rename_i q
      rw [ih]
      constructor
      · rintro ⟨h1, h2⟩; exact ⟨by omega, h2⟩
      · rintro ⟨h1, h2⟩
        by_cases e : t = i
        · subst e; exact absurd h2 q
        · exact ⟨by omega, h2⟩
theorem gapB_no {f : Fan} (h0 : ∀ (t : Nat) (x : Int), f.app[t]? = some x → 0 ≤ x) (h : gapB f.lost = false) : leastF f < 0 := by
  apply Classical.byContradiction
  intro q
  obtain ⟨t, h1, h2⟩ := leastI_ex (app := f.app) (lost := f.lost) (by rw [← leastF_eq]; omega)
  have := List.contains_iff_mem.2 (List.mem_iff_getElem?.2 ⟨t, h2⟩)
  rw [gapB] at h
  rw [h] at this; cases this
theorem gapB_yes {l : List Cyc} {f : Fan} (hf : FOk l f) (h : gapB f.lost = true) : 0 ≤ leastF f := by
  obtain ⟨t, ht⟩ := List.mem_iff_getElem?.1 (List.contains_iff_mem.1 h)
  have hlt : t < f.app.length := by have := hf.ll; have := (List.getElem?_eq_some_iff.1 ht).1; omega
  exact (leastI_le hf.n0 (List.getElem?_eq_getElem hlt) ht).1
/-- The cycle that is pushed. -/
def pcy (N : Nat) (L : List Wr) : Cyc := ⟨(N : Int), (N : Int) + 1, 0, [], L⟩
theorem Cys.push {l : List Cyc} (h : Cys l) {L : List Wr} (hck : chkC (pcy l.length L) mostS = 0) (h1 : L.length ≤ 40000) (h2 : ∀ w ∈ L, w.data.length ≤ 4096) : Cys (l ++ [pcy l.length L]) := by
  have hm : ∀ c ∈ l ++ [pcy l.length L], c ∈ l ∨ c = pcy l.length L := fun c hc => by
    rcases List.mem_append.1 hc with q | q
    · exact .inl q
    · exact .inr (by simpa using q)
  refine ⟨fun i hi => ?_, fun i hi => ?_, fun c hc => ?_, fun c hc => ?_⟩
  · rw [List.getElem_append]
    split
    · exact h.ba i _
    · rename_i q
      rw [List.length_append, List.length_singleton] at hi
      obtain rfl : i = l.length := by omega
      simp [pcy]
  · rw [List.getElem_append]
    split
    · exact h.nu i _
    · rename_i q
      rw [List.length_append, List.length_singleton] at hi
      obtain rfl : i = l.length := by omega
      simp [pcy]
  · rcases hm c hc with q | rfl
    · exact h.ck c q
    · exact hck
  · rcases hm c hc with q | rfl
    · exact h.sm c q
    · exact ⟨by show L.length ≤ _; omega, fun w hw => by have := h2 w hw; omega, by show ([] : List Int).length ≤ _; simp⟩
theorem markU_len' (n : Int) (app : List Int) (lost : List Bool) : ∀ i, (markU n app lost i).length = lost.length
  | 0 => rfl
  | i + 1 => by
    rw [markU]
    split
    · rw [List.length_set]; exact markU_len' n app lost i
    · exact markU_len' n app lost i
structure PFlag (f g : Fan) (N : Nat) (lst : List Int) (t : Nat) : Prop where
  lt : t < g.lost.length
  le : ∀ (h : t < f.lost.length) (h2 : t < f.app.length), f.lost[t] = false → (g.lost[t] && !f.lost[t]) = decide (g.limit < (N : Int) + 1 - f.app[t])
  hs : ∀ (h : t < f.lost.length), (g.lost[t] && !f.lost[t]) = hasI lst t
variable {sz : List Int} {k : Nat} {R : Rn}
theorem ROk.pushOk (h : ROk sz k R) {L : List Wr} (h1 : L.length ≤ 40000) (h2 : ∀ w ∈ L, w.data.length ≤ 4096) {x y : Img} (hx : R.src[R.cyc.length]? = some x) (hy : apC x (pcy R.cyc.length L) = (y, 0)) (h0 : 0 ≤ leastF R.f) (hk : k + 1 ≤ 40) :
    ∃ g lst, pushF R.f (pcy R.cyc.length L) = .ok (g, lst) ∧ g.lost.length = R.f.lost.length ∧ g.app = R.f.app ∧ lst.length ≤ 4 ∧ (∀ t, t < R.f.app.length → PFlag R.f g R.cyc.length lst t) ∧ ROk sz (k + 1) ⟨g, R.cyc ++ [pcy R.cyc.length L], R.src ++ [y], R.tgt, R.good⟩ := by
  obtain ⟨s1, s2, s3⟩ := apC_0 hy
  have hck := chk_most s1 s2
  have hcy := h.cy.push hck h1 h2
  have hle := h.fo.le
  have hll := h.fo.ll
  have ha4 := h.fo.a4
  have hkl := h.fo.kl
  obtain ⟨m, hm⟩ := Int.eq_ofNat_of_zero_le h0
  have hkp : R.f.kept = R.cyc.drop m := by rw [h.fo.kp, keptK, if_neg (by omega), hm]; rfl
  have hkpl : R.f.kept.length = R.cyc.length - m := by rw [hkp, List.length_drop]
  have hdr : R.f.kept ++ [pcy R.cyc.length L] = (R.cyc ++ [pcy R.cyc.length L]).drop m := by rw [hkp, List.drop_append_of_le_length (by omega)]
  have hpf : pushF R.f (pcy R.cyc.length L) = .ok (evict ⟨R.f.limit, R.f.kept ++ [pcy R.cyc.length L], R.f.app, R.f.lost⟩) := by
    rw [pushF, if_neg (by simp [h.chk]), if_neg (by omega), if_neg (by simp [hck]), if_neg]
    rw [h.fo.new h.cy h0]; exact fun q => q rfl
  have hap : ∀ (t : Nat) (x : Int), R.f.app[t]? = some x → 0 ≤ x ∧ x ≤ ((R.cyc ++ [pcy R.cyc.length L]).length : Int) := fun t x q => by
    have := h.fo.ap t x q
    rw [List.length_append, List.length_singleton]; omega
  have fin : ∀ g : Fan, FOk (R.cyc ++ [pcy R.cyc.length L]) g → g.app = R.f.app → (∀ t, g.lost[t]? = some false → R.f.lost[t]? = some false) → ROk sz (k + 1) ⟨g, R.cyc ++ [pcy R.cyc.length L], R.src ++ [y], R.tgt, R.good⟩ := fun g hg e1 e2 => by
    refine ⟨h.good, hcy, by have := h.ck; show (R.cyc ++ _).length ≤ _; rw [List.length_append, List.length_singleton]; omega, hk, hg, by show R.tgt.length = g.app.length; rw [e1]; exact h.tl, by show (R.src ++ _).length = (R.cyc ++ _).length + 1; rw [List.length_append, List.length_append, h.sl]; rfl, h.sE, fun z hz => ?_, h.ts, fun i c z q1 q2 => ?_, fun t n q1 q2 => ?_⟩
    · rcases List.mem_append.1 hz with q | q
      · exact h.ss z q
      · obtain rfl : z = y := by simpa using q
        rw [s3]; exact h.ss x (List.mem_of_getElem? hx)
    · have q1' : (R.cyc ++ [pcy R.cyc.length L])[i]? = some c := q1
      have q2' : (R.src ++ [y])[i]? = some z := q2
      have hsl := h.sl
      by_cases e : i < R.cyc.length
      · rw [List.getElem?_append_left e] at q1'
        rw [List.getElem?_append_left (by omega)] at q2'
        obtain ⟨u, u1, u2⟩ := h.ap i c z q1' q2'
        exact ⟨u, by show (R.src ++ [y])[i + 1]? = _; rw [List.getElem?_append_left (by omega)]; exact u1, u2⟩
      · have hi := (List.getElem?_eq_some_iff.1 q1').1
        rw [List.length_append, List.length_singleton] at hi
        obtain rfl : i = R.cyc.length := by omega
        rw [List.getElem?_append_right (Nat.le_refl _), Nat.sub_self] at q1'
        obtain rfl : pcy R.cyc.length L = c := Option.some.inj q1'
        rw [List.getElem?_append_left (by omega), hx] at q2'
        obtain rfl : x = z := Option.some.inj q2'
        refine ⟨y, ?_, hy⟩
        show (R.src ++ [y])[R.cyc.length + 1]? = _
        rw [List.getElem?_append_right (by omega), hsl, Nat.sub_self]; rfl
    · have q2' : R.f.app[t]? = some n := by rw [← e1]; exact q2
      have := h.tg t n (e2 t q1) q2'
      have hn := h.fo.ap t n q2'
      rw [this]
      show _ = (R.src ++ [y])[n.toNat]?
      rw [List.getElem?_append_left (by have := h.sl; omega)]
  by_cases hev : R.f.limit < (R.f.kept.length : Int) + 1
  case neg =>
    have hev' : evict ⟨R.f.limit, R.f.kept ++ [pcy R.cyc.length L], R.f.app, R.f.lost⟩ = (⟨R.f.limit, R.f.kept ++ [pcy R.cyc.length L], R.f.app, R.f.lost⟩, []) := by
      rw [evict, if_neg]
      show ¬ R.f.limit < ((R.f.kept ++ [_]).length : Int)
      rw [List.length_append, List.length_singleton]; omega
    refine ⟨⟨R.f.limit, R.f.kept ++ [pcy R.cyc.length L], R.f.app, R.f.lost⟩, [], by rw [hpf, hev'], rfl, rfl, Nat.zero_le _, fun t ht => ⟨by show t < R.f.lost.length; omega, fun q1 q2 q3 => ?_, fun q1 => ?_⟩, fin _ ⟨h.fo.a1, h.fo.a4, h.fo.ll, h.fo.l1, h.fo.l4, hap, ?_, ?_⟩ rfl fun t q => q⟩
    · have := leastI_le h.fo.n0 (List.getElem?_eq_getElem q2) (by rw [List.getElem?_eq_getElem q1, q3])
      rw [← leastF_eq] at this
      show (R.f.lost[t] && !R.f.lost[t]) = decide (R.f.limit < _)
      rw [decide_eq_false (by omega), q3]; rfl
    · show (R.f.lost[t] && !R.f.lost[t]) = false
      cases R.f.lost[t] <;> rfl
    · show R.f.kept ++ [pcy R.cyc.length L] = keptK (leastF R.f) _
      rw [hdr, keptK, if_neg (by omega), hm]; rfl
    · show ((R.f.kept ++ [_]).length : Int) ≤ R.f.limit
      rw [List.length_append, List.length_singleton]; omega
  have hev' : evict ⟨R.f.limit, R.f.kept ++ [pcy R.cyc.length L], R.f.app, R.f.lost⟩ = (tidyF ⟨R.f.limit, R.f.kept ++ [pcy R.cyc.length L], R.f.app, markU (leastF R.f) R.f.app R.f.lost R.f.app.length⟩, lostU (leastF R.f) R.f.app R.f.lost R.f.app.length) := by
    rw [evict, if_pos]
    · rfl
    · show R.f.limit < ((R.f.kept ++ [_]).length : Int)
      rw [List.length_append, List.length_singleton]; omega
  have hmk : ∀ t (ht : t < R.f.app.length) (h : t < (markU (leastF R.f) R.f.app R.f.lost R.f.app.length).length), (markU (leastF R.f) R.f.app R.f.lost R.f.app.length)[t] = (R.f.lost[t]'(by omega) || decide (R.f.app[t] = leastF R.f)) := fun t ht h => by
    have := markU_lt (n := leastF R.f) (app := R.f.app) (lost := R.f.lost) R.f.app.length t ht
    rw [List.getElem?_eq_getElem h, List.getElem?_eq_getElem (l := R.f.lost) (by omega)] at this
    rw [Option.some.inj this]
    congr 1
    rw [List.getElem?_eq_getElem ht]
    simp
  have hml := markU_len' (leastF R.f) R.f.app R.f.lost R.f.app.length
  have hnow : ∀ t (ht : t < R.f.app.length) (h : t < (markU (leastF R.f) R.f.app R.f.lost R.f.app.length).length), ((markU (leastF R.f) R.f.app R.f.lost R.f.app.length)[t] && !(R.f.lost[t]'(by omega))) = (!(R.f.lost[t]'(by omega)) && decide (R.f.app[t] = leastF R.f)) := fun t ht h => by
    rw [hmk t ht h]
    cases R.f.lost[t] <;> simp
  have hlf : ∀ t, (markU (leastF R.f) R.f.app R.f.lost R.f.app.length)[t]? = some false → R.f.lost[t]? = some false ∧ ∀ x, R.f.app[t]? = some x → x ≠ leastF R.f := fun t q => by
    have ht := (List.getElem?_eq_some_iff.1 q).1
    have ht2 : t < R.f.app.length := by omega
    rw [List.getElem?_eq_getElem ht, hmk t ht2 ht] at q
    have q := Option.some.inj q
    rw [Bool.or_eq_false_iff, decide_eq_false_iff_not] at q
    refine ⟨by rw [List.getElem?_eq_getElem (by omega), q.1], fun x hx => ?_⟩
    rw [List.getElem?_eq_getElem ht2] at hx
    rw [← Option.some.inj hx]; exact q.2
  refine ⟨tidyF ⟨R.f.limit, R.f.kept ++ [pcy R.cyc.length L], R.f.app, markU (leastF R.f) R.f.app R.f.lost R.f.app.length⟩, lostU (leastF R.f) R.f.app R.f.lost R.f.app.length, by rw [hpf, hev'], hml, rfl, by have := lostU_le (n := leastF R.f) (app := R.f.app) (lost := R.f.lost) R.f.app.length; omega, fun t ht => ⟨by show t < (markU _ _ _ _).length; omega, fun q1 q2 q3 => ?_, fun q1 => ?_⟩, fin _ ⟨h.fo.a1, h.fo.a4, by show (markU _ _ _ _).length = R.f.app.length; omega, h.fo.l1, h.fo.l4, hap, ?_, evict_len h.chk hev⟩ rfl fun t q => (hlf t q).1⟩
  · refine (hnow t ht (by omega)).trans ?_
    have := leastI_le h.fo.n0 (List.getElem?_eq_getElem q2) (by rw [List.getElem?_eq_getElem q1, q3])
    rw [← leastF_eq] at this
    show _ = decide (R.f.limit < _)
    rw [q3]
    have : (R.f.app[t] = leastF R.f) ↔ (R.f.limit < (R.cyc.length : Int) + 1 - R.f.app[t]) := by omega
    simp [this]
  · refine (hnow t ht (by omega)).trans ?_
    have hh := hasI_lostU (leastF R.f) R.f.app R.f.lost t R.f.app.length
    rw [List.getElem?_eq_getElem ht, List.getElem?_eq_getElem q1] at hh
    cases hb : hasI (lostU (leastF R.f) R.f.app R.f.lost R.f.app.length) t
    · rw [hb] at hh
      rw [Bool.eq_false_iff]
      intro q
      rw [Bool.and_eq_true, Bool.not_eq_true', decide_eq_true_eq] at q
      exact absurd (hh.2 ⟨ht, by rw [q.2], by rw [q.1]⟩) (by simp)
    · obtain ⟨-, g1, g2⟩ := hh.1 hb
      rw [Option.some.inj g1, Option.some.inj g2]; simp
  · show tidyK (leastI R.f.app (markU (leastF R.f) R.f.app R.f.lost R.f.app.length)) (R.f.kept ++ [pcy R.cyc.length L]) = keptK (leastI R.f.app (markU (leastF R.f) R.f.app R.f.lost R.f.app.length)) _
    by_cases q : leastI R.f.app (markU (leastF R.f) R.f.app R.f.lost R.f.app.length) < 0
    · rw [tidyK_neg q, keptK, if_pos q]
    · obtain ⟨t, e1, e2⟩ := leastI_ex (show 0 ≤ leastI R.f.app (markU (leastF R.f) R.f.app R.f.lost R.f.app.length) by omega)
      obtain ⟨e3, -⟩ := hlf t e2
      have := leastI_le h.fo.n0 e1 e3
      rw [← leastF_eq] at this
      obtain ⟨n, hn⟩ := Int.eq_ofNat_of_zero_le (show 0 ≤ leastI R.f.app (markU (leastF R.f) R.f.app R.f.lost R.f.app.length) by omega)
      rw [keptK, if_neg q, hn, hdr]
      exact tidyK_drop hcy (n - m) m (by omega)
theorem ROk.pushNo (h : ROk sz k R) (h0 : leastF R.f < 0) (c : Cyc) : pushF R.f c = .error 17 := by
  rw [pushF, if_neg (by simp [h.chk]), if_pos h0]
end Go.Proofs.YtpadnceoacbaeaaGreat
namespace Go.Proofs.YtpadnceoacbaeaaGreat
open Go.Proofs
theorem set_selfN {l : List Nat} {k v : Nat} (h : l[k]? = some v) : l.set k v = l := by
  obtain ⟨h1, h2⟩ := List.getElem?_eq_some_iff.1 h
  rw [← h2, List.set_getElem_self]
/-- What a step of a run leaves. -/
def StTo (sz : List Int) (k b bT kc ks : Nat) (H : Hp) (V : List Nat) : CV → Hp → List Nat → Prop := fun _ H'' V'' => ∃ R' vc vs, ROk sz k R' ∧ H'' = (H.set b (some (rnB bT kc vc ks vs R'))).set bT (some (R'.tgt.map imV)) ∧ V'' = (V.set kc vc).set ks vs
theorem fin_run3 {H H' : Hp} {V V' W : List Nat} {b bT : Nat} {c d : List CV} {r : CV} {P : CV → Hp → List Nat → Prop} (hc : okL H.length V.length c) (hd : okL H.length V.length d) (hokH : ∀ (b : Nat) cs, H[b]? = some (some cs) → okL H.length V.length cs) (h2 : H'.take H.length = (H.set b (some c)).set bT (some d)) (h3 : V'.take V.length = W) (hp : P .any ((H.set b (some c)).set bT (some d)) W) : Fin H.length V.length P r H' V' := by
  refine ⟨.any, (H.set b (some c)).set bT (some d), W, ?_, hp⟩
  refine Gst.trans (T' := [(0, .any)]) (H' := H') (V' := V') (Gst.forget fun p hp => ?_) ?_
  · obtain rfl : p = _ := by simpa using hp
    exact .any _
  · have := Gst.cut (n := 1) (nb := H.length) (nv := V.length) (T := [(0, .any)]) (H := H') (V := V') H.length V.length (Nat.le_refl _) (Nat.le_refl _) (fun p hp => by simp at hp; subst hp; rw [okV]; trivial) (by
      rw [h2]
      have hl : (H.set b (some c)).length = H.length := List.length_set ..
      intro b' cs hb'
      have := hset_ok (H := H.set b (some c)) (V := V) (b := bT) (c := d) (by rw [hl]; exact hd) (by rw [hl]; exact hset_ok hc hokH) b' cs hb'
      rwa [hl] at this)
    rwa [h2, h3] at this
set_option maxRecDepth 8000 in
set_option maxHeartbeats 1600000 in
theorem push_cc (H : Hp) (V : List Nat) (b bT kc vc ks vs : Nat) (R : Rn) (ws : List Wr) (sz : List Int) (k : Nat) (hr : RunAt b bT kc vc ks vs R H V) (hR : ROk sz k R) (hk : k + 1 ≤ 40) (hn : ws.length ≤ 1000000) (hw : WrS ws) : CC Tryz.prog 61 [.ptr b 0, .sl .sh 3 (ws.map wrC)] H V (StTo sz (k + 1) b bT kc ks H V) := by
  refine CC.of_swp Tryz.func61 rfl (by kernel_rfl) (by rw [Tryz.ntmps61]; exact len_le _ _ rfl) fun hok hokH => ?_
  clear hok
  obtain ⟨l1, l2, l3, l4⟩ := hr.lt
  have hbx0 := hr.box
  have htg := hr.tg
  have hbb := hr.hb
  have hN := hR.N
  have hsl := hR.sl
  have hT0 : ∀ c : List CV, (H.set b (some c)).set bT (some (R.tgt.map imV)) = H.set b (some c) := fun c => by
    refine set_self' ?_
    rw [List.getElem?_set_ne hbb]; exact htg
  have hV0 : (V.set kc vc).set ks vs = V := by
    rw [set_selfN hr.vk, set_selfN hr.vS]
  have hB0 : H.set b (some (rnB bT kc vc ks vs R)) = H := set_self' hbx0
  have hsame : ∀ (H' : Hp) (V' : List Nat), H'.take H.length = H → V'.take V.length = V → Fin H.length V.length (StTo sz (k + 1) b bT kc ks H V) (.tup []) H' V' := fun H' V' h1 h2 =>
    fin_run3 (okL_rnB l2 l3 l4) (okL_imgs _ _ R.tgt) hokH (h1.trans (by rw [hT0, hB0])) h2 ⟨R, vc, vs, hR.up (Nat.le_succ _) hk, rfl, hV0.symm⟩
  have hsame' : ∀ (H' : Hp) (V' : List Nat), H'.take H.length = H.set b (some (rnB bT kc vc ks vs R)) → V'.take V.length = V → Fin H.length V.length (StTo sz (k + 1) b bT kc ks H V) (.tup []) H' V' := fun H' V' h1 h2 => hsame H' V' (h1.trans hB0) h2
  refine SWp.seq (Wp.s ?_)
  simp -implicitDefEqProofs [go_sem, args0, hbx_of hr.box, rnC]
  refine SWp.seq (Wp.s ?_)
  simp -implicitDefEqProofs [go_sem]
  refine CC.mono (Fold_cc _ _ ws hn hw) ?_
  rintro _ _ _ ⟨L, e, hL, hLw, rfl, rfl, rfl⟩
  simp -implicitDefEqProofs [go_sem]
  have w1 : IntKind.i64.wrap ((R.cyc.length : Int) + 1) = (R.cyc.length : Int) + 1 := IntWalk.i64_in _ ⟨by omega, by omega⟩
  refine SWp.join (α := Unit) (fun _ => ([(0, .ptr b 0), (4, ci R.cyc.length), (6, er e), (7, .ptr H.length 0)], H ++ [some (cycC (pcy R.cyc.length L))], V)) (fun _ => True) ?_ ?_
  · refine Wp.s ?_
    simp -implicitDefEqProofs [go_sem, w1]
    refine Sh.weak (b := H.length) (ds := cycC (pcy R.cyc.length L)) (at_len _ _) (.cons (.refl _) (.cons (.refl _) (.cons (.refl _) (.cons (.nil 1 (by decide)) (.cons (.refl _) .nil))))) (by simp [CV.isObj]) (Sh.forget (by simp [go_sem]) (by simp) rfl)
  rintro _ -
  dsimp only
  have hX : ∀ (Z : Hp) (K : List CV → Prop), hbx (H ++ Z) b K = K [ci R.f.limit, .sl .sh 5 (R.f.kept.map cycC), .sl .sh 1 (R.f.app.map ic), .sl .sh 1 (R.f.lost.map boE), .sl (.own kc vc) 5 (R.cyc.map cycC), .sl (.own ks vs) 1 (R.src.map iE), .bsl bT 0 R.tgt.length 1, cbo R.good] := fun Z K => hbx_of (by rw [List.getElem?_append_left l1]; exact hbx0) K
  have hNs : R.cyc.length < R.src.length := by omega
  have hxs : R.src[R.cyc.length]? = some R.src[R.cyc.length] := List.getElem?_eq_getElem hNs
  have hil : R.src[R.cyc.length].length ≤ 8 := by
    have q1 := congrArg List.length (hR.ss _ (List.getElem_mem hNs))
    have q2 := (sizesE_0 hR.sE).2.1
    rw [imgSz_len] at q1; omega
  refine SWp.seq (SWp.drawnT [] [] (.s 0 .pl <| .s 1 .pl <| .s 2 .pl <| .s 3 .pl <| .s 4 .pl <| .s 5 .pl <| .s 6 .pl <| .s 7 .pl <| .s 8 .pl <| .s 9 .pl <| .s 10 .pl <| .s 11 .pl <| .s 12 .pl <| .s 13 .pl <| .n) (by kernel_rfl) (by kernel_rfl) ?_)
  simp -implicitDefEqProofs [go_sem, hX, hNs]
  refine CC.mono (cyApply_cc _ _ R.src[R.cyc.length] (pcy R.cyc.length L) (by omega) (by show L.length ≤ _; omega) (fun w hw => by have := hLw w hw; omega) (by show ([] : List Int).length ≤ _; simp)) ?_
  rintro _ _ _ ⟨rfl, rfl, rfl⟩
  simp -implicitDefEqProofs [go_sem, apcV]
  generalize hap : apC R.src[R.cyc.length] (pcy R.cyc.length L) = y
  obtain ⟨im, e2⟩ := y
  dsimp only
  refine SWp.seq (SWp.seq (Wp.s ?_))
  by_cases he : e = 0
  case neg =>
    have he' : ¬ (e : Int) = 0 := by omega
    simp -implicitDefEqProofs [go_sem, he, he']
    refine Wp.s ?_
    simp -implicitDefEqProofs [go_sem]
    exact hsame _ _ (by simp) (by simp)
  by_cases he2 : e2 = 0
  case neg =>
    have he' : ¬ (e2 : Int) = 0 := by omega
    simp -implicitDefEqProofs [go_sem, he, he2, he']
    refine Wp.s ?_
    simp -implicitDefEqProofs [go_sem]
    exact hsame _ _ (by simp) (by simp)
  subst he he2
  simp -implicitDefEqProofs [go_sem]
  refine Wp.s ?_
  simp -implicitDefEqProofs [go_sem]
  have ha4 := hR.fo.a4
  have hll := hR.fo.ll
  refine SWp.seq (Wp.s ?_)
  simp -implicitDefEqProofs [go_sem, hX]
  refine CC.mono (containsBo_cc _ _ .sh R.f.lost (by omega)) ?_
  rintro _ _ _ ⟨rfl, rfl, rfl⟩
  simp -implicitDefEqProofs [go_sem]
  refine SWp.seq (SWp.drawnT [] [11] (.s 0 .pl <| .s 1 .pl <| .s 2 .pl <| .s 3 .pl <| .s 4 .pl <| .c 5 <| .s 6 .pl <| .s 7 .pl <| .s 8 .pl <| .s 9 .pl <| .s 10 .pl <| .s 11 .st <| .s 12 .pl <| .s 13 .pl <| .n) (by kernel_rfl) (by kernel_rfl) ?_)
  simp -implicitDefEqProofs [go_sem, hX]
  have hcs : CySm (pcy R.cyc.length L) := ⟨by show L.length ≤ _; omega, fun w hw => by have := hLw w hw; omega, by show ([] : List Int).length ≤ _; simp⟩
  refine ⟨_, fun H V => show CC Tryz.prog 11 [.agg [ci R.f.limit, .sl .sh 5 (R.f.kept.map cycC), .sl .sh 1 (R.f.app.map ic), .sl .sh 1 (R.f.lost.map boE)], .agg (cycC (pcy R.cyc.length L))] H V _ from Push_cc H V R.f (pcy R.cyc.length L) hR.sm hcs, ?_⟩
  by_cases hg : gapB R.f.lost = false
  · have hl0 := gapB_no hR.fo.n0 hg
    rw [hR.pushNo hl0]
    simp -implicitDefEqProofs [go_sem, dvP]
    refine SWp.seq (SWp.seq (Wp.s ?_))
    have hgo := hR.good
    simp -implicitDefEqProofs [go_sem, hg]
    refine Wp.s ?_
    simp -implicitDefEqProofs [go_sem, hX, hgo]
    refine hsame' _ _ ?_ (by simp)
    rw [List.set_append_left _ _ l1, List.take_append_of_le_length (by simp), List.take_of_length_le (by simp)]
    simp [rnB, rnC, hgo]
  have hg' : gapB R.f.lost = true := by simpa using hg
  obtain ⟨g, lst, p1, p2, p3, p4, p5, p6⟩ := hR.pushOk hL hLw hxs hap (gapB_yes hR.fo hg') hk
  rw [p1]
  simp -implicitDefEqProofs [go_sem, dvP]
  refine SWp.seq (SWp.seq (Wp.s ?_))
  simp -implicitDefEqProofs [go_sem, hg']
  refine Wp.s ?_
  simp -implicitDefEqProofs [go_sem]
  refine SWp.seq (SWp.seq (SWp.drawnT [] [] (.s 0 .pl <| .s 1 .pl <| .s 2 .pl <| .s 3 .pl <| .s 4 .pl <| .s 5 .pl <| .s 6 .pl <| .s 7 .pl <| .s 8 .pl <| .s 9 .pl <| .s 10 .pl <| .s 11 .pl <| .s 12 .pl <| .s 13 .pl <| .s 14 .pl <| .s 15 .pl <| .s 16 .pl <| .s 17 .pl <| .s 18 .pl <| .s 19 .pl <| .s 20 .pl <| .s 21 .pl <| .s 22 .pl <| .s 23 .pl <| .s 24 .pl <| .s 25 .pl <| .n) (by kernel_rfl) (by kernel_rfl) ?_))
  simp -implicitDefEqProofs [go_sem, hX, p2, p3]
  refine Wp.s ?_
  simp -implicitDefEqProofs [go_sem]
  refine SWp.seq (SWp.drawnT [] [18, 21] (.s 0 .pl <| .s 1 .pl <| .s 2 .pl <| .s 3 .pl <| .s 4 .pl <| .s 5 .pl <| .s 6 .pl <| .s 7 .pl <| .s 9 .pl <| .s 10 .pl <| .s 11 .pl <| .s 12 .pl <| .s 13 .pl <| .s 14 .pl <| .s 8 .pl <| .s 15 .pl <| .s 16 .pl <| .s 17 .pl <| .s 18 .st <| .s 19 .pl <| .s 20 .pl <| .s 21 .st <| .n) (by kernel_rfl) (by kernel_rfl) ?_)
  simp -implicitDefEqProofs [go_sem, hX]
  have hX2 : ∀ (Z : Hp) (c : List CV) (K : List CV → Prop), hbx ((H ++ Z).set b (some c)) b K = K c := fun Z c K => hbx_of (List.getElem?_set_self (by simp; omega)) K
  refine ⟨hr.vk, by omega, by rw [List.getElem?_set_ne hr.hk]; exact hr.vS, by omega, ?_⟩
  simp -implicitDefEqProofs [go_sem, hX2]
  obtain ⟨R1, hR1⟩ : ∃ R1 : Rn, R1 = ⟨R.f, R.cyc ++ [pcy R.cyc.length L], R.src ++ [im], R.tgt, R.good⟩ := ⟨_, rfl⟩
  have hcells : [ci R.f.limit, CV.sl Tk.sh 5 (List.map cycC R.f.kept), CV.sl Tk.sh 1 (List.map ic R.f.app), CV.sl Tk.sh 1 (List.map boE R.f.lost), CV.sl (Tk.own kc (vc + 1)) 5 (List.map cycC R.cyc ++ [cycC (pcy R.cyc.length L)]), CV.sl (Tk.own ks (vs + 1)) 1 (List.map iE R.src ++ [[CV.sl Tk.sh 1 (List.map imE im)]]), CV.bsl bT 0 R.tgt.length 1, cbo R.good] = rnC R1 (.sl (.own kc (vc + 1)) 5 (R1.cyc.map cycC)) (.sl (.own ks (vs + 1)) 1 (R1.src.map iE)) (.bsl bT 0 R1.tgt.length 1) := by
    rw [hR1]; simp [rnC, iE]
  rw [hcells]
  generalize hG : List.set (H ++ [some (cycC (pcy R.cyc.length L)), some (fanC g)]) b (some (rnC R1 (.sl (.own kc (vc + 1)) 5 (R1.cyc.map cycC)) (.sl (.own ks (vs + 1)) 1 (R1.src.map iE)) (.bsl bT 0 R1.tgt.length 1))) = G
  generalize hW : (V.set kc (vc + 1)).set ks (vs + 1) = W
  have hbG : b < (H ++ [some (cycC (pcy R.cyc.length L)), some (fanC g)]).length := by simp; omega
  have hGb : G[b]? = some (some (rnC R1 (.sl (.own kc (vc + 1)) 5 (R1.cyc.map cycC)) (.sl (.own ks (vs + 1)) 1 (R1.src.map iE)) (.bsl bT 0 R1.tgt.length 1))) := by rw [← hG]; exact List.getElem?_set_self hbG
  have hGf : G[H.length + 1]? = some (some (fanC g)) := by rw [← hG, List.getElem?_set_ne (by omega)]; exact hget _ _ 1
  have hGl : G.length = H.length + 2 := by rw [← hG]; simp
  have hGt : G.take H.length = H.set b (some (rnC R1 (.sl (.own kc (vc + 1)) 5 (R1.cyc.map cycC)) (.sl (.own ks (vs + 1)) 1 (R1.src.map iE)) (.bsl bT 0 R1.tgt.length 1))) := by
    rw [← hG, List.set_append_left _ _ l1, List.take_append_of_le_length (by simp), List.take_of_length_le (by simp)]
  have hWl : W.length = V.length := by rw [← hW]; simp
  have hf1 : R1.f = R.f := by rw [hR1]
  have ht1 : R1.tgt = R.tgt := by rw [hR1]
  have hc1 : (R1.cyc.length : Int) = (R.cyc.length : Int) + 1 := by rw [hR1]; simp
  have hr1 : RunAt b bT kc (vc + 1) ks (vs + 1) R1 G W := ⟨hGb, by rw [ht1, ← hG, List.getElem?_set_ne hbb, List.getElem?_append_left l2]; exact htg, by rw [← hW, List.getElem?_set_ne (Ne.symm hr.hk)]; exact List.getElem?_set_self l3, by rw [← hW]; exact List.getElem?_set_self (by simpa using l4), hr.hk, hbb⟩
  have hX3 : ∀ K : List CV → Prop, hbx G b K = K [ci R.f.limit, .sl .sh 5 (R.f.kept.map cycC), .sl .sh 1 (R.f.app.map ic), .sl .sh 1 (R.f.lost.map boE), .sl (.own kc (vc + 1)) 5 (R1.cyc.map cycC), .sl (.own ks (vs + 1)) 1 (R1.src.map iE), .bsl bT 0 R.tgt.length 1, cbo R1.good] := fun K => by
    rw [hbx_of hGb K, rnC, hf1, ht1]
  have hX4 : ∀ K : List CV → Prop, hbx G (H.length + 1) K = K (fanC g) := fun K => hbx_of hGf K
  have htl := hR.tl
  refine SWp.join (α := Unit) (fun _ => ([(0, .ptr b 0), (11, .ptr (H.length + 1) 0)], G, W)) (fun _ => True) ?_ ?_
  · refine SWp.seq (Wp.s ?_)
    simp -implicitDefEqProofs [go_sem, hX3]
    refine SWp.block ?_
    refine SWp.loop (α := Nat) (fun i => ([(0, .ptr b 0), (11, .ptr (H.length + 1) 0), (12, .sl .sh 1 (lst.map ic)), (131, ci R.tgt.length), (132, ci i)], G, W)) (fun i => i ≤ R.tgt.length) (fun i => R.tgt.length - i) 0 (Nat.zero_le _) (Sh.forget (by simp [go_sem]) rfl rfl) ?_
    intro i hi
    dsimp only
    refine SWp.seq (Wp.s ?_)
    simp -implicitDefEqProofs [go_sem]
    refine SWp.seq (Wp.s ?_)
    simp -implicitDefEqProofs [go_sem]
    refine ⟨fun h => ?_, fun h => Sh.forget (by simp [go_sem]) rfl rfl⟩
    have hia : i < R.f.app.length := by omega
    have hil : i < R.f.lost.length := by omega
    obtain ⟨g1, g2, g3⟩ := p5 i hia
    refine SWp.seq (SWp.block (SWp.seq (Wp.s ?_)))
    simp -implicitDefEqProofs [go_sem]
    have hreg := g3 hil
    have hleg := g2 hil hia
    obtain ⟨a1, a2⟩ := hR.fo.ap i _ (List.getElem?_eq_getElem hia)
    have hw1 : IntKind.i64.wrap ((i : Int) + 1) = (i : Int) + 1 := IntWalk.i64_in _ ⟨by omega, by omega⟩
    cases hfl : R.f.lost[i]
    · rw [hfl] at hreg hleg
      have hleg := hleg rfl
      rw [Bool.not_false, Bool.and_true] at hreg hleg
      by_cases hd : g.limit < (R1.cyc.length : Int) - R.f.app[i]
      · have hgl : g.lost[i] = true := by rw [hleg]; exact decide_eq_true (by rw [hc1] at hd; omega)
        have hlst : hasI lst i = true := by rw [← hreg, hgl]
        refine SWp.seq (Wp.s ?_)
        simp -implicitDefEqProofs [go_sem, hX3, hX4, g1, hil, hgl, hfl]
        refine SWp.seq (SWp.drawnT [] [] (.s 0 .pl <| .s 1 .pl <| .s 2 .pl <| .s 3 .pl <| .s 4 .pl <| .s 5 .pl <| .s 6 .pl <| .s 7 .pl <| .s 8 .pl <| .s 9 .pl <| .s 10 .pl <| .s 11 .pl <| .s 12 .pl <| .s 14 .pl <| .s 15 .pl <| .s 13 .pl <| .s 16 .pl <| .s 17 .pl <| .s 18 .pl <| .s 19 .pl <| .s 20 .pl <| .s 21 .pl <| .s 22 .pl <| .s 23 .pl <| .s 24 .pl <| .s 25 .pl <| .n) (by kernel_rfl) (by kernel_rfl) ?_)
        simp -implicitDefEqProofs [go_sem, hX3, hil, hfl, hX4]
        refine CC.mono (behind_cc _ _ b bT kc (vc + 1) ks (vs + 1) R1 i (by rw [hf1]; exact hia) hr1 (by omega) (by simp only [hf1]; exact a1) (by simp only [hf1]; omega)) ?_
        rintro _ _ _ ⟨rfl, rfl, rfl⟩
        simp only [hf1]
        simp -implicitDefEqProofs [go_sem, hd]
        refine CC.mono (containsI_cc _ _ .sh lst (i : Int) (by omega)) ?_
        rintro _ _ _ ⟨rfl, rfl, rfl⟩
        simp -implicitDefEqProofs [go_sem, hlst]
        refine Wp.s ?_
        simp -implicitDefEqProofs [go_sem]
        refine Wp.s ?_
        simp -implicitDefEqProofs [go_sem, hw1]
        exact ⟨i + 1, by omega, by omega, Sh.forget (by simp [go_sem]) rfl rfl⟩
      · have hgl : g.lost[i] = false := by rw [hleg]; exact decide_eq_false (by rw [hc1] at hd; omega)
        have hlst : hasI lst i = false := by rw [← hreg, hgl]
        refine SWp.seq (Wp.s ?_)
        simp -implicitDefEqProofs [go_sem, hX3, hX4, g1, hil, hgl, hfl]
        refine SWp.seq (SWp.drawnT [] [] (.s 0 .pl <| .s 1 .pl <| .s 2 .pl <| .s 3 .pl <| .s 4 .pl <| .s 5 .pl <| .s 6 .pl <| .s 7 .pl <| .s 8 .pl <| .s 9 .pl <| .s 10 .pl <| .s 11 .pl <| .s 12 .pl <| .s 14 .pl <| .s 15 .pl <| .s 13 .pl <| .s 16 .pl <| .s 17 .pl <| .s 18 .pl <| .s 19 .pl <| .s 20 .pl <| .s 21 .pl <| .s 22 .pl <| .s 23 .pl <| .s 24 .pl <| .s 25 .pl <| .n) (by kernel_rfl) (by kernel_rfl) ?_)
        simp -implicitDefEqProofs [go_sem, hX3, hil, hfl, hX4]
        refine CC.mono (behind_cc _ _ b bT kc (vc + 1) ks (vs + 1) R1 i (by rw [hf1]; exact hia) hr1 (by omega) (by simp only [hf1]; exact a1) (by simp only [hf1]; omega)) ?_
        rintro _ _ _ ⟨rfl, rfl, rfl⟩
        simp only [hf1]
        simp -implicitDefEqProofs [go_sem, hd]
        refine CC.mono (containsI_cc _ _ .sh lst (i : Int) (by omega)) ?_
        rintro _ _ _ ⟨rfl, rfl, rfl⟩
        simp -implicitDefEqProofs [go_sem, hlst]
        refine Wp.s ?_
        simp -implicitDefEqProofs [go_sem]
        refine Wp.s ?_
        simp -implicitDefEqProofs [go_sem, hw1]
        exact ⟨i + 1, by omega, by omega, Sh.forget (by simp [go_sem]) rfl rfl⟩
    · rw [hfl, Bool.not_true, Bool.and_false] at hreg
      refine SWp.seq (Wp.s ?_)
      cases hgl : g.lost[i]
      all_goals
        simp -implicitDefEqProofs [go_sem, hX3, hX4, g1, hil, hgl, hfl]
        refine SWp.seq (SWp.drawnT [] [] (.s 0 .pl <| .s 1 .pl <| .s 2 .pl <| .s 3 .pl <| .s 4 .pl <| .s 5 .pl <| .s 6 .pl <| .s 7 .pl <| .s 8 .pl <| .s 9 .pl <| .s 10 .pl <| .s 11 .pl <| .s 12 .pl <| .s 14 .pl <| .s 15 .pl <| .s 13 .pl <| .s 16 .pl <| .s 17 .pl <| .s 18 .pl <| .s 19 .pl <| .s 20 .pl <| .s 21 .pl <| .s 22 .pl <| .s 23 .pl <| .s 24 .pl <| .s 25 .pl <| .n) (by kernel_rfl) (by kernel_rfl) ?_)
        simp -implicitDefEqProofs [go_sem, hX3, hil, hfl, hX4]
        refine CC.mono (containsI_cc _ _ .sh lst (i : Int) (by omega)) ?_
        rintro _ _ _ ⟨rfl, rfl, rfl⟩
        simp -implicitDefEqProofs [go_sem, hreg.symm]
        refine Wp.s ?_
        simp -implicitDefEqProofs [go_sem]
        refine Wp.s ?_
        simp -implicitDefEqProofs [go_sem, hw1]
        exact ⟨i + 1, by omega, by omega, Sh.forget (by simp [go_sem]) rfl rfl⟩
  rintro _ -
  dsimp only
  refine Wp.s ?_
  simp -implicitDefEqProofs [go_sem, hX3, hX4]
  have hfc : fanC g ++ [CV.sl (Tk.own kc (vc + 1)) 5 (List.map cycC R1.cyc), CV.sl (Tk.own ks (vs + 1)) 1 (List.map iE R1.src), CV.bsl bT 0 R.tgt.length 1, cbo R1.good] = rnB bT kc (vc + 1) ks (vs + 1) ⟨g, R.cyc ++ [pcy R.cyc.length L], R.src ++ [im], R.tgt, R.good⟩ := by
    rw [hR1]; rfl
  rw [hfc]
  refine fin_run3 (okL_rnB l2 l3 l4) (okL_imgs _ _ R.tgt) hokH ?_ (List.take_of_length_le (by omega)) ⟨⟨g, R.cyc ++ [pcy R.cyc.length L], R.src ++ [im], R.tgt, R.good⟩, vc + 1, vs + 1, p6, rfl, hW.symm⟩
  rw [List.take_set, hGt, List.set_set, hT0]
end Go.Proofs.YtpadnceoacbaeaaGreat
namespace Go.Proofs.YtpadnceoacbaeaaGreat
open Go.Proofs
structure PSt where
  kind : UInt8
  wrs : List Wr
def psC (s : PSt) : List CV := [.v (.int .u8 (s.kind.toNat : Int)), .sl .sh 3 (s.wrs.map wrC)]
@[go_sem, simp] theorem psC_len (s : PSt) : (psC s).length = 2 := rfl
@[go_sem, simp] theorem psC_all (s : PSt) : allOne (psC s) = true := rfl
@[go_sem, simp] theorem psC_take (s : PSt) : (psC s).take 2 = psC s := rfl
@[go_sem, simp] theorem psC_0 (s : PSt) (h : 0 < (psC s).length) : (psC s)[0] = .v (.int .u8 (s.kind.toNat : Int)) := rfl
@[go_sem, simp] theorem psC_1 (s : PSt) (h : 1 < (psC s).length) : (psC s)[1] = .sl .sh 3 (s.wrs.map wrC) := rfl
@[go_sem] theorem okL_psC (i j : Nat) (s : PSt) : okL i j (psC s) = True := by simp [psC, okL, okV, okTk, okE_wrs]
@[go_sem] theorem okE_pss (i j : Nat) (l : List PSt) : okE i j (l.map psC) = True := eq_true (okE_map psC l fun e => by rw [okL_psC]; trivial)
theorem loseR_tgt (R : Rn) (t : Nat) : (loseR R t).tgt = R.tgt := by
  unfold loseR
  dsimp only
  split
  · rfl
  · split <;> rfl
set_option maxRecDepth 8000 in
set_option maxHeartbeats 1600000 in
theorem step_cc (H : Hp) (V : List Nat) (b bT kc vc ks vs : Nat) (R : Rn) (s : PSt) (sz : List Int) (k : Nat) (hr : RunAt b bT kc vc ks vs R H V) (hR : ROk sz k R) (hk : k + 1 ≤ 40) (hn : s.wrs.length ≤ 1000000) (hw : WrS s.wrs) : CC Tryz.prog 25 [.ptr b 0, .agg (psC s)] H V (StTo sz (k + 1) b bT kc ks H V) := by
  refine CC.of_swp Tryz.func25 rfl (by kernel_rfl) (by rw [Tryz.ntmps25]; exact len_le _ _ rfl) fun hok hokH => ?_
  clear hok
  obtain ⟨l1, l2, l3, l4⟩ := hr.lt
  have hbx0 := hr.box
  have htg := hr.tg
  have hbb := hr.hb
  have hgo := hR.good
  have hN := hR.N
  have htl := hR.tl
  have hll := hR.fo.ll
  have ha1 := hR.fo.a1
  have ha4 := hR.fo.a4
  have hT0 : ∀ c : List CV, (H.set b (some c)).set bT (some (R.tgt.map imV)) = H.set b (some c) := fun c => by
    refine set_self' ?_
    rw [List.getElem?_set_ne hbb]; exact htg
  have hV0 : (V.set kc vc).set ks vs = V := by
    rw [set_selfN hr.vk, set_selfN hr.vS]
  refine SWp.seq (Wp.s ?_)
  simp -implicitDefEqProofs [go_sem, args0]
  have hX : ∀ (Z : Hp) (K : List CV → Prop), hbx (H ++ Z) b K = K [ci R.f.limit, .sl .sh 5 (R.f.kept.map cycC), .sl .sh 1 (R.f.app.map ic), .sl .sh 1 (R.f.lost.map boE), .sl (.own kc vc) 5 (R.cyc.map cycC), .sl (.own ks vs) 1 (R.src.map iE), .bsl bT 0 R.tgt.length 1, cbo R.good] := fun Z K => hbx_of (by rw [List.getElem?_append_left l1]; exact hbx0) K
  refine SWp.seq (SWp.seq (SWp.drawnT [] [] (.s 0 .pl <| .s 1 .pl <| .s 2 .pl <| .s 3 .pl <| .s 4 .pl <| .s 5 .pl <| .s 6 .pl <| .s 7 .pl <| .s 8 .pl <| .s 9 .pl <| .s 10 .pl <| .s 11 .pl <| .s 12 .pl <| .s 13 .pl <| .s 14 .pl <| .s 15 .pl <| .s 16 .pl <| .s 17 .pl <| .s 18 .pl <| .s 19 .pl <| .s 20 .pl <| .s 21 .pl <| .s 22 .pl <| .s 23 .pl <| .s 24 .pl <| .s 25 .pl <| .s 26 .pl <| .s 27 .pl <| .s 28 .pl <| .s 29 .pl <| .s 30 .pl <| .s 31 .pl <| .s 32 .pl <| .n) (by kernel_rfl) (by kernel_rfl) ?_))
  simp -implicitDefEqProofs [go_sem, hX, hgo, htl, hll]
  refine Wp.s ?_
  simp -implicitDefEqProofs [go_sem]
  refine SWp.seq (SWp.drawnT [] [] (.s 0 .pl <| .s 1 .pl <| .s 2 .pl <| .s 3 .pl <| .s 4 .pl <| .s 5 .pl <| .s 6 .pl <| .s 7 .pl <| .s 8 .pl <| .s 9 .pl <| .s 10 .pl <| .n) (by kernel_rfl) (by kernel_rfl) ?_)
  have hkd : s.kind.toNat < 256 := s.kind.toNat_lt
  obtain ⟨kd, hkk⟩ : ∃ kd : Nat, kd = s.kind.toNat := ⟨_, rfl⟩
  have w1 : IntKind.i64.wrap (s.kind.toNat : Int) = (kd : Int) := by rw [← hkk]; exact IntWalk.i64_in _ ⟨by omega, by omega⟩
  obtain ⟨q, hq⟩ : ∃ q : Nat, q = kd / 8 := ⟨_, rfl⟩
  have w2 : IntKind.i64.wrap ((kd : Int) / 8) = (q : Int) := by
    rw [show (kd : Int) / 8 = (q : Int) by rw [hq]; exact (Int.natCast_ediv kd 8).symm]; exact IntWalk.i64_in _ ⟨by omega, by omega⟩
  have w2' : IntKind.i64.wrap (Int.tdiv (kd : Int) 8) = (q : Int) := by rw [← w2, Int.tdiv_eq_ediv_of_nonneg (by omega)]
  obtain ⟨t, htd⟩ : ∃ t : Nat, t = q % R.tgt.length := ⟨_, rfl⟩
  have w3 : Int.tmod (q : Int) (R.tgt.length : Int) = (t : Int) := by rw [htd]; exact (Int.ofNat_tmod _ _).symm
  have w3' : (q : Int) % (R.tgt.length : Int) = (t : Int) := by rw [htd]; exact (Int.natCast_emod _ _).symm
  have htT : t < R.tgt.length := by rw [htd]; exact Nat.mod_lt _ (by omega)
  have hta : t < R.f.app.length := by omega
  have htl' : t < R.f.lost.length := by omega
  simp -implicitDefEqProofs [go_sem, hX, w1, w2, w2', w3, w3']
  refine ⟨fun e => by rw [e] at htl; simp at htl; omega, ?_⟩
  obtain ⟨r, hr8⟩ : ∃ r : Nat, r = kd % 8 := ⟨_, rfl⟩
  have w4 : Int.tmod (s.kind.toNat : Int) 8 = (r : Int) := by rw [← hkk, hr8]; exact (Int.ofNat_tmod kd 8).symm
  have w4' : (s.kind.toNat : Int) % 8 = (r : Int) := by rw [← hkk, hr8]; exact (Int.natCast_emod kd 8).symm
  refine SWp.seq (Wp.s ?_)
  simp -implicitDefEqProofs [go_sem, w4, w4']
  have hr8' : r < 8 := by omega
  refine SWp.block (SWp.join (α := Unit) (fun _ => ([(0, .ptr b 0), (3, .ptr H.length 0), (4, ci t), (53, .v (.int .u8 (r : Int))), (57, .v (.bool (decide (r ≤ 2))))], H ++ [some (psC s)], V)) (fun _ => True) ?_ ?_)
  · refine SWp.seq (Wp.s ?_)
    by_cases c0 : r = 0
    · subst c0
      simp -implicitDefEqProofs [go_sem]
      refine Wp.s ?_
      simp -implicitDefEqProofs [go_sem]
      exact Sh.forget (by simp [go_sem]) rfl rfl
    by_cases c1 : r = 1
    · subst c1
      simp -implicitDefEqProofs [go_sem]
      refine Wp.s ?_
      simp -implicitDefEqProofs [go_sem]
      exact Sh.forget (by simp [go_sem]) rfl rfl
    by_cases c2 : r = 2
    · subst c2
      simp -implicitDefEqProofs [go_sem]
      refine Wp.s ?_
      simp -implicitDefEqProofs [go_sem]
      exact Sh.forget (by simp [go_sem]) rfl rfl
    have c0' : ¬ (r : Int) = 0 := by omega
    have c1' : ¬ (r : Int) = 1 := by omega
    have c2' : ¬ (r : Int) = 2 := by omega
    have c3 : ¬ r ≤ 2 := by omega
    simp -implicitDefEqProofs [go_sem, c0, c1, c2, c0', c1', c2', c3]
    refine Wp.s ?_
    simp -implicitDefEqProofs [go_sem, c0, c1, c2, c0', c1', c2', c3]
    exact Sh.forget (by simp [go_sem, c3]) rfl rfl
  rintro _ -
  dsimp only
  have hr1 : RunAt b bT kc vc ks vs R (H ++ [some (psC s)]) V := ⟨by rw [List.getElem?_append_left l1]; exact hbx0, by rw [List.getElem?_append_left l2]; exact htg, hr.vk, hr.vS, hr.hk, hbb⟩
  have htk : ∀ c d : List CV, (((H ++ [some (psC s)]).set b (some c)).set bT (some d)).take H.length = (H.set b (some c)).set bT (some d) := fun c d => by
    rw [List.set_append_left _ _ l1, List.set_append_left _ _ (by simpa using l2), List.take_append_of_le_length (by simp), List.take_of_length_le (by simp)]
  have hfin : ∀ (R' : Rn) (vc' vs' : Nat) (H' : Hp) (V' : List Nat), ROk sz (k + 1) R' → H' = ((H ++ [some (psC s)]).set b (some (rnB bT kc vc' ks vs' R'))).set bT (some (R'.tgt.map imV)) → V' = (V.set kc vc').set ks vs' → Fin H.length V.length (StTo sz (k + 1) b bT kc ks H V) (.tup []) H' V' := fun R' vc' vs' H' V' h1 h2 h3 => by
    subst h2 h3
    exact fin_run3 (okL_rnB l2 l3 l4) (okL_imgs _ _ R'.tgt) hokH (htk _ _) (List.take_of_length_le (by simp)) ⟨R', vc', vs', h1, rfl, rfl⟩
  have hsame : ∀ c : List CV, (H ++ [some (psC s)]).set b (some c) = ((H ++ [some (psC s)]).set b (some c)).set bT (some (R.tgt.map imV)) := fun c => by
    refine (set_self' ?_).symm
    rw [List.getElem?_set_ne hbb]; exact hr1.tg
  by_cases c : r ≤ 2
  · simp -implicitDefEqProofs [go_sem, c]
    refine Wp.s ?_
    simp -implicitDefEqProofs [go_sem]
    refine CC.mono (push_cc _ _ b bT kc vc ks vs R s.wrs sz k hr1 hR hk hn hw) ?_
    rintro _ _ _ ⟨R', vc', vs', hR', rfl, rfl⟩
    simp -implicitDefEqProofs [go_sem]
    exact hfin R' vc' vs' _ _ hR' rfl rfl
  refine SWp.condF (by simp [go_sem, c]) ?_
  refine SWp.join (α := Unit) (fun _ => ([(0, .ptr b 0), (3, .ptr H.length 0), (4, ci t), (53, .v (.int .u8 (r : Int))), (65, .v (.bool (decide (r ≤ 5))))], H ++ [some (psC s)], V)) (fun _ => True) ?_ ?_
  · refine SWp.seq (Wp.s ?_)
    by_cases c0 : r = 3
    · subst c0
      simp -implicitDefEqProofs [go_sem]
      refine Wp.s ?_
      simp -implicitDefEqProofs [go_sem]
      exact Sh.forget (by simp [go_sem]) rfl rfl
    by_cases c1 : r = 4
    · subst c1
      simp -implicitDefEqProofs [go_sem]
      refine Wp.s ?_
      simp -implicitDefEqProofs [go_sem]
      exact Sh.forget (by simp [go_sem]) rfl rfl
    by_cases c2 : r = 5
    · subst c2
      simp -implicitDefEqProofs [go_sem]
      refine Wp.s ?_
      simp -implicitDefEqProofs [go_sem]
      exact Sh.forget (by simp [go_sem]) rfl rfl
    have c0' : ¬ (r : Int) = 3 := by omega
    have c1' : ¬ (r : Int) = 4 := by omega
    have c2' : ¬ (r : Int) = 5 := by omega
    have c3 : ¬ r ≤ 5 := by omega
    simp -implicitDefEqProofs [go_sem, c0, c1, c2, c0', c1', c2', c3]
    refine Wp.s ?_
    simp -implicitDefEqProofs [go_sem, c0, c1, c2, c0', c1', c2', c3]
    exact Sh.forget (by simp [go_sem, c3]) rfl rfl
  rintro _ -
  dsimp only
  have hap := hR.fo.ap t _ (List.getElem?_eq_getElem hta)
  have hup : ∀ R', ROk sz k R' → ROk sz (k + 1) R' := fun R' h => h.up (Nat.le_succ _) hk
  by_cases c5 : r ≤ 5
  · simp -implicitDefEqProofs [go_sem, c5]
    refine Wp.s ?_
    simp -implicitDefEqProofs [go_sem]
    have hil : R.tgt[t].length ≤ 8 := by
      have q1 := congrArg List.length (hR.ts _ (List.getElem_mem htT))
      have q2 := (sizesE_0 hR.sE).2.1
      rw [imgSz_len] at q1; omega
    refine CC.mono (next_cc _ _ b bT kc vc ks vs R t htl' hta htT hr1 hR.sm (by omega) hap.1 (by omega) (by omega)) ?_
    rintro _ _ _ ⟨rfl, rfl⟩
    simp -implicitDefEqProofs [go_sem]
    exact hfin (nextR R t) vc vs _ _ (hup _ (hR.next hta).1) rfl hV0.symm
  refine SWp.condF (by simp [go_sem, c5]) ?_
  refine SWp.seq (Wp.s ?_)
  by_cases c6 : r = 6
  · subst c6
    simp -implicitDefEqProofs [go_sem]
    refine Wp.s ?_
    simp -implicitDefEqProofs [go_sem]
    refine CC.mono (lose_cc _ _ b bT kc vc ks vs R t htl' hr1 hR.sm) ?_
    rintro _ _ _ ⟨rfl, rfl⟩
    simp -implicitDefEqProofs [go_sem]
    exact hfin (loseR R t) vc vs _ _ (hup _ (hR.lose hta)) (by rw [loseR_tgt]; exact hsame _) hV0.symm
  · have c6' : ¬ (r : Int) = 6 := by omega
    simp -implicitDefEqProofs [go_sem, c6, c6']
    refine Wp.s ?_
    simp -implicitDefEqProofs [go_sem]
    refine CC.mono (join_cc _ _ b bT kc vc ks vs R t htl' htT hr1 hR.sm (by have := hR.sl; omega) (by omega)) ?_
    rintro _ _ _ ⟨rfl, rfl⟩
    simp -implicitDefEqProofs [go_sem]
    exact hfin (joinR R t) vc vs _ _ (hup _ (hR.join hta)) rfl hV0.symm
end Go.Proofs.YtpadnceoacbaeaaGreat
namespace Go.Proofs.YtpadnceoacbaeaaGreat
open Go.Proofs
structure Pln where
  tn : UInt8
  lm : UInt8
  sizes : List Int
  steps : List PSt
def plC (p : Pln) : List CV := [.v (.int .u8 (p.tn.toNat : Int)), .v (.int .u8 (p.lm.toNat : Int)), .sl .sh 1 (p.sizes.map ic), .sl .sh 2 (p.steps.map psC)]
@[go_sem, simp] theorem plC_len (s : Pln) : (plC s).length = 4 := rfl
@[go_sem, simp] theorem plC_all (s : Pln) : allOne (plC s) = true := rfl
@[go_sem, simp] theorem plC_take (s : Pln) : (plC s).take 4 = plC s := rfl
@[go_sem, simp] theorem plC_0 (s : Pln) (h : 0 < (plC s).length) : (plC s)[0] = .v (.int .u8 (s.tn.toNat : Int)) := rfl
@[go_sem, simp] theorem plC_1 (s : Pln) (h : 1 < (plC s).length) : (plC s)[1] = .v (.int .u8 (s.lm.toNat : Int)) := rfl
@[go_sem, simp] theorem plC_2 (s : Pln) (h : 2 < (plC s).length) : (plC s)[2] = .sl .sh 1 (s.sizes.map ic) := rfl
@[go_sem, simp] theorem plC_3 (s : Pln) (h : 3 < (plC s).length) : (plC s)[3] = .sl .sh 2 (s.steps.map psC) := rfl
@[go_sem] theorem okL_plC (i j : Nat) (s : Pln) : okL i j (plC s) = True := by simp [plC, okL, okV, okTk, okE_ints, okE_pss]
/-- What begin hands back. -/
def BgR (p : Pln) (H : Hp) (V : List Nat) : CV → Hp → List Nat → Prop := fun r G W => (r = .tup [.v (.pointer none), .v (.bool false)] ∧ H = G ∧ V = W) ∨
  ∃ b bT kc vc ks vs sz R, r = .tup [.ptr b 0, .v (.bool true)] ∧ p.steps.length ≤ 40 ∧ (∀ s ∈ p.steps, few22 s.wrs = true) ∧ ROk sz 0 R ∧ RunAt b bT kc vc ks vs R G W ∧ G.take H.length = H ∧ W.take V.length = V ∧ H.length ≤ b ∧ H.length ≤ bT ∧ V.length ≤ kc ∧ V.length ≤ ks
theorem Fin.weakB {nb nv : Nat} {R : CV → Hp → List Nat → Prop} {r : CV} {H : Hp} {V : List Nat} {b : Nat} {cs ds : List CV} (hb : H[b]? = some (some cs)) (h : LeL cs ds) (hno : ∀ x ∈ cs, x.isObj = false) (hf : Fin nb nv R r (H.set b (some ds)) V) : Fin nb nv R r H V := by
  obtain ⟨r', H', V', g, hR⟩ := hf
  exact ⟨r', H', V', Gst.trans (Gst.weak hb h hno) g, hR⟩
theorem Fin.tokLB {nb nv : Nat} {R : CV → Hp → List Nat → Prop} {r : CV} {H : Hp} {V : List Nat} {b : Nat} {cs ds : List CV} (hb : H[b]? = some (some cs)) (h : TokL V.length cs ds) (hno : ∀ x ∈ cs, x.isObj = false) (hf : Fin nb nv R r (H.set b (some ds)) (V ++ [0])) : Fin nb nv R r H V := by
  obtain ⟨r', H', V', g, hR⟩ := hf
  exact ⟨r', H', V', Gst.trans (Gst.tokL hb h hno) g, hR⟩
def RepT (rb i : Nat) (im : Img) (cv : CV) (G : Hp) : Prop := (i = 0 ∧ cv = nilS) ∨ ∃ b', 0 < i ∧ cv = .bsa b' i 1 ∧ rb < b' ∧ G[b']? = some (some (List.replicate i (imV im)))
theorem ROk.start {sz : List Int} (hs : sizesE sz = 0) {t l : Nat} (t1 : 1 ≤ t) (t4 : t ≤ 4) (l1 : 1 ≤ l) (l4 : l ≤ 4) : ROk sz 0 ⟨⟨l, [], List.replicate t 0, List.replicate t false⟩, [], [imOf sz], List.replicate t (imOf sz), true⟩ := by
  refine ⟨rfl, ⟨fun i h => absurd h (Nat.not_lt_zero _), fun i h => absurd h (Nat.not_lt_zero _), fun c h => (by cases h), fun c h => (by cases h)⟩, Nat.le_refl _, by omega, ⟨by simp; omega, by simp; omega, by simp, by show (1 : Int) ≤ l; omega, by show (l : Int) ≤ 4; omega, fun i x h => ?_, ?_, by show ((0 : Nat) : Int) ≤ l; omega⟩, by simp, rfl, hs, fun x h => ?_, fun x h => ?_, fun i c x h => (by cases h), fun i n h1 h2 => ?_⟩
  · have := List.mem_of_getElem? h
    have := (List.mem_replicate.1 this).2
    subst this; exact ⟨Int.le_refl _, Int.le_refl _⟩
  · show [] = keptK _ []
    unfold keptK; split <;> simp
  · obtain rfl : x = imOf sz := by simpa using h
    exact imgSz_of hs
  · obtain rfl := (List.mem_replicate.1 h).2
    exact imgSz_of hs
  · have h2' : (List.replicate t (0 : Int))[i]? = some n := h2
    have hi := (List.getElem?_eq_some_iff.1 h2').1
    have := (List.mem_replicate.1 (List.mem_of_getElem? h2')).2
    subst this
    rw [List.length_replicate] at hi
    show (List.replicate t (imOf sz))[i]? = _
    rw [List.getElem?_replicate, if_pos hi]; rfl
set_option maxRecDepth 8000 in
set_option maxHeartbeats 1600000 in
theorem begin_cc (H : Hp) (V : List Nat) (p : Pln) (hp : p.sizes.length ≤ 9223372036854775807) : CC Tryz.prog 24 [.agg (plC p)] H V (BgR p H V) := by
  refine CC.of_swp Tryz.func24 rfl (by kernel_rfl) (by rw [Tryz.ntmps24]; exact len_le _ _ rfl) fun hok hokH => ?_
  clear hok
  have bad : ∀ (H' : Hp) (V' : List Nat), H'.take H.length = H → V'.take V.length = V → Fin H.length V.length (BgR p H V) (.tup [.v (.pointer none), .v (.bool false)]) H' V' := fun H' V' h1 h2 =>
    Fin.pure (.inl ⟨rfl, rfl, rfl⟩) h1 h2 (.refl _) (by simp [go_sem]) hokH
  refine SWp.seq (Wp.s ?_)
  simp -implicitDefEqProofs [go_sem, args0]
  refine SWp.seq (Wp.s ?_)
  simp -implicitDefEqProofs [go_sem]
  refine CC.mono (New_cc _ _ .sh p.sizes hp) ?_
  rintro _ _ _ ⟨rfl, rfl, rfl⟩
  simp -implicitDefEqProofs [go_sem]
  refine SWp.seq (SWp.seq (Wp.s ?_))
  by_cases h0 : sizesE p.sizes = 0
  case neg =>
    have h0' : ¬ (sizesE p.sizes : Int) = 0 := by omega
    simp -implicitDefEqProofs [go_sem, h0, h0']
    refine Wp.s ?_
    simp -implicitDefEqProofs [go_sem]
    exact bad _ _ (by simp) (by simp)
  simp -implicitDefEqProofs [go_sem, h0]
  refine CC.mono (few07_cc _ _ .sh (imOf p.sizes)) ?_
  rintro _ _ _ ⟨rfl, rfl, rfl⟩
  cases hf : few07 (imOf p.sizes)
  · simp -implicitDefEqProofs [go_sem]
    refine Wp.s ?_
    simp -implicitDefEqProofs [go_sem]
    exact bad _ _ (by simp) (by simp)
  simp -implicitDefEqProofs [go_sem]
  by_cases h4 : 40 < p.steps.length
  · have h4' : 40 < (p.steps.length : Int) := by omega
    simp -implicitDefEqProofs [go_sem, h4, h4']
    refine Wp.s ?_
    simp -implicitDefEqProofs [go_sem]
    exact bad _ _ (by simp) (by simp)
  have h4' : ¬ 40 < (p.steps.length : Int) := by omega
  simp -implicitDefEqProofs [go_sem, h4, h4']
  refine Wp.s ?_
  simp -implicitDefEqProofs [go_sem]
  have hsl : p.steps.length ≤ 40 := by omega
  obtain ⟨im, him⟩ : ∃ im, im = imOf p.sizes := ⟨_, rfl⟩
  rw [← him]
  refine SWp.join (α := Unit) (fun _ => ([(1, .ptr H.length 0), (4, imV im)], H ++ [some (plC p)], V)) (fun _ => ∀ s ∈ p.steps, few22 s.wrs = true) ?_ ?_
  · refine SWp.seq (Wp.s ?_)
    simp -implicitDefEqProofs [go_sem]
    refine SWp.block ?_
    refine SWp.loop (α := Nat) (fun i => ([(1, .ptr H.length 0), (4, imV im), (31, .sl .sh 2 (p.steps.map psC)), (32, ci p.steps.length), (33, ci i)], H ++ [some (plC p)], V)) (fun i => i ≤ p.steps.length ∧ ∀ s ∈ p.steps.take i, few22 s.wrs = true) (fun i => p.steps.length - i) 0 ⟨Nat.zero_le _, by simp⟩ (Sh.forget (by simp [go_sem]) rfl rfl) ?_
    rintro i ⟨hi, hp⟩
    dsimp only
    refine SWp.seq (Wp.s ?_)
    simp -implicitDefEqProofs [go_sem]
    refine SWp.seq (Wp.s ?_)
    simp -implicitDefEqProofs [go_sem]
    refine ⟨fun h => ?_, fun h => ⟨by rwa [List.take_of_length_le h] at hp, Sh.forget (by simp [go_sem]) rfl rfl⟩⟩
    refine SWp.seq (SWp.block (SWp.seq (Wp.s ?_)))
    simp -implicitDefEqProofs [go_sem, h]
    refine SWp.seq (Wp.s ?_)
    simp -implicitDefEqProofs [go_sem]
    refine CC.mono (few22_cc _ _ .sh p.steps[i].wrs) ?_
    rintro _ _ _ ⟨rfl, rfl, rfl⟩
    cases hq : few22 p.steps[i].wrs
    · simp -implicitDefEqProofs [go_sem]
      refine Wp.s ?_
      simp -implicitDefEqProofs [go_sem]
      exact bad _ _ (by simp) (by simp)
    · simp -implicitDefEqProofs [go_sem]
      refine Wp.s ?_
      simp -implicitDefEqProofs [go_sem]
      refine Wp.s ?_
      simp -implicitDefEqProofs [go_sem]
      refine ⟨i + 1, ⟨by omega, fun s hs => ?_⟩, by omega, ?_⟩
      · rw [List.take_succ_eq_append_getElem h, List.mem_append, List.mem_singleton] at hs
        rcases hs with hs | rfl
        · exact hp s hs
        · exact hq
      · exact Sh.trim (L := [some (plC p)]) (by simp [go_sem, wrap_succ (show i ≤ 1000000000 by omega)]) (by simp [go_sem, okE_pss]) hokH (by simp [go_sem]) (Nat.le_refl _) (by simp) (by simp)
  rintro _ hfs
  dsimp only
  have htb : p.tn.toNat < 256 := p.tn.toNat_lt
  have hlb : p.lm.toNat < 256 := p.lm.toNat_lt
  obtain ⟨tn, htn⟩ : ∃ tn : Nat, tn = p.tn.toNat := ⟨_, rfl⟩
  obtain ⟨lm, hlm⟩ : ∃ lm : Nat, lm = p.lm.toNat := ⟨_, rfl⟩
  obtain ⟨t, ht⟩ : ∃ t : Nat, t = tn % 4 + 1 := ⟨_, rfl⟩
  obtain ⟨l, hl⟩ : ∃ l : Nat, l = lm % 4 + 1 := ⟨_, rfl⟩
  have w1 : IntKind.i64.wrap (p.tn.toNat : Int) = (tn : Int) := by rw [← htn]; exact IntWalk.i64_in _ ⟨by omega, by omega⟩
  have w2 : IntKind.i64.wrap (p.lm.toNat : Int) = (lm : Int) := by rw [← hlm]; exact IntWalk.i64_in _ ⟨by omega, by omega⟩
  have w3 : IntKind.i64.wrap ((tn : Int) % 4 + 1) = (t : Int) := by rw [IntWalk.i64_in _ ⟨by omega, by omega⟩]; omega
  have w4 : IntKind.i64.wrap ((lm : Int) % 4 + 1) = (l : Int) := by rw [IntWalk.i64_in _ ⟨by omega, by omega⟩]; omega
  have w3' : IntKind.i64.wrap (Int.tmod (tn : Int) 4 + 1) = (t : Int) := by rw [Int.tmod_eq_emod_of_nonneg (by omega)]; exact w3
  have w4' : IntKind.i64.wrap (Int.tmod (lm : Int) 4 + 1) = (l : Int) := by rw [Int.tmod_eq_emod_of_nonneg (by omega)]; exact w4
  refine SWp.seq (Wp.s ?_)
  simp -implicitDefEqProofs [go_sem, w1, w2, w3, w3', w4, w4']
  have hnf : newFan t l 0 = .ok ⟨l, [], List.replicate t 0, List.replicate t false⟩ := by rw [newFan, if_neg (by omega), if_neg (by omega), Int.toNat_natCast]
  refine CC.mono (New_f_cc _ _ t l 0) ?_
  rintro _ _ _ ⟨rfl, rfl, rfl⟩
  rw [hnf]
  simp -implicitDefEqProofs [go_sem, dvF]
  refine SWp.seq (Wp.s ?_)
  simp -implicitDefEqProofs [go_sem]
  refine ⟨rfl, ?_⟩
  obtain ⟨cellsB, hcB⟩ : ∃ cellsB : CV → List CV, cellsB = fun cv => [ci l, .sl .sh 5 [], .sl .sh 1 ((List.replicate t 0).map ic), .sl .sh 1 ((List.replicate t false).map boE), nilS, .sl .ti 1 [[imV im]], cv, cbo true] := ⟨_, rfl⟩
  have hcl : ∀ cv, (cellsB cv).length = 8 := fun cv => by rw [hcB]; rfl
  have ht1 : 1 ≤ t := by omega
  have ht4 : t ≤ 4 := by omega
  refine SWp.join (α := CV × Hp) (fun x => ([(10, .ptr (H.length + 2) 0)], x.2, V)) (fun x => RepT (H.length + 2) t im x.1 x.2 ∧ x.2[H.length + 2]? = some (some (cellsB x.1)) ∧ x.2.take H.length = H) ?_ ?_
  · refine SWp.seq (Wp.s ?_)
    simp -implicitDefEqProofs [go_sem, w1, w3, w3']
    refine SWp.block ?_
    refine SWp.loop (α := Nat × CV × Hp) (fun x => ([(4, imV im), (10, .ptr (H.length + 2) 0), (67, ci t), (68, ci x.1)], x.2.2, V)) (fun x => x.1 ≤ t ∧ RepT (H.length + 2) x.1 im x.2.1 x.2.2 ∧ x.2.2[H.length + 2]? = some (some (cellsB x.2.1)) ∧ x.2.2.take H.length = H) (fun x => t - x.1) (0, nilS, H ++ [some (plC p), some (fanC ⟨l, [], List.replicate t 0, List.replicate t false⟩), some (cellsB nilS)]) ⟨Nat.zero_le _, .inl ⟨rfl, rfl⟩, hget _ _ 2, by simp⟩ (Sh.forget (by simp [go_sem]) (by rw [hcB]; rfl) rfl) ?_
    rintro ⟨i, cv, G⟩ ⟨hi, hrep, hGr, hGt⟩
    dsimp only at hi hrep hGr hGt ⊢
    refine SWp.seq (Wp.s ?_)
    simp -implicitDefEqProofs [go_sem]
    refine SWp.seq (Wp.s ?_)
    simp -implicitDefEqProofs [go_sem]
    refine ⟨fun h => ?_, fun h => ?_⟩
    case refine_2 =>
      obtain rfl : i = t := by omega
      exact ⟨cv, G, ⟨hrep, hGr, hGt⟩, Sh.forget (by simp [go_sem]) rfl rfl⟩
    have hGl : H.length + 2 < G.length := (List.getElem?_eq_some_iff.1 hGr).1
    have hXb : ∀ K : List CV → Prop, hbx G (H.length + 2) K = K [ci l, .sl .sh 5 [], .sl .sh 1 ((List.replicate t 0).map ic), .sl .sh 1 ((List.replicate t false).map boE), nilS, .sl .ti 1 [[imV im]], cv, cbo true] := fun K => by rw [hbx_of hGr K, hcB]
    refine SWp.seq (SWp.block ?_)
    rcases hrep with ⟨rfl, rfl⟩ | ⟨b', hb0, rfl, hb', hGb'⟩
    · refine SWp.opx (pre := [_, _, _, _, _, _, _]) (post := [_, _, _]) rfl (by intro c e; cases e) ?_
      simp -implicitDefEqProofs [go_sem, hXb]
      refine ⟨_, _, _, appboxN (sz := 1) (tk := .ti) (ys := [[imV im]]) slTy60 slTy60 (by decide) rfl rfl (by simp) (by simp), ?_⟩
      have hXb2 : ∀ (Z : Hp) (K : List CV → Prop), hbx (G ++ Z) (H.length + 2) K = K [ci l, .sl .sh 5 [], .sl .sh 1 ((List.replicate t 0).map ic), .sl .sh 1 ((List.replicate t false).map boE), nilS, .sl .ti 1 [[imV im]], nilS, cbo true] := fun Z K => by rw [hbx_of (List.getElem?_append_left hGl ▸ hGr) K, hcB]
      simp -implicitDefEqProofs [go_sem, hXb2]
      have hw : IntKind.i64.wrap 1 = 1 := by kernel_rfl
      refine Wp.s ?_
      simp -implicitDefEqProofs [go_sem, hw]
      refine ⟨1, .bsa G.length 1 1, (G ++ [some [imV im]]).set (H.length + 2) (some (cellsB (.bsa G.length 1 1))), ⟨by omega, .inr ⟨G.length, by omega, rfl, hGl, ?_⟩, List.getElem?_set_self (by simp; omega), ?_⟩, by omega, Sh.forget (by simp [go_sem, hw]) (by rw [hcB]; simp) rfl⟩
      · rw [List.getElem?_set_ne (by omega)]; exact at_len _ _
      · rw [List.take_set_of_le (by omega), List.take_append_of_le_length (by omega)]; exact hGt
    · refine Wp.s ?_
      simp -implicitDefEqProofs [go_sem, hXb, hbx_of hGb']
      have hXb2 : ∀ (x : List CV) (K : List CV → Prop), hbx (G.set b' none ++ [some x]) (H.length + 2) K = K [ci l, .sl .sh 5 [], .sl .sh 1 ((List.replicate t 0).map ic), .sl .sh 1 ((List.replicate t false).map boE), nilS, .sl .ti 1 [[imV im]], .bsa b' i 1, cbo true] := fun x K => by
        rw [hbx_of (show (G.set b' none ++ [some x])[H.length + 2]? = some (some (cellsB (.bsa b' i 1))) by rw [List.getElem?_append_left (by simpa using hGl), List.getElem?_set_ne (by omega)]; exact hGr) K, hcB]
      refine ⟨by omega, ?_⟩
      simp -implicitDefEqProofs [go_sem, hXb2]
      have hw : IntKind.i64.wrap ((i : Int) + 1) = (i : Int) + 1 := IntWalk.i64_in _ ⟨by omega, by omega⟩
      refine Wp.s ?_
      simp -implicitDefEqProofs [go_sem, hw]
      refine ⟨i + 1, .bsa G.length (i + 1) 1, (G.set b' none ++ [some (List.replicate i (imV im) ++ [imV im])]).set (H.length + 2) (some (cellsB (.bsa G.length (i + 1) 1))), ⟨by omega, .inr ⟨G.length, by omega, rfl, hGl, ?_⟩, List.getElem?_set_self (by simp; omega), ?_⟩, by omega, Sh.forget (by simp [go_sem]) (by rw [hcB]; simp) rfl⟩
      · rw [List.getElem?_set_ne (by omega), set_lastX, List.replicate_succ']
      · rw [List.take_set_of_le (by omega), List.take_append_of_le_length (by simp; omega), List.take_set_of_le (by omega)]; exact hGt
  rintro ⟨cv, G⟩ ⟨hrep, hGr, hGt⟩
  dsimp only at hrep hGr hGt ⊢
  refine Wp.s ?_
  simp -implicitDefEqProofs [go_sem]
  rcases hrep with ⟨rfl, rfl⟩ | ⟨b', hb0, rfl, hb', hGb'⟩
  · omega
  have hGl : H.length + 2 < G.length := (List.getElem?_eq_some_iff.1 hGr).1
  rw [hcB] at hGr
  have hf2 : ∀ (X : List CV) (W : List Nat), (G.set (H.length + 2) (some X))[H.length + 2]? = some (some X) := fun X W => List.getElem?_set_self hGl
  refine Fin.tokLB (b := H.length + 2) (ds := [ci l, .sl .sh 5 [], .sl .sh 1 ((List.replicate t 0).map ic), .sl .sh 1 ((List.replicate t false).map boE), .sl (.own V.length 0) 5 [], .sl .ti 1 [[imV im]], .bsa b' t 1, cbo true]) hGr (by simp [go_sem]) (by simp [CV.isObj]) ?_
  refine Fin.tokLB (b := H.length + 2) (ds := [ci l, .sl .sh 5 [], .sl .sh 1 ((List.replicate t 0).map ic), .sl .sh 1 ((List.replicate t false).map boE), .sl (.own V.length 0) 5 [], .sl (.own (V.length + 1) 0) 1 [[imV im]], .bsa b' t 1, cbo true]) (List.getElem?_set_self hGl) (by simp [go_sem]) (by simp [CV.isObj]) ?_
  rw [List.set_set]
  refine Fin.weakB (b := H.length + 2) (ds := [ci l, .sl .sh 5 [], .sl .sh 1 ((List.replicate t 0).map ic), .sl .sh 1 ((List.replicate t false).map boE), .sl (.own V.length 0) 5 [], .sl (.own (V.length + 1) 0) 1 [[imV im]], .bsl b' 0 t 1, cbo true]) (List.getElem?_set_self hGl) (.cons (.refl _) (.cons (.refl _) (.cons (.refl _) (.cons (.refl _) (.cons (.refl _) (.cons (.refl _) (.cons (.bsa _ _ _) (.cons (.refl _) .nil)))))))) (by simp [CV.isObj]) ?_
  rw [List.set_set]
  refine Fin.self (.inr ⟨H.length + 2, b', V.length, 0, V.length + 1, 0, p.sizes, _, rfl, hsl, hfs, ROk.start (l := l) h0 ht1 ht4 (by omega) (by omega), ⟨?_, ?_, ?_, ?_, by omega, by omega⟩, ?_, ?_, by omega, by omega, Nat.le_refl _, by omega⟩)
  · rw [List.getElem?_set_self hGl, ← him]; simp [rnC, iE]
  · rw [List.getElem?_set_ne (by omega), hGb', ← him]; simp
  · simp
  · simp
  · rw [List.take_set_of_le (by omega)]; exact hGt
  · simp
end Go.Proofs.YtpadnceoacbaeaaGreat
namespace Go.Proofs.YtpadnceoacbaeaaGreat
open Go.Proofs
theorem StTo.run {sz : List Int} {k b bT kc ks vc vs : Nat} {R : Rn} {G G' : Hp} {W W' : List Nat} {r : CV} (hr : RunAt b bT kc vc ks vs R G W) (h : StTo sz k b bT kc ks G W r G' W') :
    ∃ R' vc' vs', ROk sz k R' ∧ RunAt b bT kc vc' ks vs' R' G' W' ∧ (∀ n, n ≤ b → n ≤ bT → G'.take n = G.take n) ∧ (∀ n, n ≤ kc → n ≤ ks → W'.take n = W.take n) := by
  obtain ⟨R', vc', vs', h1, rfl, rfl⟩ := h
  obtain ⟨l1, l2, l3, l4⟩ := hr.lt
  refine ⟨R', vc', vs', h1, ⟨?_, ?_, ?_, ?_, hr.hk, hr.hb⟩, fun n n1 n2 => ?_, fun n n1 n2 => ?_⟩
  · rw [List.getElem?_set_ne (Ne.symm hr.hb), List.getElem?_set_self l1]; rfl
  · rw [List.getElem?_set_self (by simpa using l2)]
  · rw [List.getElem?_set_ne (Ne.symm hr.hk), List.getElem?_set_self l3]
  · rw [List.getElem?_set_self (by simpa using l4)]
  · rw [List.take_set_of_le n2, List.take_set_of_le n1]
  · rw [List.take_set_of_le n2, List.take_set_of_le n1]
theorem RunAt.app {b bT kc vc ks vs : Nat} {R : Rn} {H : Hp} {V : List Nat} (h : RunAt b bT kc vc ks vs R H V) (Z : Hp) : RunAt b bT kc vc ks vs R (H ++ Z) V := by
  obtain ⟨l1, l2, l3, l4⟩ := h.lt
  exact ⟨by rw [List.getElem?_append_left l1]; exact h.box, by rw [List.getElem?_append_left l2]; exact h.tg, h.vk, h.vS, h.hk, h.hb⟩
theorem RunAt.hbx {b bT kc vc ks vs : Nat} {R : Rn} {H : Hp} {V : List Nat} (h : RunAt b bT kc vc ks vs R H V) (K : List CV → Prop) : hbx H b K = K [ci R.f.limit, .sl .sh 5 (R.f.kept.map cycC), .sl .sh 1 (R.f.app.map ic), .sl .sh 1 (R.f.lost.map boE), .sl (.own kc vc) 5 (R.cyc.map cycC), .sl (.own ks vs) 1 (R.src.map iE), .bsl bT 0 R.tgt.length 1, cbo R.good] := hbx_of h.box K
theorem RunAt.hbT {b bT kc vc ks vs : Nat} {R : Rn} {H : Hp} {V : List Nat} (h : RunAt b bT kc vc ks vs R H V) (K : List CV → Prop) : Go.Proofs.YtpadnceoacbaeaaGreat.hbx H bT K = K (R.tgt.map imV) := hbx_of h.tg K
theorem take_pre {H G : Hp} {z : Option (List CV)} (h : G.take (H.length + 1) = H ++ [z]) : G.take H.length = H ∧ G[H.length]? = some z ∧ H.length < G.length := by
  refine ⟨?_, ?_, ?_⟩
  · have := congrArg (List.take H.length) h
    rwa [List.take_take, Nat.min_eq_left (by omega), List.take_left] at this
  · have := congrArg (fun l : Hp => l[H.length]?) h
    rw [List.getElem?_take, if_pos (by omega), at_len] at this
    exact this
  · have := congrArg List.length h
    rw [List.length_take, List.length_append, List.length_singleton] at this; omega
set_option maxRecDepth 8000 in
set_option maxHeartbeats 1600000 in
theorem Keeps_cc (H : Hp) (V : List Nat) (p : Pln) (hp : p.sizes.length ≤ 9223372036854775807) : CC Tryz.prog 6 [.agg (plC p)] H V (Pu (cb true) H V) := by
  refine CC.of_swp Tryz.func6 rfl (by kernel_rfl) (by rw [Tryz.ntmps6]; exact len_le _ _ rfl) fun hok hokH => ?_
  clear hok
  refine SWp.seq (Wp.s ?_)
  simp -implicitDefEqProofs [go_sem, args0]
  refine SWp.seq (Wp.s ?_)
  simp -implicitDefEqProofs [go_sem]
  refine CC.mono (begin_cc _ _ p hp) ?_
  rintro r G W (⟨rfl, rfl, rfl⟩ | ⟨b, bT, kc, vc, ks, vs, sz, R, rfl, hsl, hfs, hR, hr, hG, hW, hb1, hb2, hk1, hk2⟩)
  · simp -implicitDefEqProofs [go_sem]
    refine SWp.seq (SWp.seq (Wp.s ?_))
    simp -implicitDefEqProofs [go_sem]
    refine Wp.s ?_
    simp -implicitDefEqProofs [go_sem]
    refine CC.mono (awake_cc _ _) ?_
    rintro _ _ _ ⟨rfl, rfl, rfl⟩
    simp -implicitDefEqProofs [go_sem]
    exact Fin.bool rfl hokH (by simp) (by simp)
  simp -implicitDefEqProofs [go_sem]
  refine SWp.seq (SWp.seq (Wp.s ?_))
  simp -implicitDefEqProofs [go_sem]
  refine Wp.s ?_
  simp -implicitDefEqProofs [go_sem]
  rw [List.length_append, List.length_singleton] at hG hb1 hb2
  obtain ⟨hG1, hG2, hG3⟩ := take_pre hG
  refine SWp.join (α := Hp × List Nat) (fun x => ([], x.1, x.2)) (fun x => x.1.take H.length = H ∧ x.2.take V.length = V) ?_ ?_
  · refine SWp.seq (Wp.s ?_)
    simp -implicitDefEqProofs [go_sem, hbx_of hG2]
    refine SWp.block ?_
    refine SWp.loop (α := Nat × Rn × Nat × Nat × Hp × List Nat) (fun x => ([(3, .ptr b 0), (18, .sl .sh 2 (p.steps.map psC)), (19, ci p.steps.length), (20, ci x.1)], x.2.2.2.2.1, x.2.2.2.2.2))
      (fun x => x.1 ≤ p.steps.length ∧ ROk sz x.1 x.2.1 ∧ RunAt b bT kc x.2.2.1 ks x.2.2.2.1 x.2.1 x.2.2.2.2.1 x.2.2.2.2.2 ∧ x.2.2.2.2.1.take H.length = H ∧ x.2.2.2.2.2.take V.length = V ∧ H.length ≤ x.2.2.2.2.1.length)
      (fun x => p.steps.length - x.1) (0, R, vc, vs, G, W) ⟨Nat.zero_le _, hR, hr, hG1, hW, by show H.length ≤ G.length; omega⟩ (Sh.forget (by simp [go_sem]) rfl rfl) ?_
    rintro ⟨i, R, vc, vs, G, W⟩ ⟨hi, hR, hr, hG1, hW, hGl⟩
    dsimp only at hi hR hr hG1 hW hGl ⊢
    clear hG2 hG3 hG
    refine SWp.seq (Wp.s ?_)
    simp -implicitDefEqProofs [go_sem]
    refine SWp.seq (Wp.s ?_)
    simp -implicitDefEqProofs [go_sem]
    refine ⟨fun h => ?_, fun h => ⟨G, W, ⟨hG1, hW⟩, Sh.forget (by simp [go_sem]) rfl rfl⟩⟩
    obtain ⟨f1, f2⟩ := few22_S (hfs p.steps[i] (List.getElem_mem h))
    refine SWp.seq (SWp.block (SWp.seq (Wp.s ?_)))
    simp -implicitDefEqProofs [go_sem, h]
    refine SWp.seq (Wp.s ?_)
    simp -implicitDefEqProofs [go_sem]
    refine CC.mono (step_cc _ _ b bT kc vc ks vs R p.steps[i] sz i (hr.app _) hR (by omega) f1 f2) ?_
    intro r' G' W' hst
    obtain ⟨R', vc', vs', hR', hr', hGt, hWt⟩ := hst.run (hr.app _)
    have hGt' := hGt H.length (by omega) (by omega)
    rw [List.take_append_of_le_length hGl, hG1] at hGt'
    have hWt' := hWt V.length hk1 hk2
    rw [hW] at hWt'
    clear hst hGt hWt hr hR hG1 hW hGl
    simp -implicitDefEqProofs [go_sem]
    clear vc vs
    have hX := hr'.hbx
    have hgo := hR'.good
    have hchk := hR'.chk
    have hkl := hR'.fo.kl
    have hkl' : ¬ R'.f.limit < (R'.f.kept.length : Int) := by omega
    have hle := hR'.fo.le
    have hGl' : H.length ≤ G'.length := by have := hr'.lt.1; omega
    refine SWp.seq (SWp.seq (SWp.drawnT [] [] (.s 0 .pl <| .s 1 .pl <| .s 2 .pl <| .s 3 .pl <| .s 4 .pl <| .s 5 .pl <| .s 6 .pl <| .s 7 .pl <| .s 8 .pl <| .s 9 .pl <| .s 10 .pl <| .s 11 .pl <| .s 12 .pl <| .s 13 .pl <| .s 14 .pl <| .s 15 .pl <| .s 16 .pl <| .s 17 .pl <| .s 18 .pl <| .s 19 .pl <| .s 20 .pl <| .s 21 .pl <| .s 22 .pl <| .s 23 .pl <| .s 24 .pl <| .s 25 .pl <| .s 26 .pl <| .n) (by kernel_rfl) (by kernel_rfl) ?_))
    simp -implicitDefEqProofs [go_sem, hX, hgo]
    refine CC.mono (show CC Tryz.prog 27 [.agg [ci R'.f.limit, .sl .sh 5 (R'.f.kept.map cycC), .sl .sh 1 (R'.f.app.map ic), .sl .sh 1 (R'.f.lost.map boE)]] _ _ _ from Check_cc _ _ R'.f hR'.sm) ?_
    rintro _ _ _ ⟨rfl, rfl, rfl⟩
    simp -implicitDefEqProofs [go_sem, hX, hchk, hkl']
    refine Wp.s ?_
    simp -implicitDefEqProofs [go_sem]
    refine SWp.seq (Wp.s ?_)
    simp -implicitDefEqProofs [go_sem]
    refine SWp.seq (SWp.seq (Wp.s ?_))
    simp -implicitDefEqProofs [go_sem, hX]
    refine CC.mono (show CC Tryz.prog 26 [.agg [ci R'.f.limit, .sl .sh 5 (R'.f.kept.map cycC), .sl .sh 1 (R'.f.app.map ic), .sl .sh 1 (R'.f.lost.map boE)]] _ _ _ from Oldest_cc _ _ R'.f hR'.sm) ?_
    rintro _ _ _ ⟨rfl, rfl, rfl⟩
    have hw1 : IntKind.i64.wrap ((i : Int) + 1) = (i : Int) + 1 := IntWalk.i64_in _ ⟨by omega, by omega⟩
    have hold : oldF R'.f = leastF R'.f := by rw [oldF, if_neg (by simp [hchk])]
    rw [hold]
    simp -implicitDefEqProofs [go_sem]
    have hend : ∀ T : Tm, TLe T [(3, .ptr b 0), (18, .sl .sh 2 (p.steps.map psC)), (19, ci p.steps.length), (20, ci ((i : Int) + 1))] → ∃ a a_1 a_2 a_3 a_4 b_1, (a ≤ p.steps.length ∧ ROk sz a a_1 ∧ RunAt b bT kc a_2 ks a_3 a_1 a_4 b_1 ∧ List.take (List.length H) a_4 = H ∧ List.take V.length b_1 = V ∧ List.length H ≤ List.length a_4) ∧ p.steps.length - a < p.steps.length - i ∧ Sh 86 (List.length H) V.length T G' W' ([(3, CV.ptr b 0), (18, CV.sl Tk.sh 2 (List.map psC p.steps)), (19, ci p.steps.length), (20, ci a)], a_4, b_1) := fun T hT =>
      ⟨i + 1, R', vc', vs', G', W', ⟨by omega, hR', hr', hGt', hWt', hGl'⟩, by omega, Sh.forget (by rw [show (((i + 1 : Nat)) : Int) = (i : Int) + 1 by omega]; exact hT) rfl rfl⟩
    refine SWp.seq (Wp.s ?_)
    by_cases hn : leastF R'.f < 0
    · have hn' : ¬ 0 ≤ leastF R'.f := by omega
      have hke : R'.f.kept = [] := by rw [hR'.fo.kp, keptK, if_pos hn]
      simp -implicitDefEqProofs [go_sem, hn, hn']
      refine Wp.s ?_
      simp -implicitDefEqProofs [go_sem]
      refine SWp.seq (Wp.s ?_)
      simp -implicitDefEqProofs [go_sem, hX, hke]
      refine CC.le (ys := [.sl .sh 5 (([] : List Cyc).map cycC), .sl .sh 5 (([] : List Cyc).map cycC), .fn 17 []]) (.cons (.refl _) (.cons (.nil 5 (by decide)) (.cons (.refl _) .nil))) ?_
      refine CC.mono (eqCyc_cc _ _ [] [] (by simp) (fun c hc => by cases hc)) ?_
      rintro _ _ _ ⟨rfl, rfl, rfl⟩
      simp -implicitDefEqProofs [go_sem]
      refine Wp.s ?_
      simp -implicitDefEqProofs [go_sem]
      refine Wp.s ?_
      simp -implicitDefEqProofs [go_sem, hw1]
      exact hend _ (by simp [go_sem])
    obtain ⟨m, hm⟩ := Int.eq_ofNat_of_zero_le (show 0 ≤ leastF R'.f by omega)
    have hmN : m ≤ R'.cyc.length := by omega
    have hke : R'.f.kept = R'.cyc.drop m := by rw [hR'.fo.kp, keptK, if_neg hn, hm]; rfl
    simp -implicitDefEqProofs [go_sem, hm, hmN, hX]
    refine Wp.s ?_
    simp -implicitDefEqProofs [go_sem, hm, hmN, hX]
    refine SWp.seq (Wp.s ?_)
    simp -implicitDefEqProofs [go_sem, hX, hm, hmN]
    refine CC.le (ys := [.sl .sh 5 (R'.f.kept.map cycC), .sl .sh 5 (R'.f.kept.map cycC), .fn 17 []]) (.cons (.refl _) (.cons (by rw [hke, List.map_drop]; exact .sh _ _ _) (.cons (.refl _) .nil))) ?_
    refine CC.mono (eqCyc_cc _ _ R'.f.kept R'.f.kept (by have := hR'.sm.kl; omega) (fun c hc => hR'.cy.sm c (hR'.fo.kin hc))) ?_
    rintro _ _ _ ⟨rfl, rfl, rfl⟩
    simp -implicitDefEqProofs [go_sem]
    refine Wp.s ?_
    simp -implicitDefEqProofs [go_sem]
    refine Wp.s ?_
    simp -implicitDefEqProofs [go_sem, hw1]
    exact hend _ (by simp [go_sem])
  rintro ⟨G, W⟩ ⟨h1, h2⟩
  dsimp only at h1 h2 ⊢
  refine SWp.seq (Wp.s ?_)
  simp -implicitDefEqProofs [go_sem]
  refine CC.mono (awake_cc _ _) ?_
  rintro _ _ _ ⟨rfl, rfl, rfl⟩
  simp -implicitDefEqProofs [go_sem]
  refine Wp.s ?_
  simp -implicitDefEqProofs [go_sem]
  exact Fin.bool rfl hokH h1 h2
end Go.Proofs.YtpadnceoacbaeaaGreat
namespace Go.Proofs.YtpadnceoacbaeaaGreat
open Go.Proofs
theorem ROk.ret {sz : List Int} {k : Nat} {R : Rn} (h : ROk sz k R) {t : Nat} (ht : R.f.lost[t]? = some true) (h0 : 0 ≤ leastF R.f) (n : Nat) :
    ((n : Int) < leastF R.f ∨ R.cyc.length < n → joinF R.f t n = .error 15) ∧ (leastF R.f ≤ n → n ≤ R.cyc.length → ∃ g, joinF R.f t n = .ok g ∧ FOk R.cyc g ∧ nextF g t = R.cyc[n]?) := by
  obtain ⟨hlt, hl⟩ := List.getElem?_eq_some_iff.1 ht
  have hta : t < R.f.app.length := by have := h.fo.ll; omega
  have hN := h.N
  have hex := h.fo.exists0 h.cy (by omega) hta
  have hb := h.fo.bnd h.cy h0 n
  refine ⟨fun q => ?_, fun q1 q2 => ?_⟩
  · rw [joinF_in hex hlt, if_neg (by rw [hl]; simp), if_pos ⟨h0, by
      rw [Bool.eq_false_iff]; intro e; have := hb.1 e; omega⟩]
  · obtain ⟨g1, g2⟩ := h.fo.joins h.cy ht q2 (fun e => by omega) q1
    refine ⟨⟨R.f.limit, R.f.kept, R.f.app.set t n, R.f.lost.set t false⟩, ?_, g1, ?_⟩
    · rw [joinF_in hex hlt, if_neg (by rw [hl]; simp), if_neg (by rw [hb.2 ⟨q1, by omega⟩]; simp), if_neg (by omega)]
    · have e1 := g1.exists0 h.cy (by omega) (t := t) (by simpa using hta)
      rw [nextF_in e1 (by simpa using hta) (by simpa using hlt), if_neg (by simp)]
      have := g1.find h.cy (by rw [g2 h0]; exact h0) (a := n) (by rw [g2 h0]; exact q1)
      rw [← this]
      congr 1
      funext c
      simp [nxP]
def othU (lost : List Bool) (t : Nat) : Nat → Bool
  | 0 => false
  | i + 1 => othU lost t i || (decide (i ≠ t) && !lost.getD i true)
theorem othU_ex {lost : List Bool} {t : Nat} : ∀ {i : Nat}, othU lost t i = true → ∃ j : Nat, lost[j]? = some false
  | i + 1, h => by
    rw [othU, Bool.or_eq_true, Bool.and_eq_true] at h
    rcases h with h | ⟨_, h⟩
    · exact othU_ex h
    · refine ⟨i, ?_⟩
      rw [List.getD_eq_getElem?_getD] at h
      cases hq : lost[i]? with
      | none => rw [hq] at h; simp at h
      | some b => rw [hq] at h; cases b <;> simp at h ⊢
set_option maxRecDepth 8000 in
set_option maxHeartbeats 1600000 in
theorem Returns_cc (H : Hp) (V : List Nat) (p : Pln) (tg nb : UInt8) (hp : p.sizes.length ≤ 9223372036854775807) : CC Tryz.prog 5 [.agg (plC p), .v (.int .u8 (tg.toNat : Int)), .v (.int .u8 (nb.toNat : Int))] H V (Pu (cb true) H V) := by
  refine CC.of_swp Tryz.func5 rfl (by kernel_rfl) (by rw [Tryz.ntmps5]; exact len_le _ _ rfl) fun hok hokH => ?_
  clear hok
  refine SWp.seq (Wp.s ?_)
  simp -implicitDefEqProofs [go_sem, args0]
  refine SWp.seq (Wp.s ?_)
  simp -implicitDefEqProofs [go_sem]
  refine CC.mono (begin_cc _ _ p hp) ?_
  rintro r G W (⟨rfl, rfl, rfl⟩ | ⟨b, bT, kc, vc, ks, vs, sz, R, rfl, hsl, hfs, hR, hr, hG, hW, hb1, hb2, hk1, hk2⟩)
  · simp -implicitDefEqProofs [go_sem]
    refine SWp.seq (SWp.seq (Wp.s ?_))
    simp -implicitDefEqProofs [go_sem]
    refine Wp.s ?_
    simp -implicitDefEqProofs [go_sem]
    refine CC.mono (awake_cc _ _) ?_
    rintro _ _ _ ⟨rfl, rfl, rfl⟩
    simp -implicitDefEqProofs [go_sem]
    exact Fin.bool rfl hokH (by simp) (by simp)
  simp -implicitDefEqProofs [go_sem]
  refine SWp.seq (SWp.seq (Wp.s ?_))
  simp -implicitDefEqProofs [go_sem]
  refine Wp.s ?_
  simp -implicitDefEqProofs [go_sem]
  rw [List.length_append, List.length_singleton] at hG hb1 hb2
  obtain ⟨hG1, hG2, hG3⟩ := take_pre hG
  refine SWp.join (α := Rn × Nat × Nat × Hp × List Nat) (fun x => ([(1, .v (.int .u8 (tg.toNat : Int))), (2, .v (.int .u8 (nb.toNat : Int))), (7, .ptr b 0)], x.2.2.2.1, x.2.2.2.2)) (fun x => ROk sz 40 x.1 ∧ RunAt b bT kc x.2.1 ks x.2.2.1 x.1 x.2.2.2.1 x.2.2.2.2 ∧ x.2.2.2.1.take H.length = H ∧ x.2.2.2.2.take V.length = V) ?_ ?_
  · refine SWp.seq (Wp.s ?_)
    simp -implicitDefEqProofs [go_sem, hbx_of hG2]
    refine SWp.block ?_
    refine SWp.loop (α := Nat × Rn × Nat × Nat × Hp × List Nat) (fun x => ([(1, .v (.int .u8 (tg.toNat : Int))), (2, .v (.int .u8 (nb.toNat : Int))), (7, .ptr b 0), (29, .sl .sh 2 (p.steps.map psC)), (30, ci p.steps.length), (31, ci x.1)], x.2.2.2.2.1, x.2.2.2.2.2))
      (fun x => x.1 ≤ p.steps.length ∧ ROk sz x.1 x.2.1 ∧ RunAt b bT kc x.2.2.1 ks x.2.2.2.1 x.2.1 x.2.2.2.2.1 x.2.2.2.2.2 ∧ x.2.2.2.2.1.take H.length = H ∧ x.2.2.2.2.2.take V.length = V ∧ H.length ≤ x.2.2.2.2.1.length)
      (fun x => p.steps.length - x.1) (0, R, vc, vs, G, W) ⟨Nat.zero_le _, hR, hr, hG1, hW, by show H.length ≤ G.length; omega⟩ (Sh.forget (by simp [go_sem]) rfl rfl) ?_
    rintro ⟨i, R, vc, vs, G, W⟩ ⟨hi, hR, hr, hG1, hW, hGl⟩
    dsimp only at hi hR hr hG1 hW hGl ⊢
    clear hG2 hG3 hG
    refine SWp.seq (Wp.s ?_)
    simp -implicitDefEqProofs [go_sem]
    refine SWp.seq (Wp.s ?_)
    simp -implicitDefEqProofs [go_sem]
    refine ⟨fun h => ?_, fun h => ⟨R, vc, vs, G, W, ⟨hR.up (by omega) (Nat.le_refl _), hr, hG1, hW⟩, Sh.forget (by simp [go_sem]) rfl rfl⟩⟩
    obtain ⟨f1, f2⟩ := few22_S (hfs p.steps[i] (List.getElem_mem h))
    refine SWp.seq (SWp.block (SWp.seq (Wp.s ?_)))
    simp -implicitDefEqProofs [go_sem, h]
    refine Wp.s ?_
    simp -implicitDefEqProofs [go_sem]
    refine CC.mono (step_cc _ _ b bT kc vc ks vs R p.steps[i] sz i (hr.app _) hR (by omega) f1 f2) ?_
    intro r' G' W' hst
    obtain ⟨R', vc', vs', hR', hr', hGt, hWt⟩ := hst.run (hr.app _)
    have hGt' := hGt H.length (by omega) (by omega)
    rw [List.take_append_of_le_length hGl, hG1] at hGt'
    have hWt' := hWt V.length hk1 hk2
    rw [hW] at hWt'
    clear hst hGt hWt hr hR hG1 hW hGl
    simp -implicitDefEqProofs [go_sem]
    have hw1 : IntKind.i64.wrap ((i : Int) + 1) = (i : Int) + 1 := IntWalk.i64_in _ ⟨by omega, by omega⟩
    refine Wp.s ?_
    simp -implicitDefEqProofs [go_sem, hw1]
    exact ⟨i + 1, R', vc', vs', G', W', ⟨by omega, hR', hr', hGt', hWt', by have := hr'.lt.1; omega⟩, by omega, Sh.forget (by simp [go_sem]) rfl rfl⟩
  rintro ⟨R, vc, vs, G, W⟩ ⟨hR, hr, h1, h2⟩
  dsimp only at hR hr h1 h2 ⊢
  clear hG hG1 hG2 hG3 hW
  have hX := hr.hbx
  have hgo := hR.good
  have htl := hR.tl
  have hll := hR.fo.ll
  have ha1 := hR.fo.a1
  have ha4 := hR.fo.a4
  have hN := hR.N
  refine SWp.seq (SWp.seq (Wp.s ?_))
  simp -implicitDefEqProofs [go_sem, hX, hgo]
  refine Wp.s ?_
  simp -implicitDefEqProofs [go_sem]
  obtain ⟨t, htd⟩ : ∃ t : Nat, t = tg.toNat % R.tgt.length := ⟨_, rfl⟩
  have htT : t < R.tgt.length := by rw [htd]; exact Nat.mod_lt _ (by omega)
  have htg8 : tg.toNat < 256 := tg.toNat_lt
  have hnb8 : nb.toNat < 256 := nb.toNat_lt
  obtain ⟨tk, htk⟩ : ∃ tk : Nat, tk = tg.toNat := ⟨_, rfl⟩
  obtain ⟨nk, hnk⟩ : ∃ nk : Nat, nk = nb.toNat := ⟨_, rfl⟩
  have w1 : IntKind.i64.wrap (tg.toNat : Int) = (tk : Int) := by rw [← htk]; exact IntWalk.i64_in _ ⟨by omega, by omega⟩
  have w2 : IntKind.i64.wrap (nb.toNat : Int) = (nk : Int) := by rw [← hnk]; exact IntWalk.i64_in _ ⟨by omega, by omega⟩
  have w3 : Int.tmod (tk : Int) (R.tgt.length : Int) = (t : Int) := by rw [htd, htk]; exact (Int.ofNat_tmod _ _).symm
  have w3' : (tk : Int) % (R.tgt.length : Int) = (t : Int) := by rw [htd, htk]; exact (Int.natCast_emod _ _).symm
  refine SWp.seq (Wp.s ?_)
  simp -implicitDefEqProofs [go_sem, hX, w1, w3, w3']
  refine ⟨fun e => by rw [e] at htT; simp at htT, ?_⟩
  refine SWp.seq (Wp.s ?_)
  simp -implicitDefEqProofs [go_sem]
  refine SWp.join (α := Unit) (fun _ => ([(2, .v (.int .u8 (nb.toNat : Int))), (7, .ptr b 0), (11, ci t), (12, .v (.bool (othU R.f.lost t R.f.lost.length)))], G, W)) (fun _ => True) ?_ ?_
  · refine SWp.seq (Wp.s ?_)
    simp -implicitDefEqProofs [go_sem, hX]
    refine SWp.block ?_
    refine SWp.loop (α := Nat) (fun i => ([(2, .v (.int .u8 (nb.toNat : Int))), (7, .ptr b 0), (11, ci t), (12, .v (.bool (othU R.f.lost t i))), (56, .sl .sh 1 (R.f.lost.map boE)), (57, ci R.f.lost.length), (58, ci i)], G, W)) (fun i => i ≤ R.f.lost.length) (fun i => R.f.lost.length - i) 0 (Nat.zero_le _) (Sh.forget (by simp [go_sem, othU]) rfl rfl) ?_
    intro i hi
    dsimp only
    refine SWp.seq (Wp.s ?_)
    simp -implicitDefEqProofs [go_sem]
    refine SWp.seq (Wp.s ?_)
    simp -implicitDefEqProofs [go_sem]
    refine ⟨fun h => ?_, fun h => ?_⟩
    case refine_2 =>
      obtain rfl : i = R.f.lost.length := by omega
      exact Sh.forget (by simp [go_sem]) rfl rfl
    have hw1 : IntKind.i64.wrap ((i : Int) + 1) = (i : Int) + 1 := IntWalk.i64_in _ ⟨by omega, by omega⟩
    have hgd : R.f.lost.getD i true = R.f.lost[i] := getD_at h _
    refine SWp.seq (SWp.block (SWp.seq (Wp.s ?_)))
    simp -implicitDefEqProofs [go_sem, h]
    refine Wp.s ?_
    have hs1 : othU R.f.lost t (i + 1) = (othU R.f.lost t i || (decide (i ≠ t) && !R.f.lost[i])) := by rw [othU, hgd]
    cases ho : othU R.f.lost t i
    · by_cases hit : i = t
      · have hs2 : othU R.f.lost t (i + 1) = false := by rw [hs1, ho]; simp [hit]
        have hit' : (i : Int) = (t : Int) := by omega
        rw [hit'] at hw1
        simp -implicitDefEqProofs [go_sem, ho, hit']
        refine Wp.s ?_
        simp -implicitDefEqProofs [go_sem, hw1]
        exact ⟨i + 1, by omega, by omega, Sh.forget (by simp [go_sem, hs2, hw1, hit']) rfl rfl⟩
      · have hit' : ¬ (i : Int) = (t : Int) := by omega
        cases hb : R.f.lost[i]
        · have hs2 : othU R.f.lost t (i + 1) = true := by rw [hs1, ho, hb]; simp [hit]
          simp -implicitDefEqProofs [go_sem, ho, hit, hit', hb, h]
          refine Wp.s ?_
          simp -implicitDefEqProofs [go_sem, hw1]
          exact ⟨i + 1, by omega, by omega, Sh.forget (by simp [go_sem, hs2]) rfl rfl⟩
        · have hs2 : othU R.f.lost t (i + 1) = false := by rw [hs1, ho, hb]; simp
          simp -implicitDefEqProofs [go_sem, ho, hit, hit', hb, h]
          refine Wp.s ?_
          simp -implicitDefEqProofs [go_sem, hw1]
          exact ⟨i + 1, by omega, by omega, Sh.forget (by simp [go_sem, hs2]) rfl rfl⟩
    · have hs2 : othU R.f.lost t (i + 1) = true := by rw [hs1, ho]; rfl
      simp -implicitDefEqProofs [go_sem, ho]
      refine Wp.s ?_
      simp -implicitDefEqProofs [go_sem, hw1]
      exact ⟨i + 1, by omega, by omega, Sh.forget (by simp [go_sem, hs2]) rfl rfl⟩
  rintro _ -
  dsimp only
  have htl' : t < R.f.lost.length := by omega
  refine SWp.seq (SWp.seq (Wp.s ?_))
  have haw : Fin H.length V.length (Pu (cb true) H V) (cb true) G W := Fin.bool rfl hokH h1 h2
  cases hlo : R.f.lost[t]
  · simp -implicitDefEqProofs [go_sem, hX, htl', hlo]
    refine Wp.s ?_
    simp -implicitDefEqProofs [go_sem]
    refine CC.mono (awake_cc _ _) ?_
    rintro _ _ _ ⟨rfl, rfl, rfl⟩
    simp -implicitDefEqProofs [go_sem]
    exact haw
  cases hot : othU R.f.lost t R.f.lost.length
  · simp -implicitDefEqProofs [go_sem, hX, htl', hlo]
    refine Wp.s ?_
    simp -implicitDefEqProofs [go_sem]
    refine CC.mono (awake_cc _ _) ?_
    rintro _ _ _ ⟨rfl, rfl, rfl⟩
    simp -implicitDefEqProofs [go_sem]
    exact haw
  obtain ⟨j, hj⟩ := othU_ex hot
  have h0 : 0 ≤ leastF R.f := by
    have hja : j < R.f.app.length := by have := (List.getElem?_eq_some_iff.1 hj).1; omega
    exact (leastI_le hR.fo.n0 (List.getElem?_eq_getElem hja) hj).1
  simp -implicitDefEqProofs [go_sem, hX, htl', hlo]
  refine Wp.s ?_
  simp -implicitDefEqProofs [go_sem]
  obtain ⟨n, hn⟩ : ∃ n : Nat, n = nk % (R.cyc.length + 2) := ⟨_, rfl⟩
  have w4 : IntKind.i64.wrap ((R.cyc.length : Int) + 2) = ((R.cyc.length + 2 : Nat) : Int) := by rw [IntWalk.i64_in _ ⟨by omega, by omega⟩]; omega
  have w5 : Int.tmod (nk : Int) ((R.cyc.length + 2 : Nat) : Int) = (n : Int) := by rw [hn]; exact (Int.ofNat_tmod _ _).symm
  have w5' : (nk : Int) % ((R.cyc.length + 2 : Nat) : Int) = (n : Int) := by rw [hn]; exact (Int.natCast_emod _ _).symm
  have w6 : ((R.cyc.length + 2 : Nat) : Int) = (R.cyc.length : Int) + 2 := by omega
  rw [w6] at w4 w5 w5'
  refine SWp.seq (Wp.s ?_)
  simp -implicitDefEqProofs [go_sem, hX, w2, w4, w5, w5']
  refine ⟨by omega, ?_⟩
  obtain ⟨j1, j2⟩ := hR.ret (t := t) (by rw [List.getElem?_eq_getElem htl', hlo]) h0 n
  refine SWp.seq (Wp.s ?_)
  simp -implicitDefEqProofs [go_sem, hX]
  refine CC.mono (show CC Tryz.prog 22 [.agg [ci R.f.limit, .sl .sh 5 (R.f.kept.map cycC), .sl .sh 1 (R.f.app.map ic), .sl .sh 1 (R.f.lost.map boE)], ci t, ci n] _ _ _ from Join_cc _ _ R.f t n hR.sm) ?_
  rintro _ _ _ ⟨rfl, rfl, rfl⟩
  rw [dvF_eq]
  have hold : oldF R.f = leastF R.f := by rw [oldF, if_neg (by simp [hR.chk])]
  have hX2 : ∀ (Z : Hp) (K : List CV → Prop), hbx (G ++ Z) b K = K [ci R.f.limit, .sl .sh 5 (R.f.kept.map cycC), .sl .sh 1 (R.f.app.map ic), .sl .sh 1 (R.f.lost.map boE), .sl (.own kc vc) 5 (R.cyc.map cycC), .sl (.own ks vs) 1 (R.src.map iE), .bsl bT 0 R.tgt.length 1, cbo R.good] := fun Z => (hr.app Z).hbx
  have hGl : H.length ≤ G.length := by have := hr.lt.1; omega
  have haw2 : ∀ Z : Hp, Fin H.length V.length (Pu (cb true) H V) (cb true) (G ++ Z) W := fun Z => Fin.bool rfl hokH (by rw [List.take_append_of_le_length hGl]; exact h1) h2
  by_cases hbad : (n : Int) < leastF R.f ∨ R.cyc.length < n
  · rw [j1 hbad]
    simp -implicitDefEqProofs [go_sem, exF]
    refine SWp.seq (SWp.seq (Wp.s ?_))
    simp -implicitDefEqProofs [go_sem, hX2]
    refine CC.mono (show CC Tryz.prog 26 [.agg [ci R.f.limit, .sl .sh 5 (R.f.kept.map cycC), .sl .sh 1 (R.f.app.map ic), .sl .sh 1 (R.f.lost.map boE)]] _ _ _ from Oldest_cc _ _ R.f hR.sm) ?_
    rintro _ _ _ ⟨rfl, rfl, rfl⟩
    rw [hold]
    by_cases hb3 : (n : Int) < leastF R.f
    · simp -implicitDefEqProofs [go_sem, hb3]
      refine Wp.s ?_
      simp -implicitDefEqProofs [go_sem]
      refine CC.mono (awake_cc _ _) ?_
      rintro _ _ _ ⟨rfl, rfl, rfl⟩
      simp -implicitDefEqProofs [go_sem]
      exact haw2 _
    · have hb4 : R.cyc.length < n := by omega
      have hb4' : (R.cyc.length : Int) < (n : Int) := by omega
      simp -implicitDefEqProofs [go_sem, hb3, hb4, hX2]
      refine Wp.s ?_
      simp -implicitDefEqProofs [go_sem]
      refine CC.mono (awake_cc _ _) ?_
      rintro _ _ _ ⟨rfl, rfl, rfl⟩
      simp -implicitDefEqProofs [go_sem]
      exact haw2 _
  have hb3 : ¬ (n : Int) < leastF R.f := fun e => hbad (.inl e)
  have hb4 : ¬ R.cyc.length < n := fun e => hbad (.inr e)
  obtain ⟨g, e1, e2, e3⟩ := j2 (by omega) (by omega)
  rw [e1]
  simp -implicitDefEqProofs [go_sem, exF]
  refine SWp.seq (SWp.seq (Wp.s ?_))
  simp -implicitDefEqProofs [go_sem, hX2]
  refine CC.mono (show CC Tryz.prog 26 [.agg [ci R.f.limit, .sl .sh 5 (R.f.kept.map cycC), .sl .sh 1 (R.f.app.map ic), .sl .sh 1 (R.f.lost.map boE)]] _ _ _ from Oldest_cc _ _ R.f hR.sm) ?_
  rintro _ _ _ ⟨rfl, rfl, rfl⟩
  rw [hold]
  have hb4' : ¬ (R.cyc.length : Int) < (n : Int) := by omega
  simp -implicitDefEqProofs [go_sem, hb3, hb4, hX2]
  refine Wp.s ?_
  simp -implicitDefEqProofs [go_sem]
  refine SWp.seq (Wp.s ?_)
  simp -implicitDefEqProofs [go_sem]
  refine CC.mono (Next_cc _ _ g t (e2.sm hR.cy)) ?_
  rintro _ _ _ ⟨rfl, rfl, rfl⟩
  rw [dvN_eq, e3]
  have hgc : chkF g = 0 := e2.chk hR.cy (by omega)
  by_cases hnN : n < R.cyc.length
  · have hnN' : (n : Int) < (R.cyc.length : Int) := by omega
    rw [List.getElem?_eq_getElem hnN]
    have hba := hR.cy.ba n hnN
    simp -implicitDefEqProofs [go_sem, nxC]
    refine SWp.seq (SWp.seq (Wp.s ?_))
    simp -implicitDefEqProofs [go_sem, hX2, hnN, hnN']
    refine Wp.s ?_
    simp -implicitDefEqProofs [go_sem]
    refine SWp.seq (Wp.s ?_)
    simp -implicitDefEqProofs [go_sem, hba, hgc]
    refine CC.mono (Check_cc _ _ g (e2.sm hR.cy)) ?_
    rintro _ _ _ ⟨rfl, rfl, rfl⟩
    simp -implicitDefEqProofs [go_sem, hgc]
    refine CC.mono (awake_cc _ _) ?_
    rintro _ _ _ ⟨rfl, rfl, rfl⟩
    simp -implicitDefEqProofs [go_sem]
    refine Wp.s ?_
    simp -implicitDefEqProofs [go_sem]
    exact haw2 _
  · have hnN' : ¬ (n : Int) < (R.cyc.length : Int) := by omega
    rw [List.getElem?_eq_none (by omega)]
    simp -implicitDefEqProofs [go_sem, nxC]
    refine SWp.seq (SWp.seq (Wp.s ?_))
    simp -implicitDefEqProofs [go_sem, hX2, hnN, hnN']
    refine Wp.s ?_
    simp -implicitDefEqProofs [go_sem]
    refine SWp.seq (Wp.s ?_)
    simp -implicitDefEqProofs [go_sem, hgc]
    refine CC.mono (Check_cc _ _ g (e2.sm hR.cy)) ?_
    rintro _ _ _ ⟨rfl, rfl, rfl⟩
    simp -implicitDefEqProofs [go_sem, hgc]
    refine CC.mono (awake_cc _ _) ?_
    rintro _ _ _ ⟨rfl, rfl, rfl⟩
    simp -implicitDefEqProofs [go_sem]
    refine Wp.s ?_
    simp -implicitDefEqProofs [go_sem]
    exact haw2 _
end Go.Proofs.YtpadnceoacbaeaaGreat
namespace Go.Proofs.YtpadnceoacbaeaaGreat
open Go.Proofs
theorem img_small {sz : List Int} (hs : sizesE sz = 0) {x : Img} (hx : imgSz x = sz) : x.length ≤ 1000000000 ∧ ∀ v ∈ x, v.length ≤ 1000000000 := by
  obtain ⟨h1, h2⟩ := sizes_pos (l := x) (by rw [hx]; exact hs)
  exact ⟨by omega, fun v hv => by have := (h2 v hv).2; omega⟩
theorem ROk.none {sz : List Int} {k : Nat} {R : Rn} (h : ROk sz k R) (hd : ∀ t : Nat, t < R.f.lost.length → R.f.lost[t]? = some false → R.f.app[t]? = some (R.cyc.length : Int)) : R.f.kept = [] := by
  rw [h.fo.kp, keptK]
  split
  · rfl
  · rename_i q
    obtain ⟨t, h1, h2⟩ := leastI_ex (app := R.f.app) (lost := R.f.lost) (by rw [← leastF_eq]; omega)
    have := hd t (List.getElem?_eq_some_iff.1 h2).1 h2
    rw [h1] at this
    have := Option.some.inj this
    rw [← leastF_eq] at this
    rw [this, Int.toNat_natCast, List.drop_length]
theorem RunTo.run {b bT kc ks vc vs : Nat} {R R' : Rn} {G G' : Hp} {W W' : List Nat} {r : CV} (hr : RunAt b bT kc vc ks vs R G W) (h : RunTo b bT (rnB bT kc vc ks vs R') (R'.tgt.map imV) G W r G' W') :
    RunAt b bT kc vc ks vs R' G' W' ∧ (∀ n, n ≤ b → n ≤ bT → G'.take n = G.take n) ∧ W' = W := by
  obtain ⟨rfl, rfl⟩ := h
  obtain ⟨l1, l2, l3, l4⟩ := hr.lt
  refine ⟨⟨?_, ?_, hr.vk, hr.vS, hr.hk, hr.hb⟩, fun n n1 n2 => ?_, rfl⟩
  · rw [List.getElem?_set_ne (Ne.symm hr.hb), List.getElem?_set_self l1]; rfl
  · rw [List.getElem?_set_self (by simpa using l2)]
  · rw [List.take_set_of_le n2, List.take_set_of_le n1]
def DnR (N t : Nat) (R : Rn) : Prop := ∀ t' : Nat, t' < t → R.f.lost[t']? = some false → R.f.app[t']? = some (N : Int)
def InR (N t i : Nat) (R : Rn) : Prop := ∀ a : Int, R.f.lost[t]? = some false → R.f.app[t]? = some a → a < N → (i : Int) ≤ a
set_option maxRecDepth 8000 in
set_option maxHeartbeats 1600000 in
theorem Feeds_cc (H : Hp) (V : List Nat) (p : Pln) (hp : p.sizes.length ≤ 9223372036854775807) : CC Tryz.prog 7 [.agg (plC p)] H V (Pu (cb true) H V) := by
  refine CC.of_swp Tryz.func7 rfl (by kernel_rfl) (by rw [Tryz.ntmps7]; exact len_le _ _ rfl) fun hok hokH => ?_
  clear hok
  refine SWp.seq (Wp.s ?_)
  simp -implicitDefEqProofs [go_sem, args0]
  refine SWp.seq (Wp.s ?_)
  simp -implicitDefEqProofs [go_sem]
  refine CC.mono (begin_cc _ _ p hp) ?_
  rintro r G W (⟨rfl, rfl, rfl⟩ | ⟨b, bT, kc, vc, ks, vs, sz, R, rfl, hsl, hfs, hR, hr, hG, hW, hb1, hb2, hk1, hk2⟩)
  · simp -implicitDefEqProofs [go_sem]
    refine SWp.seq (SWp.seq (Wp.s ?_))
    simp -implicitDefEqProofs [go_sem]
    refine Wp.s ?_
    simp -implicitDefEqProofs [go_sem]
    refine CC.mono (awake_cc _ _) ?_
    rintro _ _ _ ⟨rfl, rfl, rfl⟩
    simp -implicitDefEqProofs [go_sem]
    exact Fin.bool rfl hokH (by simp) (by simp)
  simp -implicitDefEqProofs [go_sem]
  refine SWp.seq (SWp.seq (Wp.s ?_))
  simp -implicitDefEqProofs [go_sem]
  refine Wp.s ?_
  simp -implicitDefEqProofs [go_sem]
  rw [List.length_append, List.length_singleton] at hG hb1 hb2
  obtain ⟨hG1, hG2, hG3⟩ := take_pre hG
  refine SWp.join (α := Rn × Nat × Nat × Hp × List Nat) (fun x => ([(3, .ptr b 0)], x.2.2.2.1, x.2.2.2.2)) (fun x => ROk sz 40 x.1 ∧ RunAt b bT kc x.2.1 ks x.2.2.1 x.1 x.2.2.2.1 x.2.2.2.2 ∧ x.2.2.2.1.take H.length = H ∧ x.2.2.2.2.take V.length = V) ?_ ?_
  · refine SWp.seq (Wp.s ?_)
    simp -implicitDefEqProofs [go_sem, hbx_of hG2]
    refine SWp.block ?_
    refine SWp.loop (α := Nat × Rn × Nat × Nat × Hp × List Nat) (fun x => ([(3, .ptr b 0), (20, .sl .sh 2 (p.steps.map psC)), (21, ci p.steps.length), (22, ci x.1)], x.2.2.2.2.1, x.2.2.2.2.2))
      (fun x => x.1 ≤ p.steps.length ∧ ROk sz x.1 x.2.1 ∧ RunAt b bT kc x.2.2.1 ks x.2.2.2.1 x.2.1 x.2.2.2.2.1 x.2.2.2.2.2 ∧ x.2.2.2.2.1.take H.length = H ∧ x.2.2.2.2.2.take V.length = V ∧ H.length ≤ x.2.2.2.2.1.length)
      (fun x => p.steps.length - x.1) (0, R, vc, vs, G, W) ⟨Nat.zero_le _, hR, hr, hG1, hW, by show H.length ≤ G.length; omega⟩ (Sh.forget (by simp [go_sem]) rfl rfl) ?_
    rintro ⟨i, R, vc, vs, G, W⟩ ⟨hi, hR, hr, hG1, hW, hGl⟩
    dsimp only at hi hR hr hG1 hW hGl ⊢
    clear hG2 hG3 hG
    refine SWp.seq (Wp.s ?_)
    simp -implicitDefEqProofs [go_sem]
    refine SWp.seq (Wp.s ?_)
    simp -implicitDefEqProofs [go_sem]
    refine ⟨fun h => ?_, fun h => ⟨R, vc, vs, G, W, ⟨hR.up (by omega) (Nat.le_refl _), hr, hG1, hW⟩, Sh.forget (by simp [go_sem]) rfl rfl⟩⟩
    obtain ⟨f1, f2⟩ := few22_S (hfs p.steps[i] (List.getElem_mem h))
    refine SWp.seq (SWp.block (SWp.seq (Wp.s ?_)))
    simp -implicitDefEqProofs [go_sem, h]
    refine SWp.seq (Wp.s ?_)
    simp -implicitDefEqProofs [go_sem]
    refine CC.mono (step_cc _ _ b bT kc vc ks vs R p.steps[i] sz i (hr.app _) hR (by omega) f1 f2) ?_
    intro r' G' W' hst
    obtain ⟨R', vc', vs', hR', hr', hGt, hWt⟩ := hst.run (hr.app _)
    have hGt' := hGt H.length (by omega) (by omega)
    rw [List.take_append_of_le_length hGl, hG1] at hGt'
    have hWt' := hWt V.length hk1 hk2
    rw [hW] at hWt'
    clear hst hGt hWt hr hR hG1 hW hGl
    simp -implicitDefEqProofs [go_sem]
    clear vc vs
    have hX := hr'.hbx
    have hgo := hR'.good
    have htl := hR'.tl
    have hll := hR'.fo.ll
    have hsr := hR'.sl
    have ha4 := hR'.fo.a4
    have hGl' : H.length ≤ G'.length := by have := hr'.lt.1; omega
    have hw1 : IntKind.i64.wrap ((i : Int) + 1) = (i : Int) + 1 := IntWalk.i64_in _ ⟨by omega, by omega⟩
    refine SWp.seq (SWp.seq (Wp.s ?_))
    simp -implicitDefEqProofs [go_sem, hX, hgo]
    refine Wp.s ?_
    simp -implicitDefEqProofs [go_sem]
    refine SWp.seq (Wp.s ?_)
    simp -implicitDefEqProofs [go_sem, hX]
    refine SWp.block ?_
    refine SWp.loop (α := Nat) (fun t => ([(3, .ptr b 0), (20, .sl .sh 2 (p.steps.map psC)), (21, ci p.steps.length), (22, ci i), (37, .bsl bT 0 R'.tgt.length 1), (38, ci R'.tgt.length), (39, ci t)], G', W')) (fun t => t ≤ R'.tgt.length) (fun t => R'.tgt.length - t) 0 (Nat.zero_le _) (Sh.forget (by simp [go_sem]) rfl rfl) ?_
    intro t ht
    dsimp only
    refine SWp.seq (Wp.s ?_)
    simp -implicitDefEqProofs [go_sem]
    refine SWp.seq (Wp.s ?_)
    simp -implicitDefEqProofs [go_sem]
    refine ⟨fun htT => ?_, fun _ => ?_⟩
    case refine_2 =>
      refine Wp.s ?_
      simp -implicitDefEqProofs [go_sem, hw1]
      exact ⟨i + 1, R', vc', vs', G', W', ⟨by omega, hR', hr', hGt', hWt', hGl'⟩, by omega, Sh.forget (by simp [go_sem]) rfl rfl⟩
    have hta : t < R'.f.app.length := by omega
    have htl' : t < R'.f.lost.length := by omega
    have hXT := hr'.hbT
    have hwt : IntKind.i64.wrap ((t : Int) + 1) = (t : Int) + 1 := IntWalk.i64_in _ ⟨by omega, by omega⟩
    refine SWp.seq (SWp.block (SWp.seq (Wp.s ?_)))
    simp -implicitDefEqProofs [go_sem, hXT, htT]
    refine SWp.seq (Wp.s ?_)
    simp -implicitDefEqProofs [go_sem, hX, hta]
    refine SWp.seq (Wp.s ?_)
    cases hlo : R'.f.lost[t]
    case true =>
      simp -implicitDefEqProofs [go_sem, hX, htl', hlo]
      refine Wp.s ?_
      simp -implicitDefEqProofs [go_sem]
      refine Wp.s ?_
      simp -implicitDefEqProofs [go_sem, hwt]
      exact ⟨t + 1, by omega, by omega, Sh.forget (by simp [go_sem]) rfl rfl⟩
    obtain ⟨a1, a2⟩ := hR'.fo.ap t _ (List.getElem?_eq_getElem hta)
    obtain ⟨a, ha⟩ := Int.eq_ofNat_of_zero_le a1
    have htg := hR'.tg t _ (by rw [List.getElem?_eq_getElem htl', hlo]) (List.getElem?_eq_getElem hta)
    have has : a < R'.src.length := by omega
    rw [ha, Int.toNat_natCast, List.getElem?_eq_getElem htT, List.getElem?_eq_getElem has] at htg
    have htg' := Option.some.inj htg
    have c1 : ¬ (a : Int) < 0 := by omega
    have c2 : ¬ (R'.src.length : Int) ≤ (a : Int) := by omega
    have c2' : ¬ R'.src.length ≤ a := by omega
    obtain ⟨i1, i2⟩ := img_small hR'.sE (hR'.ts _ (List.getElem_mem htT))
    simp -implicitDefEqProofs [go_sem, hX, htl', hlo, ha, c1, c2, c2', has]
    refine CC.mono (imSame_cc _ _ .sh .sh R'.tgt[t] R'.src[a] i1 i2) ?_
    rintro _ _ _ ⟨rfl, rfl, rfl⟩
    rw [htg']
    simp -implicitDefEqProofs [go_sem]
    refine Wp.s ?_
    simp -implicitDefEqProofs [go_sem]
    refine Wp.s ?_
    simp -implicitDefEqProofs [go_sem, hwt]
    exact ⟨t + 1, by omega, by omega, Sh.forget (by simp [go_sem]) rfl rfl⟩
  rintro ⟨R, vc, vs, G, W⟩ ⟨hR, hr, h1, h2⟩
  dsimp only at hR hr h1 h2 ⊢
  clear hG hG1 hG2 hG3 hW
  obtain ⟨N, hN⟩ : ∃ N, N = R.cyc.length := ⟨_, rfl⟩
  obtain ⟨T, hT⟩ : ∃ T, T = R.tgt.length := ⟨_, rfl⟩
  have hT4 : T ≤ 4 := by have := hR.tl; have := hR.fo.a4; omega
  have hN40 : N ≤ 40 := by have := hR.N; omega
  refine SWp.join (α := Rn × Nat × Nat × Hp × List Nat) (fun x => ([(3, .ptr b 0)], x.2.2.2.1, x.2.2.2.2)) (fun x => ROk sz 40 x.1 ∧ RunAt b bT kc x.2.1 ks x.2.2.1 x.1 x.2.2.2.1 x.2.2.2.2 ∧ x.2.2.2.1.take H.length = H ∧ x.2.2.2.2.take V.length = V ∧ x.1.cyc.length = N ∧ x.1.tgt.length = T ∧ DnR N T x.1) ?_ ?_
  · refine SWp.seq (Wp.s ?_)
    simp -implicitDefEqProofs [go_sem, hr.hbx]
    refine SWp.block ?_
    refine SWp.loop (α := Nat × Rn × Nat × Nat × Hp × List Nat) (fun x => ([(3, .ptr b 0), (92, ci T), (93, ci x.1)], x.2.2.2.2.1, x.2.2.2.2.2))
      (fun x => x.1 ≤ T ∧ ROk sz 40 x.2.1 ∧ RunAt b bT kc x.2.2.1 ks x.2.2.2.1 x.2.1 x.2.2.2.2.1 x.2.2.2.2.2 ∧ x.2.2.2.2.1.take H.length = H ∧ x.2.2.2.2.2.take V.length = V ∧ x.2.1.cyc.length = N ∧ x.2.1.tgt.length = T ∧ DnR N x.1 x.2.1)
      (fun x => T - x.1) (0, R, vc, vs, G, W) ⟨Nat.zero_le _, hR, hr, h1, h2, hN.symm, hT.symm, fun t' h => absurd h (Nat.not_lt_zero _)⟩ (Sh.forget (by simp [go_sem, hT]) rfl rfl) ?_
    clear hT hN
    clear hr hR h1 h2
    rintro ⟨t, R, vc, vs, G, W⟩ ⟨ht, hR, hr, h1, h2, hN, hT, hD⟩
    dsimp only at ht hR hr h1 h2 hN hT hD ⊢
    refine SWp.seq (Wp.s ?_)
    simp -implicitDefEqProofs [go_sem]
    refine SWp.seq (Wp.s ?_)
    simp -implicitDefEqProofs [go_sem]
    refine ⟨fun htT => ?_, fun h => ?_⟩
    case refine_2 =>
      obtain rfl : t = T := by omega
      exact ⟨R, vc, vs, G, W, ⟨hR, hr, h1, h2, hN, hT, hD⟩, Sh.forget (by simp [go_sem]) rfl rfl⟩
    refine SWp.seq (SWp.block ?_)
    refine SWp.seq (Wp.s ?_)
    simp -implicitDefEqProofs [go_sem]
    have wN : IntKind.i64.wrap ((N : Int) + 1) = (N : Int) + 1 := IntWalk.i64_in _ ⟨by omega, by omega⟩
    have hwt : IntKind.i64.wrap ((t : Int) + 1) = (t : Int) + 1 := IntWalk.i64_in _ ⟨by omega, by omega⟩
    refine SWp.join (α := Rn × Nat × Nat × Hp × List Nat) (fun x => ([(3, .ptr b 0), (10, ci t), (92, ci T), (93, ci t)], x.2.2.2.1, x.2.2.2.2)) (fun x => ROk sz 40 x.1 ∧ RunAt b bT kc x.2.1 ks x.2.2.1 x.1 x.2.2.2.1 x.2.2.2.2 ∧ x.2.2.2.1.take H.length = H ∧ x.2.2.2.2.take V.length = V ∧ x.1.cyc.length = N ∧ x.1.tgt.length = T ∧ DnR N (t + 1) x.1) ?_ ?_
    · refine SWp.seq (Wp.s ?_)
      simp -implicitDefEqProofs [go_sem, hr.hbx, hN, wN]
      refine SWp.block ?_
      refine SWp.loop (α := Nat × Rn × Nat × Nat × Hp × List Nat) (fun x => ([(3, .ptr b 0), (10, ci t), (92, ci T), (93, ci t), (101, ci ((N : Int) + 1)), (102, ci x.1)], x.2.2.2.2.1, x.2.2.2.2.2))
        (fun x => x.1 ≤ N + 1 ∧ ROk sz 40 x.2.1 ∧ RunAt b bT kc x.2.2.1 ks x.2.2.2.1 x.2.1 x.2.2.2.2.1 x.2.2.2.2.2 ∧ x.2.2.2.2.1.take H.length = H ∧ x.2.2.2.2.2.take V.length = V ∧ x.2.1.cyc.length = N ∧ x.2.1.tgt.length = T ∧ DnR N t x.2.1 ∧ InR N t x.1 x.2.1)
        (fun x => N + 1 - x.1) (0, R, vc, vs, G, W) ⟨Nat.zero_le _, hR, hr, h1, h2, hN, hT, hD, fun a _ h _ => (hR.fo.ap t a h).1⟩ (Sh.forget (by simp [go_sem]) rfl rfl) ?_
      clear hr hR h1 h2 hN hT hD
      rintro ⟨i, R, vc, vs, G, W⟩ ⟨hi, hR, hr, h1, h2, hN, hT, hD, hI⟩
      dsimp only at hi hR hr h1 h2 hN hT hD hI ⊢
      have htl := hR.tl
      have hll := hR.fo.ll
      have hta : t < R.f.app.length := by omega
      have htl' : t < R.f.lost.length := by omega
      have hwi : IntKind.i64.wrap ((i : Int) + 1) = (i : Int) + 1 := IntWalk.i64_in _ ⟨by omega, by omega⟩
      refine SWp.seq (Wp.s ?_)
      simp -implicitDefEqProofs [go_sem]
      refine SWp.seq (Wp.s ?_)
      simp -implicitDefEqProofs [go_sem]
      refine ⟨fun hiN' => ?_, fun hiN' => ?_⟩
      case refine_2 =>
        refine ⟨R, vc, vs, G, W, ⟨hR, hr, h1, h2, hN, hT, fun t' q1 q2 => ?_⟩, Sh.forget (by simp [go_sem]) rfl rfl⟩
        by_cases e : t' = t
        · subst e
          have q3 := hR.fo.ap t' _ (List.getElem?_eq_getElem hta)
          have q4 := hI _ q2 (List.getElem?_eq_getElem hta)
          rw [List.getElem?_eq_getElem hta]
          congr 1; omega
        · exact hD t' (by omega) q2
      have hX := hr.hbx
      have hgo := hR.good
      refine SWp.seq (SWp.block (SWp.seq (Wp.s ?_)))
      have hsk : ∀ TT : Tm, TLe TT [(3, .ptr b 0), (10, ci t), (92, ci T), (93, ci t), (101, ci ((N : Int) + 1)), (102, ci ((i : Int) + 1))] → (R.f.lost[t] = true ∨ R.f.app[t] = N) → ∃ a a_1 a_2 a_3 a_4 b_1, (a ≤ N + 1 ∧ ROk sz 40 a_1 ∧ RunAt b bT kc a_2 ks a_3 a_1 a_4 b_1 ∧ List.take (List.length H) a_4 = H ∧ List.take V.length b_1 = V ∧ a_1.cyc.length = N ∧ a_1.tgt.length = T ∧ DnR N t a_1 ∧ InR N t a a_1) ∧ N + 1 - a < N + 1 - i ∧ Sh 178 (List.length H) V.length TT G W ([(3, CV.ptr b 0), (10, ci t), (92, ci T), (93, ci t), (101, ci ((N : Int) + 1)), (102, ci a)], a_4, b_1) := fun TT hTT hq =>
        ⟨i + 1, R, vc, vs, G, W, ⟨by omega, hR, hr, h1, h2, hN, hT, hD, fun a q1 q2 q3 => by
          rcases hq with hq | hq
          · rw [List.getElem?_eq_getElem htl', hq] at q1; cases q1
          · rw [List.getElem?_eq_getElem hta, hq] at q2; have := Option.some.inj q2; omega⟩, by omega, Sh.forget (by rw [show (((i + 1 : Nat)) : Int) = (i : Int) + 1 by omega]; exact hTT) rfl rfl⟩
      cases hlo : R.f.lost[t]
      case true =>
        simp -implicitDefEqProofs [go_sem, hX, hgo, htl', hlo]
        refine Wp.s ?_
        simp -implicitDefEqProofs [go_sem]
        refine Wp.s ?_
        simp -implicitDefEqProofs [go_sem, hwi]
        exact hsk _ (by simp [go_sem]) (.inl hlo)
      obtain ⟨a1, a2⟩ := hR.fo.ap t _ (List.getElem?_eq_getElem hta)
      simp -implicitDefEqProofs [go_sem, hX, hgo, htl', hlo]
      refine CC.mono (behind_cc _ _ b bT kc vc ks vs R t hta hr (by omega) a1 (by omega)) ?_
      rintro _ _ _ ⟨rfl, rfl, rfl⟩
      by_cases hb : 0 < (R.cyc.length : Int) - R.f.app[t]
      case neg =>
        have hb' : ¬ R.f.app[t] < (R.cyc.length : Int) := by omega
        simp -implicitDefEqProofs [go_sem, hb, hb']
        refine Wp.s ?_
        simp -implicitDefEqProofs [go_sem]
        refine Wp.s ?_
        simp -implicitDefEqProofs [go_sem, hwi]
        exact hsk _ (by simp [go_sem]) (.inr (by omega))
      obtain ⟨a, ha⟩ := Int.eq_ofNat_of_zero_le a1
      have hat : R.f.app[t]? = some (a : Int) := by rw [List.getElem?_eq_getElem hta, ha]
      obtain ⟨n1, n2, n3, n4, n5⟩ := hR.next hta
      have n2 := n2 (by rw [List.getElem?_eq_getElem htl', hlo]) a hat (by omega)
      have hb' : R.f.app[t] < (R.cyc.length : Int) := by omega
      simp -implicitDefEqProofs [go_sem, hb, hb']
      refine Wp.s ?_
      simp -implicitDefEqProofs [go_sem]
      refine CC.mono (next_cc _ _ b bT kc vc ks vs R t htl' hta (by omega) hr hR.sm (by omega) a1 (by omega) (img_small hR.sE (hR.ts _ (List.getElem_mem (by omega)))).1) ?_
      intro r' G' W' hst
      obtain ⟨hr', hGt, rfl⟩ := RunTo.run hr hst
      simp -implicitDefEqProofs [go_sem]
      refine Wp.s ?_
      simp -implicitDefEqProofs [go_sem, hwi]
      refine ⟨i + 1, nextR R t, vc, vs, G', W', ⟨by omega, n1, hr', by rw [hGt H.length (by omega) (by omega)]; exact h1, h2, by rw [n4]; exact hN, ?_, ?_, ?_⟩, by omega, Sh.forget (by simp [go_sem]) rfl rfl⟩
      · have q1 := n1.tl
        rw [n2, List.length_set] at q1; omega
      · intro t' q1 q2
        rw [n3] at q2
        rw [n2, List.getElem?_set_ne (by omega)]
        exact hD t' q1 q2
      · intro c q1 q2 q3
        rw [n2, List.getElem?_set_self hta] at q2
        have q4 := hI a (by rw [List.getElem?_eq_getElem htl', hlo]) hat (by omega)
        have := Option.some.inj q2; omega
    clear hr hR h1 h2 hN hT hD
    rintro ⟨R, vc, vs, G, W⟩ ⟨hR, hr, h1, h2, hN, hT, hD⟩
    dsimp only at hR hr h1 h2 hN hT hD ⊢
    have hX := hr.hbx
    have hXT := hr.hbT
    have hgo := hR.good
    have htl := hR.tl
    have hll := hR.fo.ll
    have hsr := hR.sl
    have hta : t < R.f.app.length := by omega
    have htl' : t < R.f.lost.length := by omega
    have htg0 : t < R.tgt.length := by omega
    refine SWp.seq (SWp.drawnT [] [] (.s 0 .pl <| .s 1 .pl <| .s 2 .pl <| .s 3 .pl <| .s 4 .pl <| .s 5 .pl <| .s 6 .pl <| .s 7 .pl <| .s 8 .pl <| .s 9 .pl <| .s 10 .pl <| .s 11 .pl <| .s 12 .pl <| .s 13 .pl <| .s 14 .pl <| .s 15 .pl <| .s 16 .pl <| .s 17 .pl <| .s 18 .pl <| .s 19 .pl <| .s 20 .pl <| .s 21 .pl <| .s 22 .pl <| .s 23 .pl <| .s 24 .pl <| .s 25 .pl <| .s 26 .pl <| .s 27 .pl <| .s 28 .pl <| .s 29 .pl <| .s 30 .pl <| .s 31 .pl <| .s 32 .pl <| .s 33 .pl <| .s 34 .pl <| .s 35 .pl <| .s 36 .pl <| .s 37 .pl <| .n) (by kernel_rfl) (by kernel_rfl) ?_)
    have hend : ∀ TT : Tm, TLe TT [(3, .ptr b 0), (92, ci T), (93, ci ((t : Int) + 1))] → ∃ a a_1 a_2 a_3 a_4 b_1, (a ≤ T ∧ ROk sz 40 a_1 ∧ RunAt b bT kc a_2 ks a_3 a_1 a_4 b_1 ∧ List.take (List.length H) a_4 = H ∧ List.take V.length b_1 = V ∧ a_1.cyc.length = N ∧ a_1.tgt.length = T ∧ DnR N a a_1) ∧ T - a < T - t ∧ Sh 178 (List.length H) V.length TT G W ([(3, CV.ptr b 0), (92, ci T), (93, ci a)], a_4, b_1) := fun TT hTT =>
      ⟨t + 1, R, vc, vs, G, W, ⟨by omega, hR, hr, h1, h2, hN, hT, hD⟩, by omega, Sh.forget (by rw [show (((t + 1 : Nat)) : Int) = (t : Int) + 1 by omega]; exact hTT) rfl rfl⟩
    cases hlo : R.f.lost[t]
    case true =>
      simp -implicitDefEqProofs [go_sem, hX, hgo, htl', hlo]
      refine Wp.s ?_
      simp -implicitDefEqProofs [go_sem]
      refine Wp.s ?_
      simp -implicitDefEqProofs [go_sem, hwt]
      exact hend _ (by simp [go_sem])
    have htg := hR.tg t _ (by rw [List.getElem?_eq_getElem htl', hlo]) (hD t (by omega) (by rw [List.getElem?_eq_getElem htl', hlo]))
    have hNs : N < R.src.length := by omega
    have hNs' : R.cyc.length < R.src.length := by omega
    rw [Int.toNat_natCast, List.getElem?_eq_getElem htg0, List.getElem?_eq_getElem hNs] at htg
    have htg' := Option.some.inj htg
    have hse : R.src[R.cyc.length] = R.tgt[t] := by rw [htg']; simp only [hN]
    obtain ⟨i1, i2⟩ := img_small hR.sE (hR.ts _ (List.getElem_mem htg0))
    simp -implicitDefEqProofs [go_sem, hX, hgo, htl', hlo, hXT, htg0, hNs']
    rw [hse]
    refine CC.mono (imSame_cc _ _ .sh .sh R.tgt[t] R.tgt[t] i1 i2) ?_
    rintro _ _ _ ⟨rfl, rfl, rfl⟩
    simp -implicitDefEqProofs [go_sem]
    refine Wp.s ?_
    simp -implicitDefEqProofs [go_sem]
    refine Wp.s ?_
    simp -implicitDefEqProofs [go_sem, hwt]
    exact hend _ (by simp [go_sem])
  clear hr hR h1 h2 hN hT
  rintro ⟨R, vc, vs, G, W⟩ ⟨hR, hr, h1, h2, hN, hT, hD⟩
  dsimp only at hR hr h1 h2 hN hT hD ⊢
  have hX := hr.hbx
  have hke := hR.none (fun t q1 q2 => by
    rw [hN]; exact hD t (by have := hR.tl; have := hR.fo.ll; omega) q2)
  refine SWp.seq (Wp.s ?_)
  simp -implicitDefEqProofs [go_sem, hX, hke]
  refine CC.mono (awake_cc _ _) ?_
  rintro _ _ _ ⟨rfl, rfl, rfl⟩
  simp -implicitDefEqProofs [go_sem]
  refine Wp.s ?_
  simp -implicitDefEqProofs [go_sem]
  exact Fin.bool rfl hokH h1 h2
end Go.Proofs.YtpadnceoacbaeaaGreat
namespace Go.Proofs.YtpadnceoacbaeaaGreat
open Go.RowKit

/-- The ghost state at the beginning of a call: all blocks are fixed; no boxes, no tokens. -/
def gh0 (w : World) : Gh where
  lim k := match w.heap[k]? with
    | some (.cells c _ _) => c.size
    | _ => 0
  box := []
  tip := []

theorem gh0_inv (w : World) : Inv (gh0 w) w [] [] where
  boxlen := rfl
  tiplen := rfl
  limv k h := by
    simp only [gh0] at h ⊢
    split at h
    · rename_i c e fr hc
      exact ⟨c, e, fr, hc, by simp⟩
    · omega
  tips := by intro t k h; simp [gh0] at h
  boxes := by intro b k h; simp [gh0] at h
  uniq := by intro b b' k cs cs' h; simp at h
  live := by intro b cs h; simp at h

theorem gh0_lim {w : World} {k o : Nat} {u : Value} (h : w.cell? ⟨k, o, none⟩ = some u) : o < (gh0 w).lim k := by
  simp only [World.cell?] at h
  simp only [gh0]
  split at h
  · rename_i c e fr hc
    simp only [hc]
    simp at h
    obtain ⟨h, _⟩ := Array.getElem?_eq_some_iff.1 h
    exact h
  · cases h

/-- What a law gives: true, and below nothing is changed. -/
theorem law_calls {P : Program} {f : FuncId} {args : Array Value} {W : World} {cs : List CV} {R : CV → Hp → List Nat → Prop} (hrel : RelL (gh0 W) W [] cs args.toList) (h : CC P f cs [] [] R)
    (hR : ∀ r H V, R r H V → r = .v (.bool true)) : Calls P f args W fun e W' => e = .returned (.bool true) ∧ Below W.heap.size W W' := by
  have := h.2 (gh0 W) W args.toList (gh0_inv W) hrel
  rw [Array.toArray_toList] at this
  refine this.mono ?_
  rintro e w' ⟨u, m', r, H', V', rfl, hr, _, hu, hx⟩
  obtain rfl := hR _ _ _ hr
  rw [RelV] at hu
  subst hu
  exact ⟨rfl, hx.os, hx.tape, hx.output, hx.size, fun k hk => hx.same k hk (by simp [gh0]) (by simp [gh0])⟩

/-- The cells of a value of type t that came in: S holds of their contents. -/
def Opens (P : Program) (t : TypeId) (S : List CV → Prop) : Prop :=
  ∀ (H : Type) (enc : TypeId × Value → H) (w : World) (base : Nat) (spare : Nat → Bool) (held : Bool) (fuel : Nat) (us : List Value) (x : DataW H × List MemPlace),
    DataW.trod enc P w base spare held fuel t us = some x → ∃ cs, S cs ∧ RelL (gh0 w) w [] cs us ∧ ∀ u ∈ us, u.oneCell' = true

theorem relL_one {m : Gh} {w : World} {V : List Nat} {c : CV} {u : Value} (h : RelV m w V c u) : RelL m w V [c] [u] := by
  rw [RelL]; exact ⟨u, [], rfl, h, by rw [RelL]⟩

theorem relL_one' {m : Gh} {w : World} {V : List Nat} {c : CV} {u : Value} (h : RelL m w V [c] [u]) : RelV m w V c u := by
  rw [RelL] at h; obtain ⟨_, _, h1, h2, _⟩ := h; cases h1; exact h2

theorem relL_nil {m : Gh} {w : World} {V : List Nat} : RelL m w V [] [] := by rw [RelL]
theorem relL_mk2 {m : Gh} {w : World} {V : List Nat} {c : CV} {u : Value} {cs : List CV} {us : List Value} (h : RelV m w V c u) (h2 : RelL m w V cs us) : RelL m w V (c :: cs) (u :: us) := by
  rw [RelL]; exact ⟨u, us, rfl, h, h2⟩
variable {P : Program} {t e : TypeId}
theorem Opens.int {k : IntKind} (ht : P.underlying t = some (.int k)) : Opens P t fun cs => ∃ n, cs = [.v (.int k n)] ∧ (Lit.int k n).wf = true := by
  intro H enc w base spare held fuel us x h
  obtain ⟨n, rfl, _, hw⟩ := DataW.trod_int ht h
  exact ⟨_, ⟨n, rfl, hw⟩, relL_one (by rw [RelV]), by simp [Value.oneCell']⟩

theorem Opens.bool (ht : P.underlying t = some .bool) : Opens P t fun cs => ∃ b, cs = [.v (.bool b)] := by
  intro H enc w base spare held fuel us x h
  obtain ⟨n, rfl, _⟩ := DataW.trod_bool ht h
  exact ⟨_, ⟨n, rfl⟩, relL_one (by rw [RelV]), by simp [Value.oneCell']⟩

theorem Opens.string (ht : P.underlying t = some .string) : Opens P t fun cs => ∃ s : ByteArray, cs = [.v (.string s)] ∧ s.size ≤ maxLen := by
  intro H enc w base spare held fuel us x h
  obtain ⟨n, rfl, _, hs⟩ := DataW.trod_string ht h
  exact ⟨_, ⟨n, rfl, hs⟩, relL_one (by rw [RelV]), by simp [Value.oneCell']⟩

theorem cells_get {w : World} {base : Nat} {a : Addr} {n : Nat} {us : List Value} (h : w.cells? base a n = some us) : us.length = n ∧ ∀ j, j < n → w.cell? (a.add j) = us[j]? := by
  unfold World.cells? at h
  split at h
  · exact ⟨by simpa using mapM_some_length h, fun j hj => mapM_some_get h j j (by simp [hj])⟩
  · cases h

theorem add_none {a : Addr} (ha : a.spot = none) (i : Nat) : a.add i = ⟨a.block, a.off + i, none⟩ := by
  cases a with
  | mk b o s =>
    simp only at ha
    subst ha
    unfold Addr.add
    split <;> simp_all

theorem Opens.slice {sz : Nat} {S : List CV → Prop} (ht : P.underlying t = some (.slice e)) (hs : P.cellsOf e = sz) (h0 : 0 < sz) (he : Opens P e S) :
    Opens P t fun cs => ∃ xs, cs = [.sl .sh sz xs] ∧ xs.length ≤ maxLen ∧ ∀ x ∈ xs, S x := by
  intro H enc w base spare held fuel us x h
  rcases DataW.trod_slice ht h with ⟨rfl, _⟩ | ⟨a, len, cap, elems, rest, n, _, rfl, rfl, hb, hl, hm, hlen, hel, hsp, hns⟩
  · refine ⟨_, ⟨[], rfl, by simp, by simp⟩, relL_one ?_, by simp [Value.oneCell']⟩
    rw [RelV]
    exact ⟨none, 0, rfl, by simp, trivial, h0, .inl rfl⟩
  · have key : ∀ i, i < len → ∃ (cs : List CV) (vs : List Value), S cs ∧ RelL (gh0 w) w [] cs vs ∧ (∀ u ∈ vs, u.oneCell' = true) ∧ vs.length = sz ∧ ∀ j, j < sz → w.cell? ((a.add (i * sz)).add j) = vs[j]? := by
      intro i hi
      have h1 := hel i hi
      rw [List.getElem?_eq_getElem (by omega)] at h1
      obtain ⟨vs, h2, h3⟩ := Option.bind_eq_some_iff.1 h1
      obtain ⟨cs, h4, h5, h6⟩ := he _ enc w base spare held n vs _ h3
      rw [hs] at h2
      obtain ⟨h7, h8⟩ := cells_get h2
      exact ⟨cs, vs, h4, h5, h6, h7, h8⟩
    by_cases hz : len = 0
    · subst hz
      refine ⟨_, ⟨[], rfl, by simp, by simp⟩, relL_one ?_, by simp [Value.oneCell']⟩
      rw [RelV]
      exact ⟨some a, cap, rfl, by simp, trivial, h0, .inl rfl⟩
    · have hsp : a.spot = none := by
        obtain ⟨cs, vs, _, _, _, h7, h8⟩ := key 0 (by omega)
        have h9 := h8 0 h0
        rw [List.getElem?_eq_getElem (by omega)] at h9
        have : (a.add (0 * sz)).add 0 = a := by simp [Addr.add]
        rw [this] at h9
        simp only [World.cell?] at h9
        split at h9
        · split at h9
          · cases h9
          · rename_i h; simpa using h
        · cases h9
      let g : Nat → List CV := fun i => if h : i < len then Classical.choose (key i h) else []
      have hg : ∀ i (h : i < len), ∃ (vs : List Value), S (g i) ∧ RelL (gh0 w) w [] (g i) vs ∧ (∀ u ∈ vs, u.oneCell' = true) ∧ vs.length = sz ∧ ∀ j, j < sz → w.cell? ((a.add (i * sz)).add j) = vs[j]? := by
        intro i h
        have := Classical.choose_spec (key i h)
        simp only [g, h, dif_pos]
        exact this
      have cell : ∀ i j, i < len → j < sz → ∃ u, w.cell? ⟨a.block, a.off + i * sz + j, none⟩ = some u := by
        intro i j hi hj
        obtain ⟨vs, _, _, _, h7, h8⟩ := hg i hi
        have h9 := h8 j hj
        rw [List.getElem?_eq_getElem (by omega), add_none hsp, add_none rfl] at h9
        exact ⟨_, h9⟩
      refine ⟨_, ⟨(List.range len).map g, rfl, by simp; omega, ?_⟩, relL_one ?_, by simp [Value.oneCell']⟩
      · intro x hx
        obtain ⟨i, hi, rfl⟩ := List.mem_map.1 hx
        obtain ⟨_, h4, _⟩ := hg i (by simpa using hi)
        exact h4
      · rw [RelV]
        refine ⟨some a, cap, by simp, by simp; omega, trivial, h0, .inr ⟨a.block, a.off, by cases a; simp_all, ?_, relE_mk fun j c hc => ?_⟩⟩
        · obtain ⟨u, hu⟩ := cell (len - 1) (sz - 1) (by omega) (by omega)
          have := gh0_lim hu
          simp only [List.length_map, List.length_range]
          have h1 : len * sz = (len - 1) * sz + sz := by
            rw [← Nat.succ_mul]; congr 1; omega
          omega
        · simp only [List.getElem?_map, Option.map_eq_some_iff] at hc
          obtain ⟨i, hi, rfl⟩ := hc
          obtain ⟨hi', hi⟩ := List.getElem?_eq_some_iff.1 hi
          simp at hi hi'
          subst hi
          obtain ⟨vs, h4, h5, h6, h7, h8⟩ := hg j hi'
          have hl := relL_length h5
          refine ⟨by omega, relC_mk fun q c hc => ?_⟩
          obtain ⟨u, hu, hv⟩ := relL_get h5 q c hc
          have hq : q < sz := by
            have := (List.getElem?_eq_some_iff.1 hc).1
            omega
          have h9 := h8 q hq
          rw [hu, add_none hsp, add_none rfl] at h9
          exact ⟨u, h9, hv, h6 u (List.mem_of_getElem? hu)⟩

/-- Fields, from cell o on, of a struct of N cells. -/
def OpensF (P : Program) (N : Nat) (fs : List Field) (o : Nat) (S : List CV → Prop) : Prop :=
  ∀ (H : Type) (enc : TypeId × Value → H) (w : World) (base : Nat) (spare : Nat → Bool) (held : Bool) (fuel : Nat) (us : List Value), us.length = N →
    (∀ f ∈ fs, ∃ x, DataW.trod enc P w base spare held fuel f.type ((us.drop f.offset).take (P.cellsOf f.type)) = some x) →
    ∃ cs, S cs ∧ RelL (gh0 w) w [] cs (us.drop o) ∧ ∀ u ∈ us.drop o, u.oneCell' = true

theorem OpensF.nil {N : Nat} : OpensF P N [] N fun cs => cs = [] := by
  intro H enc w base spare held fuel us hl h
  subst hl
  exact ⟨_, rfl, by rw [List.drop_length, RelL], by simp⟩

theorem OpensF.cons {N : Nat} {f : Field} {fs : List Field} {o n : Nat} {S S' : List CV → Prop} (ho : f.offset = o) (hn : P.cellsOf f.type = n) (h1 : Opens P f.type S) (h2 : OpensF P N fs (o + n) S') :
    OpensF P N (f :: fs) o fun cs => ∃ a b, cs = a ++ b ∧ S a ∧ S' b := by
  intro H enc w base spare held fuel us hl h
  obtain ⟨x, hx⟩ := h f (by simp)
  rw [ho, hn] at hx
  obtain ⟨a, ha, ra, oa⟩ := h1 _ enc w base spare held fuel _ _ hx
  obtain ⟨b, hb, rb, ob⟩ := h2 _ enc w base spare held fuel us hl fun g hg => h g (List.mem_cons_of_mem _ hg)
  have hd : us.drop o = (us.drop o).take n ++ us.drop (o + n) := by
    rw [← List.drop_drop, List.take_append_drop]
  refine ⟨_, ⟨a, b, rfl, ha, hb⟩, ?_, ?_⟩
  · rw [hd]; exact relL_append ra rb
  · rw [hd]
    intro u hu
    rcases List.mem_append.1 hu with h | h
    · exact oa u h
    · exact ob u h

theorem Opens.struct {fs : Array Field} {S : List CV → Prop} (ht : P.underlying t = some (.struct fs)) {N : Nat} (hN : P.cellsOf t = N) (h : OpensF P N fs.toList 0 S) : Opens P t S := by
  intro H enc w base spare held fuel us x hx
  obtain ⟨xs, n, _, _, hl, hl2, hf⟩ := DataW.trod_struct ht hx
  obtain ⟨cs, h1, h2, h3⟩ := h _ enc w base spare held n us (by omega) (by
    intro f hf'
    obtain ⟨i, hi⟩ := List.getElem?_of_mem hf'
    have := hf i f (by simpa using hi)
    have hi' : i < fs.size := by
      have := (List.getElem?_eq_some_iff.1 hi).1
      simpa using this
    rw [this, List.getElem?_eq_getElem (by omega)]
    exact ⟨_, rfl⟩)
  exact ⟨cs, h1, by simpa using h2, by simpa using h3⟩

theorem Opens.array {n sz : Nat} {S : List CV → Prop} (ht : P.underlying t = some (.array n e)) (hs : P.cellsOf e = sz) (hN : P.cellsOf t = n * sz) (he : Opens P e S) :
    Opens P t fun cs => ∃ xs : List (List CV), cs = xs.flatten ∧ xs.length = n ∧ ∀ x ∈ xs, S x := by
  intro H enc w base spare held fuel us x hx
  obtain ⟨xs, m, _, _, hl, hl2, hf⟩ := DataW.trod_array ht hx
  rw [hN] at hl
  rw [hs] at hf
  have key : ∀ q, q ≤ n → ∃ ys : List (List CV), ys.length = q ∧ (∀ x ∈ ys, S x) ∧ RelL (gh0 w) w [] ys.flatten (us.drop ((n - q) * sz)) ∧ ∀ u ∈ us.drop ((n - q) * sz), u.oneCell' = true := by
    intro q
    induction q with
    | zero =>
      intro _
      refine ⟨[], rfl, by simp, ?_, ?_⟩
      · rw [Nat.sub_zero, List.drop_of_length_le (by omega), List.flatten_nil, RelL]
      · rw [Nat.sub_zero, List.drop_of_length_le (by omega)]; simp
    | succ q ih =>
      intro hq
      obtain ⟨ys, h1, h2, h3, h4⟩ := ih (by omega)
      have hx := hf (n - (q + 1)) (by omega)
      rw [List.getElem?_eq_getElem (by omega)] at hx
      obtain ⟨a, ha, ra, oa⟩ := he _ enc w base spare held m _ _ hx
      have hd : us.drop ((n - (q + 1)) * sz) = (us.drop ((n - (q + 1)) * sz)).take sz ++ us.drop ((n - q) * sz) := by
        have : (n - q) * sz = (n - (q + 1)) * sz + sz := by
          rw [← Nat.succ_mul]; congr 1; omega
        rw [this, ← List.drop_drop, List.take_append_drop]
      refine ⟨a :: ys, by simp [h1], by simpa using ⟨ha, h2⟩, ?_, ?_⟩
      · rw [hd, List.flatten_cons]; exact relL_append ra h3
      · rw [hd]
        intro u hu
        rcases List.mem_append.1 hu with h | h
        · exact oa u h
        · exact h4 u h
  obtain ⟨ys, h1, h2, h3, h4⟩ := key n (Nat.le_refl _)
  rw [Nat.sub_self, Nat.zero_mul, List.drop_zero] at h3 h4
  exact ⟨_, ⟨ys, rfl, h1, h2⟩, h3, h4⟩

theorem Opens.mono {S S' : List CV → Prop} (h : Opens P t S) (hs : ∀ cs, S cs → S' cs) : Opens P t S' := by
  intro H enc w base spare held fuel us x hx
  obtain ⟨cs, h1, h2, h3⟩ := h _ enc w base spare held fuel us x hx
  exact ⟨cs, hs cs h1, h2, h3⟩

variable {H : Type} {enc : TypeId × Value → H} {w : World} {base : Nat} {spare : Nat → Bool} {held : Bool}
/-- An argument of one cell. -/
theorem Opens.arg {S : List CV → Prop} (h : Opens P t S) {v : Value} {d : DataW H} {p : List MemPlace} (hv : v.cells.toList = [v]) (hd : DataW.Trod enc P w base spare held t v d p) :
    ∃ c, S [c] ∧ RelV (gh0 w) w [] c v := by
  obtain ⟨fuel, hf⟩ := hd
  rw [hv] at hf
  obtain ⟨cs, h1, h2, _⟩ := h _ enc w base spare held fuel _ _ hf
  have := relL_length h2
  match cs, this with
  | [c], _ => exact ⟨c, h1, relL_one' h2⟩
/-- A struct or an array. -/
theorem Opens.args {S : List CV → Prop} (h : Opens P t S) {us : Array Value} {d : DataW H} {p : List MemPlace} (hd : DataW.Trod enc P w base spare held t (.agg us) d p) :
    ∃ cs, S cs ∧ RelV (gh0 w) w [] (.agg cs) (.agg us) := by
  obtain ⟨fuel, hf⟩ := hd
  obtain ⟨cs, h1, h2, _⟩ := h _ enc w base spare held fuel _ _ hf
  refine ⟨cs, h1, ?_⟩
  rw [RelV]
  refine ⟨us.toList, by simp, ?_⟩
  simpa [Value.cells] using h2

/-- All arguments read as they did. -/
theorem trodAll_below (hl : laidOutB P = true) {W W' : World} (hb : Below W.heap.size W W') : ∀ {ts : List TypeId} {vs : List Value} {ds : List (DataW H)} {p : List MemPlace},
    (ts.all fun t => P.readableRec t && decide (t < P.types.size)) = true → DataW.TrodAll enc P W 0 (fun _ => true) true ts vs ds p → DataW.TrodAll enc P W' 0 (fun b => decide (b < W.heap.size)) true ts vs ds p
  | [], [], [], p, _, h => h
  | t :: ts, v :: vs, d :: ds, p, ht, h => by
    obtain ⟨p, q, h1, h2, rfl⟩ := h
    simp only [List.all_cons, Bool.and_eq_true, decide_eq_true_eq] at ht
    refine ⟨p, q, Below.trod hl ht.1.1 ht.1.2 h1 hb ?_, trodAll_below hl hb ht.2 h2, rfl⟩
    obtain ⟨m, hm⟩ := h1
    exact DataW.trod_lt m _ _ _ hm
  | [], [], _ :: _, _, _, h => h.elim
  | [], _ :: _, _, _, _, h => h.elim
  | _ :: _, [], _, _, _, h => h.elim
  | _ :: _, _ :: _, [], _, _, h => h.elim
end Go.Proofs.YtpadnceoacbaeaaGreat
namespace Go.Proofs.YtpadnceoacbaeaaGreat
open Go.Proofs
theorem exMapF {α : Type} {f : α → List CV} : ∀ {xs : List (List CV)}, (∀ x ∈ xs, ∃ a, x = f a) → ∃ ys : List α, xs = ys.map f
  | [], _ => ⟨[], rfl⟩
  | x :: xs, h => by
    obtain ⟨a, rfl⟩ := h x (by simp)
    obtain ⟨ys, rfl⟩ := exMapF fun y hy => h y (List.mem_cons_of_mem _ hy)
    exact ⟨a :: ys, rfl⟩
theorem opens_int : Opens Tryz.prog 3 fun cs => ∃ n, cs = ic n :=
  (Opens.int Tryz.underlying3).mono fun _ ⟨n, h, _⟩ => ⟨n, h⟩
theorem opens_u8 : Opens Tryz.prog 5 fun cs => ∃ b, cs = u8 b :=
  (Opens.int Tryz.underlying5).mono fun _ ⟨n, h, hw⟩ => ⟨byt n, by
    simp only [Lit.wf, Bool.and_eq_true, decide_eq_true_eq] at hw
    have h1 : 0 ≤ n := hw.1
    have h2 : n ≤ 255 := hw.2
    rw [h, u8, byt_toNat, Int.emod_eq_of_lt h1 (by omega)]⟩
theorem opens_bool : Opens Tryz.prog 4 fun cs => ∃ b, cs = boE b :=
  (Opens.bool Tryz.underlying4).mono fun _ ⟨b, h⟩ => ⟨b, h⟩
theorem opens_sl {t e sz : Nat} {α : Type} {f : α → List CV} (ht : Tryz.prog.underlying t = some (.slice e)) (hs : Tryz.prog.cellsOf e = sz) (h0 : 0 < sz) (he : Opens Tryz.prog e fun cs => ∃ a, cs = f a) :
    Opens Tryz.prog t fun cs => ∃ l : List α, cs = [.sl .sh sz (l.map f)] ∧ l.length ≤ maxLen :=
  (Opens.slice ht hs h0 he).mono fun _ ⟨xs, h, hl, hx⟩ => by
    obtain ⟨ys, rfl⟩ := exMapF hx
    exact ⟨ys, h, by simpa using hl⟩

theorem opens_ints : Opens Tryz.prog 23 fun cs => ∃ l : List Int, cs = [.sl .sh 1 (l.map ic)] ∧ l.length ≤ maxLen := opens_sl Tryz.underlying23 (by kernel_rfl) (by decide) opens_int


theorem opens_bools : Opens Tryz.prog 24 fun cs => ∃ l : List Bool, cs = [.sl .sh 1 (l.map boE)] ∧ l.length ≤ maxLen := opens_sl Tryz.underlying24 (by kernel_rfl) (by decide) opens_bool
theorem flat_u8 : ∀ l : List UInt8, (l.map u8).flatten = l.map fun b => CV.v (.int .u8 (b.toNat : Int))
  | [] => rfl
  | b :: l => by rw [List.map_cons, List.flatten_cons]; exact congrArg (_ :: ·) (flat_u8 l)
theorem opens_sec : Opens Tryz.prog 98 fun cs => ∃ s : Sec, cs = secC s :=
  (Opens.array (sz := 1) Tryz.underlying98 (by kernel_rfl) (by kernel_rfl) opens_u8).mono fun cs ⟨xs, h, hl, hx⟩ => by
    obtain ⟨l, rfl⟩ := exMapF hx
    refine ⟨⟨l, by simpa using hl⟩, ?_⟩
    rw [h]; exact flat_u8 l
theorem opens_secs : Opens Tryz.prog 95 fun cs => ∃ l : List Sec, cs = [.sl .sh 8 (l.map secC)] ∧ l.length ≤ maxLen := opens_sl Tryz.underlying95 (by kernel_rfl) (by decide) opens_sec
theorem opens_wr : Opens Tryz.prog 101 fun cs => ∃ x, cs = wrC x :=
  (Opens.struct Tryz.underlying101 (N := 3) (by kernel_rfl) (.cons rfl (n := 1) (by kernel_rfl) opens_int (.cons rfl (n := 1) (by kernel_rfl) opens_int (.cons rfl (n := 1) (by kernel_rfl) opens_secs .nil)))).mono fun cs h => by
    obtain ⟨_, _, rfl, ⟨a, rfl⟩, _, _, rfl, ⟨b, rfl⟩, _, _, rfl, ⟨c, rfl, _⟩, rfl⟩ := h
    exact ⟨⟨a, b, c⟩, rfl⟩
theorem opens_wrs : Opens Tryz.prog 27 fun cs => ∃ l : List Wr, cs = [.sl .sh 3 (l.map wrC)] ∧ l.length ≤ maxLen := opens_sl Tryz.underlying27 (by kernel_rfl) (by decide) opens_wr
theorem opens_cyc : Opens Tryz.prog 29 fun cs => ∃ x, cs = cycC x :=
  (Opens.struct Tryz.underlying29 (N := 5) (by kernel_rfl) (.cons rfl (n := 1) (by kernel_rfl) opens_int (.cons rfl (n := 1) (by kernel_rfl) opens_int (.cons rfl (n := 1) (by kernel_rfl) opens_int (.cons rfl (n := 1) (by kernel_rfl) opens_ints (.cons rfl (n := 1) (by kernel_rfl) opens_wrs .nil)))))).mono fun cs h => by
    obtain ⟨_, _, rfl, ⟨a, rfl⟩, _, _, rfl, ⟨b, rfl⟩, _, _, rfl, ⟨c, rfl⟩, _, _, rfl, ⟨d, rfl, _⟩, _, _, rfl, ⟨e, rfl, _⟩, rfl⟩ := h
    exact ⟨⟨a, b, c, d, e⟩, rfl⟩
theorem opens_cycs : Opens Tryz.prog 22 fun cs => ∃ l : List Cyc, cs = [.sl .sh 5 (l.map cycC)] ∧ l.length ≤ maxLen := opens_sl Tryz.underlying22 (by kernel_rfl) (by decide) opens_cyc
theorem opens_fan : Opens Tryz.prog 26 fun cs => ∃ x, cs = fanC x :=
  (Opens.struct Tryz.underlying26 (N := 4) (by kernel_rfl) (.cons rfl (n := 1) (by kernel_rfl) opens_int (.cons rfl (n := 1) (by kernel_rfl) opens_cycs (.cons rfl (n := 1) (by kernel_rfl) opens_ints (.cons rfl (n := 1) (by kernel_rfl) opens_bools .nil))))).mono fun cs h => by
    obtain ⟨_, _, rfl, ⟨a, rfl⟩, _, _, rfl, ⟨b, rfl, _⟩, _, _, rfl, ⟨c, rfl, _⟩, _, _, rfl, ⟨d, rfl, _⟩, rfl⟩ := h
    exact ⟨⟨a, b, c, d⟩, rfl⟩
end Go.Proofs.YtpadnceoacbaeaaGreat
namespace Go.Proofs.YtpadnceoacbaeaaGreat
open Go.Proofs
theorem opens_pst : Opens Tryz.prog 58 fun cs => ∃ x, cs = psC x :=
  (Opens.struct Tryz.underlying58 (N := 2) (by kernel_rfl) (.cons rfl (n := 1) (by kernel_rfl) opens_u8 (.cons rfl (n := 1) (by kernel_rfl) opens_wrs .nil))).mono fun cs h => by
    obtain ⟨_, _, rfl, ⟨a, rfl⟩, _, _, rfl, ⟨b, rfl, _⟩, rfl⟩ := h
    exact ⟨⟨a, b⟩, rfl⟩
theorem opens_psts : Opens Tryz.prog 51 fun cs => ∃ l : List PSt, cs = [.sl .sh 2 (l.map psC)] ∧ l.length ≤ maxLen := opens_sl Tryz.underlying51 (by kernel_rfl) (by decide) opens_pst
theorem opens_pln : Opens Tryz.prog 53 fun cs => ∃ x, cs = plC x ∧ x.sizes.length ≤ 9223372036854775807 :=
  (Opens.struct Tryz.underlying53 (N := 4) (by kernel_rfl) (.cons rfl (n := 1) (by kernel_rfl) opens_u8 (.cons rfl (n := 1) (by kernel_rfl) opens_u8 (.cons rfl (n := 1) (by kernel_rfl) opens_ints (.cons rfl (n := 1) (by kernel_rfl) opens_psts .nil))))).mono fun cs h => by
    obtain ⟨_, _, rfl, ⟨a, rfl⟩, _, _, rfl, ⟨b, rfl⟩, _, _, rfl, ⟨c, rfl, hl⟩, _, _, rfl, ⟨d, rfl, _⟩, rfl⟩ := h
    exact ⟨⟨a, b, c, d⟩, rfl, Nat.le_trans hl (by decide)⟩
end Go.Proofs.YtpadnceoacbaeaaGreat
