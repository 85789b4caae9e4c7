import Derived.Test.YthakkopnoeinmaaA19
import Derived.Test.YthakkopnoeinmaaA9
set_option linter.unusedSimpArgs false
set_option linter.unusedVariables false
namespace Go.Proofs.Ythakkopnoeinmaa
open Go.Proofs
theorem take_box (H : Hp) (x : Option (List CV)) (L : Hp) : (H ++ x :: L).take (H.length + 1) = H ++ [x] := by
  rw [List.take_append, List.take_of_length_le (by omega)]; simp
def gapsL : Int → List Ext2 → List Ext2
  | _, [] => []
  | a, x :: l => ⟨a, w64 (x.start - a)⟩ :: gapsL (w64 (x.start + x.count)) l
def gapsP (p : Pk) : List Ext2 := if checkP p = 0 then gapsL p.ack p.sel else []
theorem gaps_step {l : List Ext2} {i : Nat} {a : Int} (h : i < l.length) : gapsL a (l.drop i) = ⟨a, w64 (l[i].start - a)⟩ :: gapsL (w64 (l[i].start + l[i].count)) (l.drop (i + 1)) := by
  rw [List.drop_eq_getElem_cons h, gapsL]
theorem Gaps_cc (H : Hp) (V : List Nat) (p : Pk) (hl : p.sel.length ≤ 900000000) : CC Try.prog 16 [.agg (pkC p)] H V (Pu (.sl .sh 2 ((gapsP p).map extC)) H V) := by
  refine CC.of_swp Try.func16 rfl (by kernel_rfl) (by rw [Try.ntmps16]; exact len_le _ _ rfl) fun hok hokH => ?_
  clear hok
  refine SWp.seq (Wp.s ?_)
  simp -implicitDefEqProofs [go_sem, args0]
  refine SWp.seq (Wp.s ?_)
  simp -implicitDefEqProofs [go_sem]
  refine CC.mono (Check_cc _ _ _ hl) ?_
  rintro _ _ _ ⟨rfl, rfl, rfl⟩
  by_cases c : checkP p = 0
  case neg =>
    simp -implicitDefEqProofs [go_sem, c]
    rw [gapsP, if_neg c]
    exact Fin.pu (.nil 2 (by decide)) (by simp [go_sem]) hokH (by simp) (by simp)
  rw [gapsP, if_pos c]
  by_cases c2 : p.sel = []
  · simp -implicitDefEqProofs [go_sem, c, c2]
    rw [show gapsL p.ack [] = [] from rfl]
    exact Fin.pu (.nil 2 (by decide)) (by simp [go_sem]) hokH (by simp) (by simp)
  simp -implicitDefEqProofs [go_sem, c, c2]
  refine SWp.seq (Wp.s ?_)
  simp -implicitDefEqProofs [go_sem]
  refine SWp.seq (Wp.s ?_)
  simp -implicitDefEqProofs [go_sem]
  generalize hg : gapsL p.ack p.sel = G
  refine SWp.join (α := Option Nat) (fun o => ([(3, outC o V.length 2 (G.map extC))], H ++ [some (pkC p)], outV V o)) (fun o => o = none → G = []) ?_ ?_
  · refine SWp.seq (Wp.s ?_)
    simp -implicitDefEqProofs [go_sem]
    refine SWp.block ?_
    refine SWp.loop (α := Nat × Option Nat × Int × List Ext2) (fun x => ([(19, .sl .sh 2 (p.sel.map extC)), (20, ci p.sel.length), (21, ci x.1), (3, outC x.2.1 V.length 2 (x.2.2.2.map extC)), (4, ci x.2.2.1)], H ++ [some (pkC p)], outV V x.2.1))
      (fun x => x.1 ≤ p.sel.length ∧ (x.2.1 = none → x.2.2.2 = []) ∧ x.2.2.2.length = x.1 ∧ x.2.2.2 ++ gapsL x.2.2.1 (p.sel.drop x.1) = G) (fun x => p.sel.length - x.1) (0, none, p.ack, []) ⟨Nat.zero_le _, fun _ => rfl, rfl, hg⟩ (Sh.forget (by simp [go_sem]) rfl rfl) ?_
    rintro ⟨i, o, a, xs⟩ ⟨hi, ho, hx, hG⟩
    dsimp only at hi ho hx hG ⊢
    refine Wp.s ?_
    simp -implicitDefEqProofs [go_sem]
    refine ⟨fun h => ?_, fun h => ⟨o, ?_, Sh.forget (by simp [go_sem]; rw [← hG, List.drop_eq_nil_of_le (by omega)]; simp [gapsL, go_sem]) rfl rfl⟩⟩
    case refine_2 =>
      intro hn; rw [← hG, ho hn, List.drop_eq_nil_of_le (by omega)]; rfl
    rw [gaps_step h] at hG
    have hw := wrap_succ (show i ≤ 1000000000 by omega)
    have hG' : (xs ++ [⟨a, w64 (p.sel[i].start - a)⟩]) ++ gapsL (w64 (p.sel[i].start + p.sel[i].count)) (p.sel.drop (i + 1)) = G := by rw [← hG]; simp
    cases o with
    | none =>
      obtain rfl := ho rfl
      simp -implicitDefEqProofs [go_sem, h, hw]
      exact ⟨i + 1, some 0, _, _, ⟨by omega, by simp, by rw [List.length_append, hx]; rfl, hG'⟩, by omega, Sh.cut (H.length + 1) (V.length + 1) (by simp [go_sem, w64, extC]) (by omega) (by omega) (TOk.all (by simp [go_sem, okE_app])) (hokH1 (fun b cs hb => okL_mono (Nat.le_refl _) (Nat.le_succ _) (hokH b cs hb)) rfl (by simp [go_sem])) (take_box _ _ _) (List.take_of_length_le (by simp [outV]))⟩
    | some v =>
      simp -implicitDefEqProofs [go_sem, h, hw]
      exact ⟨by omega, i + 1, some (v + 1), _, _, ⟨by omega, by simp, by rw [List.length_append, hx]; rfl, hG'⟩, by omega, Sh.cut (H.length + 1) (V.length + 1) (by simp [go_sem, w64, extC]) (by omega) (by omega) (TOk.all (by simp [go_sem, okE_app])) (hokH1 (fun b cs hb => okL_mono (Nat.le_refl _) (Nat.le_succ _) (hokH b cs hb)) rfl (by simp [go_sem])) (take_box _ _ _) (List.take_of_length_le (by simp [outV]))⟩
  · rintro o ho
    dsimp only
    refine Wp.s ?_
    simp -implicitDefEqProofs [go_sem]
    exact Fin.pu (outC_le _ _ _ _ (by decide) ho) (by simp [go_sem]) hokH (by simp) (outV_take _ _)
theorem refGaps_cc (H : Hp) (V : List Nat) (p : Pk) (hl : p.sel.length ≤ 900000000) : CC Try.prog 17 [.agg (pkC p)] H V (Pu (.sl .sh 2 ((gapsP p).map extC)) H V) := by
  refine CC.of_swp Try.func17 rfl (by kernel_rfl) (by rw [Try.ntmps17]; exact len_le _ _ rfl) fun hok hokH => ?_
  clear hok
  refine SWp.seq (Wp.s ?_)
  simp -implicitDefEqProofs [go_sem, args0]
  refine SWp.seq (Wp.s ?_)
  simp -implicitDefEqProofs [go_sem]
  refine CC.mono (refCheck_cc _ _ _ hl) ?_
  rintro _ _ _ ⟨rfl, rfl, rfl⟩
  by_cases c : checkP p = 0
  case neg =>
    simp -implicitDefEqProofs [go_sem, c]
    rw [gapsP, if_neg c]
    exact Fin.pu (.nil 2 (by decide)) (by simp [go_sem]) hokH (by simp) (by simp)
  rw [gapsP, if_pos c]
  simp -implicitDefEqProofs [go_sem, c]
  refine SWp.seq (Wp.s ?_)
  simp -implicitDefEqProofs [go_sem]
  refine SWp.seq (Wp.s ?_)
  simp -implicitDefEqProofs [go_sem]
  generalize hg : gapsL p.ack p.sel = G
  refine SWp.join (α := Option Nat) (fun o => ([(3, outC o V.length 2 (G.map extC))], H ++ [some (pkC p)], outV V o)) (fun o => o = none → G = []) ?_ ?_
  · refine SWp.seq (Wp.s ?_)
    simp -implicitDefEqProofs [go_sem]
    refine SWp.block ?_
    refine SWp.loop (α := Nat × Option Nat × Int × List Ext2) (fun x => ([(1, .ptr H.length 0), (5, ci x.1), (3, outC x.2.1 V.length 2 (x.2.2.2.map extC)), (4, ci x.2.2.1)], H ++ [some (pkC p)], outV V x.2.1))
      (fun x => x.1 ≤ p.sel.length ∧ (x.2.1 = none → x.2.2.2 = []) ∧ x.2.2.2.length = x.1 ∧ x.2.2.2 ++ gapsL x.2.2.1 (p.sel.drop x.1) = G) (fun x => p.sel.length - x.1) (0, none, p.ack, []) ⟨Nat.zero_le _, fun _ => rfl, rfl, hg⟩ (Sh.forget (by simp [go_sem]) rfl rfl) ?_
    rintro ⟨i, o, a, xs⟩ ⟨hi, ho, hx, hG⟩
    dsimp only at hi ho hx hG ⊢
    refine SWp.seq (Wp.s ?_)
    simp -implicitDefEqProofs [go_sem]
    refine ⟨fun h => ?_, fun h => ⟨o, ?_, Sh.forget (by simp [go_sem]; rw [← hG, List.drop_eq_nil_of_le (by omega)]; simp [gapsL, go_sem]) rfl rfl⟩⟩
    case refine_2 =>
      intro hn; rw [← hG, ho hn, List.drop_eq_nil_of_le (by omega)]; rfl
    rw [gaps_step h] at hG
    have hw := wrap_succ (show i ≤ 1000000000 by omega)
    have hG' : (xs ++ [⟨a, w64 (p.sel[i].start - a)⟩]) ++ gapsL (w64 (p.sel[i].start + p.sel[i].count)) (p.sel.drop (i + 1)) = G := by rw [← hG]; simp
    refine SWp.seq (SWp.block ?_)
    refine SWp.seq (Wp.s ?_)
    cases o with
    | none =>
      obtain rfl := ho rfl
      simp -implicitDefEqProofs [go_sem, h, hw]
      refine SWp.drawnL [0, 1, 2, 3, 4, 5, 6, 7, 8, 9, 10, 11, 12, 13] (by kernel_rfl) (by kernel_rfl) rfl ?_
      simp -implicitDefEqProofs [go_sem, h, hw]
      refine Wp.s ?_
      simp -implicitDefEqProofs [go_sem, h, hw]
      exact ⟨i + 1, some 0, _, _, ⟨by omega, by simp, by rw [List.length_append, hx]; rfl, hG'⟩, by omega, Sh.forget (by simp [go_sem, w64, extC]) rfl rfl⟩
    | some v =>
      simp -implicitDefEqProofs [go_sem, h, hw]
      refine ⟨by omega, ?_⟩
      refine SWp.drawnL [0, 1, 2, 3, 4, 5, 6, 7, 8, 9, 10, 11, 12, 13] (by kernel_rfl) (by kernel_rfl) rfl ?_
      simp -implicitDefEqProofs [go_sem, h, hw]
      refine Wp.s ?_
      simp -implicitDefEqProofs [go_sem, h, hw]
      exact ⟨i + 1, some (v + 1), _, _, ⟨by omega, by simp, by rw [List.length_append, hx]; rfl, hG'⟩, by omega, Sh.forget (by simp [go_sem, w64, extC]) rfl rfl⟩
  · rintro o ho
    dsimp only
    refine Wp.s ?_
    simp -implicitDefEqProofs [go_sem]
    exact Fin.pu (outC_le _ _ _ _ (by decide) ho) (by simp [go_sem]) hokH (by simp) (outV_take _ _)
theorem few_cc (H : Hp) (V : List Nat) (p : Pk) : CC Try.prog 11 [.agg (pkC p)] H V (Pu (cb (decide (p.sel.length ≤ 40) && decide (p.payload.length ≤ 5000))) H V) := by
  refine CC.of_swp Try.func11 rfl (by kernel_rfl) (by rw [Try.ntmps11]; exact len_le _ _ rfl) fun hok hokH => Wp.s ?_
  simp -implicitDefEqProofs [go_sem, args0]
  refine ⟨fun h => Fin.bool ?_ hokH (by simp) (by simp), fun h => Fin.bool ?_ hokH (by simp) (by simp)⟩
  · rw [show decide (p.sel.length ≤ 40) = true from decide_eq_true (by omega), Bool.true_and]
    exact decide_eq_decide.2 ⟨fun h => by omega, fun h => by omega⟩
  · rw [show decide (p.sel.length ≤ 40) = false from decide_eq_false (by omega), Bool.false_and]
theorem fewMessage_cc (H : Hp) (V : List Nat) (p : Ms) : CC Try.prog 28 [.agg (msC p)] H V (Pu (cb (decide (p.values.length ≤ 5000) && decide (p.body.length ≤ 70000))) H V) := by
  refine CC.of_swp Try.func28 rfl (by kernel_rfl) (by rw [Try.ntmps28]; exact len_le _ _ rfl) fun hok hokH => Wp.s ?_
  simp -implicitDefEqProofs [go_sem, args0]
  refine ⟨fun h => Fin.bool ?_ hokH (by simp) (by simp), fun h => Fin.bool ?_ hokH (by simp) (by simp)⟩
  · rw [show decide (p.values.length ≤ 5000) = true from decide_eq_true (by omega), Bool.true_and]
    exact decide_eq_decide.2 ⟨fun h => by omega, fun h => by omega⟩
  · rw [show decide (p.values.length ≤ 5000) = false from decide_eq_false (by omega), Bool.false_and]
end Go.Proofs.Ythakkopnoeinmaa
namespace Go.Proofs.Ythakkopnoeinmaa
/-! ### Plain laws of packets -/
theorem openP_sealed {l : List UInt8} (h : l.length ≤ 65532) : openP (sealed l) = .ok l := by
  have h1 : (sealed l).length = l.length + 4 := sealed_len l
  have h2 : (sealed l).take ((sealed l).length - 4) = l := by
    rw [h1, Nat.add_sub_cancel, sealed, List.take_left]
  unfold openP
  rw [if_neg (by omega), if_neg (by omega), h2, if_pos rfl]
theorem openP_spec {b s : List UInt8} (h : openP b = .ok s) : b = sealed s ∧ b.length ≤ 65536 := by
  unfold openP at h
  split at h
  · cases h
  · split at h
    · cases h
    · split at h
      · rename_i h3; cases h; exact ⟨h3.symm, by omega⟩
      · cases h
theorem norm_id {n : Int} (h0 : 0 ≤ n) (h1 : n ≤ 9007199254740991) : ((norm n : Nat) : Int) = n := by
  unfold norm; rw [if_neg (by omega)]; omega
def chain (top : Int) : Int → List Ext2 → Prop
  | _, [] => True
  | e, x :: l => e < x.start ∧ 1 ≤ x.count ∧ x.start + x.count ≤ top ∧ chain top (x.start + x.count) l
theorem w64_id {n : Int} (h0 : -9223372036854775808 ≤ n) (h1 : n ≤ 9223372036854775807) : w64 n = n := IntWalk.i64_in _ ⟨by omega, by omega⟩
theorem selB_chain {a : Int} (h0 : 0 ≤ a) (h1 : a ≤ 1073741824) : ∀ (l : List Ext2) (e : Int), a ≤ e → e ≤ a + 64 → selB a e l = true → chain (a + 64) e l
  | [], _, _, _, _ => trivial
  | x :: l, e, h2, h3, h => by
    rw [selB] at h
    split at h
    · cases h
    · rename_i hb
      unfold badX at hb
      rw [w64_id (n := a + 64) (by omega) (by omega)] at hb
      simp only [Bool.or_eq_true, decide_eq_true_eq, not_or, Int.not_le, Int.not_lt] at hb
      obtain ⟨⟨⟨b1, b2⟩, b3⟩, b4⟩ := hb
      rw [w64_id (by omega) (by omega)] at b4
      rw [w64_id (by omega) (by omega)] at h
      exact ⟨b1, by omega, by omega, selB_chain h0 h1 l _ (by omega) (by omega) h⟩
theorem chain_in {top : Int} (ht : top ≤ 2000000000) : ∀ {l : List Ext2} {e : Int}, 0 ≤ e → chain top e l → ∀ x ∈ l, (0 ≤ x.start ∧ x.start ≤ 2000000000) ∧ 0 ≤ x.count ∧ x.count ≤ 2000000000
  | [], _, _, _, x, hx => by cases hx
  | y :: l, e, he, ⟨h1, h2, h3, h4⟩, x, hx => by
    rcases List.mem_cons.1 hx with rfl | hx
    · omega
    · exact chain_in ht (by omega) h4 x hx
structure PkOk (p : Pk) : Prop where
  kind : 0 ≤ p.kind ∧ p.kind ≤ 2
  session : 0 ≤ p.session ∧ p.session ≤ 1073741824
  sequence : 0 ≤ p.sequence ∧ p.sequence ≤ 1073741824
  ack : 0 ≤ p.ack ∧ p.ack ≤ 1073741824
  credit : 0 ≤ p.credit ∧ p.credit ≤ 64
  sel : chain (p.ack + 64) p.ack p.sel
  payload : p.payload.length ≤ 4096
theorem checkP_ok {p : Pk} (h : checkP p = 0) : PkOk p := by
  unfold checkP at h
  split at h
  · cases h
  rename_i a1
  split at h
  · cases h
  rename_i a2
  split at h
  · cases h
  rename_i a3
  split at h
  · cases h
  rename_i a4
  have a2 : rngB p = true := by simpa using a2
  have a3 : selB p.ack p.ack p.sel = true := by simpa using a3
  unfold rngB timeB at a2
  simp only [Bool.and_eq_true, decide_eq_true_eq] at a2
  obtain ⟨⟨⟨⟨s, q⟩, a⟩, c⟩, d⟩ := a2
  exact ⟨by omega, s, q, a, ⟨c, d⟩, selB_chain a.1 a.2 _ _ (by omega) (by omega) a3, by omega⟩
theorem norm_sel {l : List Ext2} (h : ∀ x ∈ l, (0 ≤ x.start ∧ x.start ≤ 2000000000) ∧ 0 ≤ x.count ∧ x.count ≤ 2000000000) : l.map (fun x => (⟨norm x.start, norm x.count⟩ : Ext2)) = l := by
  conv => rhs; rw [← List.map_id l]
  refine List.map_congr_left fun x hx => ?_
  obtain ⟨h1, h2⟩ := h x hx
  rw [norm_id h1.1 (by omega), norm_id h2.1 (by omega)]; rfl
theorem pPk_rt {p : Pk} (h : PkOk p) (hs : p.sel.length ≤ 65536) (r : List UInt8) : pPk (bodyP p ++ r) = .ok (p, r) := by
  have e : bodyP p ++ r = enc p.kind ++ (enc p.session ++ (enc p.sequence ++ (enc p.ack ++ (enc p.credit ++ ((enc p.sel.length ++ p.sel.flatMap encExt) ++ (encBytes p.payload ++ r)))))) := by
    simp [bodyP, numsP, encExts]
  have hc := chain_in (by have := h.ack; omega) h.ack.1 h.sel
  have ha := h.ack
  have hb := h.session
  have hd := h.sequence
  have hk := h.kind
  have hcr := h.credit
  unfold pPk
  rw [e, number_enc]; dsimp only
  rw [number_enc]; dsimp only
  rw [number_enc]; dsimp only
  rw [number_enc]; dsimp only
  rw [number_enc]; dsimp only
  rw [list_rt ext_rt _ _ ⟨hs, fun _ _ => trivial⟩]; dsimp only
  rw [text_rt _ _ (by have := h.payload; omega)]; dsimp only
  rw [norm_id hk.1 (by omega), norm_id hb.1 (by omega), norm_id hd.1 (by omega), norm_id ha.1 (by omega), norm_id hcr.1 (by omega), norm_sel hc]
theorem pPk_on : ON pPk bodyP := fun s p r h => by
  unfold pPk at h
  split at h
  · cases h
  rename_i q0
  split at h
  · cases h
  rename_i q1
  split at h
  · cases h
  rename_i q2
  split at h
  · cases h
  rename_i q3
  split at h
  · cases h
  rename_i q4
  split at h
  · cases h
  rename_i q5
  split at h
  · cases h
  rename_i q6
  cases h
  rw [number_on _ _ _ q0, number_on _ _ _ q1, number_on _ _ _ q2, number_on _ _ _ q3, number_on _ _ _ q4, list_on ext_on _ _ _ q5, text_on _ _ _ q6]
  simp [bodyP, numsP, encExts]
structure MsOk (m : Ms) : Prop where
  kind : 0 ≤ m.kind ∧ m.kind ≤ 26
  src : 0 ≤ m.src ∧ m.src ≤ 1073741824
  dst : 0 ≤ m.dst ∧ m.dst ≤ 1073741824
  number : 0 ≤ m.number ∧ m.number ≤ 9007199254740991
  value : 0 ≤ m.value ∧ m.value ≤ 9007199254740991
  epoch : 0 ≤ m.epoch ∧ m.epoch ≤ 9007199254740991
  values : ∀ x ∈ m.values, 0 ≤ x ∧ x ≤ 9007199254740991
  few : m.values.length ≤ 4096
theorem norm_ints {l : List Int} (h : ∀ x ∈ l, 0 ≤ x ∧ x ≤ 9007199254740991) : l.map (fun x => ((norm x : Nat) : Int)) = l := by
  conv => rhs; rw [← List.map_id l]
  exact List.map_congr_left fun x hx => norm_id (h x hx).1 (h x hx).2
theorem pMs_rt {m : Ms} (h : MsOk m) (hb : m.body.length ≤ 65536) (r : List UInt8) : pMs (bodyM m ++ r) = .ok (m, r) := by
  have e : bodyM m ++ r = enc m.kind ++ (enc m.src ++ (enc m.dst ++ (enc m.number ++ (enc m.value ++ (enc m.epoch ++ ((enc m.values.length ++ m.values.flatMap enc) ++ (encBytes m.body ++ r))))))) := by
    simp [bodyM, numsM, encInts]
  have h1 := h.kind
  have h2 := h.src
  have h3 := h.dst
  have h4 := h.number
  have h5 := h.value
  have h6 := h.epoch
  unfold pMs
  rw [e, number_enc]; dsimp only
  rw [number_enc]; dsimp only
  rw [number_enc]; dsimp only
  rw [number_enc]; dsimp only
  rw [number_enc]; dsimp only
  rw [number_enc]; dsimp only
  rw [list_rt int_rt _ _ ⟨by have := h.few; omega, fun _ _ => trivial⟩]; dsimp only
  rw [text_rt _ _ hb]; dsimp only
  rw [norm_id h1.1 (by omega), norm_id h2.1 (by omega), norm_id h3.1 (by omega), norm_id h4.1 h4.2, norm_id h5.1 h5.2, norm_id h6.1 h6.2, norm_ints h.values]
theorem pMs_on : ON pMs bodyM := fun s p r h => by
  unfold pMs at h
  split at h
  · cases h
  rename_i q0
  split at h
  · cases h
  rename_i q1
  split at h
  · cases h
  rename_i q2
  split at h
  · cases h
  rename_i q3
  split at h
  · cases h
  rename_i q4
  split at h
  · cases h
  rename_i q5
  split at h
  · cases h
  rename_i q6
  split at h
  · cases h
  rename_i q7
  cases h
  rw [number_on _ _ _ q0, number_on _ _ _ q1, number_on _ _ _ q2, number_on _ _ _ q3, number_on _ _ _ q4, number_on _ _ _ q5, list_on int_on _ _ _ q6, text_on _ _ _ q7]
  simp [bodyM, numsM, encInts]
end Go.Proofs.Ythakkopnoeinmaa
namespace Go.Proofs.Ythakkopnoeinmaa
theorem checkM_ok {m : Ms} (h : checkM m = 0) : MsOk m := by
  unfold checkM at h
  split at h
  · cases h
  rename_i a1
  split at h
  · cases h
  rename_i a2
  split at h
  · cases h
  rename_i a3
  have a2 : (rngM m && valsB m.values) = true := by simpa using a2
  unfold rngM timeB numB valsB at a2
  simp only [Bool.and_eq_true, decide_eq_true_eq] at a2
  obtain ⟨⟨⟨⟨⟨s, d⟩, n⟩, v⟩, e⟩, l⟩ := a2
  refine ⟨by omega, s, d, n, v, e, fun x hx => ?_, by omega⟩
  have := List.all_eq_true.1 l x hx
  simp only [numB, Bool.and_eq_true, decide_eq_true_eq] at this
  exact this
theorem encExts_len16 (l : List Ext2) : (encExts l).length ≤ 8 + 16 * l.length := by
  rw [encExts, List.length_append]
  have h1 := enc_len l.length
  have h2 : (l.flatMap encExt).length ≤ 16 * l.length := by
    refine flat_len (fun x => ?_) l
    rw [encExt, List.length_append]
    have := enc_len x.start
    have := enc_len x.count
    omega
  omega
theorem bodyP_len (p : Pk) : (bodyP p).length ≤ 64 + 16 * p.sel.length + p.payload.length := by
  rw [bodyP, List.length_append, List.length_append]
  have h1 := nums_len (numsP p)
  have h2 := encExts_len16 p.sel
  have h3 := encBytes_le2 p.payload
  have h4 : (numsP p).length = 5 := rfl
  omega
theorem bodyM_len (m : Ms) : (bodyM m).length ≤ 72 + 8 * m.values.length + m.body.length := by
  rw [bodyM, List.length_append, List.length_append]
  have h1 := nums_len (numsM m)
  have h2 := encInts_le3 m.values
  have h3 := encBytes_le2 m.body
  have h4 : (numsM m).length = 6 := rfl
  omega
theorem decPk_enc {p : Pk} (h : checkP p = 0) (hs : p.sel.length ≤ 3000) : decPk (encP p) = .ok p := by
  have hk := checkP_ok h
  have hl := bodyP_len p
  have hp := hk.payload
  unfold decPk encP
  rw [openP_sealed (by omega)]
  dsimp only
  have := pPk_rt hk (by omega) []
  rw [List.append_nil] at this
  rw [this]
  dsimp only
  rw [if_neg (by simp), if_neg (by simp [h])]
theorem decPk_ok {b : List UInt8} {p : Pk} (h : decPk b = .ok p) : b = encP p ∧ checkP p = 0 ∧ b.length ≤ 65536 ∧ p.sel.length ≤ 65536 := by
  unfold decPk at h
  split at h
  · cases h
  rename_i s hs
  split at h
  · cases h
  rename_i q r hq
  split at h
  · cases h
  rename_i hr
  split at h
  · cases h
  rename_i hc
  cases h
  have hr : r = [] := by simpa using hr
  have hc : checkP p = 0 := by simpa using hc
  obtain ⟨h1, h2⟩ := openP_spec hs
  have h3 := pPk_on _ _ _ hq
  rw [hr, List.append_nil] at h3
  exact ⟨by rw [h1, h3]; rfl, hc, h2, (lePk hq).1⟩
theorem decMs_enc {m : Ms} (h : checkM m = 0) (hl : (encM m).length ≤ 65536) : decMs (encM m) = .ok m := by
  have hk := checkM_ok h
  have h1 : (encM m).length = (bodyM m).length + 4 := sealed_len _
  have hb : m.body.length ≤ 65536 := by
    simp only [bodyM, encBytes, List.length_append] at h1
    omega
  unfold decMs
  rw [encM, openP_sealed (by omega)]
  dsimp only
  have := pMs_rt hk hb []
  rw [List.append_nil] at this
  rw [this]
  dsimp only
  rw [if_neg (by simp), if_neg (by simp [h])]
theorem decMs_ok {b : List UInt8} {m : Ms} (h : decMs b = .ok m) : b = encM m ∧ checkM m = 0 ∧ b.length ≤ 65536 ∧ m.values.length ≤ 65536 ∧ m.body.length ≤ 65536 := by
  unfold decMs at h
  split at h
  · cases h
  rename_i s hs
  split at h
  · cases h
  rename_i q r hq
  split at h
  · cases h
  rename_i hr
  split at h
  · cases h
  rename_i hc
  cases h
  have hr : r = [] := by simpa using hr
  have hc : checkM m = 0 := by simpa using hc
  obtain ⟨h1, h2⟩ := openP_spec hs
  have h3 := pMs_on _ _ _ hq
  rw [hr, List.append_nil] at h3
  exact ⟨by rw [h1, h3]; rfl, hc, h2, (leMs hq).1, (leMs hq).2⟩
theorem errM_0 {m : Ms} (h : checkM m = 0) (hl : (encM m).length ≤ 65536) : errM m = 0 := by
  unfold errM; rw [if_pos h, if_neg (by omega)]
theorem errM_ok {m : Ms} (h : errM m = 0) : checkM m = 0 ∧ (encM m).length ≤ 65536 := by
  unfold errM at h
  split at h
  · rename_i h1
    split at h
    · cases h
    · exact ⟨h1, by omega⟩
  · exact absurd h ‹_›
/-! ### The examples -/
def exPk : Pk := ⟨1, 1, 0, 5, 8, [⟨7, 2⟩], []⟩
def exPk2 : Pk := ⟨1, 1, 0, 5, 8, [⟨5, 2⟩], []⟩
def exFront : List UInt8 := [1, 1, 0, 5, 8, 1, 7, 2, 0]
def exMs1 : Ms := ⟨27, 0, 0, 0, 0, 0, [], []⟩
def exMs2 : Ms := ⟨1, 0, 0, 0, -1, 0, [], []⟩
def exMs3 : Ms := ⟨1, 0, 0, 0, 0, 0, [], [3]⟩
theorem exPk_check : checkP exPk = 0 := by decide
theorem exPk2_check : checkP exPk2 = 3 := by decide
theorem exMs1_check : errM exMs1 = 1 := by
  have : checkM exMs1 = 1 := by decide
  unfold errM; rw [this]; rfl
theorem exMs2_check : errM exMs2 = 2 := by
  have : checkM exMs2 = 2 := by decide
  unfold errM; rw [this]; rfl
theorem exMs3_check : checkM exMs3 = 0 := by decide
theorem exPk_body : bodyP exPk = exFront := by
  simp [bodyP, numsP, exPk, encExts, encExt, encBytes, enc, norm, encN_lt, exFront]
theorem exMs3_len : (encM exMs3).length ≤ 65536 := by
  have : (encM exMs3).length = (bodyM exMs3).length + 4 := sealed_len _
  have := bodyM_len exMs3
  have h1 : exMs3.values.length = 0 := rfl
  have h2 : exMs3.body.length = 1 := rfl
  omega
theorem exPk_gaps : gapsP exPk = [⟨5, 2⟩] := by
  unfold gapsP
  rw [if_pos exPk_check]
  rfl
end Go.Proofs.Ythakkopnoeinmaa
