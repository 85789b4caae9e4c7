import Derived.Test.YtdiblbjchhjccaaDoorA12
import Derived.ChangeKeysEq
import Derived.Test.YtdiblbjchhjccaaDoorA13
set_option linter.unusedSimpArgs false
set_option linter.unusedVariables false
set_option linter.unusedSectionVars false
namespace Go.Proofs.YtdiblbjchhjccaaDoor
/-! ### Whether two arrays or structs of integers are equal -/
def ints (k : IntKind) (zs : List Int) : Array Value := (zs.map fun z => Value.int k z).toArray
theorem zip_rep (k : IntKind) : ∀ (n : Nat) (zs : List Int), zs.length = n → (((List.replicate n k).zip zs).map fun p => Value.int p.1 p.2) = zs.map fun z => Value.int k z
  | 0, [], _ => rfl
  | n + 1, z :: zs, h => by
    rw [List.replicate_succ, List.zip_cons_cons, List.map_cons, List.map_cons, zip_rep k n zs (by simpa using h)]
  | 0, _ :: _, h => by simp at h
  | n + 1, [], h => by simp at h
theorem all_range_int : ∀ (xs ys : List Int), xs.length = ys.length → ((List.range xs.length).all fun i => xs.getD i 0 == ys.getD i 0) = decide (xs = ys)
  | [], [], _ => rfl
  | x :: xs, y :: ys, h => by
    have ih := all_range_int xs ys (by simpa using h)
    rw [List.length_cons, List.range_succ_eq_map, List.all_cons, List.all_map]
    simp only [List.getD_cons_zero, Function.comp_def, List.getD_cons_succ, ih]
    by_cases hx : x = y <;> simp [hx]
  | [], _ :: _, h => by simp at h
  | _ :: _, [], h => by simp at h
section
variable {P : Program}
theorem run_eqItems_ints (w : World) (d : Nat) {e : TypeId} {k : IntKind} (he : P.underlying e = some (.int k)) (xs ys : List Int) : ∀ l : List Nat, (∀ i ∈ l, i < xs.length ∧ i < ys.length) →
    (Op.eqItems (d + 1) e 1 (ints k xs) (ints k ys) l).run P w = .ok (l.all fun i => xs.getD i 0 == ys.getD i 0) w
  | [], _ => by simp [Op.eqItems]
  | i :: l, h => by
    obtain ⟨h1, h2⟩ := h i (by simp)
    have px : (part e (ints k xs) (i * 1)).run P w = .ok (.int k (xs.getD i 0)) w := by
      simp [ints, part, isAgg, run_underlying he, List.getD, List.getElem?_eq_getElem h1]
    have py : (part e (ints k ys) (i * 1)).run P w = .ok (.int k (ys.getD i 0)) w := by
      simp [ints, part, isAgg, run_underlying he, List.getD, List.getElem?_eq_getElem h2]
    have pe : (Op.equalIn (d + 1) e (.int k (xs.getD i 0)) (.int k (ys.getD i 0))).run P w = .ok (xs.getD i 0 == ys.getD i 0) w := run_equalIn_int w d e k k _ _ he
    simp only [Op.eqItems, Sem.run_bind, px, py, pe, Result.andThen_ok, List.all_cons]
    cases hb : (xs.getD i 0 == ys.getD i 0)
    · simp
    · simp only [Bool.not_true, Bool.false_eq_true, if_false, Bool.true_and]
      exact run_eqItems_ints w d he xs ys l fun j hj => h j (List.mem_cons_of_mem _ hj)
theorem flatEq_array {t e : TypeId} {n : Nat} {k : IntKind} {i : TypeInfo} (hu : P.underlying t = some (.array n e)) (hi : P.info? e = some i) (he : P.underlying e = some (.int k)) (hc : P.cellsOf e = 1) (hg : P.eqGuardType P.depth t = false) : FlatEq P t (List.replicate n k) := by
  refine ⟨hg, fun w zs zs' h1 h2 => ?_⟩
  rw [List.length_replicate] at h1 h2
  rw [zip_rep k n zs h1, zip_rep k n zs' h2]
  show (Op.equalIn 10000 t (.agg (ints k zs)) (.agg (ints k zs'))).run P w = _
  rw [run_equalIn_array w 9999 _ _ hu hi, hc, run_eqItems_ints w 9998 he _ _ _ (fun i hi => by rw [List.mem_range] at hi; omega), ← h1, all_range_int _ _ (by omega)]
theorem flatEq_pair {t e : TypeId} {f g : Field} {k : IntKind} (hu : P.underlying t = some (.struct #[f, g])) (hf : f.type = e) (hg : g.type = e) (of : f.offset = 0) (og : g.offset = 1) (nf : f.name ≠ "_") (ng : g.name ≠ "_") (he : P.underlying e = some (.int k)) (hs : P.stoodInHeld t = false) (hq : P.eqGuardType P.depth t = false) : FlatEq P t [k, k] := by
  refine ⟨hq, fun w zs zs' h1 h2 => ?_⟩
  match zs, zs', h1, h2 with
  | [a, b], [c, d], _, _ =>
    show (Op.equalIn 10000 t (.agg (ints k [a, b])) (.agg (ints k [c, d]))).run P w = _
    have hF : P.fieldsOf t = #[f, g] := by unfold Program.fieldsOf; rw [hu]
    rw [run_equalIn_agg w 9999 _ _ _ (by rw [hF]; exact hu) hs, hF]
    have p1 : (part e (ints k [a, b]) 0).run P w = .ok (.int k a) w := by simp [ints, part, isAgg, run_underlying he]
    have p2 : (part e (ints k [a, b]) 1).run P w = .ok (.int k b) w := by simp [ints, part, isAgg, run_underlying he]
    have p3 : (part e (ints k [c, d]) 0).run P w = .ok (.int k c) w := by simp [ints, part, isAgg, run_underlying he]
    have p4 : (part e (ints k [c, d]) 1).run P w = .ok (.int k d) w := by simp [ints, part, isAgg, run_underlying he]
    have q1 : (Op.equalIn 9999 e (.int k a) (.int k c)).run P w = .ok (a == c) w := run_equalIn_int w 9998 e k k _ _ he
    have q2 : (Op.equalIn 9999 e (.int k b) (.int k d)).run P w = .ok (b == d) w := run_equalIn_int w 9998 e k k _ _ he
    simp only [Op.eqFields, hf, hg, of, og, nf, ng, ne_eq, not_false_eq_true, if_true, Sem.run_bind, p1, p3, q1, Result.andThen_ok]
    cases h1 : (a == c)
    · have : a ≠ c := by simpa using h1
      simp [this]
    · have h1 : a = c := by simpa using h1
      simp only [Bool.not_true, Bool.false_eq_true, if_false, Sem.run_bind, p2, p4, q2, Result.andThen_ok]
      cases h2 : (b == d)
      · have : b ≠ d := by simpa using h2
        simp [h1, this]
      · have h2 : b = d := by simpa using h2
        simp [h1, h2]
end
theorem fits_rep (k : IntKind) : ∀ zs : List Int, fits (List.replicate zs.length k) (zs.map fun z => CV.v (.int k z))
  | [] => by rw [List.length_nil, List.replicate_zero, fits]; rfl
  | z :: zs => by rw [List.length_cons, List.replicate_succ, fits]; exact ⟨z, _, rfl, fits_rep k zs⟩
end Go.Proofs.YtdiblbjchhjccaaDoor
namespace Go.Proofs.YtdiblbjchhjccaaDoor
open Go.Proofs
theorem flat57 : FlatEq Tryd.prog 57 (List.replicate 8 .u8) := by
  obtain ⟨i, z, _, hi, _⟩ := slTy_some slTy22
  exact flatEq_array Tryd.underlying57 hi Tryd.underlying5 (by kernel_rfl) (by kernel_rfl)
theorem fits_sec (s : Sec) : fits (List.replicate 8 .u8) (secC s) := by
  have := fits_rep .u8 (s.val.map fun b => (b.toNat : Int))
  rw [List.length_map, s.len, List.map_map] at this
  exact this
theorem SameSectors_cc (H : Hp) (V : List Nat) (t1 t2 : Tk) (l : List Sec) (hl : l.length ≤ 900000000) : CC Tryd.prog 30 [.sl t1 8 (l.map secC), .sl t2 8 (l.map secC)] H V (Pu (cb true) H V) := by
  refine CC.of_swp Tryd.func30 rfl (by kernel_rfl) (by rw [Tryd.ntmps30]; exact len_le _ _ rfl) fun hok hokH => ?_
  clear hok
  refine SWp.seq (Wp.s ?_)
  simp -implicitDefEqProofs [go_sem, args0]
  refine SWp.seq (Wp.s ?_)
  simp -implicitDefEqProofs [go_sem]
  refine SWp.join (α := Unit) (fun _ => ([], H, V)) (fun _ => True) ?_ ?_
  · refine SWp.seq (Wp.s ?_)
    simp -implicitDefEqProofs [go_sem]
    refine SWp.block ?_
    refine SWp.loop (α := Nat) (fun i => ([(0, .sl t1 8 (l.map secC)), (1, .sl t2 8 (l.map secC)), (5, ci i)], H, V)) (fun i => i ≤ l.length) (fun i => l.length - i) 0 (Nat.zero_le _) (Sh.forget (by simp [go_sem]) rfl rfl) ?_
    intro i hi
    dsimp only
    refine SWp.seq (Wp.s ?_)
    simp -implicitDefEqProofs [go_sem]
    refine ⟨fun h => ?_, fun h => Sh.forget (by simp [go_sem]) rfl rfl⟩
    have hw := wrap_succ (show i ≤ 1000000000 by omega)
    refine SWp.seq (SWp.block ?_)
    refine SWp.seq (SWp.drawnL [0, 1, 2, 3, 4, 5, 6, 7, 8] (by kernel_rfl) (by kernel_rfl) rfl ?_)
    simp -implicitDefEqProofs [go_sem, h]
    refine ⟨_, flat57, fits_sec _, ?_⟩
    refine Wp.s ?_
    simp -implicitDefEqProofs [go_sem, hw]
    refine Wp.s ?_
    simp -implicitDefEqProofs [go_sem, hw]
    exact ⟨i + 1, by omega, by omega, Sh.forget (by simp [go_sem]) rfl rfl⟩
  · rintro _ -
    dsimp only
    refine Wp.s ?_
    simp -implicitDefEqProofs [go_sem]
    exact Fin.bool rfl hokH (by simp) (by simp)
set_option maxRecDepth 4000 in
theorem SameOps_cc (H : Hp) (V : List Nat) (t1 t2 : Tk) (l : List Opn) (hl : l.length ≤ 900000000) (hs : ∀ o ∈ l, o.data.length ≤ 900000000) : CC Tryd.prog 13 [.sl t1 3 (l.map opC), .sl t2 3 (l.map opC)] H V (Pu (cb true) H V) := by
  refine CC.of_swp Tryd.func13 rfl (by kernel_rfl) (by rw [Tryd.ntmps13]; exact len_le _ _ rfl) fun hok hokH => ?_
  clear hok
  refine SWp.seq (Wp.s ?_)
  simp -implicitDefEqProofs [go_sem, args0]
  refine SWp.seq (Wp.s ?_)
  simp -implicitDefEqProofs [go_sem]
  refine SWp.join (α := Unit) (fun _ => ([], H, V)) (fun _ => True) ?_ ?_
  · refine SWp.seq (Wp.s ?_)
    simp -implicitDefEqProofs [go_sem]
    refine SWp.block ?_
    refine SWp.loop (α := Nat) (fun i => ([(0, .sl t1 3 (l.map opC)), (1, .sl t2 3 (l.map opC)), (5, ci i)], H, V)) (fun i => i ≤ l.length) (fun i => l.length - i) 0 (Nat.zero_le _) (Sh.forget (by simp [go_sem]) rfl rfl) ?_
    intro i hi
    dsimp only
    refine SWp.seq (Wp.s ?_)
    simp -implicitDefEqProofs [go_sem]
    refine ⟨fun h => ?_, fun h => Sh.forget (by simp [go_sem]) rfl rfl⟩
    have hw := wrap_succ (show i ≤ 1000000000 by omega)
    refine SWp.seq (SWp.block ?_)
    refine SWp.seq (SWp.drawnL [0, 1, 2, 3, 4, 5, 6, 7, 8, 9, 10, 11, 12, 13, 14, 15, 16, 17, 18, 19, 20, 21, 22, 23, 24, 25, 26, 27, 28, 29, 30, 31, 32, 33, 34, 35, 36, 37] (by kernel_rfl) (by kernel_rfl) rfl ?_)
    simp -implicitDefEqProofs [go_sem, h]
    refine CC.mono (SameSectors_cc _ _ .sh .sh _ (hs _ (List.getElem_mem h))) ?_
    rintro _ _ _ ⟨rfl, rfl, rfl⟩
    simp -implicitDefEqProofs [go_sem]
    refine Wp.s ?_
    simp -implicitDefEqProofs [go_sem, hw]
    refine Wp.s ?_
    simp -implicitDefEqProofs [go_sem, hw]
    exact ⟨i + 1, by omega, by omega, Sh.forget (by simp [go_sem]) rfl rfl⟩
  · rintro _ -
    dsimp only
    refine Wp.s ?_
    simp -implicitDefEqProofs [go_sem]
    exact Fin.bool rfl hokH (by simp) (by simp)
end Go.Proofs.YtdiblbjchhjccaaDoor
namespace Go.Proofs.YtdiblbjchhjccaaDoor
open Go.Proofs
@[go_sem, simp] theorem dkC_drop2 (d : Dk) : (dkC d).drop 2 = [] := rfl
def aw0 : Dk := ⟨List.replicate 20 sec0, []⟩
theorem aw_new : newR 20 = (aw0, 0) := by kernel_rfl
def awO : List Opn := [opW 0 (List.replicate 16 sec0), opS, opW 0 (copyS 1 [7, 8]), opS]
theorem aw_fmt : formatS 0 [7, 8] = (awO, 0) := by kernel_rfl
def aw1 : Dk := (runR aw0 awO).1
theorem aw_run1 : runR aw0 awO = (aw1, 4, 0) := Prod.ext rfl (by kernel_rfl)
theorem aw_len1 : aw1.stable.length = 20 := by kernel_rfl
theorem aw_c1 : aw1.cache = [] := by kernel_rfl
theorem aw_load1 : loadS aw1 0 = ([7, 8], 1, 0) := by kernel_rfl
def awP : List Opn := (storeS aw1 0 [9]).1
theorem aw_st : storeS aw1 0 [9] = (awP, 0) := Prod.ext rfl (by kernel_rfl)
def aw2 : Dk := (runR aw1 awP).1
theorem aw_run2 : runR aw1 awP = (aw2, 2, 0) := Prod.ext rfl (by kernel_rfl)
theorem aw_len2 : aw2.stable.length = 20 := by kernel_rfl
theorem aw_c2 : aw2.cache = [] := by kernel_rfl
theorem aw_load2 : loadS aw2 0 = ([9], 2, 0) := by kernel_rfl
theorem aw_tot : tot awO = 24 ∧ awO.length = 4 := by constructor <;> kernel_rfl
theorem aw_totP : tot awP = 8 ∧ awP.length = 2 := by constructor <;> kernel_rfl
def c8 (l : List Int) : List CV := l.map fun n => CV.v (.int .u8 n)
theorem aw_s0 (h : 0 < aw1.stable.length) : secC (aw1.stable[0]'h) = c8 [1, 0, 0, 0, 2, 7, 8, 0] := by kernel_rfl
theorem aw_s7 (h : 7 < aw1.stable.length) : secC (aw1.stable[7]'h) = c8 [1, 0, 0, 0, 0, 0, 0, 0] := by kernel_rfl
theorem aw_s8 (h : 8 < aw2.stable.length) : secC (aw2.stable[8]'h) = c8 [2, 0, 0, 0, 1, 9, 0, 0] := by kernel_rfl
theorem fits_c8 (l : List Int) (h : l.length = 8) : fits (List.replicate 8 .u8) (c8 l) := by
  have := fits_rep .u8 l
  rwa [h] at this
theorem DkS_of {d : Dk} {n : Nat} (h : d.stable.length = n) (hn : n ≤ 1000) (hc : d.cache = []) : DkS d := ⟨by omega, by rw [hc]; exact Nat.zero_le _⟩
set_option maxRecDepth 4000 in
theorem awake_cc (H : Hp) (V : List Nat) : CC Tryd.prog 10 [] H V (Pu (cb true) H V) := by
  refine CC.of_swp Tryd.func10 rfl (by kernel_rfl) (by rw [Tryd.ntmps10]; exact len_le _ _ rfl) fun hok hokH => ?_
  clear hok
  have s0 : DkS aw0 := ⟨by decide, by decide⟩
  have s1 : DkS aw1 := DkS_of aw_len1 (by decide) aw_c1
  have s2 : DkS aw2 := DkS_of aw_len2 (by decide) aw_c2
  refine SWp.seq (Wp.s ?_)
  simp -implicitDefEqProofs [go_sem, args0]
  refine SWp.seq (Wp.s ?_)
  simp -implicitDefEqProofs [go_sem]
  refine CC.mono (New_cc _ _ 20) ?_
  rintro _ _ _ ⟨rfl, rfl, rfl⟩
  rw [aw_new]
  simp -implicitDefEqProofs [go_sem]
  refine SWp.seq (Wp.s ?_)
  simp -implicitDefEqProofs [go_sem]
  refine CC.mono (show CC Tryd.prog 11 [ci 0, .sl .ti 1 (bs [7, 8])] _ _ (Pu (stV (formatS 0 [7, 8])) _ _) from Format_cc _ _ 0 .ti [7, 8]) ?_
  rintro _ _ _ ⟨rfl, rfl, rfl⟩
  rw [aw_fmt]
  simp -implicitDefEqProofs [go_sem, stV]
  refine SWp.seq (Wp.s ?_)
  simp -implicitDefEqProofs [go_sem]
  refine CC.mono (Run_cc _ _ aw0 awO (by decide) (by rw [aw_tot.1]; decide) (by rw [aw_tot.2]; decide)) ?_
  rintro _ _ _ ⟨rfl, rfl, rfl⟩
  rw [aw_run1]
  simp -implicitDefEqProofs [go_sem, runV]
  refine SWp.seq (Wp.s ?_)
  simp -implicitDefEqProofs [go_sem]
  refine CC.mono (Load_cc _ _ aw1 0 s1) ?_
  rintro _ _ _ ⟨rfl, rfl, rfl⟩
  rw [aw_load1]
  simp -implicitDefEqProofs [go_sem, ldV]
  refine SWp.seq (Wp.s ?_)
  simp -implicitDefEqProofs [go_sem, aw_len1]
  refine CC.mono (show CC Tryd.prog 17 [.sl .sh 1 (bs [7, 8]), .sl .ti 1 (bs [7, 8])] _ _ (Pu (cb (decide (([7, 8] : List UInt8) = [7, 8]))) _ _) from Equal_cc _ _ .sh .ti [7, 8] [7, 8]) ?_
  rintro _ _ _ ⟨rfl, rfl, rfl⟩
  simp -implicitDefEqProofs [go_sem, aw_len1]
  refine ⟨_, flat57, fits_sec _, fits_c8 [1, 0, 0, 0, 2, 7, 8, 0] rfl, fun h => absurd (aw_s0 _) h, fun _ => ⟨_, flat57, fits_sec _, fits_c8 [1, 0, 0, 0, 0, 0, 0, 0] rfl, fun h => absurd (aw_s7 _) h, fun _ => ?_⟩⟩
  refine SWp.seq (Wp.s ?_)
  simp -implicitDefEqProofs [go_sem]
  refine CC.mono (show CC Tryd.prog 18 [.agg (dkC aw1), ci 0, .sl .ti 1 (bs [9])] _ _ (Pu (stV (storeS aw1 0 [9])) _ _) from Store_cc _ _ aw1 0 .ti [9] s1) ?_
  rintro _ _ _ ⟨rfl, rfl, rfl⟩
  rw [aw_st]
  simp -implicitDefEqProofs [go_sem, stV]
  refine SWp.seq (Wp.s ?_)
  simp -implicitDefEqProofs [go_sem]
  refine CC.mono (Run_cc _ _ aw1 awP (by rw [aw_len1]; decide) (by rw [aw_c1, aw_totP.1]; decide) (by rw [aw_totP.2]; decide)) ?_
  rintro _ _ _ ⟨rfl, rfl, rfl⟩
  rw [aw_run2]
  simp -implicitDefEqProofs [go_sem, runV]
  refine SWp.seq (Wp.s ?_)
  simp -implicitDefEqProofs [go_sem]
  refine CC.mono (Load_cc _ _ aw2 0 s2) ?_
  rintro _ _ _ ⟨rfl, rfl, rfl⟩
  rw [aw_load2]
  simp -implicitDefEqProofs [go_sem, ldV]
  refine SWp.seq (Wp.s ?_)
  simp -implicitDefEqProofs [go_sem, aw_len2]
  refine CC.mono (show CC Tryd.prog 17 [.sl .sh 1 (bs [9]), .sl .ti 1 (bs [9])] _ _ (Pu (cb (decide (([9] : List UInt8) = [9]))) _ _) from Equal_cc _ _ .sh .ti [9] [9]) ?_
  rintro _ _ _ ⟨rfl, rfl, rfl⟩
  simp -implicitDefEqProofs [go_sem, aw_len2]
  refine ⟨_, flat57, fits_sec _, fits_c8 [2, 0, 0, 0, 1, 9, 0, 0] rfl, fun h => absurd (aw_s8 _) h, fun _ => ?_⟩
  refine CC.mono (cap1_cc _ _) ?_
  rintro _ _ _ ⟨rfl, rfl, rfl⟩
  simp -implicitDefEqProofs [go_sem]
  refine Wp.s ?_
  simp -implicitDefEqProofs [go_sem]
  exact Fin.bool rfl hokH (by simp) (by simp)
end Go.Proofs.YtdiblbjchhjccaaDoor
namespace Go.Proofs.YtdiblbjchhjccaaDoor
open Go.Proofs
def fewD (d : Dk) : Bool := decide (d.stable.length ≤ 80) && decide (d.cache.length ≤ 80)
theorem few_cc (H : Hp) (V : List Nat) (d : Dk) : CC Tryd.prog 14 [.agg (dkC d)] H V (Pu (cb (fewD d)) H V) := by
  refine CC.of_swp Tryd.func14 rfl (by kernel_rfl) (by rw [Tryd.ntmps14]; exact len_le _ _ rfl) fun hok hokH => ?_
  clear hok
  refine SWp.seq (Wp.s ?_)
  simp -implicitDefEqProofs [go_sem, args0]
  refine Wp.s ?_
  by_cases h1 : d.stable.length ≤ 80
  · simp -implicitDefEqProofs [go_sem, show (d.stable.length : Int) ≤ 80 by omega]
    refine Fin.bool ?_ hokH (by simp) (by simp)
    by_cases h2 : d.cache.length ≤ 80
    · simp [fewD, h1, h2]; omega
    · simp [fewD, h1, h2]; omega
  · simp -implicitDefEqProofs [go_sem, show ¬ (d.stable.length : Int) ≤ 80 by omega]
    exact Fin.bool (by simp [fewD, h1]) hokH (by simp) (by simp)
theorem fewD_S {d : Dk} (h : fewD d = true) : DkS d := by
  simp only [fewD, Bool.and_eq_true, decide_eq_true_eq] at h
  exact ⟨by omega, by omega⟩
theorem fmt_small {a : Int} {p : List UInt8} : (formatS a p).1.length ≤ 900000000 ∧ ∀ o ∈ (formatS a p).1, o.data.length ≤ 900000000 := by
  unfold formatS
  split
  · exact ⟨by simp, by simp⟩
  · split
    · exact ⟨by simp, by simp⟩
    · refine ⟨by simp, fun o ho => ?_⟩
      simp only [List.mem_cons, List.not_mem_nil, or_false] at ho
      rcases ho with rfl | rfl | rfl | rfl <;> simp [opW, opS, copyS_len]
theorem sto_small {d : Dk} {a : Int} {p : List UInt8} : (storeS d a p).1.length ≤ 900000000 ∧ ∀ o ∈ (storeS d a p).1, o.data.length ≤ 900000000 := by
  unfold storeS
  split
  · exact ⟨by simp, by simp⟩
  · split
    · exact ⟨by simp, by simp⟩
    · split
      · exact ⟨by simp, by simp⟩
      · split
        · exact ⟨by simp, by simp⟩
        · refine ⟨by simp, fun o ho => ?_⟩
          simp only [List.mem_cons, List.not_mem_nil, or_false] at ho
          rcases ho with rfl | rfl <;> simp [opW, opS, copyS_len]
theorem Formats_cc (H : Hp) (V : List Nat) (a : Int) (tk : Tk) (p : List UInt8) : CC Tryd.prog 3 [ci a, .sl tk 1 (bs p)] H V (Pu (cb true) H V) := by
  refine CC.of_swp Tryd.func3 rfl (by kernel_rfl) (by rw [Tryd.ntmps3]; exact len_le _ _ rfl) fun hok hokH => ?_
  clear hok
  refine SWp.seq (Wp.s ?_)
  simp -implicitDefEqProofs [go_sem, args0]
  refine SWp.seq (Wp.s ?_)
  simp -implicitDefEqProofs [go_sem]
  refine ⟨fun h => ?_, fun h => ?_⟩
  · refine CC.mono (awake_cc _ _) ?_
    rintro _ _ _ ⟨rfl, rfl, rfl⟩
    simp -implicitDefEqProofs [go_sem]
    exact Fin.bool rfl hokH (by simp) (by simp)
  refine SWp.seq (Wp.s ?_)
  simp -implicitDefEqProofs [go_sem]
  refine CC.mono (Format_cc _ _ a _ p) ?_
  rintro _ _ _ ⟨rfl, rfl, rfl⟩
  simp -implicitDefEqProofs [go_sem, stV]
  refine SWp.seq (Wp.s ?_)
  simp -implicitDefEqProofs [go_sem]
  refine CC.mono (rFormat_cc _ _ a _ p) ?_
  rintro _ _ _ ⟨rfl, rfl, rfl⟩
  simp -implicitDefEqProofs [go_sem, stV]
  refine SWp.seq (Wp.s ?_)
  simp -implicitDefEqProofs [go_sem]
  refine CC.mono (awake_cc _ _) ?_
  rintro _ _ _ ⟨rfl, rfl, rfl⟩
  simp -implicitDefEqProofs [go_sem]
  refine CC.mono (SameOps_cc _ _ .sh .sh _ fmt_small.1 fmt_small.2) ?_
  rintro _ _ _ ⟨rfl, rfl, rfl⟩
  simp -implicitDefEqProofs [go_sem]
  refine Wp.s ?_
  simp -implicitDefEqProofs [go_sem]
  exact Fin.bool rfl hokH (by simp) (by simp)
theorem Loads_cc (H : Hp) (V : List Nat) (d : Dk) (a : Int) : CC Tryd.prog 4 [.agg (dkC d), ci a] H V (Pu (cb true) H V) := by
  refine CC.of_swp Tryd.func4 rfl (by kernel_rfl) (by rw [Tryd.ntmps4]; exact len_le _ _ rfl) fun hok hokH => ?_
  clear hok
  refine SWp.seq (Wp.s ?_)
  simp -implicitDefEqProofs [go_sem, args0]
  refine SWp.seq (Wp.s ?_)
  simp -implicitDefEqProofs [go_sem]
  refine CC.mono (few_cc _ _ d) ?_
  rintro _ _ _ ⟨rfl, rfl, rfl⟩
  rcases hf : fewD d with - | -
  · simp -implicitDefEqProofs [go_sem]
    refine CC.mono (awake_cc _ _) ?_
    rintro _ _ _ ⟨rfl, rfl, rfl⟩
    simp -implicitDefEqProofs [go_sem]
    exact Fin.bool rfl hokH (by simp) (by simp)
  have hS := fewD_S hf
  simp -implicitDefEqProofs [go_sem]
  refine SWp.seq (Wp.s ?_)
  simp -implicitDefEqProofs [go_sem]
  refine CC.mono (Load_cc _ _ d a hS) ?_
  rintro _ _ _ ⟨rfl, rfl, rfl⟩
  simp -implicitDefEqProofs [go_sem, ldV]
  refine SWp.seq (Wp.s ?_)
  simp -implicitDefEqProofs [go_sem]
  refine CC.mono (rLoad_cc _ _ d a hS) ?_
  rintro _ _ _ ⟨rfl, rfl, rfl⟩
  simp -implicitDefEqProofs [go_sem, ldV]
  refine SWp.seq (Wp.s ?_)
  simp -implicitDefEqProofs [go_sem]
  refine CC.mono (awake_cc _ _) ?_
  rintro _ _ _ ⟨rfl, rfl, rfl⟩
  simp -implicitDefEqProofs [go_sem]
  refine CC.mono (Equal_cc _ _ .sh .sh _ _) ?_
  rintro _ _ _ ⟨rfl, rfl, rfl⟩
  simp -implicitDefEqProofs [go_sem]
  refine Wp.s ?_
  simp -implicitDefEqProofs [go_sem]
  exact Fin.bool rfl hokH (by simp) (by simp)
theorem Stores_cc (H : Hp) (V : List Nat) (d : Dk) (a : Int) (tk : Tk) (p : List UInt8) : CC Tryd.prog 5 [.agg (dkC d), ci a, .sl tk 1 (bs p)] H V (Pu (cb true) H V) := by
  refine CC.of_swp Tryd.func5 rfl (by kernel_rfl) (by rw [Tryd.ntmps5]; exact len_le _ _ rfl) fun hok hokH => ?_
  clear hok
  refine SWp.seq (Wp.s ?_)
  simp -implicitDefEqProofs [go_sem, args0]
  refine SWp.seq (Wp.s ?_)
  simp -implicitDefEqProofs [go_sem]
  refine CC.mono (few_cc _ _ d) ?_
  rintro _ _ _ ⟨rfl, rfl, rfl⟩
  rcases hf : fewD d with - | -
  · simp -implicitDefEqProofs [go_sem]
    refine CC.mono (awake_cc _ _) ?_
    rintro _ _ _ ⟨rfl, rfl, rfl⟩
    simp -implicitDefEqProofs [go_sem]
    exact Fin.bool rfl hokH (by simp) (by simp)
  have hS := fewD_S hf
  by_cases h1 : (100 : Int) < p.length
  · simp -implicitDefEqProofs [go_sem, h1]
    refine CC.mono (awake_cc _ _) ?_
    rintro _ _ _ ⟨rfl, rfl, rfl⟩
    simp -implicitDefEqProofs [go_sem]
    exact Fin.bool rfl hokH (by simp) (by simp)
  simp -implicitDefEqProofs [go_sem, h1]
  refine SWp.seq (Wp.s ?_)
  simp -implicitDefEqProofs [go_sem]
  refine CC.mono (Store_cc _ _ d a _ p hS) ?_
  rintro _ _ _ ⟨rfl, rfl, rfl⟩
  simp -implicitDefEqProofs [go_sem, stV]
  refine SWp.seq (Wp.s ?_)
  simp -implicitDefEqProofs [go_sem]
  refine CC.mono (rStore_cc _ _ d a _ p hS) ?_
  rintro _ _ _ ⟨rfl, rfl, rfl⟩
  simp -implicitDefEqProofs [go_sem, stV]
  refine SWp.seq (Wp.s ?_)
  simp -implicitDefEqProofs [go_sem]
  refine CC.mono (awake_cc _ _) ?_
  rintro _ _ _ ⟨rfl, rfl, rfl⟩
  simp -implicitDefEqProofs [go_sem]
  refine CC.mono (SameOps_cc _ _ .sh .sh _ sto_small.1 sto_small.2) ?_
  rintro _ _ _ ⟨rfl, rfl, rfl⟩
  simp -implicitDefEqProofs [go_sem]
  refine Wp.s ?_
  simp -implicitDefEqProofs [go_sem]
  exact Fin.bool rfl hokH (by simp) (by simp)
theorem Formats_law (a : Int) (p : List UInt8) : CC Tryd.prog 3 [ci a, .sl .sh 1 (bs p)] [] [] (Pu (cb true) [] []) := Formats_cc [] [] a .sh p
theorem Loads_law (d : Dk) (a : Int) : CC Tryd.prog 4 [.agg (dkC d), ci a] [] [] (Pu (cb true) [] []) := Loads_cc [] [] d a
theorem Stores_law (d : Dk) (a : Int) (p : List UInt8) : CC Tryd.prog 5 [.agg (dkC d), ci a, .sl .sh 1 (bs p)] [] [] (Pu (cb true) [] []) := Stores_cc [] [] d a .sh p
end Go.Proofs.YtdiblbjchhjccaaDoor
