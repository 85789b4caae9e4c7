import Derived.Test.YtmgoflhjblombaaGreatDoorC7
import Derived.Test.YtmgoflhjblombaaGreatDoorC6
import Derived.Shelf.SortM.Plain
import Derived.Shelf.SortM.SortNone
import Derived.Test.YtmgoflhjblombaaGreatDoorC3
import Derived.ProofKit
import Derived.OpenShut
import Derived.Below
set_option linter.unusedSimpArgs false
set_option linter.unusedVariables false
set_option linter.unusedSectionVars false
namespace Go.Proofs.YtmgoflhjblombaaGreatDoor
open Go.Proofs
/-! ### Events and states -/
structure Evt where
  kind : UInt8
  pay : List UInt8
  after : UInt8
  again : UInt8
  ch : List Int
def evC (x : Evt) : List CV := [.v (.int .u8 (x.kind.toNat : Int)), .sl .sh 1 (bs x.pay), .v (.int .u8 (x.after.toNat : Int)), .v (.int .u8 (x.again.toNat : Int)), .sl .sh 1 (x.ch.map ic)]
@[go_sem, simp] theorem evC_len (x : Evt) : (evC x).length = 5 := rfl
@[go_sem, simp] theorem evC_take (x : Evt) : (evC x).take 5 = evC x := rfl
@[go_sem, simp] theorem evC_drop (x : Evt) : (evC x).drop 5 = [] := rfl
@[go_sem, simp] theorem evC_all (x : Evt) : allOne (evC x) = true := rfl
@[go_sem, simp] theorem evC_0 (x : Evt) (h : 0 < (evC x).length) : (evC x)[0] = CV.v (.int .u8 (x.kind.toNat : Int)) := rfl
@[go_sem, simp] theorem evC_1 (x : Evt) (h : 1 < (evC x).length) : (evC x)[1] = .sl .sh 1 (bs x.pay) := rfl
@[go_sem, simp] theorem evC_2 (x : Evt) (h : 2 < (evC x).length) : (evC x)[2] = CV.v (.int .u8 (x.after.toNat : Int)) := rfl
@[go_sem, simp] theorem evC_3 (x : Evt) (h : 3 < (evC x).length) : (evC x)[3] = CV.v (.int .u8 (x.again.toNat : Int)) := rfl
@[go_sem, simp] theorem evC_4 (x : Evt) (h : 4 < (evC x).length) : (evC x)[4] = .sl .sh 1 (x.ch.map ic) := rfl
@[go_sem] theorem okL_evC (i j : Nat) (x : Evt) : okL i j (evC x) = True := by simp [evC, go_sem, okL, okV, okE_ints]
@[go_sem] theorem okE_evs (i j : Nat) (l : List Evt) : okE i j (l.map evC) = True := eq_true (okE_map evC l fun x => by rw [okL_evC]; trivial)
def paE (p : List UInt8) : List CV := [.sl .sh 1 (bs p)]
@[go_sem] theorem okL_paE (i j : Nat) (x : List UInt8) : okL i j (paE x) = True := by simp [paE, go_sem, okL, okV]
@[go_sem] theorem okE_pas (i j : Nat) (l : List (List UInt8)) : okE i j (l.map paE) = True := eq_true (okE_map paE l fun x => by rw [okL_paE]; trivial)
@[go_sem, simp] theorem paE_len (x : List UInt8) : (paE x).length = 1 := rfl
@[go_sem, simp] theorem paE_0 (x : List UInt8) (h : 0 < (paE x).length) : (paE x)[0] = .sl .sh 1 (bs x) := rfl
structure StJ where
  d : Dk
  j : Jrn
  known : List (List UInt8)
  right : Bool
def knV (l : List (List UInt8)) : CV := .sl .sh 1 (l.map paE)
def stjC (s : StJ) : List CV := [secsV s.d.stable, cachV s.d.cache, .v (.int .i64 s.j.start), .v (.int .i64 s.j.count), .v (.int .i64 s.j.head), .v (.int .i64 s.j.tail), .v (.int .i64 s.j.first), .sl .sh 1 (s.j.sizes.map ic), knV s.known, cb s.right]
@[go_sem, simp] theorem stjC_len (x : StJ) : (stjC x).length = 10 := rfl
@[go_sem, simp] theorem stjC_take (x : StJ) : (stjC x).take 10 = stjC x := rfl
@[go_sem, simp] theorem stjC_drop (x : StJ) : (stjC x).drop 10 = [] := rfl
@[go_sem, simp] theorem stjC_all (x : StJ) : allOne (stjC x) = true := rfl
@[go_sem, simp] theorem stjC_d (x : StJ) : (stjC x).take 2 = dkC x.d := rfl
@[go_sem, simp] theorem stjC_j (x : StJ) : ((stjC x).drop 2).take 6 = jrC x.j := rfl
@[go_sem, simp] theorem stjC_8 (x : StJ) (h : 8 < (stjC x).length) : (stjC x)[8] = knV x.known := rfl
@[go_sem, simp] theorem stjC_9 (x : StJ) (h : 9 < (stjC x).length) : (stjC x)[9] = cb x.right := rfl
@[go_sem, simp] theorem stjC_6 (x : StJ) (h : 6 < (stjC x).length) : (stjC x)[6] = .v (.int .i64 x.j.first) := rfl
@[go_sem] theorem okL_stjC (i j : Nat) (s : StJ) : okL i j (stjC s) = True := by simp [stjC, knV, go_sem, okL, okV, okE_ints, okE_secs, okE_cach]
/-! ### Small events -/
def smE (x : Evt) : Bool := decide (x.pay.length ≤ 60) && decide (x.ch.length ≤ 60)
def smU (l : List Evt) (i : Nat) : Bool := (l.take i).all smE
def SmI (l : List Evt) (i : Nat) : Prop := smU l i = true
def smallB (l : List Evt) : Bool := l.all smE && decide (l.length ≤ 24)
theorem small_cc (H : Hp) (V : List Nat) (l : List Evt) (hl : l.length ≤ 9223372036854775807) : CC Tryz.prog 15 [.sl .sh 5 (l.map evC)] H V (Pu (cb (smallB l)) H V) := by
  refine CC.of_swp Tryz.func15 rfl (by kernel_rfl) (by rw [Tryz.ntmps15]; exact len_le _ _ rfl) fun hok hokH => ?_
  clear hok
  refine SWp.seq (Wp.s ?_)
  simp -implicitDefEqProofs [go_sem, args0]
  refine SWp.join (α := Unit) (fun _ => ([(0, .sl .sh 5 (l.map evC))], H, V)) (fun _ => SmI l l.length) ?_ ?_
  · refine SWp.seq (Wp.s ?_)
    simp -implicitDefEqProofs [go_sem]
    refine SWp.block ?_
    refine SWp.loop (α := Nat) (fun i => ([(0, .sl .sh 5 (l.map evC)), (3, ci i)], H, V)) (fun i => i ≤ l.length ∧ SmI l i) (fun i => l.length - i) 0 ⟨Nat.zero_le _, rfl⟩ (Sh.forget (by simp [go_sem]) rfl rfl) ?_
    rintro i ⟨hi, hp⟩
    dsimp only
    refine SWp.seq (SWp.seq (Wp.s ?_))
    by_cases h : i < l.length
    case neg =>
      obtain rfl : i = l.length := by omega
      simp -implicitDefEqProofs [go_sem]
      refine Wp.s ?_
      simp -implicitDefEqProofs [go_sem]
      exact ⟨hp, Sh.forget (by simp [go_sem]) rfl rfl⟩
    simp -implicitDefEqProofs [go_sem, h]
    refine Wp.s ?_
    simp -implicitDefEqProofs [go_sem]
    refine SWp.seq (SWp.block (SWp.seq (Wp.s ?_)))
    have no : smE l[i] = false → smallB l = false := fun e => by
      rw [smallB, Bool.and_eq_false_iff]
      left
      rw [List.all_eq_false]
      exact ⟨l[i], List.getElem_mem h, by rw [e]; decide⟩
    by_cases h1 : 60 < l[i].pay.length
    · have h1' : 60 < (l[i].pay.length : Int) := by omega
      simp -implicitDefEqProofs [go_sem, h, h1']
      refine Wp.s ?_
      simp -implicitDefEqProofs [go_sem]
      exact Fin.bool (no (by rw [smE, decide_eq_false (by omega)]; rfl)).symm hokH (by simp) (by simp)
    have h1' : ¬ 60 < (l[i].pay.length : Int) := by omega
    by_cases h2 : 60 < l[i].ch.length
    · have h2' : 60 < (l[i].ch.length : Int) := by omega
      simp -implicitDefEqProofs [go_sem, h, h1', h2']
      refine Wp.s ?_
      simp -implicitDefEqProofs [go_sem]
      exact Fin.bool (no (by rw [smE, decide_eq_false (p := l[i].ch.length ≤ 60) (by omega), Bool.and_false])).symm hokH (by simp) (by simp)
    have h2' : ¬ 60 < (l[i].ch.length : Int) := by omega
    simp -implicitDefEqProofs [go_sem, h, h1', h2']
    refine Wp.s ?_
    simp -implicitDefEqProofs [go_sem]
    refine Wp.s ?_
    simp -implicitDefEqProofs [go_sem]
    refine ⟨i + 1, ⟨by omega, ?_⟩, by omega, Sh.forget ?_ rfl rfl⟩
    · unfold SmI smU at *
      rw [List.take_succ_eq_append_getElem h, List.all_append, hp]
      simp [smE]; omega
    · simp [go_sem, wrap_big (show i < 9223372036854775807 by omega)]
  rintro _ he
  dsimp only
  refine SWp.seq (Wp.s ?_)
  simp -implicitDefEqProofs [go_sem]
  refine Wp.s ?_
  simp -implicitDefEqProofs [go_sem]
  have he' : l.all smE = true := by unfold SmI smU at he; rwa [List.take_length] at he
  exact Fin.bool (by rw [smallB, he']; simp; omega) hokH (by simp) (by simp)
theorem small_ok {l : List Evt} (h : smallB l = true) : l.length ≤ 24 ∧ ∀ x ∈ l, x.pay.length ≤ 60 ∧ x.ch.length ≤ 60 := by
  rw [smallB, Bool.and_eq_true, List.all_eq_true, decide_eq_true_eq] at h
  refine ⟨h.2, fun x hx => ?_⟩
  have := h.1 x hx
  simpa [smE] using this
/-! ### The same payloads -/
def sameB (l : List Rcd) (w : List (List UInt8)) : Bool := decide (l.map Rcd.pay = w) && l.all (fun r => decide (r.kind = 7))
def SaI (l : List Rcd) (w : List (List UInt8)) (i : Nat) : Prop := ((l.take i).map Rcd.pay = w.take i) ∧ (l.take i).all (fun r => decide (r.kind = 7)) = true
theorem same_cc (H : Hp) (V : List Nat) (l : List Rcd) (w : List (List UInt8)) (hl : l.length ≤ 1000000000) : CC Tryz.prog 18 [.sl .sh 3 (l.map rcC), knV w] H V (Pu (cb (sameB l w)) H V) := by
  refine CC.of_swp Tryz.func18 rfl (by kernel_rfl) (by rw [Tryz.ntmps18]; exact len_le _ _ rfl) fun hok hokH => ?_
  clear hok
  refine SWp.seq (Wp.s ?_)
  simp -implicitDefEqProofs [go_sem, args0, knV]
  refine SWp.seq (SWp.seq (Wp.s ?_))
  by_cases hn : l.length = w.length
  case neg =>
    have hn' : ¬ (l.length : Int) = (w.length : Int) := by omega
    simp -implicitDefEqProofs [go_sem, hn, hn']
    refine Wp.s ?_
    simp -implicitDefEqProofs [go_sem]
    refine Fin.bool ?_ hokH (by simp) (by simp)
    symm
    rw [sameB, decide_eq_false (fun e => hn (by rw [← e, List.length_map])), Bool.false_and]
  have hn' : (l.length : Int) = (w.length : Int) := by omega
  simp -implicitDefEqProofs [go_sem, hn, hn']
  refine Wp.s ?_
  simp -implicitDefEqProofs [go_sem]
  refine SWp.join (α := Unit) (fun _ => ([], H, V)) (fun _ => SaI l w l.length) ?_ ?_
  · refine SWp.seq (Wp.s ?_)
    simp -implicitDefEqProofs [go_sem]
    refine SWp.block ?_
    refine SWp.loop (α := Nat) (fun i => ([(0, .sl .sh 3 (l.map rcC)), (1, .sl .sh 1 (w.map paE)), (5, ci i)], H, V)) (fun i => i ≤ l.length ∧ SaI l w i) (fun i => l.length - i) 0 ⟨Nat.zero_le _, rfl, rfl⟩ (Sh.forget (by simp [go_sem]) rfl rfl) ?_
    rintro i ⟨hi, hp⟩
    dsimp only
    refine SWp.seq (SWp.seq (Wp.s ?_))
    by_cases h : i < l.length
    case neg =>
      obtain rfl : i = l.length := by omega
      simp -implicitDefEqProofs [go_sem]
      refine Wp.s ?_
      simp -implicitDefEqProofs [go_sem]
      exact ⟨hp, Sh.forget (by simp [go_sem]) rfl rfl⟩
    have h2 : i < w.length := by omega
    simp -implicitDefEqProofs [go_sem, h]
    refine Wp.s ?_
    simp -implicitDefEqProofs [go_sem]
    refine SWp.seq (SWp.block (SWp.seq (SWp.drawnT [] [] (.s 0 .pl <| .s 1 .pl <| .s 2 .pl <| .s 3 .pl <| .s 4 .pl <| .s 5 .pl <| .s 6 .pl <| .s 7 .pl <| .s 8 .pl <| .s 9 .pl <| .s 10 .pl <| .s 11 .pl <| .s 12 .pl <| .s 13 .pl <| .s 14 .pl <| .s 15 .pl <| .s 16 .pl <| .s 17 .pl <| .s 18 .pl <| .n) (by kernel_rfl) (by kernel_rfl) ?_)))
    simp -implicitDefEqProofs [go_sem, h, h2]
    refine CC.mono (sEqual_cc _ _ .sh .sh l[i].pay w[i]) ?_
    rintro _ _ _ ⟨rfl, rfl, rfl⟩
    by_cases h3 : l[i].pay = w[i]
    case neg =>
      simp -implicitDefEqProofs [go_sem, h, h2, h3]
      refine Wp.s ?_
      simp -implicitDefEqProofs [go_sem]
      refine Fin.bool ?_ hokH (by simp) (by simp)
      symm
      rw [sameB, decide_eq_false (fun e => h3 ?_), Bool.false_and]
      have := congrArg (fun z => z[i]?) e
      simpa [h, h2] using this
    by_cases h4 : l[i].kind = 7
    case neg =>
      simp -implicitDefEqProofs [go_sem, h, h2, h3, h4]
      refine Wp.s ?_
      simp -implicitDefEqProofs [go_sem]
      refine Fin.bool ?_ hokH (by simp) (by simp)
      symm
      rw [sameB, Bool.and_eq_false_iff]
      right
      rw [List.all_eq_false]
      exact ⟨l[i], List.getElem_mem h, by simpa using h4⟩
    simp -implicitDefEqProofs [go_sem, h, h2, h3, h4]
    refine Wp.s ?_
    simp -implicitDefEqProofs [go_sem]
    refine Wp.s ?_
    simp -implicitDefEqProofs [go_sem]
    refine ⟨i + 1, ⟨by omega, ?_, ?_⟩, by omega, Sh.forget ?_ rfl rfl⟩
    · rw [List.take_succ_eq_append_getElem h, List.take_succ_eq_append_getElem h2, List.map_append, hp.1]
      simp [h3]
    · rw [List.take_succ_eq_append_getElem h, List.all_append, hp.2]
      simp [h4]
    · simp [go_sem, wrap_succ (show i ≤ 1000000000 by omega)]
  rintro _ ⟨h1, h2⟩
  dsimp only
  refine SWp.seq (Wp.s ?_)
  simp -implicitDefEqProofs [go_sem]
  refine Wp.s ?_
  simp -implicitDefEqProofs [go_sem]
  rw [List.take_length] at h1 h2
  rw [hn, List.take_length] at h1
  exact Fin.bool (by rw [sameB, h2, decide_eq_true h1]; rfl) hokH (by simp) (by simp)
/-! ### The beginning -/
theorem newR_eq (size : UInt8) : newR (rgN size + 7) = (⟨zerL (rgN size + 7).toNat, []⟩, 0) := by
  have := rgN_in size
  rw [newR, if_neg (by omega)]; rfl
theorem fmtR_eq (size : UInt8) : formatJ 3 (rgN size) = (newJ 3 (rgN size), (formatJ 3 (rgN size)).2.1, 0) := by
  have := fmtJ_eq (st := 3) (rgN_valid size)
  rw [show ((3 : Nat) : Int) = 3 from rfl] at this
  rw [this]
theorem fmtR_run (size : UInt8) : runR ⟨zerL (rgN size + 7).toNat, []⟩ (formatJ 3 (rgN size)).2.1 = (⟨newS (rgN size + 7).toNat 3, []⟩, (formatJ 3 (rgN size)).2.1.length, 0) ∧ (formatJ 3 (rgN size)).2.1.length ≤ 6 ∧ tot (formatJ 3 (rgN size)).2.1 ≤ 1000 := by
  have h := rgN_in size
  have e := fmtJ_eq (st := 3) (rgN_valid size)
  obtain ⟨h1, h2, h3⟩ := fmtJ_exec (st := 3) (n := (rgN size + 7).toNat) (rgN_valid size) (by omega)
  rw [show ((3 : Nat) : Int) = 3 from rfl] at h1 h2 h3 e
  refine ⟨?_, by rw [e]; simp, by rw [e]; simp [tot, opW, opS, copyS_len]; omega⟩
  rw [runR_exec (by rw [zerL_len]; omega) (by rw [zerL_len]; exact h2) (.inr h3), h1]
set_option maxRecDepth 8000 in
theorem beginJ_cc (H : Hp) (V : List Nat) (size : UInt8) : CC Tryz.prog 20 [.v (.int .u8 (size.toNat : Int))] H V (Pu (.tup [.agg (dkC ⟨newS (rgN size + 7).toNat 3, []⟩), .agg (jrC (newJ 3 (rgN size))), cb true]) H V) := by
  refine CC.of_swp Tryz.func20 rfl (by kernel_rfl) (by rw [Tryz.ntmps20]; exact len_le _ _ rfl) fun hok hokH => ?_
  clear hok
  have hr := rgN_in size
  obtain ⟨r1, r2, r3⟩ := fmtR_run size
  have w1 : IntKind.i64.wrap (rgN size + 7) = rgN size + 7 := IntWalk.i64_in _ ⟨by omega, by omega⟩
  refine SWp.seq (Wp.s ?_)
  simp -implicitDefEqProofs [go_sem, args0]
  refine SWp.seq (Wp.s ?_)
  simp -implicitDefEqProofs [go_sem]
  refine CC.mono (region_cc _ _ size) ?_
  rintro _ _ _ ⟨rfl, rfl, rfl⟩
  simp -implicitDefEqProofs [go_sem, w1]
  refine CC.mono (sNew_cc _ _ (rgN size + 7)) ?_
  rintro _ _ _ ⟨rfl, rfl, rfl⟩
  rw [newR_eq]
  simp -implicitDefEqProofs [go_sem]
  refine SWp.seq (Wp.s ?_)
  simp -implicitDefEqProofs [go_sem]
  refine CC.mono (region_cc _ _ size) ?_
  rintro _ _ _ ⟨rfl, rfl, rfl⟩
  simp -implicitDefEqProofs [go_sem]
  refine CC.mono (Format_cc _ _ 3 (rgN size)) ?_
  rintro _ _ _ ⟨rfl, rfl, rfl⟩
  rw [fmtR_eq]
  simp -implicitDefEqProofs [go_sem, jtV]
  refine SWp.seq (Wp.s ?_)
  simp -implicitDefEqProofs [go_sem]
  refine CC.mono (sRun_cc _ _ ⟨zerL (rgN size + 7).toNat, []⟩ (formatJ 3 (rgN size)).2.1 (by show (zerL _).length ≤ _; rw [zerL_len]; omega) (by show [].length + _ ≤ _; simp; omega) (by omega)) ?_
  rintro _ _ _ ⟨rfl, rfl, rfl⟩
  rw [r1]
  simp -implicitDefEqProofs [go_sem, runV]
  refine SWp.seq (SWp.drawnT [H.length + 3] [12, 13] (.s 0 .pl <| .s 1 .ld <| .s 2 .pl <| .s 3 .pl <| .s 4 .pl <| .s 5 .pl <| .s 6 .pl <| .s 7 .pl <| .s 8 .pl <| .s 9 .pl <| .s 10 .pl <| .s 11 .pl <| .s 12 .st <| .s 13 .st <| .s 14 .pl <| .n) (by kernel_rfl) (by kernel_rfl) ?_)
  simp -implicitDefEqProofs [go_sem]
  have hk : ∀ (x y a b c : Option (List CV)), Kp [H.length + 3] (H ++ [x, a, b, c]) (H ++ [y, a, b, c]) := fun x y a b c => Kp.keep fun b' hb => by
    obtain rfl : b' = H.length + 3 := by simpa using hb
    rw [hget, hget]; rfl
  have hk2 : ∀ (x y a b c : Option (List CV)), Kp [H.length + 3] (H ++ [a, x, b, c]) (H ++ [a, y, b, c]) := fun x y a b c => Kp.keep fun b' hb => by
    obtain rfl : b' = H.length + 3 := by simpa using hb
    rw [hget, hget]; rfl
  refine ⟨hk _ _ _ _ _, hk2 _ _ _ _ _, Wp.s ?_⟩
  simp -implicitDefEqProofs [go_sem]
  refine Fin.pu (.refl _) ?_ hokH (by simp) (by simp)
  simp [go_sem, okL, okV, okL_jrC]
end Go.Proofs.YtmgoflhjblombaaGreatDoor
namespace Go.Proofs.YtmgoflhjblombaaGreatDoor
open Go.Proofs
/-- A state's sizes. -/
structure StJS (s : StJ) : Prop where
  st : s.d.stable.length ≤ 1000
  ca : s.d.cache.length ≤ 1000
  kn : s.known.length ≤ 1000
  sz : s.j.sizes.length ≤ 1000
  f0 : 0 ≤ s.j.first
  f1 : s.j.first ≤ 10000000000
def planF (s : StJ) (x : Evt) : Jrn × List Opn × List (List UInt8) × Bool :=
  if x.kind.toNat % 2 = 0 then ((appJ s.j 7 x.pay).1, (appJ s.j 7 x.pay).2.1, s.known ++ [x.pay], decide ((appJ s.j 7 x.pay).2.2 = 0))
  else ((relJ s.d s.j (s.j.first - 1 + ((x.pay.length % (s.known.length + 1) : Nat) : Int))).1, (relJ s.d s.j (s.j.first - 1 + ((x.pay.length % (s.known.length + 1) : Nat) : Int))).2.1, s.known.drop (x.pay.length % (s.known.length + 1)), decide ((relJ s.d s.j (s.j.first - 1 + ((x.pay.length % (s.known.length + 1) : Nat) : Int))).2.2 = 0))
def plV (r : Jrn × List Opn × List (List UInt8) × Bool) : CV := .tup [.agg (jrC r.1), opsV r.2.1, knV r.2.2.1, cb r.2.2.2]
theorem okV_plV (i j : Nat) (r : Jrn × List Opn × List (List UInt8) × Bool) : okV i j (plV r) := by
  simp [plV, knV, go_sem, okL, okV, okL_jrC, okE_ops, okE_pas]
set_option maxRecDepth 8000 in
theorem plan_cc (H : Hp) (V : List Nat) (s : StJ) (x : Evt) (hs : StJS s) (hx : x.pay.length ≤ 60) : CC Tryz.prog 70 [.agg (stjC s), .agg (evC x)] H V (Pu (plV (planF s x)) H V) := by
  refine CC.of_swp Tryz.func70 rfl (by kernel_rfl) (by rw [Tryz.ntmps70]; exact len_le _ _ rfl) fun hok hokH => ?_
  clear hok
  have hk := x.kind.toNat_lt
  obtain ⟨h1, h2, h3, h4, h5, h6⟩ := hs
  have hkp : ∀ (a b c c' : Option (List CV)) (L : Hp), Kp [H.length, H.length + 1] (H ++ a :: b :: c :: L) (H ++ a :: b :: c' :: L) := fun a b c c' L => Kp.keep fun y hy => by
    rcases List.mem_cons.1 hy with rfl | hy
    · rw [at_len, at_len]; rfl
    · obtain rfl : y = H.length + 1 := by simpa using hy
      rw [hget, hget]; rfl
  obtain ⟨k, hkk⟩ : ∃ k, k = x.kind.toNat % 2 := ⟨_, rfl⟩
  have m1 : (x.kind.toNat : Int).tmod 2 = (k : Int) := by rw [Int.tmod_eq_emod_of_nonneg (by omega)]; omega
  have m1' : (x.kind.toNat : Int) % 2 = (k : Int) := by omega
  have m2 : IntKind.u8.wrap (k : Int) = (k : Int) := by rw [IntKind.wrap_u8]; omega
  refine SWp.seq (Wp.s ?_)
  simp -implicitDefEqProofs [go_sem, args0]
  refine SWp.seq (SWp.seq (Wp.s ?_))
  by_cases h0 : k = 0
  · have hP : planF s x = ((appJ s.j 7 x.pay).1, (appJ s.j 7 x.pay).2.1, s.known ++ [x.pay], decide ((appJ s.j 7 x.pay).2.2 = 0)) := by rw [planF, if_pos (by omega)]
    simp -implicitDefEqProofs [go_sem, m1, m1', m2, h0]
    refine SWp.condT rfl ?_
    refine SWp.seq (Wp.s ?_)
    simp -implicitDefEqProofs [go_sem]
    refine CC.mono (Append_cc _ _ s.j 7 x.pay (by omega) (by omega)) ?_
    rintro _ _ _ ⟨rfl, rfl, rfl⟩
    generalize appJ s.j 7 x.pay = r at hP ⊢
    obtain ⟨j', ops, e⟩ := r
    dsimp only at hP
    simp -implicitDefEqProofs [go_sem, jtV]
    refine SWp.seq (SWp.drawnT [H.length, H.length + 1] [12] (.s 0 .pl <| .s 1 .pl <| .s 2 .pl <| .s 3 .pl <| .s 4 .ld <| .s 6 .pl <| .s 7 .ld <| .s 8 .pl <| .s 10 .pl <| .s 11 .pl <| .s 5 .pl <| .s 9 .pl <| .s 12 .st <| .s 13 .pl <| .s 14 .pl <| .s 15 .pl <| .n) (by kernel_rfl) (by kernel_rfl) ?_)
    simp -implicitDefEqProofs [go_sem, knV]
    refine ⟨by omega, by omega, hkp _ _ _ _ _, ?_⟩
    refine Wp.s ?_
    simp -implicitDefEqProofs [go_sem]
    rw [hP]
    refine Fin.pu (.tup (.cons (.refl _) (.cons (.refl _) (.cons ?_ (.cons (.refl _) .nil))))) (okV_plV _ _ (j', ops, s.known ++ [x.pay], decide (e = 0))) hokH (by simp) (by simp)
    rw [knV, List.map_append]
    exact .sh _ _ _
  · obtain ⟨n, hn⟩ : ∃ n, n = x.pay.length % (s.known.length + 1) := ⟨_, rfl⟩
    have hnl : n < s.known.length + 1 := by rw [hn]; exact Nat.mod_lt _ (by omega)
    have hP : planF s x = ((relJ s.d s.j (s.j.first - 1 + (n : Int))).1, (relJ s.d s.j (s.j.first - 1 + (n : Int))).2.1, s.known.drop n, decide ((relJ s.d s.j (s.j.first - 1 + (n : Int))).2.2 = 0)) := by rw [planF, if_neg (by omega), ← hn]
    have w1 : IntKind.i64.wrap ((s.known.length : Int) + 1) = (s.known.length : Int) + 1 := IntWalk.i64_in _ ⟨by omega, by omega⟩
    have t1 : (x.pay.length : Int).tmod ((s.known.length : Int) + 1) = (n : Int) := by
      rw [Int.tmod_eq_emod_of_nonneg (by omega), hn]; simp
    have t1' : (x.pay.length : Int) % ((s.known.length : Int) + 1) = (n : Int) := by rw [hn]; simp
    have w2 : IntKind.i64.wrap (n : Int) = (n : Int) := IntWalk.i64_in _ ⟨by omega, by omega⟩
    have w3 : IntKind.i64.wrap (s.j.first - 1) = s.j.first - 1 := IntWalk.i64_in _ ⟨by omega, by omega⟩
    have w4 : IntKind.i64.wrap (s.j.first - 1 + (n : Int)) = s.j.first - 1 + (n : Int) := IntWalk.i64_in _ ⟨by omega, by omega⟩
    have hz : ¬ (s.known.length : Int) + 1 = 0 := by omega
    have h0' : ¬ (k : Int) = 0 := by omega
    simp -implicitDefEqProofs [go_sem, m1, m1', m2, h0, h0']
    refine Wp.s ?_
    simp -implicitDefEqProofs [go_sem]
    refine SWp.seq (Wp.s ?_)
    simp -implicitDefEqProofs [go_sem, w1, t1, t1', w2, hz, knV]
    refine SWp.seq (Wp.s ?_)
    simp -implicitDefEqProofs [go_sem, w3, w4]
    refine CC.mono (Release_cc _ _ s.d s.j (s.j.first - 1 + (n : Int)) ⟨by omega, by omega⟩ (by omega)) ?_
    rintro _ _ _ ⟨rfl, rfl, rfl⟩
    generalize relJ s.d s.j (s.j.first - 1 + (n : Int)) = r at hP ⊢
    obtain ⟨j', ops, e⟩ := r
    dsimp only at hP
    simp -implicitDefEqProofs [go_sem, jtV]
    have hkp1 : ∀ (a b c c' : Option (List CV)) (L : Hp), Kp [H.length] (H ++ a :: b :: c :: L) (H ++ a :: b :: c' :: L) := fun a b c c' L => Kp.keep fun y hy => by
      obtain rfl : y = H.length := by simpa using hy
      rw [at_len, at_len]; rfl
    have hnl' : n ≤ s.known.length := by omega
    refine SWp.seq (SWp.drawnT [H.length] [8] (.s 0 .pl <| .s 1 .pl <| .s 2 .pl <| .s 3 .ld <| .s 4 .pl <| .s 5 .pl <| .s 6 .pl <| .s 7 .pl <| .s 8 .st <| .s 9 .pl <| .s 10 .pl <| .s 11 .pl <| .n) (by kernel_rfl) (by kernel_rfl) ?_)
    simp -implicitDefEqProofs [go_sem, knV, hnl']
    refine ⟨hkp1 _ _ _ _ _, ?_⟩
    refine Wp.s ?_
    simp -implicitDefEqProofs [go_sem]
    rw [hP]
    refine Fin.pu (.tup (.cons (.refl _) (.cons (.refl _) (.cons ?_ (.cons (.refl _) .nil))))) (okV_plV _ _ (j', ops, s.known.drop n, decide (e = 0))) hokH (by simp) (by simp)
    rw [knV, List.map_drop]
    exact .refl _
end Go.Proofs.YtmgoflhjblombaaGreatDoor
namespace Go.Proofs.YtmgoflhjblombaaGreatDoor
open Go.Proofs
def stj (s : List Sec) (j : Jrn) (rs : List Rcd) : StJ := ⟨⟨s, []⟩, j, rs.map Rcd.pay, true⟩
theorem plan_ok {size : UInt8} {N : Nat} {s : List Sec} {j : Jrn} {rs : List Rcd} (h : SI size N s j rs []) (hN : N ≤ 900) (x : Evt) :
    (planF (stj s j rs) x).2.2.2 = false ∨ ∃ ops j' rs2, planF (stj s j rs) x = (j', ops, rs2.map Rcd.pay, true) ∧ PlanOk size N s j rs ops j' rs2 := by
  have hsm := h.small
  by_cases k0 : x.kind.toNat % 2 = 0
  · rw [planF, if_pos k0]
    rcases h.app x.pay with e | ⟨ws, j', e, h1, h2, h3, h4⟩
    · left
      exact decide_eq_false e
    · right
      refine ⟨ws ++ [opS], j', rs ++ [⟨7, nextJ j, x.pay⟩], ?_, .of hsm.1 h1 h2 h3 h4⟩
      show ((appJ j 7 x.pay).1, (appJ j 7 x.pay).2.1, rs.map Rcd.pay ++ [x.pay], decide ((appJ j 7 x.pay).2.2 = 0)) = _
      rw [e, List.map_append]; rfl
  · rw [planF, if_neg k0]
    right
    show ∃ ops j' rs2, ((relJ ⟨s, []⟩ j (j.first - 1 + ((x.pay.length % ((rs.map Rcd.pay).length + 1) : Nat) : Int))).1, (relJ ⟨s, []⟩ j (j.first - 1 + ((x.pay.length % ((rs.map Rcd.pay).length + 1) : Nat) : Int))).2.1, (rs.map Rcd.pay).drop (x.pay.length % ((rs.map Rcd.pay).length + 1)), decide ((relJ ⟨s, []⟩ j (j.first - 1 + ((x.pay.length % ((rs.map Rcd.pay).length + 1) : Nat) : Int))).2.2 = 0)) = (j', ops, rs2.map Rcd.pay, true) ∧ PlanOk size N s j rs ops j' rs2
    have hn : x.pay.length % ((rs.map Rcd.pay).length + 1) < (rs.map Rcd.pay).length + 1 := Nat.mod_lt _ (by omega)
    rw [List.length_map] at hn ⊢
    generalize x.pay.length % (rs.length + 1) = n at hn ⊢
    by_cases n0 : n = 0
    · subst n0
      refine ⟨[], j, rs, ?_, .nil h⟩
      rw [show j.first - 1 + ((0 : Nat) : Int) = j.first - 1 by omega, h.rel0]; rfl
    · obtain ⟨ws, r1, r2, r3, r4, r5⟩ := h.rel (by omega) (by omega) n0
      refine ⟨ws ++ [opS], dropJ j n, rs.drop n, ?_, .of hsm.1 r2 r3 (fun s' hm => ⟨[], r4 s' hm⟩) r5⟩
      rw [r1, List.map_drop]; rfl
theorem stj_S {size : UInt8} {N : Nat} {s : List Sec} {j : Jrn} {rs : List Rcd} {l : List Sec} (h : SI size N s j rs l) : StJS (stj s j rs) := by
  have hsm := h.small
  have hp := (preJ_iff j).1 ((chkJ_iff j).1 h.rj.jd.chk).2.1
  refine ⟨by show s.length ≤ 1000; omega, by show ([] : List Cach).length ≤ 1000; simp, by show (rs.map Rcd.pay).length ≤ 1000; rw [List.length_map]; omega, by show j.sizes.length ≤ 1000; omega, by show 0 ≤ j.first; omega, by show j.first ≤ _; omega⟩
def StR (size : UInt8) (N : Nat) (H : Hp) (V : List Nat) : CV → Hp → List Nat → Prop := fun r H' V' => ∃ s' j' rs', SI size N s' j' rs' [] ∧ r = .agg (stjC (stj s' j' rs')) ∧ H' = H ∧ V' = V
theorem sameB_self {rs : List Rcd} (h : ∀ r ∈ rs, r.kind = 7) : sameB rs (rs.map Rcd.pay) = true := by
  rw [sameB, decide_eq_true rfl, Bool.true_and, List.all_eq_true]
  intro r hr
  exact decide_eq_true (h r hr)
theorem sameB_eq {rs : List Rcd} {w : List (List UInt8)} (h : sameB rs w = true) : rs.map Rcd.pay = w := by
  rw [sameB, Bool.and_eq_true, decide_eq_true_eq] at h
  exact h.1
@[go_sem] theorem stj_d (s : List Sec) (j : Jrn) (rs : List Rcd) : (stj s j rs).d = ⟨s, []⟩ := rfl
@[go_sem] theorem stj_j (s : List Sec) (j : Jrn) (rs : List Rcd) : (stj s j rs).j = j := rfl
@[go_sem] theorem stj_k (s : List Sec) (j : Jrn) (rs : List Rcd) : (stj s j rs).known = rs.map Rcd.pay := rfl
@[go_sem] theorem stj_r (s : List Sec) (j : Jrn) (rs : List Rcd) : (stj s j rs).right = true := rfl
@[go_sem] theorem knV_one (l : List (List UInt8)) : (knV l).one = true := rfl
@[go_sem] theorem knV_cells (l : List (List UInt8)) : (knV l).cells = [knV l] := rfl
@[go_sem] theorem stjC_setd (d : Dk) (s : StJ) : dkC d ++ List.drop 2 (stjC s) = stjC ⟨d, s.j, s.known, s.right⟩ := rfl
@[go_sem] theorem stjC_setj (d : Dk) (j : Jrn) (s : StJ) : dkC d ++ (jrC j ++ List.drop 8 (stjC s)) = stjC ⟨d, j, s.known, s.right⟩ := rfl
@[go_sem] theorem stjC_setk (l : List (List UInt8)) (s : StJ) : List.take 8 (stjC s) ++ knV l :: List.drop 9 (stjC s) = stjC ⟨s.d, s.j, l, s.right⟩ := rfl
@[go_sem] theorem stjC_setr (b : Bool) (s : StJ) : List.take 9 (stjC s) ++ [cb b] = stjC ⟨s.d, s.j, s.known, b⟩ := rfl
set_option maxRecDepth 8000 in
theorem step_cc (H : Hp) (V : List Nat) (size : UInt8) (N : Nat) (hN : N ≤ 900) (s : List Sec) (j : Jrn) (rs : List Rcd) (h : SI size N s j rs []) (x : Evt) (hx : x.pay.length ≤ 60) (hch : x.ch.length ≤ 60) (hso : SortOK) : CC Tryz.prog 46 [.agg (stjC (stj s j rs)), .agg [iv 3, iv (rgN size)], .agg (evC x)] H V (StR size (N + 1) H V) := by
  refine CC.of_swp Tryz.func46 rfl (by kernel_rfl) (by rw [Tryz.ntmps46]; exact len_le _ _ rfl) fun hok hokH => ?_
  clear hok
  have fin : ∀ {s' : List Sec} {j' : Jrn} {rs' : List Rcd} {H' : Hp} {V' : List Nat}, SI size (N + 1) s' j' rs' [] → H'.take H.length = H → V'.take V.length = V → Fin H.length V.length (StR size (N + 1) H V) (.agg (stjC (stj s' j' rs'))) H' V' := fun h1 h2 h3 =>
    Fin.pure (r' := .agg (stjC (stj _ _ _))) ⟨_, _, _, h1, rfl, rfl, rfl⟩ h2 h3 (.refl _) (by rw [okV, okL_stjC]; trivial) hokH
  have hsm := h.small
  have hpl := plan_ok h hN x
  refine SWp.seq (Wp.s ?_)
  simp -implicitDefEqProofs [go_sem, args0]
  refine SWp.seq (Wp.s ?_)
  simp -implicitDefEqProofs [go_sem]
  refine CC.mono (plan_cc _ _ (stj s j rs) x (stj_S h) hx) ?_
  rintro _ _ _ ⟨rfl, rfl, rfl⟩
  generalize planF (stj s j rs) x = pl at hpl ⊢
  obtain ⟨j0, ops0, kn, ok⟩ := pl
  dsimp only at hpl
  simp -implicitDefEqProofs [go_sem, plV]
  refine SWp.seq (SWp.seq (Wp.s ?_))
  rcases hpl with rfl | ⟨ops, j', rs2, e, hp⟩
  · simp -implicitDefEqProofs [go_sem]
    refine Wp.s ?_
    simp -implicitDefEqProofs [go_sem]
    exact fin h.mono (by simp) (by simp)
  obtain ⟨rfl, rfl, rfl, rfl⟩ : j' = j0 ∧ ops = ops0 ∧ rs2.map Rcd.pay = kn ∧ true = ok := by simpa [eq_comm] using e
  simp -implicitDefEqProofs [go_sem]
  refine Wp.s ?_
  simp -implicitDefEqProofs [go_sem]
  have ha := x.after.toNat_lt
  have hg := x.again.toNat_lt
  have w1 : IntKind.i64.wrap (x.after.toNat : Int) = (x.after.toNat : Int) := IntWalk.i64_in _ ⟨by omega, by omega⟩
  have w2 : IntKind.i64.wrap (x.again.toNat : Int) = (x.again.toNat : Int) := IntWalk.i64_in _ ⟨by omega, by omega⟩
  refine SWp.seq (SWp.seq (Wp.s ?_))
  by_cases c1 : ops.length < x.after.toNat
  · have c1' : (ops.length : Int) < (x.after.toNat : Int) := by omega
    obtain ⟨s1, r1, r2⟩ := hp.run
    have hl := hp.len
    have ht := hp.tot
    simp -implicitDefEqProofs [go_sem, w1, c1, c1']
    refine Wp.s ?_
    simp -implicitDefEqProofs [go_sem]
    refine CC.mono (sRun_cc _ _ ⟨s, []⟩ ops (by show s.length ≤ _; omega) (by show [].length + _ ≤ _; simp; omega) (by omega)) ?_
    rintro _ _ _ ⟨rfl, rfl, rfl⟩
    rw [r1]
    simp -implicitDefEqProofs [go_sem, runV]
    exact fin r2 (by simp) (by simp)
  have c1' : ¬ (ops.length : Int) < (x.after.toNat : Int) := by omega
  have hl := hp.len
  have ht := hp.tot
  have hitr := hp.itr x.after.toNat (by omega)
  simp -implicitDefEqProofs [go_sem, w1, c1, c1']
  refine Wp.s ?_
  simp -implicitDefEqProofs [go_sem]
  refine SWp.seq (Wp.s ?_)
  simp -implicitDefEqProofs [go_sem, w1]
  refine CC.mono (sInterrupt_cc _ _ ⟨s, []⟩ ops x.after.toNat .sh x.ch (by show s.length ≤ _; omega) (by show [].length + _ ≤ _; simp; omega) (by omega) (by omega) hso) ?_
  rintro _ _ V9 ⟨d2, l2, e2, ⟨hI, hl2⟩, rfl, rfl, eV⟩
  obtain rfl := eV.symm
  obtain ⟨rfl, s', l, rfl, hcs⟩ := hitr d2 e2 hI
  obtain ⟨jj, rr, ll, hsi, hkn, hold⟩ : ∃ jj rr ll, SI size (N + 1) s' jj rr ll ∧ (sameB rr (rs2.map Rcd.pay) = true → rs2.map Rcd.pay = rr.map Rcd.pay) ∧ (sameB rr (rs2.map Rcd.pay) = false → rr = rs ∧ x.after.toNat < ops.length) := by
    rcases hcs with ⟨a, b⟩ | b
    · exact ⟨j, rs, l, b, fun q => (sameB_eq q).symm, fun _ => ⟨rfl, a⟩⟩
    · exact ⟨j', rs2, [], b, fun _ => rfl, fun q => by rw [sameB_self b.kd] at q; cases q⟩
  obtain ⟨ws, o1, o2, o3, o4, o5, o6⟩ := hsi.open
  have hss := hsi.small
  simp -implicitDefEqProofs [go_sem]
  refine SWp.seq (Wp.s ?_)
  simp -implicitDefEqProofs [go_sem]
  refine CC.mono (Open_cc _ _ 3 (rgN size) ⟨s', []⟩ ⟨by show s'.length ≤ _; omega, by simp⟩ (loadS_len _ _)) ?_
  rintro _ _ _ ⟨rfl, rfl, rfl⟩
  rw [o1]
  simp -implicitDefEqProofs [go_sem, opV]
  refine SWp.seq (Wp.s ?_)
  simp -implicitDefEqProofs [go_sem, w1]
  refine SWp.join (α := Unit) (fun _ => ([(3, .ptr H.length 0), (4, .ptr (H.length + 1) 0), (5, .ptr (H.length + 2) 0), (6, .ptr (H.length + 3) 0), (11, .ptr (H.length + 5) 0), (13, opsV (clnO ws))], H ++ [some (stjC ⟨⟨s', []⟩, j, rr.map Rcd.pay, true⟩), some [iv 3, iv (rgN size)], some (evC x), some [.v (.slice none 0 0), .v (.slice none 0 0), iv 0, iv 0, iv 0, iv 0, iv 0, .v (.slice none 0 0), .v (.slice none 0 0), cb false], some (jrC j'), some (jrC jj)], V)) (fun _ => True) ?_ ?_
  · refine SWp.block (SWp.seq (Wp.s ?_))
    simp -implicitDefEqProofs [go_sem]
    refine Wp.s ?_
    simp -implicitDefEqProofs [go_sem]
    refine CC.mono (same_cc _ _ rr (rs2.map Rcd.pay) (by omega)) ?_
    rintro _ _ _ ⟨rfl, rfl, rfl⟩
    cases hsb : sameB rr (rs2.map Rcd.pay) with
    | true =>
      simp -implicitDefEqProofs [go_sem]
      rw [← hkn hsb]
      exact Sh.forget (by simp [go_sem]) rfl rfl
    | false =>
      obtain ⟨rfl, hlt⟩ := hold hsb
      have hlt' : ¬ (x.after.toNat : Int) = (ops.length : Int) := by omega
      have hlt2 : ¬ x.after.toNat = ops.length := by omega
      simp -implicitDefEqProofs [go_sem, hlt', hlt2]
      refine CC.mono (same_cc _ _ rr (rr.map Rcd.pay) (by omega)) ?_
      rintro _ _ _ ⟨rfl, rfl, rfl⟩
      rw [sameB_self hsi.kd]
      simp -implicitDefEqProofs [go_sem]
      exact Sh.forget (by simp [go_sem]) rfl rfl
  rintro _ -
  dsimp only
  refine SWp.seq (Wp.s ?_)
  simp -implicitDefEqProofs [go_sem]
  refine SWp.join (α := List Sec × List Opn) (fun a => ([(3, .ptr H.length 0), (6, .ptr (H.length + 3) 0), (13, opsV (clnO a.2))], H ++ [some (stjC ⟨⟨a.1, []⟩, jj, rr.map Rcd.pay, true⟩), some [iv 3, iv (rgN size)], some (evC x), some [.v (.slice none 0 0), .v (.slice none 0 0), iv 0, iv 0, iv 0, iv 0, iv 0, .v (.slice none 0 0), .v (.slice none 0 0), cb false], some (jrC j'), some (jrC jj)], V))
    (fun a => SI size (N + 1) a.1 jj rr ll ∧ WsOk a.1.length a.2 ∧ SI size (N + 1) (execS a.1 a.2) jj rr [] ∧ a.2.length ≤ 60) ?_ ?_
  · refine SWp.seq (Wp.s ?_)
    have hcl := cln_len ws
    have hct := cln_tot o2
    have hmul : (ws.length + 1) * s'.length ≤ 61 * 70 := Nat.mul_le_mul (by omega) (by omega)
    by_cases c2 : x.again.toNat < (clnO ws).length
    case neg =>
      have c2' : ¬ (x.again.toNat : Int) < ((clnO ws).length : Int) := by omega
      simp -implicitDefEqProofs [go_sem, w2, c2, c2']
      refine Wp.s ?_
      simp -implicitDefEqProofs [go_sem]
      exact ⟨s', ws, ⟨hsi, o2, o4, o6⟩, Sh.forget (by simp [go_sem]) rfl rfl⟩
    have c2' : (x.again.toNat : Int) < ((clnO ws).length : Int) := by omega
    have hne : ws ≠ [] := fun e => by rw [e] at c2; exact absurd c2 (Nat.not_lt_zero _)
    have hcw : clnO ws = ws ++ [opS] := if_neg hne
    simp -implicitDefEqProofs [go_sem, w2, c2, c2']
    refine SWp.condT rfl ?_
    refine SWp.seq (Wp.s ?_)
    simp -implicitDefEqProofs [go_sem, w2]
    refine CC.mono (sInterrupt_cc _ _ ⟨s', []⟩ (clnO ws) x.again.toNat .sh x.ch (by show s'.length ≤ _; omega) (by show [].length + _ ≤ _; simp; omega) (by omega) (by omega) hso) ?_
    rintro _ _ V9 ⟨d3, l3, e3, ⟨hI3, hl3⟩, rfl, rfl, eV⟩
    obtain rfl := eV.symm
    rw [hcw] at hI3
    obtain ⟨rfl, s3, rfl, hm3, -⟩ := itr_w (by omega) o2 (by rw [hcw] at c2; simp at c2; omega) hI3
    have hsi3 := o3 s3 hm3
    obtain ⟨ws3, p1, p2, p3, p4, p5, p6⟩ := hsi3.open
    have hss3 := hsi3.small
    simp -implicitDefEqProofs [go_sem]
    refine SWp.seq (Wp.s ?_)
    simp -implicitDefEqProofs [go_sem]
    refine CC.mono (Open_cc _ _ 3 (rgN size) ⟨s3, []⟩ ⟨by show s3.length ≤ _; omega, by simp⟩ (loadS_len _ _)) ?_
    rintro _ _ _ ⟨rfl, rfl, rfl⟩
    rw [p1]
    simp -implicitDefEqProofs [go_sem, opV]
    refine Wp.s ?_
    simp -implicitDefEqProofs [go_sem]
    refine CC.mono (same_cc _ _ rr (rr.map Rcd.pay) (by omega)) ?_
    rintro _ _ _ ⟨rfl, rfl, rfl⟩
    rw [sameB_self hsi.kd]
    simp -implicitDefEqProofs [go_sem]
    refine CC.mono (Same_cc _ _ jj (by omega)) ?_
    rintro _ _ _ ⟨rfl, rfl, rfl⟩
    simp -implicitDefEqProofs [go_sem]
    exact ⟨s3, ws3, ⟨hsi3, p2, p4, p6⟩, Sh.forget (by simp [go_sem]) rfl rfl⟩
  rintro ⟨s4, ws4⟩ ⟨q1, q2, q3, q4⟩
  dsimp only at q1 q2 q3 q4 ⊢
  have hs4 := q1.small
  have hcl := cln_len ws4
  have hct := cln_tot q2
  have hmul : (ws4.length + 1) * s4.length ≤ 61 * 70 := Nat.mul_le_mul (by omega) (by omega)
  refine SWp.seq (Wp.s ?_)
  simp -implicitDefEqProofs [go_sem]
  refine CC.mono (sRun_cc _ _ ⟨s4, []⟩ (clnO ws4) (by show s4.length ≤ _; omega) (by show [].length + _ ≤ _; simp; omega) (by omega)) ?_
  rintro _ _ _ ⟨rfl, rfl, rfl⟩
  rw [cln_run (by omega) q2]
  simp -implicitDefEqProofs [go_sem, runV]
  refine SWp.seq (Wp.s ?_)
  simp -implicitDefEqProofs [go_sem]
  refine Wp.s ?_
  simp -implicitDefEqProofs [go_sem]
  exact fin q3 (by simp) (by simp)
end Go.Proofs.YtmgoflhjblombaaGreatDoor
namespace Go.Proofs.YtmgoflhjblombaaGreatDoor
open Go.Proofs Go.Shelf Go.Sort
def sortRen : Go.Shelf.Ren := ⟨fun | 5 => 123 | 8 => 131 | 7 => 130 | 19 => 144 | 20 => 145 | 10 => 135 | 11 => 136 | 12 => 137 | 13 => 138 | 14 => 139 | 15 => 140 | 16 => 141 | 17 => 142 | 18 => 143 | 30 => 148 | 31 => 149 | 32 => 150 | 33 => 151 | 34 => 152 | 35 => 153 | 40 => 155 | n => n, fun | 23 => 29 | 25 => 3 | 3 => 3 | 32 => 136 | 22 => 29 | 0 => 0 | 44 => 95 | 46 => 234 | 4 => 4 | 36 => 225 | 35 => 224 | 41 => 230 | 5 => 5 | 9 => 9 | 53 => 235 | 57 => 239 | 63 => 241 | 64 => 242 | n => n, fun | n => n⟩
theorem sortLay : SlLaysM.n5 Tryz.prog sortRen := {
  mixed := by kernel_rfl
  f5 := ⟨Tryz.f123.name, by decide, Tryz.func123.trans (congrArg some (by kernel_rfl))⟩
  f7 := ⟨Tryz.f130.name, by decide, Tryz.func130.trans (congrArg some (by kernel_rfl))⟩
  f8 := Tryz.func131.trans (congrArg some (by kernel_rfl))
  f10 := ⟨Tryz.f135.name, by decide, Tryz.func135.trans (congrArg some (by kernel_rfl))⟩
  f11 := ⟨Tryz.f136.name, by decide, Tryz.func136.trans (congrArg some (by kernel_rfl))⟩
  f12 := ⟨Tryz.f137.name, by decide, Tryz.func137.trans (congrArg some (by kernel_rfl))⟩
  f13 := ⟨Tryz.f138.name, by decide, Tryz.func138.trans (congrArg some (by kernel_rfl))⟩
  f14 := ⟨Tryz.f139.name, by decide, Tryz.func139.trans (congrArg some (by kernel_rfl))⟩
  f15 := ⟨Tryz.f140.name, by decide, Tryz.func140.trans (congrArg some (by kernel_rfl))⟩
  f16 := ⟨Tryz.f141.name, by decide, Tryz.func141.trans (congrArg some (by kernel_rfl))⟩
  f17 := ⟨Tryz.f142.name, by decide, Tryz.func142.trans (congrArg some (by kernel_rfl))⟩
  f18 := ⟨Tryz.f143.name, by decide, Tryz.func143.trans (congrArg some (by kernel_rfl))⟩
  f19 := Tryz.func144.trans (congrArg some (by kernel_rfl))
  f20 := Tryz.func145.trans (congrArg some (by kernel_rfl))
  f30 := ⟨Tryz.f148.name, by decide, Tryz.func148.trans (congrArg some (by kernel_rfl))⟩
  f31 := Tryz.func149.trans (congrArg some (by kernel_rfl))
  f32 := Tryz.func150.trans (congrArg some (by kernel_rfl))
  f33 := ⟨Tryz.f151.name, by decide, Tryz.func151.trans (congrArg some (by kernel_rfl))⟩
  f34 := ⟨Tryz.f152.name, by decide, Tryz.func152.trans (congrArg some (by kernel_rfl))⟩
  f35 := ⟨Tryz.f153.name, by decide, Tryz.func153.trans (congrArg some (by kernel_rfl))⟩
  f40 := ⟨Tryz.f155.name, by decide, Tryz.func155.trans (congrArg some (by kernel_rfl))⟩
  t0 := Tryz.underlying0
  a0 := Tryz.isAgg0
  z0 := Tryz.sizeOf0
  v0 := Tryz.zeroValue0
  t3 := Tryz.underlying3
  a3 := Tryz.isAgg3
  z3 := Tryz.sizeOf3
  v3 := Tryz.zeroValue3
  t4 := Tryz.underlying4
  a4 := Tryz.isAgg4
  z4 := Tryz.sizeOf4
  v4 := Tryz.zeroValue4
  t5 := Tryz.underlying5
  a5 := Tryz.isAgg5
  z5 := Tryz.sizeOf5
  v5 := Tryz.zeroValue5
  t9 := Tryz.underlying9
  a9 := Tryz.isAgg9
  z9 := Tryz.sizeOf9
  v9 := Tryz.zeroValue9
  t22 := Tryz.underlying29
  a22 := Tryz.isAgg29
  z22 := Tryz.sizeOf29
  v22 := Tryz.zeroValue29
  t23 := Tryz.underlying29
  a23 := Tryz.isAgg29
  z23 := Tryz.sizeOf29
  v23 := Tryz.zeroValue29
  t25 := Tryz.underlying3
  a25 := Tryz.isAgg3
  z25 := Tryz.sizeOf3
  v25 := Tryz.zeroValue3
  t32 := Tryz.underlying136
  a32 := Tryz.isAgg136
  z32 := Tryz.sizeOf136
  v32 := Tryz.zeroValue136
  t35 := Tryz.underlying224
  a35 := Tryz.isAgg224
  z35 := Tryz.sizeOf224
  v35 := Tryz.zeroValue224
  t36 := Tryz.underlying225
  a36 := Tryz.isAgg225
  z36 := Tryz.sizeOf225
  v36 := Tryz.zeroValue225
  t41 := Tryz.underlying230
  a41 := Tryz.isAgg230
  z41 := Tryz.sizeOf230
  v41 := Tryz.zeroValue230
  t44 := Tryz.underlying95
  a44 := Tryz.isAgg95
  z44 := Tryz.sizeOf95
  v44 := Tryz.zeroValue95
  t46 := Tryz.underlying234
  a46 := Tryz.isAgg234
  z46 := Tryz.sizeOf234
  v46 := Tryz.zeroValue234
  t53 := Tryz.underlying235
  a53 := Tryz.isAgg235
  z53 := Tryz.sizeOf235
  v53 := Tryz.zeroValue235
  t57 := Tryz.underlying239
  a57 := Tryz.isAgg239
  z57 := Tryz.sizeOf239
  v57 := Tryz.zeroValue239
  t63 := Tryz.underlying241
  a63 := Tryz.isAgg241
  z63 := Tryz.sizeOf241
  v63 := Tryz.zeroValue241
  t64 := Tryz.underlying242
  a64 := Tryz.isAgg242
  z64 := Tryz.sizeOf242
  v64 := Tryz.zeroValue242 }

/-- More objects behind, and all else as it was. -/
theorem Inv.more {m : Gh} {w w' : World} {H : List (Option (List CV))} {V : List Nat} (hi : Inv m w H V) (h1 : w'.os = w.os) (h2 : w'.tape = w.tape) (h3 : w'.output = w.output) (h4 : w.heap.size ≤ w'.heap.size) (h5 : ∀ j, j < w.heap.size → w'.heap[j]? = w.heap[j]?) :
    Inv m w' H V ∧ Ext m w V m w' V := by
  have hlt : ∀ {k : Nat} {x : Obj}, w.heap[k]? = some x → w'.heap[k]? = some x := fun h => by
    rw [h5 _ (Array.getElem?_eq_some_iff.1 h).1]; exact h
  have hx : Ext m w V m w' V := by
    refine ⟨h1, h2, h3, h4, fun k c e fr h => ⟨c, hlt h, rfl⟩, fun _ => Nat.le_refl _, fun k o ho => ?_, fun k ds h => hlt h, fun k hk _ _ => h5 k hk, fun _ _ h => h, fun b _ h => .inl ⟨b, h⟩, fun _ _ h => .inl h, fun _ v h => ⟨v, h, Nat.le_refl _, fun _ => ⟨rfl, fun _ _ => rfl⟩⟩⟩
    rcases Nat.lt_or_ge k w.heap.size with h | h
    · exact World.cell?_of_block (w := w) (a := ⟨k, o, none⟩) (h5 k h)
    · rw [hi.lim_new h] at ho; omega
  refine ⟨⟨hi.boxlen, hi.tiplen, fun k hk => ?_, fun t k h => ?_, fun b k h => Nat.lt_of_lt_of_le (hi.boxes b k h) h4, hi.uniq, fun b cs h => (hi.live b cs h).mono hx fun k hk => ⟨h5 k (hi.boxes b k hk), rfl⟩⟩, hx⟩
  · obtain ⟨c, e, fr, q1, q2⟩ := hi.limv k hk
    exact ⟨c, e, fr, hlt q1, q2⟩
  · obtain ⟨⟨c, e, q1⟩, q2, q3⟩ := hi.tips t k h
    exact ⟨⟨c, e, hlt q1⟩, q2, q3⟩
theorem relL_cis (m : Gh) (w : World) (V : List Nat) : ∀ ys : List Int, RelL m w V (ys.map ci) (ys.map (Value.int .i64))
  | [] => by rw [List.map_nil, RelL]; rfl
  | y :: ys => by rw [List.map_cons, RelL]; exact ⟨_, _, rfl, by rw [RelV], relL_cis m w V ys⟩
theorem step_sorted {m : Gh} {w : World} {H : List (Option (List CV))} {V : List Nat} {b k : Nat} {xs ys : List Int} {c : Array Value} {e : TypeId} (hi : Inv m w H V) (hb : H[b]? = some (some (xs.map ci))) (hk : m.box[b]? = some k)
    (hc : w.heap[k]? = some (.cells c e (0, 0))) (hl : ys.length = xs.length) (n : Nat) (os : Array Obj) :
    let w' := grow (putRow (Value.int .i64) (Sort.ahead w n) k 0 ys.toArray) os
    Inv m w' (H.set b (some (ys.map ci))) V ∧ Ext m w V m w' V := by
  intro w'
  have hkl := (Array.getElem?_eq_some_iff.1 hc).1
  have hcl : xs.length ≤ c.size := by
    obtain ⟨c', e', g1, g2, _⟩ := hi.alive hb hk ⟨c, e, _, hc⟩
    rw [hc] at g1; cases g1
    simpa using g2
  obtain ⟨s1, s2⟩ := step_store (o := 0) (us := ys.map (Value.int .i64)) (ds := ys.map ci) hi hb hk hc (relL_cis _ _ _ _) (fun u hu => by obtain ⟨z, _, rfl⟩ := List.mem_map.1 hu; rfl) (by simp; omega)
  have hnew := setRow_heap w k c ((c.toList.take 0 ++ ys.map (Value.int .i64) ++ c.toList.drop (0 + (ys.map (Value.int .i64)).length)).toArray) e (0, 0) hc
  have hoth := fun j hj => setRow_other w k j ((c.toList.take 0 ++ ys.map (Value.int .i64) ++ c.toList.drop (0 + (ys.map (Value.int .i64)).length)).toArray) hj
  have he : H.set b (some ((xs.map ci).take 0 ++ ys.map ci ++ (xs.map ci).drop (0 + (ys.map ci).length))) = H.set b (some (ys.map ci)) := by
    congr 2
    rw [List.drop_of_length_le (by simp; omega)]; simp
  rw [he] at s1
  obtain ⟨t1, t2⟩ := s1.more (w' := w') rfl rfl rfl (by simp [w', grow, World.setRow, putRow, mapBlock, Sort.ahead]) (fun j hj => by
    have hj' : j < w.heap.size := by simpa [World.setRow] using hj
    have hg : w'.heap[j]? = (putRow (Value.int .i64) (Sort.ahead w n) k 0 ys.toArray).heap[j]? := by
      show (_ ++ os)[j]? = _
      rw [Array.getElem?_append_left (by simpa [Sort.ahead] using hj')]
    rw [hg]
    show ((w.heap.modify k _)[j]?) = _
    rw [Array.getElem?_modify]
    by_cases hjk : k = j
    · subst hjk
      rw [if_pos rfl, hc, hnew]
      simp only [Option.map_some, onCells]
      congr 2
      apply Array.ext
      · simp [putCells]; omega
      · intro i h1 h2
        simp only [putCells, Array.getElem_mapIdx, Nat.zero_le, true_and, Nat.zero_add, List.size_toArray, List.getElem_toArray, List.take_zero, List.nil_append, List.length_map, Nat.sub_zero]
        by_cases hi2 : i < ys.length
        · rw [if_pos hi2, List.getElem_append_left (by simpa using hi2), List.getElem_map, getElem!_pos _ i (by simpa using hi2)]
          simp
        · rw [if_neg hi2, List.getElem_append_right (by simp; omega), List.getElem_drop]
          simp only [List.length_map, Array.getElem_toList]
          congr 1; omega
    · rw [if_neg hjk, hoth j (Ne.symm hjk)])
  exact ⟨t1, s2.trans t2⟩
theorem sortOK : SortOK where
  box H V b xs hb hx := by
    refine ⟨⟨Tryz.f123, Tryz.func123, rfl, by kernel_rfl⟩, fun m w us hi hu => ?_⟩
    rw [RelL] at hu
    obtain ⟨u, r, rfl, h1, h2⟩ := hu
    rw [RelL] at h2; subst h2
    rw [RelV] at h1
    obtain ⟨k, cap, c, e, rfl, g1, g2, hk, hc, g3⟩ := h1
    obtain ⟨c', e', q1, q2, q3, q4⟩ := hi.alive hb hk ⟨c, e, _, hc⟩
    rw [hc] at q1; cases q1
    have hH : Holds (Value.int .i64) w k 0 xs.toArray := by
      intro j hj
      have hj' : j < xs.length := by simpa using hj
      obtain ⟨v, a1, a2, _⟩ := relC_get q4 j (ci xs[j]) (by rw [List.getElem?_map, List.getElem?_eq_getElem hj']; rfl)
      rw [RelV] at a2; subst a2
      refine ⟨by rw [a1, getElem!_pos _ j (by simpa using hj')]; simp, ?_⟩
      simp [World.frozen?, hc]
    refine (AnyM.slices_Sort_int sortLay k 0 cap xs w hH (Array.getElem?_eq_some_iff.1 hc).1 (by omega)).mono ?_
    rintro _ _ ⟨rfl, n, os, rfl⟩
    obtain ⟨s1, s2⟩ := step_sorted (ys := xs.mergeSort fun x y => decide (x ≤ y)) hi hb hk hc (by simp) n os
    exact ⟨_, m, .any, _, _, rfl, ⟨_, fun y hy => by simpa using hy, by simp, rfl, rfl⟩, s1, by rw [RelV]; trivial, s2⟩
  none H V := by
    refine ⟨⟨Tryz.f123, Tryz.func123, rfl, by kernel_rfl⟩, fun m w us hi hu => ?_⟩
    rw [RelL] at hu
    obtain ⟨u, r, rfl, h1, h2⟩ := hu
    rw [RelL] at h2; subst h2
    rw [RelV] at h1
    obtain ⟨base, cap, rfl, g1, g2, g3, g4⟩ := h1
    refine (AnyM.slices_Sort_int_none sortLay base cap w).mono ?_
    rintro _ _ ⟨rfl, rfl⟩
    exact ⟨_, m, .any, _, _, rfl, ⟨rfl, rfl⟩, hi, by rw [RelV]; trivial, Ext.refl _ _ _⟩
end Go.Proofs.YtmgoflhjblombaaGreatDoor
namespace Go.Proofs.YtmgoflhjblombaaGreatDoor
open Go.Proofs
abbrev zst10 : List CV := [.v (.slice none 0 0), .v (.slice none 0 0), iv 0, iv 0, iv 0, iv 0, iv 0, .v (.slice none 0 0), .v (.slice none 0 0), cb false]
set_option maxRecDepth 8000 in
theorem run_cc (H : Hp) (V : List Nat) (size : UInt8) (l : List Evt) (hl : l.length ≤ 24) (hs : ∀ x ∈ l, x.pay.length ≤ 60 ∧ x.ch.length ≤ 60) : CC Tryz.prog 16 [.v (.int .u8 (size.toNat : Int)), .sl .sh 5 (l.map evC)] H V (StR size l.length H V) := by
  refine CC.of_swp Tryz.func16 rfl (by kernel_rfl) (by rw [Tryz.ntmps16]; exact len_le _ _ rfl) fun hok hokH => ?_
  clear hok
  have h0 := SI.begin size
  refine SWp.seq (Wp.s ?_)
  simp -implicitDefEqProofs [go_sem, args0]
  refine SWp.seq (Wp.s ?_)
  simp -implicitDefEqProofs [go_sem]
  refine CC.mono (beginJ_cc _ _ size) ?_
  rintro _ _ _ ⟨rfl, rfl, rfl⟩
  generalize newS (rgN size + 7).toNat 3 = s0 at h0 ⊢
  generalize newJ 3 (rgN size) = j0 at h0 ⊢
  simp -implicitDefEqProofs [go_sem]
  refine SWp.seq (Wp.s ?_)
  simp -implicitDefEqProofs [go_sem, dkC, jrC]
  refine SWp.join (α := List Sec × Jrn × List Rcd) (fun a => ([(4, .ptr H.length 0), (8, .ptr (H.length + 3) 0)], H ++ [some zst10, some (dkC ⟨s0, []⟩), some (jrC j0), some (stjC (stj a.1 a.2.1 a.2.2))], V)) (fun a => SI size l.length a.1 a.2.1 a.2.2 []) ?_ ?_
  · refine SWp.seq (Wp.s ?_)
    simp -implicitDefEqProofs [go_sem]
    refine SWp.block ?_
    refine SWp.loop (α := Nat × List Sec × Jrn × List Rcd) (fun a => ([(0, .v (.int .u8 (size.toNat : Int))), (1, .sl .sh 5 (l.map evC)), (4, .ptr H.length 0), (8, .ptr (H.length + 3) 0), (9, ci a.1)], H ++ [some zst10, some (dkC ⟨s0, []⟩), some (jrC j0), some (stjC (stj a.2.1 a.2.2.1 a.2.2.2))], V))
      (fun a => a.1 ≤ l.length ∧ SI size a.1 a.2.1 a.2.2.1 a.2.2.2 []) (fun a => l.length - a.1) (0, s0, j0, []) ⟨Nat.zero_le _, h0⟩ ?_ ?_
    · refine Sh.weak (b := H.length + 3) (ds := stjC (stj s0 j0 [])) (hget _ _ 3) ?_ ?_ (Sh.forget (by simp [go_sem]) (by simp [go_sem]; exact ⟨rfl, rfl⟩) rfl)
      · exact .cons (.refl _) (.cons (.refl _) (.cons (.refl _) (.cons (.refl _) (.cons (.refl _) (.cons (.refl _) (.cons (.refl _) (.cons (.refl _) (.cons (.nil 1 (by decide)) (.cons (.refl _) .nil)))))))))
      · simp [CV.isObj, secsV, cachV]
    rintro ⟨i, s, j, rs⟩ ⟨hi, hsi⟩
    dsimp only at hi hsi ⊢
    refine SWp.seq (SWp.seq (Wp.s ?_))
    by_cases h : i < l.length
    case neg =>
      obtain rfl : i = l.length := by omega
      simp -implicitDefEqProofs [go_sem]
      refine Wp.s ?_
      simp -implicitDefEqProofs [go_sem]
      exact ⟨s, j, rs, hsi, Sh.forget (by simp [go_sem]) rfl rfl⟩
    simp -implicitDefEqProofs [go_sem, h]
    refine Wp.s ?_
    simp -implicitDefEqProofs [go_sem]
    have hx := hs _ (List.getElem_mem h)
    refine SWp.seq (SWp.block (SWp.drawnT [] [8] (.s 0 .pl <| .s 1 .pl <| .s 3 .pl <| .s 4 .pl <| .s 5 .pl <| .s 6 .pl <| .s 2 .pl <| .s 7 .pl <| .s 8 .st <| .n) (by kernel_rfl) (by kernel_rfl) ?_))
    simp -implicitDefEqProofs [go_sem, h]
    refine CC.mono (region_cc _ _ size) ?_
    rintro _ _ _ ⟨rfl, rfl, rfl⟩
    simp -implicitDefEqProofs [go_sem, h]
    refine CC.mono (step_cc _ _ size i (by omega) s j rs hsi l[i] hx.1 hx.2 sortOK) ?_
    rintro _ _ V9 ⟨s', j', rs', hsi', rfl, rfl, eV⟩
    obtain rfl := eV.symm
    simp -implicitDefEqProofs [go_sem]
    refine Wp.s ?_
    simp -implicitDefEqProofs [go_sem]
    refine ⟨i + 1, s', j', rs', ⟨by omega, hsi'⟩, by omega, Sh.forget ?_ rfl rfl⟩
    simp [go_sem, wrap_succ (show i ≤ 1000000000 by omega)]
  rintro ⟨s, j, rs⟩ hsi
  dsimp only at hsi ⊢
  refine SWp.seq (Wp.s ?_)
  simp -implicitDefEqProofs [go_sem]
  refine Wp.s ?_
  simp -implicitDefEqProofs [go_sem]
  exact Fin.pure (r' := .agg (stjC (stj s j rs))) ⟨_, _, _, hsi, rfl, rfl, rfl⟩ (by simp) (by simp) (.refl _) (by rw [okV, okL_stjC]; trivial) hokH
set_option maxRecDepth 8000 in
theorem JRecovers_law (H : Hp) (V : List Nat) (size : UInt8) (l : List Evt) (hl : l.length ≤ 9223372036854775807) : CC Tryz.prog 4 [.v (.int .u8 (size.toNat : Int)), .sl .sh 5 (l.map evC)] H V (Pu (cb true) H V) := by
  refine CC.of_swp Tryz.func4 rfl (by kernel_rfl) (by rw [Tryz.ntmps4]; exact len_le _ _ rfl) fun hok hokH => ?_
  clear hok
  refine SWp.seq (Wp.s ?_)
  simp -implicitDefEqProofs [go_sem, args0]
  refine SWp.seq (SWp.seq (Wp.s ?_))
  simp -implicitDefEqProofs [go_sem]
  refine CC.mono (small_cc _ _ l hl) ?_
  rintro _ _ _ ⟨rfl, rfl, rfl⟩
  cases hsb : smallB l with
  | false =>
    simp -implicitDefEqProofs [go_sem]
    refine Wp.s ?_
    simp -implicitDefEqProofs [go_sem]
    refine CC.mono (awake_cc _ _) ?_
    rintro _ _ _ ⟨rfl, rfl, rfl⟩
    simp -implicitDefEqProofs [go_sem]
    exact Fin.bool rfl hokH (by simp) (by simp)
  | true =>
  obtain ⟨hs1, hs2⟩ := small_ok hsb
  simp -implicitDefEqProofs [go_sem]
  refine Wp.s ?_
  simp -implicitDefEqProofs [go_sem]
  refine SWp.seq (Wp.s ?_)
  simp -implicitDefEqProofs [go_sem]
  refine CC.mono (awake_cc _ _) ?_
  rintro _ _ _ ⟨rfl, rfl, rfl⟩
  simp -implicitDefEqProofs [go_sem]
  refine CC.mono (run_cc _ _ size l hs1 hs2) ?_
  rintro _ _ V9 ⟨s', j', rs', hsi, rfl, rfl, eV⟩
  obtain rfl := eV.symm
  simp -implicitDefEqProofs [go_sem]
  refine Wp.s ?_
  simp -implicitDefEqProofs [go_sem]
  exact Fin.bool rfl hokH (by simp) (by simp)
set_option maxRecDepth 8000 in
theorem JReturns_law (H : Hp) (V : List Nat) (size : UInt8) (l : List Evt) (hl : l.length ≤ 9223372036854775807) : CC Tryz.prog 7 [.v (.int .u8 (size.toNat : Int)), .sl .sh 5 (l.map evC)] H V (Pu (cb true) H V) := by
  refine CC.of_swp Tryz.func7 rfl (by kernel_rfl) (by rw [Tryz.ntmps7]; exact len_le _ _ rfl) fun hok hokH => ?_
  clear hok
  refine SWp.seq (Wp.s ?_)
  simp -implicitDefEqProofs [go_sem, args0]
  refine SWp.seq (SWp.seq (Wp.s ?_))
  simp -implicitDefEqProofs [go_sem]
  refine CC.mono (small_cc _ _ l hl) ?_
  rintro _ _ _ ⟨rfl, rfl, rfl⟩
  cases hsb : smallB l with
  | false =>
    simp -implicitDefEqProofs [go_sem]
    refine Wp.s ?_
    simp -implicitDefEqProofs [go_sem]
    refine CC.mono (awake_cc _ _) ?_
    rintro _ _ _ ⟨rfl, rfl, rfl⟩
    simp -implicitDefEqProofs [go_sem]
    exact Fin.bool rfl hokH (by simp) (by simp)
  | true =>
  obtain ⟨hs1, hs2⟩ := small_ok hsb
  simp -implicitDefEqProofs [go_sem]
  refine Wp.s ?_
  simp -implicitDefEqProofs [go_sem]
  refine SWp.seq (Wp.s ?_)
  simp -implicitDefEqProofs [go_sem]
  refine CC.mono (run_cc _ _ size l hs1 hs2) ?_
  rintro _ _ V9 ⟨s', j', rs', hsi, rfl, rfl, eV⟩
  obtain rfl := eV.symm
  simp -implicitDefEqProofs [go_sem]
  have hsm := hsi.small
  obtain ⟨ws, o1, o2, o3, o4, o5, o6⟩ := hsi.open
  obtain rfl := o5 rfl
  refine SWp.seq (SWp.drawnT [] [11] (.s 0 .pl <| .s 1 .pl <| .s 2 .pl <| .c 3 <| .c 4 <| .s 5 .pl <| .s 6 .pl <| .s 7 .pl <| .s 8 .pl <| .s 9 .pl <| .s 10 .pl <| .s 11 .st <| .s 12 .pl <| .s 13 .pl <| .s 14 .pl <| .n) (by kernel_rfl) (by kernel_rfl) ?_)
  simp -implicitDefEqProofs [go_sem]
  refine ⟨_, fun H V => region_cc H V size, ?_⟩
  simp -implicitDefEqProofs [go_sem]
  refine ⟨_, fun H V => Open_cc H V 3 (rgN size) ⟨s', []⟩ ⟨by show s'.length ≤ _; omega, by simp⟩ (loadS_len _ _), ?_⟩
  rw [o1, show clnO [] = [] from rfl]
  simp -implicitDefEqProofs [go_sem, opV]
  refine SWp.seq (Wp.s ?_)
  simp -implicitDefEqProofs [go_sem]
  refine CC.mono (awake_cc _ _) ?_
  rintro _ _ _ ⟨rfl, rfl, rfl⟩
  simp -implicitDefEqProofs [go_sem]
  refine CC.mono (Same_cc _ _ j' (by omega)) ?_
  rintro _ _ _ ⟨rfl, rfl, rfl⟩
  simp -implicitDefEqProofs [go_sem]
  refine CC.mono (same_cc _ _ rs' (rs'.map Rcd.pay) (by omega)) ?_
  rintro _ _ _ ⟨rfl, rfl, rfl⟩
  rw [sameB_self hsi.kd]
  simp -implicitDefEqProofs [go_sem]
  refine CC.mono (JCheck_cc _ _ j' (by omega)) ?_
  rintro _ _ _ ⟨rfl, rfl, rfl⟩
  have hck : ckE j' = 0 := by rw [ckE, if_pos hsi.rj.jd.chk]
  simp -implicitDefEqProofs [go_sem, hck]
  refine Wp.s ?_
  simp -implicitDefEqProofs [go_sem]
  exact Fin.bool rfl hokH (by simp) (by simp)
end Go.Proofs.YtmgoflhjblombaaGreatDoor
namespace Go.Proofs.YtmgoflhjblombaaGreatDoor
open Go.Proofs
set_option maxRecDepth 8000 in
theorem JKeeps_law (H : Hp) (V : List Nat) (size : UInt8) (l : List Evt) (hl : l.length ≤ 9223372036854775807) : CC Tryz.prog 6 [.v (.int .u8 (size.toNat : Int)), .sl .sh 5 (l.map evC)] H V (Pu (cb true) H V) := by
  refine CC.of_swp Tryz.func6 rfl (by kernel_rfl) (by rw [Tryz.ntmps6]; exact len_le _ _ rfl) fun hok hokH => ?_
  clear hok
  refine SWp.seq (Wp.s ?_)
  simp -implicitDefEqProofs [go_sem, args0]
  refine SWp.seq (SWp.seq (Wp.s ?_))
  simp -implicitDefEqProofs [go_sem]
  refine CC.mono (small_cc _ _ l hl) ?_
  rintro _ _ _ ⟨rfl, rfl, rfl⟩
  cases hsb : smallB l with
  | false =>
    simp -implicitDefEqProofs [go_sem]
    refine Wp.s ?_
    simp -implicitDefEqProofs [go_sem]
    refine CC.mono (awake_cc _ _) ?_
    rintro _ _ _ ⟨rfl, rfl, rfl⟩
    simp -implicitDefEqProofs [go_sem]
    exact Fin.bool rfl hokH (by simp) (by simp)
  | true =>
  obtain ⟨hs1, hs2⟩ := small_ok hsb
  simp -implicitDefEqProofs [go_sem]
  refine Wp.s ?_
  simp -implicitDefEqProofs [go_sem]
  refine SWp.seq (Wp.s ?_)
  simp -implicitDefEqProofs [go_sem]
  refine CC.mono (run_cc _ _ size l hs1 hs2) ?_
  rintro _ H9 V9 ⟨s', j', rs', hsi, rfl, eH, eV⟩
  obtain rfl := eV.symm
  obtain rfl := eH.symm
  simp -implicitDefEqProofs [go_sem]
  have hsm := hsi.small
  have hrg := rgN_in size
  have hlen := hsi.len
  refine SWp.seq (Wp.s ?_)
  simp -implicitDefEqProofs [go_sem]
  refine CC.mono (region_cc _ _ size) ?_
  rintro _ _ _ ⟨rfl, rfl, rfl⟩
  simp -implicitDefEqProofs [go_sem]
  refine SWp.join (α := Unit) (fun _ => ([(5, .ptr H.length 0), (6, .ptr (H.length + 1) 0)], H ++ [some (stjC (stj s' j' rs')), some [iv 3, iv (rgN size)]], V)) (fun _ => True) ?_ ?_
  · refine SWp.seq (Wp.s ?_)
    simp -implicitDefEqProofs [go_sem]
    refine SWp.block ?_
    refine SWp.loop (α := Nat) (fun i => ([(5, .ptr H.length 0), (6, .ptr (H.length + 1) 0), (7, ci i)], H ++ [some (stjC (stj s' j' rs')), some [iv 3, iv (rgN size)]], V)) (fun i => i ≤ s'.length) (fun i => s'.length - i) 0 (Nat.zero_le _) (Sh.forget (by simp [go_sem]) rfl rfl) ?_
    intro i hi
    dsimp only
    refine SWp.seq (SWp.seq (Wp.s ?_))
    by_cases h : i < s'.length
    case neg =>
      simp -implicitDefEqProofs [go_sem, h, stjC]
      refine Wp.s ?_
      simp -implicitDefEqProofs [go_sem]
      exact Sh.forget (by simp [go_sem]) rfl rfl
    simp -implicitDefEqProofs [go_sem, h, stjC]
    refine Wp.s ?_
    simp -implicitDefEqProofs [go_sem]
    have w1 : IntKind.i64.wrap (3 + rgN size) = 3 + rgN size := IntWalk.i64_in _ ⟨by omega, by omega⟩
    refine SWp.seq (SWp.block (SWp.seq (Wp.s ?_)))
    by_cases c1 : (i : Int) < 3
    · have hz := hsi.out i s'[i] (List.getElem?_eq_getElem h) (.inl (by omega))
      simp -implicitDefEqProofs [go_sem, h, c1, stjC, hz]
      refine ⟨_, flat57, fits_sec sec0, fits_sec sec0, fun he => absurd rfl he, fun _ => ?_⟩
      refine Wp.s ?_
      simp -implicitDefEqProofs [go_sem]
      refine Wp.s ?_
      simp -implicitDefEqProofs [go_sem]
      refine ⟨i + 1, by omega, by omega, Sh.forget ?_ rfl rfl⟩
      simp [go_sem, wrap_succ (show i ≤ 1000000000 by omega)]
    by_cases c2 : 3 + rgN size ≤ (i : Int)
    · have hz := hsi.out i s'[i] (List.getElem?_eq_getElem h) (.inr c2)
      simp -implicitDefEqProofs [go_sem, h, c1, c2, w1, stjC, hz]
      refine ⟨_, flat57, fits_sec sec0, fits_sec sec0, fun he => absurd rfl he, fun _ => ?_⟩
      refine Wp.s ?_
      simp -implicitDefEqProofs [go_sem]
      refine Wp.s ?_
      simp -implicitDefEqProofs [go_sem]
      refine ⟨i + 1, by omega, by omega, Sh.forget ?_ rfl rfl⟩
      simp [go_sem, wrap_succ (show i ≤ 1000000000 by omega)]
    · simp -implicitDefEqProofs [go_sem, h, c1, c2, w1, stjC]
      refine Wp.s ?_
      simp -implicitDefEqProofs [go_sem]
      refine Wp.s ?_
      simp -implicitDefEqProofs [go_sem]
      refine ⟨i + 1, by omega, by omega, Sh.forget ?_ rfl rfl⟩
      simp [go_sem, wrap_succ (show i ≤ 1000000000 by omega)]
  rintro _ -
  dsimp only
  have w2 : IntKind.i64.wrap (rgN size + 7) = rgN size + 7 := IntWalk.i64_in _ ⟨by omega, by omega⟩
  refine SWp.seq (Wp.s ?_)
  simp -implicitDefEqProofs [go_sem]
  refine CC.mono (awake_cc _ _) ?_
  rintro _ _ _ ⟨rfl, rfl, rfl⟩
  simp -implicitDefEqProofs [go_sem, w2, stjC, hlen]
  refine Wp.s ?_
  simp -implicitDefEqProofs [go_sem]
  exact Fin.bool rfl hokH (by simp) (by simp)
end Go.Proofs.YtmgoflhjblombaaGreatDoor
namespace Go.Proofs.YtmgoflhjblombaaGreatDoor
open Go.RowKit

/-- The ghost state at the beginning of a call: all blocks are fixed; no boxes, no tokens. -/
def gh0 (w : World) : Gh where
  lim k := match w.heap[k]? with
    | some (.cells c _ _) => c.size
    | _ => 0
  box := []
  tip := []

theorem gh0_inv (w : World) : Inv (gh0 w) w [] [] where
  boxlen := rfl
  tiplen := rfl
  limv k h := by
    simp only [gh0] at h ⊢
    split at h
    · rename_i c e fr hc
      exact ⟨c, e, fr, hc, by simp⟩
    · omega
  tips := by intro t k h; simp [gh0] at h
  boxes := by intro b k h; simp [gh0] at h
  uniq := by intro b b' k cs cs' h; simp at h
  live := by intro b cs h; simp at h

theorem gh0_lim {w : World} {k o : Nat} {u : Value} (h : w.cell? ⟨k, o, none⟩ = some u) : o < (gh0 w).lim k := by
  simp only [World.cell?] at h
  simp only [gh0]
  split at h
  · rename_i c e fr hc
    simp only [hc]
    simp at h
    obtain ⟨h, _⟩ := Array.getElem?_eq_some_iff.1 h
    exact h
  · cases h

/-- What a law gives: true, and below nothing is changed. -/
theorem law_calls {P : Program} {f : FuncId} {args : Array Value} {W : World} {cs : List CV} {R : CV → Hp → List Nat → Prop} (hrel : RelL (gh0 W) W [] cs args.toList) (h : CC P f cs [] [] R)
    (hR : ∀ r H V, R r H V → r = .v (.bool true)) : Calls P f args W fun e W' => e = .returned (.bool true) ∧ Below W.heap.size W W' := by
  have := h.2 (gh0 W) W args.toList (gh0_inv W) hrel
  rw [Array.toArray_toList] at this
  refine this.mono ?_
  rintro e w' ⟨u, m', r, H', V', rfl, hr, _, hu, hx⟩
  obtain rfl := hR _ _ _ hr
  rw [RelV] at hu
  subst hu
  exact ⟨rfl, hx.os, hx.tape, hx.output, hx.size, fun k hk => hx.same k hk (by simp [gh0]) (by simp [gh0])⟩

/-- The cells of a value of type t that came in: S holds of their contents. -/
def Opens (P : Program) (t : TypeId) (S : List CV → Prop) : Prop :=
  ∀ (H : Type) (enc : TypeId × Value → H) (w : World) (base : Nat) (spare : Nat → Bool) (held : Bool) (fuel : Nat) (us : List Value) (x : DataW H × List MemPlace),
    DataW.trod enc P w base spare held fuel t us = some x → ∃ cs, S cs ∧ RelL (gh0 w) w [] cs us ∧ ∀ u ∈ us, u.oneCell' = true

theorem relL_one {m : Gh} {w : World} {V : List Nat} {c : CV} {u : Value} (h : RelV m w V c u) : RelL m w V [c] [u] := by
  rw [RelL]; exact ⟨u, [], rfl, h, by rw [RelL]⟩

theorem relL_one' {m : Gh} {w : World} {V : List Nat} {c : CV} {u : Value} (h : RelL m w V [c] [u]) : RelV m w V c u := by
  rw [RelL] at h; obtain ⟨_, _, h1, h2, _⟩ := h; cases h1; exact h2

theorem relL_nil {m : Gh} {w : World} {V : List Nat} : RelL m w V [] [] := by rw [RelL]
theorem relL_mk2 {m : Gh} {w : World} {V : List Nat} {c : CV} {u : Value} {cs : List CV} {us : List Value} (h : RelV m w V c u) (h2 : RelL m w V cs us) : RelL m w V (c :: cs) (u :: us) := by
  rw [RelL]; exact ⟨u, us, rfl, h, h2⟩
variable {P : Program} {t e : TypeId}
theorem Opens.int {k : IntKind} (ht : P.underlying t = some (.int k)) : Opens P t fun cs => ∃ n, cs = [.v (.int k n)] ∧ (Lit.int k n).wf = true := by
  intro H enc w base spare held fuel us x h
  obtain ⟨n, rfl, _, hw⟩ := DataW.trod_int ht h
  exact ⟨_, ⟨n, rfl, hw⟩, relL_one (by rw [RelV]), by simp [Value.oneCell']⟩

theorem Opens.bool (ht : P.underlying t = some .bool) : Opens P t fun cs => ∃ b, cs = [.v (.bool b)] := by
  intro H enc w base spare held fuel us x h
  obtain ⟨n, rfl, _⟩ := DataW.trod_bool ht h
  exact ⟨_, ⟨n, rfl⟩, relL_one (by rw [RelV]), by simp [Value.oneCell']⟩

theorem Opens.string (ht : P.underlying t = some .string) : Opens P t fun cs => ∃ s : ByteArray, cs = [.v (.string s)] ∧ s.size ≤ maxLen := by
  intro H enc w base spare held fuel us x h
  obtain ⟨n, rfl, _, hs⟩ := DataW.trod_string ht h
  exact ⟨_, ⟨n, rfl, hs⟩, relL_one (by rw [RelV]), by simp [Value.oneCell']⟩

theorem cells_get {w : World} {base : Nat} {a : Addr} {n : Nat} {us : List Value} (h : w.cells? base a n = some us) : us.length = n ∧ ∀ j, j < n → w.cell? (a.add j) = us[j]? := by
  unfold World.cells? at h
  split at h
  · exact ⟨by simpa using mapM_some_length h, fun j hj => mapM_some_get h j j (by simp [hj])⟩
  · cases h

theorem add_none {a : Addr} (ha : a.spot = none) (i : Nat) : a.add i = ⟨a.block, a.off + i, none⟩ := by
  cases a with
  | mk b o s =>
    simp only at ha
    subst ha
    unfold Addr.add
    split <;> simp_all

theorem Opens.slice {sz : Nat} {S : List CV → Prop} (ht : P.underlying t = some (.slice e)) (hs : P.cellsOf e = sz) (h0 : 0 < sz) (he : Opens P e S) :
    Opens P t fun cs => ∃ xs, cs = [.sl .sh sz xs] ∧ xs.length ≤ maxLen ∧ ∀ x ∈ xs, S x := by
  intro H enc w base spare held fuel us x h
  rcases DataW.trod_slice ht h with ⟨rfl, _⟩ | ⟨a, len, cap, elems, rest, n, _, rfl, rfl, hb, hl, hm, hlen, hel, hsp, hns⟩
  · refine ⟨_, ⟨[], rfl, by simp, by simp⟩, relL_one ?_, by simp [Value.oneCell']⟩
    rw [RelV]
    exact ⟨none, 0, rfl, by simp, trivial, h0, .inl rfl⟩
  · have key : ∀ i, i < len → ∃ (cs : List CV) (vs : List Value), S cs ∧ RelL (gh0 w) w [] cs vs ∧ (∀ u ∈ vs, u.oneCell' = true) ∧ vs.length = sz ∧ ∀ j, j < sz → w.cell? ((a.add (i * sz)).add j) = vs[j]? := by
      intro i hi
      have h1 := hel i hi
      rw [List.getElem?_eq_getElem (by omega)] at h1
      obtain ⟨vs, h2, h3⟩ := Option.bind_eq_some_iff.1 h1
      obtain ⟨cs, h4, h5, h6⟩ := he _ enc w base spare held n vs _ h3
      rw [hs] at h2
      obtain ⟨h7, h8⟩ := cells_get h2
      exact ⟨cs, vs, h4, h5, h6, h7, h8⟩
    by_cases hz : len = 0
    · subst hz
      refine ⟨_, ⟨[], rfl, by simp, by simp⟩, relL_one ?_, by simp [Value.oneCell']⟩
      rw [RelV]
      exact ⟨some a, cap, rfl, by simp, trivial, h0, .inl rfl⟩
    · have hsp : a.spot = none := by
        obtain ⟨cs, vs, _, _, _, h7, h8⟩ := key 0 (by omega)
        have h9 := h8 0 h0
        rw [List.getElem?_eq_getElem (by omega)] at h9
        have : (a.add (0 * sz)).add 0 = a := by simp [Addr.add]
        rw [this] at h9
        simp only [World.cell?] at h9
        split at h9
        · split at h9
          · cases h9
          · rename_i h; simpa using h
        · cases h9
      let g : Nat → List CV := fun i => if h : i < len then Classical.choose (key i h) else []
      have hg : ∀ i (h : i < len), ∃ (vs : List Value), S (g i) ∧ RelL (gh0 w) w [] (g i) vs ∧ (∀ u ∈ vs, u.oneCell' = true) ∧ vs.length = sz ∧ ∀ j, j < sz → w.cell? ((a.add (i * sz)).add j) = vs[j]? := by
        intro i h
        have := Classical.choose_spec (key i h)
        simp only [g, h, dif_pos]
        exact this
      have cell : ∀ i j, i < len → j < sz → ∃ u, w.cell? ⟨a.block, a.off + i * sz + j, none⟩ = some u := by
        intro i j hi hj
        obtain ⟨vs, _, _, _, h7, h8⟩ := hg i hi
        have h9 := h8 j hj
        rw [List.getElem?_eq_getElem (by omega), add_none hsp, add_none rfl] at h9
        exact ⟨_, h9⟩
      refine ⟨_, ⟨(List.range len).map g, rfl, by simp; omega, ?_⟩, relL_one ?_, by simp [Value.oneCell']⟩
      · intro x hx
        obtain ⟨i, hi, rfl⟩ := List.mem_map.1 hx
        obtain ⟨_, h4, _⟩ := hg i (by simpa using hi)
        exact h4
      · rw [RelV]
        refine ⟨some a, cap, by simp, by simp; omega, trivial, h0, .inr ⟨a.block, a.off, by cases a; simp_all, ?_, relE_mk fun j c hc => ?_⟩⟩
        · obtain ⟨u, hu⟩ := cell (len - 1) (sz - 1) (by omega) (by omega)
          have := gh0_lim hu
          simp only [List.length_map, List.length_range]
          have h1 : len * sz = (len - 1) * sz + sz := by
            rw [← Nat.succ_mul]; congr 1; omega
          omega
        · simp only [List.getElem?_map, Option.map_eq_some_iff] at hc
          obtain ⟨i, hi, rfl⟩ := hc
          obtain ⟨hi', hi⟩ := List.getElem?_eq_some_iff.1 hi
          simp at hi hi'
          subst hi
          obtain ⟨vs, h4, h5, h6, h7, h8⟩ := hg j hi'
          have hl := relL_length h5
          refine ⟨by omega, relC_mk fun q c hc => ?_⟩
          obtain ⟨u, hu, hv⟩ := relL_get h5 q c hc
          have hq : q < sz := by
            have := (List.getElem?_eq_some_iff.1 hc).1
            omega
          have h9 := h8 q hq
          rw [hu, add_none hsp, add_none rfl] at h9
          exact ⟨u, h9, hv, h6 u (List.mem_of_getElem? hu)⟩

/-- Fields, from cell o on, of a struct of N cells. -/
def OpensF (P : Program) (N : Nat) (fs : List Field) (o : Nat) (S : List CV → Prop) : Prop :=
  ∀ (H : Type) (enc : TypeId × Value → H) (w : World) (base : Nat) (spare : Nat → Bool) (held : Bool) (fuel : Nat) (us : List Value), us.length = N →
    (∀ f ∈ fs, ∃ x, DataW.trod enc P w base spare held fuel f.type ((us.drop f.offset).take (P.cellsOf f.type)) = some x) →
    ∃ cs, S cs ∧ RelL (gh0 w) w [] cs (us.drop o) ∧ ∀ u ∈ us.drop o, u.oneCell' = true

theorem OpensF.nil {N : Nat} : OpensF P N [] N fun cs => cs = [] := by
  intro H enc w base spare held fuel us hl h
  subst hl
  exact ⟨_, rfl, by rw [List.drop_length, RelL], by simp⟩

theorem OpensF.cons {N : Nat} {f : Field} {fs : List Field} {o n : Nat} {S S' : List CV → Prop} (ho : f.offset = o) (hn : P.cellsOf f.type = n) (h1 : Opens P f.type S) (h2 : OpensF P N fs (o + n) S') :
    OpensF P N (f :: fs) o fun cs => ∃ a b, cs = a ++ b ∧ S a ∧ S' b := by
  intro H enc w base spare held fuel us hl h
  obtain ⟨x, hx⟩ := h f (by simp)
  rw [ho, hn] at hx
  obtain ⟨a, ha, ra, oa⟩ := h1 _ enc w base spare held fuel _ _ hx
  obtain ⟨b, hb, rb, ob⟩ := h2 _ enc w base spare held fuel us hl fun g hg => h g (List.mem_cons_of_mem _ hg)
  have hd : us.drop o = (us.drop o).take n ++ us.drop (o + n) := by
    rw [← List.drop_drop, List.take_append_drop]
  refine ⟨_, ⟨a, b, rfl, ha, hb⟩, ?_, ?_⟩
  · rw [hd]; exact relL_append ra rb
  · rw [hd]
    intro u hu
    rcases List.mem_append.1 hu with h | h
    · exact oa u h
    · exact ob u h

theorem Opens.struct {fs : Array Field} {S : List CV → Prop} (ht : P.underlying t = some (.struct fs)) {N : Nat} (hN : P.cellsOf t = N) (h : OpensF P N fs.toList 0 S) : Opens P t S := by
  intro H enc w base spare held fuel us x hx
  obtain ⟨xs, n, _, _, hl, hl2, hf⟩ := DataW.trod_struct ht hx
  obtain ⟨cs, h1, h2, h3⟩ := h _ enc w base spare held n us (by omega) (by
    intro f hf'
    obtain ⟨i, hi⟩ := List.getElem?_of_mem hf'
    have := hf i f (by simpa using hi)
    have hi' : i < fs.size := by
      have := (List.getElem?_eq_some_iff.1 hi).1
      simpa using this
    rw [this, List.getElem?_eq_getElem (by omega)]
    exact ⟨_, rfl⟩)
  exact ⟨cs, h1, by simpa using h2, by simpa using h3⟩

theorem Opens.array {n sz : Nat} {S : List CV → Prop} (ht : P.underlying t = some (.array n e)) (hs : P.cellsOf e = sz) (hN : P.cellsOf t = n * sz) (he : Opens P e S) :
    Opens P t fun cs => ∃ xs : List (List CV), cs = xs.flatten ∧ xs.length = n ∧ ∀ x ∈ xs, S x := by
  intro H enc w base spare held fuel us x hx
  obtain ⟨xs, m, _, _, hl, hl2, hf⟩ := DataW.trod_array ht hx
  rw [hN] at hl
  rw [hs] at hf
  have key : ∀ q, q ≤ n → ∃ ys : List (List CV), ys.length = q ∧ (∀ x ∈ ys, S x) ∧ RelL (gh0 w) w [] ys.flatten (us.drop ((n - q) * sz)) ∧ ∀ u ∈ us.drop ((n - q) * sz), u.oneCell' = true := by
    intro q
    induction q with
    | zero =>
      intro _
      refine ⟨[], rfl, by simp, ?_, ?_⟩
      · rw [Nat.sub_zero, List.drop_of_length_le (by omega), List.flatten_nil, RelL]
      · rw [Nat.sub_zero, List.drop_of_length_le (by omega)]; simp
    | succ q ih =>
      intro hq
      obtain ⟨ys, h1, h2, h3, h4⟩ := ih (by omega)
      have hx := hf (n - (q + 1)) (by omega)
      rw [List.getElem?_eq_getElem (by omega)] at hx
      obtain ⟨a, ha, ra, oa⟩ := he _ enc w base spare held m _ _ hx
      have hd : us.drop ((n - (q + 1)) * sz) = (us.drop ((n - (q + 1)) * sz)).take sz ++ us.drop ((n - q) * sz) := by
        have : (n - q) * sz = (n - (q + 1)) * sz + sz := by
          rw [← Nat.succ_mul]; congr 1; omega
        rw [this, ← List.drop_drop, List.take_append_drop]
      refine ⟨a :: ys, by simp [h1], by simpa using ⟨ha, h2⟩, ?_, ?_⟩
      · rw [hd, List.flatten_cons]; exact relL_append ra h3
      · rw [hd]
        intro u hu
        rcases List.mem_append.1 hu with h | h
        · exact oa u h
        · exact h4 u h
  obtain ⟨ys, h1, h2, h3, h4⟩ := key n (Nat.le_refl _)
  rw [Nat.sub_self, Nat.zero_mul, List.drop_zero] at h3 h4
  exact ⟨_, ⟨ys, rfl, h1, h2⟩, h3, h4⟩

theorem Opens.mono {S S' : List CV → Prop} (h : Opens P t S) (hs : ∀ cs, S cs → S' cs) : Opens P t S' := by
  intro H enc w base spare held fuel us x hx
  obtain ⟨cs, h1, h2, h3⟩ := h _ enc w base spare held fuel us x hx
  exact ⟨cs, hs cs h1, h2, h3⟩

variable {H : Type} {enc : TypeId × Value → H} {w : World} {base : Nat} {spare : Nat → Bool} {held : Bool}
/-- An argument of one cell. -/
theorem Opens.arg {S : List CV → Prop} (h : Opens P t S) {v : Value} {d : DataW H} {p : List MemPlace} (hv : v.cells.toList = [v]) (hd : DataW.Trod enc P w base spare held t v d p) :
    ∃ c, S [c] ∧ RelV (gh0 w) w [] c v := by
  obtain ⟨fuel, hf⟩ := hd
  rw [hv] at hf
  obtain ⟨cs, h1, h2, _⟩ := h _ enc w base spare held fuel _ _ hf
  have := relL_length h2
  match cs, this with
  | [c], _ => exact ⟨c, h1, relL_one' h2⟩
/-- A struct or an array. -/
theorem Opens.args {S : List CV → Prop} (h : Opens P t S) {us : Array Value} {d : DataW H} {p : List MemPlace} (hd : DataW.Trod enc P w base spare held t (.agg us) d p) :
    ∃ cs, S cs ∧ RelV (gh0 w) w [] (.agg cs) (.agg us) := by
  obtain ⟨fuel, hf⟩ := hd
  obtain ⟨cs, h1, h2, _⟩ := h _ enc w base spare held fuel _ _ hf
  refine ⟨cs, h1, ?_⟩
  rw [RelV]
  refine ⟨us.toList, by simp, ?_⟩
  simpa [Value.cells] using h2

/-- All arguments read as they did. -/
theorem trodAll_below (hl : laidOutB P = true) {W W' : World} (hb : Below W.heap.size W W') : ∀ {ts : List TypeId} {vs : List Value} {ds : List (DataW H)} {p : List MemPlace},
    (ts.all fun t => P.readableRec t && decide (t < P.types.size)) = true → DataW.TrodAll enc P W 0 (fun _ => true) true ts vs ds p → DataW.TrodAll enc P W' 0 (fun b => decide (b < W.heap.size)) true ts vs ds p
  | [], [], [], p, _, h => h
  | t :: ts, v :: vs, d :: ds, p, ht, h => by
    obtain ⟨p, q, h1, h2, rfl⟩ := h
    simp only [List.all_cons, Bool.and_eq_true, decide_eq_true_eq] at ht
    refine ⟨p, q, Below.trod hl ht.1.1 ht.1.2 h1 hb ?_, trodAll_below hl hb ht.2 h2, rfl⟩
    obtain ⟨m, hm⟩ := h1
    exact DataW.trod_lt m _ _ _ hm
  | [], [], _ :: _, _, _, h => h.elim
  | [], _ :: _, _, _, _, h => h.elim
  | _ :: _, [], _, _, _, h => h.elim
  | _ :: _, _ :: _, [], _, _, h => h.elim
end Go.Proofs.YtmgoflhjblombaaGreatDoor
namespace Go.Proofs.YtmgoflhjblombaaGreatDoor
open Go.Proofs
theorem opens_int : Opens Tryz.prog 3 fun cs => ∃ n, cs = ic n :=
  (Opens.int Tryz.underlying3).mono fun _ ⟨n, h, _⟩ => ⟨n, h⟩
theorem opens_sl {t e sz : Nat} {α : Type} {f : α → List CV} (ht : Tryz.prog.underlying t = some (.slice e)) (hs : Tryz.prog.cellsOf e = sz) (h0 : 0 < sz) (he : Opens Tryz.prog e fun cs => ∃ a, cs = f a) :
    Opens Tryz.prog t fun cs => ∃ l : List α, cs = [.sl .sh sz (l.map f)] ∧ l.length ≤ maxLen :=
  (Opens.slice ht hs h0 he).mono fun _ ⟨xs, h, hl, hx⟩ => by
    obtain ⟨ys, rfl⟩ := exMap hx
    exact ⟨ys, h, by simpa using hl⟩
theorem opens_u8 : Opens Tryz.prog 5 fun cs => ∃ b, cs = u8 b :=
  (Opens.int Tryz.underlying5).mono fun _ ⟨n, h, hw⟩ => ⟨byt n, by
    simp only [Lit.wf, Bool.and_eq_true, decide_eq_true_eq] at hw
    have h1 : 0 ≤ n := hw.1
    have h2 : n ≤ 255 := hw.2
    rw [h, u8, byt_toNat, Int.emod_eq_of_lt h1 (by omega)]⟩
theorem opens_ints : Opens Tryz.prog 29 fun cs => ∃ l : List Int, cs = [.sl .sh 1 (l.map ic)] ∧ l.length ≤ maxLen := opens_sl Tryz.underlying29 (by kernel_rfl) (by decide) opens_int
theorem opens_byt : Opens Tryz.prog 51 fun cs => ∃ l : List UInt8, cs = [.sl .sh 1 (bs l)] ∧ l.length ≤ maxLen := opens_sl Tryz.underlying51 (by kernel_rfl) (by decide) opens_u8
theorem opens_ev : Opens Tryz.prog 53 fun cs => ∃ x, cs = evC x :=
  (Opens.struct Tryz.underlying53 (N := 5) (by kernel_rfl) (.cons rfl (n := 1) (by kernel_rfl) opens_u8 (.cons rfl (n := 1) (by kernel_rfl) opens_byt (.cons rfl (n := 1) (by kernel_rfl) opens_u8 (.cons rfl (n := 1) (by kernel_rfl) opens_u8 (.cons rfl (n := 1) (by kernel_rfl) opens_ints .nil)))))).mono fun cs h => by
    obtain ⟨_, _, rfl, ⟨a, rfl⟩, _, _, rfl, ⟨b, rfl, _⟩, _, _, rfl, ⟨c, rfl⟩, _, _, rfl, ⟨d, rfl⟩, _, _, rfl, ⟨e, rfl, _⟩, rfl⟩ := h
    exact ⟨⟨a, b, c, d, e⟩, rfl⟩
theorem opens_evs : Opens Tryz.prog 44 fun cs => ∃ l : List Evt, cs = [.sl .sh 5 (l.map evC)] ∧ l.length ≤ 9223372036854775807 := (opens_sl Tryz.underlying44 (by kernel_rfl) (by decide) opens_ev).mono fun _ ⟨l, h, hl⟩ => ⟨l, h, Nat.le_trans hl (by decide)⟩
end Go.Proofs.YtmgoflhjblombaaGreatDoor
