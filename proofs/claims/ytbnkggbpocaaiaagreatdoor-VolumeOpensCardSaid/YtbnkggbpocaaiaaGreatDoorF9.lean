import Derived.Test.YtbnkggbpocaaiaaGreatDoorF8
import Derived.Test.YtbnkggbpocaaiaaGreatDoorF5
import Derived.Test.YtbnkggbpocaaiaaGreatDoorF7
import Derived.Test.YtbnkggbpocaaiaaGreatDoorF4
import Derived.Test.YtbnkggbpocaaiaaGreatDoorF6
import Derived.Test.YtbnkggbpocaaiaaGreatDoorF3
import Derived.ProofKit
import Derived.OpenShut
import Derived.Below
set_option linter.unusedSimpArgs false
set_option linter.unusedVariables false
set_option linter.unusedSectionVars false
namespace Go.Proofs.YtbnkggbpocaaiaaGreatDoor
open Go.Proofs
theorem runsX_bd (s : Int) : ∀ (f : Nat) (M : List Bool) (p : Nat), (runsX s f M p).length ≤ f ∧ ∀ o ∈ runsX s f M p, o.data.length ≤ M.length
  | 0, M, p => ⟨Nat.le_refl _, fun o h => by cases h⟩
  | f + 1, M, p => by
    rw [runsX]
    split
    · exact ⟨Nat.zero_le _, fun o h => by cases h⟩
    · split
      · have := runsX_bd s f M (p + 1)
        exact ⟨by omega, this.2⟩
      · have := runsX_bd s f M (p + runL (M.drop p) + 1)
        refine ⟨by rw [List.length_cons]; omega, fun o h => ?_⟩
        rcases List.mem_cons.1 h with rfl | h
        · show (List.replicate _ _).length ≤ _
          have := runL_le (M.drop p)
          rw [List.length_drop] at this
          rw [List.length_replicate]; omega
        · exact this.2 o h
theorem remX_bd {j : Jrn} {ct : List Sec} (h : j.count ≤ 4096) : (remX j ct).length ≤ 900000 ∧ ∀ o ∈ remX j ct, o.data.length ≤ 900000 := by
  have hb := runsX_bd j.start ((mkJ j ct).length + 1) (mkJ j ct) 0
  have hl := mkJ_len j ct
  rw [remX_eq]
  split
  · exact ⟨Nat.zero_le _, fun o h => by cases h⟩
  · refine ⟨by rw [List.length_append]; show _ + 1 ≤ _; omega, fun o ho => ?_⟩
    rcases List.mem_append.1 ho with ho | ho
    · have := hb.2 o ho; omega
    · obtain rfl : o = opS := by simpa using ho
      exact Nat.zero_le _
theorem openJ_bd (s c : Int) (d : Dk) : (openJ s c d).1.sizes.length ≤ 1000000000 ∧ (openJ s c d).2.1.length ≤ 1000000 ∧ (openJ s c d).2.2.1.length ≤ 900000000 ∧ ∀ o ∈ (openJ s c d).2.2.1, o.data.length ≤ 900000000 := by
  by_cases h : (rhead s c d).2.2 = 0
  case neg => rw [openJ_bad h]; exact ⟨Nat.zero_le _, Nat.zero_le _, Nat.zero_le _, fun o h => by cases h⟩
  obtain ⟨hv, -, -, e⟩ := openJ_ok h
  rw [e]
  have hvi := (validJ_iff s c).1 hv
  have hr := recsO_le (rhead s c d).2.1 (turnM (rhead s c d).1 (c - 16).toNat (readD d (s + 16) (c - 16)).1 (c - 16).toNat)
  rw [turnM_len] at hr
  have hb := remX_bd (j := jO s c (rhead s c d).1 (rhead s c d).2.1 (recsO (rhead s c d).2.1 (turnM (rhead s c d).1 (c - 16).toNat (readD d (s + 16) (c - 16)).1 (c - 16).toNat))) (ct := (readD d (s + 16) (c - 16)).1) (show c ≤ 4096 by omega)
  refine ⟨?_, ?_, ?_, fun o ho => ?_⟩
  · show (szs _).length ≤ _
    rw [szs, List.length_map]; omega
  · show (recsO _ _).length ≤ _; omega
  · show (remX _ _).length ≤ _; omega
  · have := hb.2 o ho; omega
end Go.Proofs.YtbnkggbpocaaiaaGreatDoor
namespace Go.Proofs.YtbnkggbpocaaiaaGreatDoor
theorem numG_once : ∀ (f i n : Nat) (s : List UInt8) {m : Nat} {r : List UInt8}, numG f i n s = .ok (m, r) → ∃ q, m = n + q * 128 ^ i ∧ s = encN q ++ r ∧ (0 < i → 0 < q) ∧ m ≤ 9007199254740991
  | 0, _, _, _, _, _, h => by rw [numG] at h; cases h
  | f + 1, _, _, [], _, _, h => by rw [numG] at h; cases h
  | f + 1, i, n, b :: s, m, r, h => by
    rw [numG] at h
    have hb := b.toNat_lt
    split at h
    · rename_i h1
      split at h
      · cases h
      · rename_i h2
        cases h
        refine ⟨b.toNat, rfl, ?_, by omega, by omega⟩
        rw [encN_lt h1, UInt8.ofNat_toNat]; rfl
    · rename_i h1
      obtain ⟨q, h3, h4, h5, h6⟩ := numG_once f _ _ s h
      have hq : 0 < q := h5 (by omega)
      refine ⟨b.toNat % 128 + q * 128, ?_, ?_, by omega, h6⟩
      · rw [h3, Nat.add_mul, Nat.pow_succ, Nat.mul_comm (128 ^ i), Nat.mul_assoc]; omega
      · rw [encN_ge (by omega), show (b.toNat % 128 + q * 128) % 128 + 128 = b.toNat by omega, show (b.toNat % 128 + q * 128) / 128 = q by omega, UInt8.ofNat_toNat, h4]; rfl
theorem enc_nat {m : Nat} (h : m ≤ 9007199254740991) : enc (m : Int) = encN m := by
  rw [enc, norm, if_neg (by omega)]; rfl
theorem number_once {s r : List UInt8} {m : Nat} (h : number s = .ok (m, r)) : s = enc m ++ r ∧ m ≤ 9007199254740991 := by
  obtain ⟨q, h1, h2, _, h4⟩ := numG_once 8 0 0 s h
  have : m = q := by simpa using h1
  subst this
  exact ⟨by rw [enc_nat h4]; exact h2, h4⟩
def ON {α : Type} (p : Pr α) (e : α → List UInt8) : Prop := ∀ s a r, p s = .ok (a, r) → s = e a ++ r
section
variable {α : Type} {p : Pr α} {e : α → List UInt8} {h : α → α} {A : α → Prop}
theorem rep_on (hp : ON p e) : ∀ (n : Nat) (s : List UInt8) (l : List α) (r : List UInt8), repP p n s = .ok (l, r) → s = l.flatMap e ++ r ∧ l.length = n
  | 0, s, l, r, hq => by rw [repP] at hq; cases hq; exact ⟨rfl, rfl⟩
  | n + 1, s, l, r, hq => by
    rw [repP] at hq
    split at hq
    · cases hq
    · rename_i a s1 h1
      split at hq
      · cases hq
      · rename_i l1 s2 h2
        cases hq
        obtain ⟨h3, h4⟩ := rep_on hp n _ _ _ h2
        exact ⟨by rw [hp _ _ _ h1, h3, List.flatMap_cons, List.append_assoc], by rw [List.length_cons, h4]⟩
theorem length_on {s r : List UInt8} {n : Nat} (h : lengthP s = .ok (n, r)) : s = enc n ++ r := by
  unfold lengthP at h
  split at h
  · cases h
  · rename_i h1
    split at h
    · cases h
    · cases h; exact (number_once h1).1
theorem list_on (hp : ON p e) : ON (listP p) fun l => enc l.length ++ l.flatMap e := by
  intro s l r hq
  unfold listP at hq
  split at hq
  · cases hq
  · rename_i h1
    obtain ⟨h2, h3⟩ := rep_on hp _ _ _ _ hq
    rw [length_on h1, h2, ← h3, List.append_assoc]
end
theorem Sec.same {a b : Sec} (h : a.val = b.val) : a = b := by
  cases a; cases b; cases h; rfl
theorem sec_on : ON secP Sec.val := fun s a r h => by
  unfold secP at h
  split at h
  · cases h
  · cases h; exact (List.take_append_drop 8 s).symm
theorem pair_on {s r : List UInt8} {a b : Nat} (h : pairP s = .ok ((a, b), r)) : s = enc a ++ enc b ++ r := by
  unfold pairP at h
  split at h
  · cases h
  · rename_i h1
    split at h
    · cases h
    · rename_i h2; cases h
      rw [(number_once h1).1, (number_once h2).1, List.append_assoc]
theorem wr_on : ON wrP encWr := fun s a r h => by
  unfold wrP at h
  split at h
  · cases h
  · rename_i h1
    split at h
    · cases h
    · rename_i h2; cases h
      unfold encWr encSecs
      rw [pair_on h1, list_on sec_on _ _ _ h2]
      simp only [List.append_assoc]
end Go.Proofs.YtbnkggbpocaaiaaGreatDoor
namespace Go.Proofs.YtbnkggbpocaaiaaGreatDoor
open Go.Proofs
end Go.Proofs.YtbnkggbpocaaiaaGreatDoor
namespace Go.Proofs.YtbnkggbpocaaiaaGreatDoor
open Go.Proofs
end Go.Proofs.YtbnkggbpocaaiaaGreatDoor
namespace Go.Proofs.YtbnkggbpocaaiaaGreatDoor
open Go.Proofs
theorem rPlace_cc (H : Hp) (V : List Nat) (s : Sto) (v : Nat) (k : Int) (h : SzOk s.sizes) (hv : v ≤ s.sizes.length) (h0 : 0 ≤ s.data) (h1 : s.data ≤ 100000) (hk0 : 0 ≤ k) (hk1 : k ≤ 100000) : CC Tryz.prog 92 [.agg (stoC s), ci v, ci k] H V (Pu (ci (s.data + sumI (s.sizes.take v) + k)) H V) := by
  refine CC.of_swp Tryz.func92 rfl (by kernel_rfl) (by rw [Tryz.ntmps92]; exact len_le _ _ rfl) fun hok hokH => ?_
  clear hok
  have hs := h.sum v
  have hl := h.1
  refine SWp.seq (Wp.s ?_)
  simp -implicitDefEqProofs [go_sem, args0]
  refine SWp.seq (SWp.drawnT [] [] (.s 0 .pl <| .s 1 .pl <| .s 2 .pl <| .s 3 .pl <| .s 4 .pl <| .s 5 .pl <| .s 8 .pl <| .s 6 .pl <| .s 7 .pl <| .s 9 .pl <| .s 10 .pl <| .n) (by kernel_rfl) (by kernel_rfl) ?_)
  simp -implicitDefEqProofs [go_sem, stoC]
  refine ⟨by omega, ?_⟩
  rw [← List.map_take]
  refine CC.mono (rsum_cc _ _ .sh (s.sizes.take v) (h.take v)) ?_
  rintro _ _ _ ⟨rfl, rfl, rfl⟩
  have w1 : IntKind.i64.wrap (s.data + sumI (s.sizes.take v)) = s.data + sumI (s.sizes.take v) := IntWalk.i64_in _ ⟨by omega, by omega⟩
  have w2 : IntKind.i64.wrap (s.data + sumI (s.sizes.take v) + k) = s.data + sumI (s.sizes.take v) + k := IntWalk.i64_in _ ⟨by omega, by omega⟩
  simp -implicitDefEqProofs [go_sem, w1, w2]
  refine Wp.s ?_
  simp -implicitDefEqProofs [go_sem]
  exact Fin.pu (.refl _) (by simp [go_sem]) hokH (by simp) (by simp)
end Go.Proofs.YtbnkggbpocaaiaaGreatDoor
namespace Go.Proofs.YtbnkggbpocaaiaaGreatDoor
open Go.Proofs
end Go.Proofs.YtbnkggbpocaaiaaGreatDoor
namespace Go.Proofs.YtbnkggbpocaaiaaGreatDoor
open Go.Proofs
def few9 (d : Dk) : Bool := decide (d.stable.length ≤ 400) && decide (d.cache.length ≤ 400)
theorem few9_cc (H : Hp) (V : List Nat) (d : Dk) : CC Tryz.prog 30 [.agg (dkC d)] H V (Pu (cb (few9 d)) H V) := by
  refine CC.of_swp Tryz.func30 rfl (by kernel_rfl) (by rw [Tryz.ntmps30]; exact len_le _ _ rfl) fun hok hokH => ?_
  clear hok
  refine SWp.seq (Wp.s ?_)
  simp -implicitDefEqProofs [go_sem, args0]
  refine SWp.seq (Wp.s ?_)
  by_cases h1 : d.stable.length ≤ 400
  case neg =>
    have h1' : ¬ (d.stable.length : Int) ≤ 400 := by omega
    simp -implicitDefEqProofs [go_sem, h1, h1']
    refine Wp.s ?_
    simp -implicitDefEqProofs [go_sem]
    exact Fin.bool (by rw [few9, decide_eq_false h1]; rfl) hokH (by simp) (by simp)
  have h1' : (d.stable.length : Int) ≤ 400 := by omega
  by_cases h2 : d.cache.length ≤ 400
  case neg =>
    have h2' : ¬ (d.cache.length : Int) ≤ 400 := by omega
    simp -implicitDefEqProofs [go_sem, h1, h1', h2, h2']
    refine Wp.s ?_
    simp -implicitDefEqProofs [go_sem]
    exact Fin.bool (by rw [few9, decide_eq_true h1, decide_eq_false h2]; rfl) hokH (by simp) (by simp)
  have h2' : (d.cache.length : Int) ≤ 400 := by omega
  simp -implicitDefEqProofs [go_sem, h1, h1', h2, h2']
  refine Wp.s ?_
  simp -implicitDefEqProofs [go_sem]
  exact Fin.bool (by rw [few9, decide_eq_true h1, decide_eq_true h2]; rfl) hokH (by simp) (by simp)
theorem few9_S {d : Dk} (h : few9 d = true) : d.stable.length ≤ 400 ∧ d.cache.length ≤ 400 := by
  simpa [few9] using h
end Go.Proofs.YtbnkggbpocaaiaaGreatDoor
namespace Go.Proofs.YtbnkggbpocaaiaaGreatDoor
open Go.Proofs
end Go.Proofs.YtbnkggbpocaaiaaGreatDoor
namespace Go.Proofs.YtbnkggbpocaaiaaGreatDoor
open Go.Proofs
end Go.Proofs.YtbnkggbpocaaiaaGreatDoor
namespace Go.Proofs.YtbnkggbpocaaiaaGreatDoor
open Go.Proofs
def apF (l : Img) (ws : List Wr) : Img := ws.foldl ap1 l
theorem imgSz_eq (x : Img) : imgSz x = (x.map List.length).map (fun n : Nat => (n : Int)) := by rw [imgSz, List.map_map]; rfl
theorem imgSz_ap1 {l : Img} {w : Wr} (h : fitsS (imgSz l) w = 0) : imgSz (ap1 l w) = imgSz l := by rw [imgSz_eq, ap1_sz h, ← imgSz_eq]
theorem apF_sz : ∀ (ws : List Wr) (l : Img), (∀ w ∈ ws, fitsS (imgSz l) w = 0) → imgSz (apF l ws) = imgSz l
  | [], l, _ => rfl
  | w :: ws, l, h => by
    have h0 := h w (by simp)
    show imgSz (apF (ap1 l w) ws) = _
    rw [apF_sz ws _ (fun x hx => by rw [imgSz_ap1 h0]; exact h x (by simp [hx])), imgSz_ap1 h0]
theorem apI_F : ∀ (ws : List Wr) (l : Img) (i : Nat), (∀ w ∈ ws, fitsS (imgSz l) w = 0) → apI l ws i = (apF l ws, 0, 0)
  | [], l, i, _ => rfl
  | w :: ws, l, i, h => by
    have h0 := h w (by simp)
    rw [apI, if_neg (by simp [h0]), apI_F ws _ _ (fun x hx => by rw [imgSz_ap1 h0]; exact h x (by simp [hx]))]
    rfl
theorem apR_F {l : Img} {ws : List Wr} (hs : sizesE (imgSz l) = 0) (h : ∀ w ∈ ws, fitsS (imgSz l) w = 0) : apR l ws = (apF l ws, 0, 0) := by
  rw [apR, if_neg (by simp [hs]), apI_F _ _ _ h]
def cov (w : Wr) (v p : Nat) : Prop := w.volume = (v : Int) ∧ w.start ≤ (p : Int) ∧ (p : Int) < w.start + w.data.length
instance (w : Wr) (v p : Nat) : Decidable (cov w v p) := by unfold cov; infer_instance
end Go.Proofs.YtbnkggbpocaaiaaGreatDoor
namespace Go.Proofs.YtbnkggbpocaaiaaGreatDoor
open Go.Proofs
def hA (o : Nat) (s : List Sec) : List Sec := (s.drop o).take 8
def hB (o : Nat) (s : List Sec) : List Sec := (s.drop (o + 8)).take 8
end Go.Proofs.YtbnkggbpocaaiaaGreatDoor
namespace Go.Proofs.YtbnkggbpocaaiaaGreatDoor
open Go.Proofs
end Go.Proofs.YtbnkggbpocaaiaaGreatDoor
namespace Go.Proofs.YtbnkggbpocaaiaaGreatDoor
open Go.Proofs
end Go.Proofs.YtbnkggbpocaaiaaGreatDoor
namespace Go.Proofs.YtbnkggbpocaaiaaGreatDoor
open Go.Proofs
end Go.Proofs.YtbnkggbpocaaiaaGreatDoor
namespace Go.Proofs.YtbnkggbpocaaiaaGreatDoor
open Go.Proofs
end Go.Proofs.YtbnkggbpocaaiaaGreatDoor
namespace Go.Proofs.YtbnkggbpocaaiaaGreatDoor
open Go.Proofs
end Go.Proofs.YtbnkggbpocaaiaaGreatDoor
namespace Go.Proofs.YtbnkggbpocaaiaaGreatDoor
open Go.Proofs
end Go.Proofs.YtbnkggbpocaaiaaGreatDoor
namespace Go.Proofs.YtbnkggbpocaaiaaGreatDoor
open Go.Proofs
end Go.Proofs.YtbnkggbpocaaiaaGreatDoor
namespace Go.Proofs.YtbnkggbpocaaiaaGreatDoor
open Go.Proofs
end Go.Proofs.YtbnkggbpocaaiaaGreatDoor
namespace Go.Proofs.YtbnkggbpocaaiaaGreatDoor
open Go.Proofs
end Go.Proofs.YtbnkggbpocaaiaaGreatDoor
namespace Go.Proofs.YtbnkggbpocaaiaaGreatDoor
open Go.Proofs
end Go.Proofs.YtbnkggbpocaaiaaGreatDoor
namespace Go.Proofs.YtbnkggbpocaaiaaGreatDoor
open Go.Proofs
end Go.Proofs.YtbnkggbpocaaiaaGreatDoor
namespace Go.Proofs.YtbnkggbpocaaiaaGreatDoor
open Go.Proofs
end Go.Proofs.YtbnkggbpocaaiaaGreatDoor
namespace Go.Proofs.YtbnkggbpocaaiaaGreatDoor
open Go.Proofs
end Go.Proofs.YtbnkggbpocaaiaaGreatDoor
namespace Go.Proofs.YtbnkggbpocaaiaaGreatDoor
open Go.Proofs
end Go.Proofs.YtbnkggbpocaaiaaGreatDoor
namespace Go.Proofs.YtbnkggbpocaaiaaGreatDoor
open Go.Proofs
end Go.Proofs.YtbnkggbpocaaiaaGreatDoor
namespace Go.Proofs.YtbnkggbpocaaiaaGreatDoor
open Go.Proofs
@[go_sem, simp] theorem dkC_drop2Q (d : Dk) : (dkC d).drop 2 = [] := rfl
end Go.Proofs.YtbnkggbpocaaiaaGreatDoor
namespace Go.Proofs.YtbnkggbpocaaiaaGreatDoor
open Go.Proofs
end Go.Proofs.YtbnkggbpocaaiaaGreatDoor
namespace Go.Proofs.YtbnkggbpocaaiaaGreatDoor
open Go.Proofs
def zwr : Wr := ⟨0, 0, []⟩
def sngP : Except Nat (List Wr × List UInt8) → Option Wr
  | .ok ([w], []) => some w
  | _ => none
def sng (r : Rcd) : Option Wr := if r.kind = 1 then sngP (listP wrP r.pay) else none
def sngV : Option Wr → CV
  | none => .tup [.agg (wrC zwr), er 3]
  | some w => .tup [.agg (wrC w), er 0]
theorem okV_sngV (i j : Nat) (x : Option Wr) : okV i j (sngV x) := by
  cases x <;> simp [sngV, go_sem, okL, okV, okL_wrC]
theorem zwr_le : Le (.agg [ci 0, ci 0, .v (.slice none 0 0)]) (.agg (wrC zwr)) := .agg (.cons (.refl _) (.cons (.refl _) (.cons (.nil 8 (by decide)) .nil)))
theorem single_cc (H : Hp) (V : List Nat) (r : Rcd) (hl : r.pay.length ≤ 1000000000) : CC Tryz.prog 151 [.agg (rcC r)] H V (Pu (sngV (sng r)) H V) := by
  refine CC.of_swp Tryz.func151 rfl (by kernel_rfl) (by rw [Tryz.ntmps151]; exact len_le _ _ rfl) fun hok hokH => ?_
  clear hok
  have bad : ∀ {H' : Hp} {V' : List Nat}, sng r = none → H'.take H.length = H → V'.take V.length = V → Fin H.length V.length (Pu (sngV (sng r)) H V) (.tup [.agg [ci 0, ci 0, .v (.slice none 0 0)], er 3]) H' V' := fun h1 h2 h3 => by
    rw [h1]
    exact Fin.pu (.tup (.cons zwr_le (.cons (.refl _) .nil))) (okV_sngV _ _ none) hokH h2 h3
  refine SWp.seq (Wp.s ?_)
  simp -implicitDefEqProofs [go_sem, args0]
  refine SWp.seq (Wp.s ?_)
  simp -implicitDefEqProofs [go_sem]
  refine CC.mono (Writes_cc _ _ .sh r.pay hl) ?_
  rintro _ _ _ ⟨rfl, rfl, rfl⟩
  have hs : sng r = if r.kind = 1 then sngP (listP wrP r.pay) else none := rfl
  generalize listP wrP r.pay = x at hs ⊢
  cases x with
  | error e =>
    have hs' : sng r = none := by rw [hs]; split <;> rfl
    simp -implicitDefEqProofs [go_sem, rdv]
    refine SWp.seq (SWp.seq (Wp.s ?_))
    by_cases hk : r.kind = 1
    · simp -implicitDefEqProofs [go_sem, hk]
      refine ⟨fun _ => ?_, fun _ => ?_⟩
      · refine Wp.s ?_
        simp -implicitDefEqProofs [go_sem]
        exact bad hs' (by simp) (by simp)
      · refine Wp.s ?_
        simp -implicitDefEqProofs [go_sem]
        exact bad hs' (by simp) (by simp)
    · simp -implicitDefEqProofs [go_sem, hk]
      refine Wp.s ?_
      simp -implicitDefEqProofs [go_sem]
      exact bad hs' (by simp) (by simp)
  | ok x =>
    obtain ⟨l, s⟩ := x
    simp -implicitDefEqProofs [go_sem, rdv]
    refine SWp.seq (SWp.seq (Wp.s ?_))
    by_cases hk : r.kind = 1
    case neg =>
      rw [if_neg hk] at hs
      simp -implicitDefEqProofs [go_sem, hk]
      refine Wp.s ?_
      simp -implicitDefEqProofs [go_sem]
      exact bad hs (by simp) (by simp)
    rw [if_pos hk] at hs
    cases s with
    | cons b s =>
      have hs' : sng r = none := by
        rw [hs]
        match l with
        | [] => rfl
        | [w] => rfl
        | _ :: _ :: _ => rfl
      have hb : 0 < ((b :: s).length : Int) := by rw [List.length_cons]; omega
      simp -implicitDefEqProofs [go_sem, hk, hb]
      refine Wp.s ?_
      simp -implicitDefEqProofs [go_sem]
      exact bad hs' (by simp) (by simp)
    | nil =>
      match l with
      | [] =>
        simp -implicitDefEqProofs [go_sem, hk]
        refine Wp.s ?_
        simp -implicitDefEqProofs [go_sem]
        exact bad hs (by simp) (by simp)
      | [w] =>
        simp -implicitDefEqProofs [go_sem, hk]
        refine Wp.s ?_
        simp -implicitDefEqProofs [go_sem]
        refine SWp.seq (Wp.s ?_)
        simp -implicitDefEqProofs [go_sem]
        refine Wp.s ?_
        simp -implicitDefEqProofs [go_sem]
        rw [hs]
        exact Fin.pu (.refl _) (okV_sngV _ _ (some w)) hokH (by simp) (by simp)
      | a :: b :: l =>
        have hb : ¬ (l.length : Int) + 1 + 1 = 1 := by omega
        simp -implicitDefEqProofs [go_sem, hk, hb]
        refine Wp.s ?_
        simp -implicitDefEqProofs [go_sem]
        exact bad hs (by simp) (by simp)
def areaX (s : List Sec) (a : Nat) (l : List Int) : Nat → Img
  | 0 => []
  | i + 1 => areaX s a l i ++ [(s.drop (a + (sumI (l.take i)).toNat)).take (l.getD i 0).toNat]
def areaI (s : List Sec) (a : Nat) (l : List Int) : Img := areaX s a l l.length
theorem areaX_len (s : List Sec) (a : Nat) (l : List Int) : ∀ i, (areaX s a l i).length = i
  | 0 => rfl
  | i + 1 => by rw [areaX, List.length_append, areaX_len s a l i]; rfl
def arX (s : List Sec) (a : Nat) (l : List Int) (i : Nat) : List (List CV) := (areaX s a l i).map imE
theorem arX_len (s : List Sec) (a : Nat) (l : List Int) (i : Nat) : (arX s a l i).length = i := by rw [arX, List.length_map, areaX_len]
theorem arX_s (s : List Sec) (a : Nat) (l : List Int) (i : Nat) : arX s a l (i + 1) = arX s a l i ++ [imE ((s.drop (a + (sumI (l.take i)).toNat)).take (l.getD i 0).toNat)] := by rw [arX, areaX, List.map_append]; rfl
set_option maxRecDepth 8000 in
theorem content_cc (H : Hp) (V : List Nat) (d : Dk) (l : List Int) (a : Nat) (hd : DkS d) (hc : checkD d = 0) (hz : SzOk l) (hin : (a : Int) + sumI l ≤ d.stable.length) : CC Tryz.prog 96 [.agg (dkC d), .sl .sh 1 (l.map ic), ci a] H V (Pu (.tup [imV (areaI (newestD d) a l), er 0]) H V) := by
  refine CC.of_swp Tryz.func96 rfl (by kernel_rfl) (by rw [Tryz.ntmps96]; exact len_le _ _ rfl) fun hok hokH => ?_
  clear hok
  have hst := checkD_0 hc
  have hnl := newestD_len d
  refine SWp.seq (Wp.s ?_)
  simp -implicitDefEqProofs [go_sem, args0]
  refine SWp.seq (Wp.s ?_)
  simp -implicitDefEqProofs [go_sem]
  refine SWp.join (α := Nat) (fun v => ([(8, .sl (.own V.length v) 1 (arX (newestD d) a l l.length))], H ++ [some (dkC d)], V ++ [v])) (fun _ => True) ?_ ?_
  · refine SWp.seq (Wp.s ?_)
    simp -implicitDefEqProofs [go_sem]
    refine SWp.block ?_
    refine SWp.loop (α := Nat × Nat) (fun x => ([(2, ci (a + sumI (l.take x.1))), (3, .ptr H.length 0), (8, .sl (.own V.length x.2) 1 (arX (newestD d) a l x.1)), (13, .sl .sh 1 (l.map ic)), (14, ci l.length), (15, ci x.1)], H ++ [some (dkC d)], V ++ [x.2])) (fun x => x.1 ≤ l.length) (fun x => l.length - x.1) (0, 0) (Nat.zero_le _) (Sh.tokT (by simp [go_sem, sumI, arX, areaX]) rfl rfl) ?_
    rintro ⟨i, v⟩ hi
    dsimp only at hi ⊢
    refine SWp.seq (Wp.s ?_)
    simp -implicitDefEqProofs [go_sem]
    refine SWp.seq (Wp.s ?_)
    simp -implicitDefEqProofs [go_sem]
    refine ⟨fun h => ?_, fun h => ?_⟩
    case refine_2 =>
      obtain rfl : i = l.length := by omega
      exact ⟨v, Sh.forget (by simp [go_sem]) rfl rfl⟩
    have hsu := hz.sum i
    have hl0 := hz.2 l[i] (List.getElem_mem h)
    have hl1 := hz.1
    have htk := sumI_take l i h
    have hmo : sumI (l.take (i + 1)) ≤ sumI l := by
      have e := sumI_app (l.take (i + 1)) (l.drop (i + 1))
      rw [List.take_append_drop] at e
      have hd2 : SzOk (l.drop (i + 1)) := ⟨by rw [List.length_drop]; omega, fun n hn => hz.2 n (List.mem_of_mem_drop hn)⟩
      have := hd2.sum'
      omega
    obtain ⟨q, hq⟩ : ∃ q : Nat, sumI (l.take i) = (q : Int) := ⟨(sumI (l.take i)).toNat, by omega⟩
    obtain ⟨k, hk⟩ : ∃ k : Nat, l[i] = (k : Int) := ⟨l[i].toNat, by omega⟩
    have hrd : readD d ((a : Int) + (q : Int)) (k : Int) = (((newestD d).drop (a + q)).take k, 0) := by
      rw [readD, if_neg (by simp [hc]), if_neg (by simp [insideB]; omega)]
      rw [show ((a : Int) + (q : Int)).toNat = a + q by omega, Int.toNat_natCast]
    have hxs := arX_s (newestD d) a l i
    have hxl := arX_len (newestD d) a l i
    rw [hq, Int.toNat_natCast, List.getD_eq_getElem?_getD, List.getElem?_eq_getElem h, Option.getD_some, hk, Int.toNat_natCast] at hxs
    generalize arX (newestD d) a l i = M at hxs hxl ⊢
    rw [hq]
    refine SWp.seq (SWp.block (SWp.seq (Wp.s ?_)))
    simp -implicitDefEqProofs [go_sem, h, hk]
    refine SWp.seq (Wp.s ?_)
    simp -implicitDefEqProofs [go_sem]
    refine CC.mono (sRead_cc _ _ d ⟨(a : Int) + (q : Int), (k : Int)⟩ hd) ?_
    rintro _ _ _ ⟨rfl, rfl, rfl⟩
    dsimp only
    rw [hrd]
    simp -implicitDefEqProofs [go_sem]
    refine SWp.seq (SWp.seq (Wp.s ?_))
    simp -implicitDefEqProofs [go_sem]
    refine Wp.s ?_
    simp -implicitDefEqProofs [go_sem]
    have w3 : IntKind.i64.wrap ((a : Int) + (q : Int) + (k : Int)) = (a : Int) + (q : Int) + (k : Int) := IntWalk.i64_in _ ⟨by omega, by omega⟩
    refine Wp.s ?_
    simp -implicitDefEqProofs [go_sem, w3, hxl]
    refine ⟨by omega, ?_⟩
    refine Wp.s ?_
    simp -implicitDefEqProofs [go_sem]
    refine ⟨i + 1, by omega, by omega, v + 1, Sh.forget ?_ rfl (by simp)⟩
    rw [hxs, htk, hq, hk]
    simp [go_sem, wrap_succ (show i ≤ 1000000000 by omega), imE, secsV, List.map_take, List.map_drop, Int.add_assoc]
  rintro v -
  dsimp only
  refine SWp.seq (Wp.s ?_)
  simp -implicitDefEqProofs [go_sem]
  refine Wp.s ?_
  simp -implicitDefEqProofs [go_sem]
  refine Fin.pu (.tup (.cons ?_ (.cons (.refl _) .nil))) (by simp [go_sem, okL, okV, okE_ims]) hokH (by simp) (by simp)
  exact .sh _ _ _
end Go.Proofs.YtbnkggbpocaaiaaGreatDoor
namespace Go.Proofs.YtbnkggbpocaaiaaGreatDoor
open Go.Proofs
def wrE (im : Img) (r : Rcd) : Wr × Nat :=
  match sng r with
  | none => (zwr, 3)
  | some w => (w, fitsI im w)
theorem wrE_none {im : Img} {r : Rcd} (h : sng r = none) : wrE im r = (zwr, 3) := by rw [wrE, h]
theorem wrE_some {im : Img} {r : Rcd} {w : Wr} (h : sng r = some w) : wrE im r = (w, fitsI im w) := by rw [wrE, h]
theorem writes_cc (H : Hp) (V : List Nat) (im : Img) (rs : List Rcd) : CC Tryz.prog 97 [.sl .sh 1 (im.map imE), .sl .sh 3 (rs.map rcC)] H V (fun r H' V' => r = .fn 150 [.ptr (H.length + 1) 0, .ptr H.length 0] ∧ H' = H ++ [some [.sl .sh 1 (im.map imE)], some [.sl .sh 3 (rs.map rcC)]] ∧ V = V') := by
  refine CC.of_swp Tryz.func97 rfl (by kernel_rfl) (by rw [Tryz.ntmps97]; exact len_le _ _ rfl) fun hok hokH => ?_
  clear hok
  refine SWp.seq (Wp.s ?_)
  simp -implicitDefEqProofs [go_sem, args0]
  refine Wp.s ?_
  simp -implicitDefEqProofs [go_sem]
  refine Fin.cut (H.length + 2) V.length ⟨rfl, rfl, rfl⟩ (by omega) (Nat.le_refl _) (List.take_of_length_le (by simp)) (List.take_of_length_le (Nat.le_refl _)) (.refl _) (by simp [go_sem]) ?_
  intro b cs hb
  rw [List.getElem?_append] at hb
  split at hb
  · exact okL_mono (by omega) (Nat.le_refl _) (hokH b cs hb)
  · exact okH_get (i := H.length + 2) (j := V.length) (L := [some [.sl .sh 1 (im.map imE)], some [.sl .sh 3 (rs.map rcC)]]) (by simp [go_sem, okL, okV, okE_ims, okE_rcs]) _ _ hb
set_option maxRecDepth 8000 in
theorem writes1_cc (H : Hp) (V : List Nat) (L b1 b2 : Nat) (im : Img) (rs : List Rcd) (hb1 : H[b1]? = some (some [.sl .sh 3 (rs.map rcC)])) (hb2 : H[b2]? = some (some [.sl .sh 1 (im.map imE)])) (hrl : rs.length ≤ 1000000000) (hrp : ∀ r ∈ rs, r.pay.length ≤ 1000000000)
    (hil : im.length ≤ 1000000000) (hiv : ∀ v ∈ im, v.length ≤ 1000000000) (hwd : ∀ r ∈ rs, ∀ w, sng r = some w → w.data.length ≤ 1000000000)
    (I : Nat → Hp → List Nat → Prop) (Q : Hp → List Nat → Prop) (h0 : I 0 H V)
    (hI : ∀ i G V', I i G V' → G.length = H.length ∧ G[b1]? = some (some [.sl .sh 3 (rs.map rcC)]) ∧ G[b2]? = some (some [.sl .sh 1 (im.map imE)]))
    (hn : ∀ i (h : i < rs.length), (wrE im rs[i]).2 = 0 → ∀ G V' W, I i G V' → YC Tryz.prog L [.agg (wrC (wrE im rs[i]).1), er 0] (G ++ W) V' (fun r H2 V2 => r = .v (.bool true) ∧ ∃ G' W', I (i + 1) G' V2 ∧ H2 = G' ++ (W ++ W')))
    (he : ∀ i (h : i < rs.length), (wrE im rs[i]).2 ≠ 0 → ∀ G V' W, I i G V' → YC Tryz.prog L [.agg (wrC (wrE im rs[i]).1), er (wrE im rs[i]).2] (G ++ W) V' (fun r H2 V2 => ∃ b, r = .v (.bool b) ∧ ∃ G' W', Q G' V2 ∧ H2 = G' ++ (W ++ W')))
    (hq : ∀ G V', I rs.length G V' → Q G V') :
    CC Tryz.prog 150 [.yl L, .ptr b1 0, .ptr b2 0] H V (fun _ H' V' => ∃ G W, Q G V' ∧ H' = G ++ W) := by
  have lt1 := (List.getElem?_eq_some_iff.1 hb1).1
  have lt2 := (List.getElem?_eq_some_iff.1 hb2).1
  refine CC.of_swp Tryz.func150 rfl (by kernel_rfl) (by rw [Tryz.ntmps150]; exact len_le _ _ rfl) fun hok hokH => ?_
  clear hok
  refine SWp.seq (Wp.s ?_)
  simp -implicitDefEqProofs [go_sem, args0, hbx_of hb1]
  refine SWp.block ?_
  refine SWp.loop (α := Nat × Hp × Hp × List Nat) (fun x => ([(0, .yl L), (1, .ptr b1 0), (2, .ptr b2 0), (8, .sl .sh 3 (rs.map rcC)), (9, ci rs.length), (10, ci x.1)], x.2.1 ++ x.2.2.1, x.2.2.2)) (fun x => x.1 ≤ rs.length ∧ I x.1 x.2.1 x.2.2.2) (fun x => rs.length - x.1) (0, H, [], V) ⟨Nat.zero_le _, h0⟩ (Sh.forget (by simp [go_sem]) (by simp) rfl) ?_
  rintro ⟨i, G, W, V1⟩ ⟨hi, hi1⟩
  dsimp only at hi hi1 ⊢
  obtain ⟨g0, g1, g2⟩ := hI _ _ _ hi1
  refine SWp.seq (Wp.s ?_)
  simp -implicitDefEqProofs [go_sem]
  refine SWp.seq (Wp.s ?_)
  simp -implicitDefEqProofs [go_sem]
  refine ⟨fun h => ?_, fun h => ?_⟩
  case refine_2 =>
    obtain rfl : i = rs.length := by omega
    exact Fin.self ⟨G, hq _ _ hi1, W, rfl⟩
  have hK1 : (G ++ W)[b1]? = some (some [.sl .sh 3 (rs.map rcC)]) := by rw [List.getElem?_append_left (by omega)]; exact g1
  have hK2 : (G ++ W)[b2]? = some (some [.sl .sh 1 (im.map imE)]) := by rw [List.getElem?_append_left (by omega)]; exact g2
  have hkl : b2 < (G ++ W).length := by rw [List.length_append]; omega
  have hnn := hn i h
  have hee := he i h
  have hpay := hrp _ (List.getElem_mem h)
  have hwdd := hwd _ (List.getElem_mem h)
  obtain ⟨K, hK⟩ : ∃ K, K = G ++ W := ⟨_, rfl⟩
  rw [← hK] at hK1 hK2 hkl ⊢
  refine SWp.seq (SWp.block (SWp.seq (Wp.s ?_)))
  simp -implicitDefEqProofs [go_sem, h]
  refine SWp.seq (Wp.s ?_)
  simp -implicitDefEqProofs [go_sem]
  refine CC.mono (single_cc _ _ rs[i] hpay) ?_
  rintro _ _ _ ⟨rfl, rfl, rfl⟩
  have k2 : ∀ M : Hp, (K ++ M)[b2]? = some (some [.sl .sh 1 (im.map imE)]) := fun M => by rw [List.getElem?_append_left hkl]; exact hK2
  cases hsn : sng rs[i] with
  | none =>
    have hwe := wrE_none (im := im) hsn
    simp -implicitDefEqProofs [go_sem, sngV]
    refine SWp.seq (SWp.seq (Wp.s ?_))
    simp -implicitDefEqProofs [go_sem]
    refine Wp.s ?_
    simp -implicitDefEqProofs [go_sem]
    rw [hwe] at hee
    refine SWp.seq (Wp.s ?_)
    simp -implicitDefEqProofs [go_sem]
    have hy := hee (by decide) G V1 (W ++ [some (rcC rs[i]), some (wrC zwr)]) hi1
    rw [← List.append_assoc, ← hK] at hy
    refine YC.mono hy ?_
    rintro _ _ V2 ⟨b, rfl, G', W', hQ, rfl⟩
    cases b with
    | false =>
      simp -implicitDefEqProofs [go_sem]
      refine Wp.s ?_
      simp -implicitDefEqProofs [go_sem]
      exact Fin.self ⟨G', hQ, _, rfl⟩
    | true =>
      simp -implicitDefEqProofs [go_sem]
      refine Wp.s ?_
      simp -implicitDefEqProofs [go_sem]
      exact Fin.self ⟨G', hQ, _, rfl⟩
  | some w =>
    have hwe := wrE_some (im := im) hsn
    simp -implicitDefEqProofs [go_sem, sngV]
    refine SWp.seq (SWp.seq (Wp.s ?_))
    simp -implicitDefEqProofs [go_sem]
    refine Wp.s ?_
    simp -implicitDefEqProofs [go_sem, hbx_of (k2 [some (rcC rs[i]), some (wrC w)])]
    refine CC.mono (Fits_cc _ _ .sh im w hil hiv (hwdd w hsn)) ?_
    rintro _ _ _ ⟨rfl, rfl, rfl⟩
    simp -implicitDefEqProofs [go_sem]
    rw [hwe] at hee hnn
    dsimp only at hee hnn
    refine SWp.seq (Wp.s ?_)
    simp -implicitDefEqProofs [go_sem]
    by_cases hf : fitsI im w = 0
    case neg =>
      have hf' : ¬ (fitsI im w : Int) = 0 := by omega
      have hy := hee hf G V1 (W ++ [some (rcC rs[i]), some (wrC w)]) hi1
      rw [← List.append_assoc, ← hK] at hy
      refine YC.mono hy ?_
      rintro _ _ V2 ⟨b, rfl, G', W', hQ, rfl⟩
      cases b with
      | false =>
        simp -implicitDefEqProofs [go_sem]
        refine Wp.s ?_
        simp -implicitDefEqProofs [go_sem]
        exact Fin.self ⟨G', hQ, _, rfl⟩
      | true =>
        simp -implicitDefEqProofs [go_sem, hf, hf']
        refine Wp.s ?_
        simp -implicitDefEqProofs [go_sem]
        exact Fin.self ⟨G', hQ, _, rfl⟩
    rw [hf]
    have hy := hnn hf G V1 (W ++ [some (rcC rs[i]), some (wrC w)]) hi1
    rw [← List.append_assoc, ← hK] at hy
    refine YC.mono hy ?_
    rintro _ _ V2 ⟨rfl, G', W', hI', rfl⟩
    simp -implicitDefEqProofs [go_sem]
    refine Wp.s ?_
    simp -implicitDefEqProofs [go_sem]
    refine Wp.s ?_
    simp -implicitDefEqProofs [go_sem]
    refine ⟨i + 1, G', W ++ [some (rcC rs[i]), some (wrC w)] ++ W', V2, ⟨by omega, hI'⟩, by omega, Sh.forget ?_ (by simp) rfl⟩
    simp [go_sem, wrap_succ (show i ≤ 1000000000 by omega)]
end Go.Proofs.YtbnkggbpocaaiaaGreatDoor
namespace Go.Proofs.YtbnkggbpocaaiaaGreatDoor
open Go.Proofs
def wrsV (im : Img) : List Rcd → Except Nat (List Wr)
  | [] => .ok []
  | r :: rs => if (wrE im r).2 ≠ 0 then .error (wrE im r).2 else match wrsV im rs with
    | .ok l => .ok ((wrE im r).1 :: l)
    | .error e => .error e
def openV (d : Dk) (sizes : List Int) (n : Int) : Sto × List Opn × Nat :=
  if checkD d ≠ 0 then (zsto, [], checkD d) else if (sizeV sizes n).2 ≠ 0 then (zsto, [], (sizeV sizes n).2)
  else if (d.stable.length : Int) < (sizeV sizes n).1 then (zsto, [], 2)
  else if (openJ 0 n d).2.2.2 ≠ 0 then (zsto, [], (openJ 0 n d).2.2.2)
  else match wrsV (areaI (newestD d) n.toNat sizes) (openJ 0 n d).2.1 with
    | .error e => (zsto, [], e)
    | .ok ws => (⟨sizes, (openJ 0 n d).1, n, (openJ 0 n d).1.first - 1, ws, (apR (areaI (newestD d) n.toNat sizes) ws).1⟩, (openJ 0 n d).2.2.1, 0)
def WrI (im : Img) (rs : List Rcd) (i : Nat) : Prop := ∀ k (h : k < rs.length), k < i → (wrE im rs[k]).2 = 0
def wvU (im : Img) (rs : List Rcd) (i : Nat) : List Wr := (rs.take i).map fun r => (wrE im r).1
theorem wvU_s {im : Img} {rs : List Rcd} {i : Nat} (h : i < rs.length) : wvU im rs (i + 1) = wvU im rs i ++ [(wrE im rs[i]).1] := by
  rw [wvU, List.take_succ_eq_append_getElem h, List.map_append]; rfl
theorem wvU_len {im : Img} {rs : List Rcd} {i : Nat} (h : i ≤ rs.length) : (wvU im rs i).length = i := by
  rw [wvU, List.length_map, List.length_take]; omega
theorem wrsV_ok {im : Img} : ∀ {rs : List Rcd}, WrI im rs rs.length → wrsV im rs = .ok (wvU im rs rs.length)
  | [], _ => rfl
  | r :: rs, h => by
    have h0 := h 0 (by simp) (by simp)
    have ih := wrsV_ok (im := im) (rs := rs) fun k hk _ => by
      have := h (k + 1) (by simp; omega) (by simp; omega)
      simpa using this
    rw [wrsV, if_neg (by simpa using h0), ih]
    show Except.ok ((wrE im r).1 :: wvU im rs rs.length) = Except.ok (wvU im (r :: rs) (rs.length + 1))
    rw [wvU, wvU, List.take_succ_cons]; rfl
theorem wrsV_err {im : Img} : ∀ {rs : List Rcd} {i : Nat} (h : i < rs.length), WrI im rs i → (wrE im rs[i]).2 ≠ 0 → wrsV im rs = .error (wrE im rs[i]).2
  | r :: rs, 0, _, _, h => by rw [wrsV, if_pos (by simpa using h)]; rfl
  | r :: rs, i + 1, hi, hp, h => by
    have h0 := hp 0 (by simp) (by simp)
    have ih := wrsV_err (im := im) (rs := rs) (i := i) (by simpa using hi) (fun k hk hki => by
      have := hp (k + 1) (by simp; omega) (by omega)
      simpa using this) (by simpa using h)
    rw [wrsV, if_neg (by simpa using h0), ih]
    simp
theorem imgSz_area {s : List Sec} {a : Nat} {l : List Int} (hz : SzOk l) (h : (a : Int) + sumI l ≤ s.length) : imgSz (areaI s a l) = l := by
  have key : ∀ i, i ≤ l.length → imgSz (areaX s a l i) = l.take i := fun i => by
    induction i with
    | zero => intro _; rfl
    | succ i ih =>
      intro hi
      have hsu := hz.sum i
      have hil : i < l.length := by omega
      have hl0 := hz.2 l[i] (List.getElem_mem hil)
      have htk := sumI_take l i hil
      have hmo : sumI (l.take (i + 1)) ≤ sumI l := by
        have e := sumI_app (l.take (i + 1)) (l.drop (i + 1))
        rw [List.take_append_drop] at e
        have hd2 : SzOk (l.drop (i + 1)) := ⟨by rw [List.length_drop]; have := hz.1; omega, fun n hn => hz.2 n (List.mem_of_mem_drop hn)⟩
        have := hd2.sum'
        omega
      have e : imgSz (areaX s a l (i + 1)) = imgSz (areaX s a l i) ++ [(((s.drop (a + (sumI (l.take i)).toNat)).take (l.getD i 0).toNat).length : Int)] := by
        rw [imgSz, areaX, List.map_append]; rfl
      rw [e, ih (by omega), List.take_succ_eq_append_getElem hil, List.getD_eq_getElem?_getD, List.getElem?_eq_getElem hil, Option.getD_some, List.length_take, List.length_drop]
      congr 2
      omega
  have := key l.length (Nat.le_refl _)
  rwa [List.take_length] at this
theorem wrE_fits {im : Img} {r : Rcd} (h : (wrE im r).2 = 0) : fitsI im (wrE im r).1 = 0 ∧ sng r = some (wrE im r).1 := by
  cases hs : sng r with
  | none => rw [wrE_none hs] at h; cases h
  | some w => rw [wrE_some hs] at h ⊢; exact ⟨h, rfl⟩
theorem len_flatV {α : Type} {e : α → List UInt8} (he : ∀ a, 1 ≤ (e a).length) : ∀ l : List α, l.length ≤ (l.flatMap e).length
  | [] => Nat.le_refl _
  | a :: l => by
    rw [List.flatMap_cons, List.length_append, List.length_cons]
    have := he a
    have := len_flatV he l
    omega
theorem openJ_pay (s c : Int) (d : Dk) : ∀ r ∈ (openJ s c d).2.1, r.pay.length ≤ 4096 := by
  by_cases h : (rhead s c d).2.2 = 0
  case neg => rw [openJ_bad h]; exact fun r h => by cases h
  obtain ⟨hv, -, -, e⟩ := openJ_ok h
  rw [e]
  have hr := recsO_le (rhead s c d).2.1 (turnM (rhead s c d).1 (c - 16).toNat (readD d (s + 16) (c - 16)).1 (c - 16).toNat)
  intro r hm
  have := hr.1 (szR (r.pay.length : Int)) (List.mem_map.2 ⟨r, hm, rfl⟩)
  unfold szR at this
  split at this <;> omega
theorem sng_pay {r : Rcd} {w : Wr} (h : sng r = some w) : r.kind = 1 ∧ r.pay = encWrs [w] := by
  unfold sng at h
  split at h
  · rename_i hk
    refine ⟨hk, ?_⟩
    unfold sngP at h
    split at h
    · rename_i w' hx
      obtain rfl : w' = w := by simpa using h
      have := list_on wr_on _ _ _ hx
      rw [this, List.append_nil]; rfl
    · cases h
  · cases h
theorem sng_len {r : Rcd} {w : Wr} (h : sng r = some w) : w.data.length ≤ r.pay.length := by
  have hf := len_flatV (e := Sec.val) (fun s => by rw [s.len]; decide) w.data
  rw [(sng_pay h).2, encWrs, List.flatMap_cons, List.flatMap_nil, List.append_nil, encWr, encSecs]
  simp only [List.length_append]
  omega
end Go.Proofs.YtbnkggbpocaaiaaGreatDoor
namespace Go.Proofs.YtbnkggbpocaaiaaGreatDoor
open Go.Proofs
theorem openV_1 {d : Dk} {l : List Int} {n : Int} (h : checkD d ≠ 0) : openV d l n = (zsto, [], checkD d) := if_pos h
theorem openV_2 {d : Dk} {l : List Int} {n : Int} (h : checkD d = 0) (h2 : (sizeV l n).2 ≠ 0) : openV d l n = (zsto, [], (sizeV l n).2) := by rw [openV, if_neg (by simp [h]), if_pos h2]
theorem openV_3 {d : Dk} {l : List Int} {n : Int} (h : checkD d = 0) (h2 : (sizeV l n).2 = 0) (h3 : (d.stable.length : Int) < (sizeV l n).1) : openV d l n = (zsto, [], 2) := by rw [openV, if_neg (by simp [h]), if_neg (by simp [h2]), if_pos h3]
theorem openV_4 {d : Dk} {l : List Int} {n : Int} (h : checkD d = 0) (h2 : (sizeV l n).2 = 0) (h3 : ¬ (d.stable.length : Int) < (sizeV l n).1) (h4 : (openJ 0 n d).2.2.2 ≠ 0) : openV d l n = (zsto, [], (openJ 0 n d).2.2.2) := by rw [openV, if_neg (by simp [h]), if_neg (by simp [h2]), if_neg h3, if_pos h4]
theorem openV_5 {d : Dk} {l : List Int} {n : Int} (h : checkD d = 0) (h2 : (sizeV l n).2 = 0) (h3 : ¬ (d.stable.length : Int) < (sizeV l n).1) (h4 : (openJ 0 n d).2.2.2 = 0) : openV d l n = match wrsV (areaI (newestD d) n.toNat l) (openJ 0 n d).2.1 with
    | .error e => (zsto, [], e)
    | .ok ws => (⟨l, (openJ 0 n d).1, n, (openJ 0 n d).1.first - 1, ws, (apR (areaI (newestD d) n.toNat l) ws).1⟩, (openJ 0 n d).2.2.1, 0) := by
  rw [openV, if_neg (by simp [h]), if_neg (by simp [h2]), if_neg h3, if_neg (by simp [h4])] <;> rfl
theorem openJ_chk {s c : Int} {d : Dk} (h : (openJ s c d).2.2.2 = 0) : chkJ (openJ s c d).1 = true := by
  by_cases h' : (rhead s c d).2.2 = 0
  case neg => rw [openJ_bad h'] at h; exact absurd h h'
  obtain ⟨hv, hh, hn, e⟩ := openJ_ok h'
  rw [e]
  exact chkJ_jO hv hh.1 hh.2.1 hh.2.2.1 hh.2.2.2 (by rw [turnM_len]; omega)
abbrev stO (l : List Int) (j : Jrn) (n : Int) (cv im : CV) : List CV := [.sl .sh 1 (l.map ic), iv j.start, iv j.count, iv j.head, iv j.tail, iv j.first, .sl .sh 1 (j.sizes.map ic), iv n, iv (j.first - 1), cv, im]
abbrev HV (H : Hp) (d : Dk) (z : List CV) (er1 : CV) (j : Jrn) (so : List CV) (im : Img) (rs : List Rcd) (lp : Option (List CV)) : Hp :=
  H ++ (some (dkC d) :: some z :: some [.v (.slice none 0 0)] :: some [er1] :: some (jrC j) :: some so :: some [.sl .sh 1 (im.map imE)] :: some [.sl .sh 3 (rs.map rcC)] :: lp :: [])
set_option maxRecDepth 8000 in
set_option maxHeartbeats 1600000 in
theorem vOpen_cc (H : Hp) (V : List Nat) (d : Dk) (l : List Int) (n : Int) (hd : DkS d) (hl : l.length ≤ 9223372036854775807) : CC Tryz.prog 37 [.agg (dkC d), .sl .sh 1 (l.map ic), ci n] H V (Pu (flV (openV d l n)) H V) := by
  refine CC.of_swp0 Tryz.func37 rfl (by kernel_rfl) (by rw [Tryz.ntmps37]; exact len_le _ _ rfl) fun hok hokH => ?_
  have bad : ∀ {e : Nat} {H' : Hp} {V' : List Nat}, openV d l n = (zsto, [], e) → H'.take H.length = H → V'.take V.length = V → Fin H.length V.length (Pu (flV (openV d l n)) H V) (.tup [.agg zstC, .v (.slice none 0 0), er e]) H' V' := fun h1 h2 h3 => by
    rw [h1]
    exact Fin.pu (.tup (.cons (.agg zsto_le) (.cons (.nil 3 (by decide)) (.cons (.refl _) .nil)))) (okV_flV _ _ _) hokH h2 h3
  refine SWp0.seq (SWp.s0 (Wp.s ?_))
  simp -implicitDefEqProofs [go_sem, args0]
  refine SWp0.seq (SWp.s0 (SWp.seq (Wp.s ?_)))
  simp -implicitDefEqProofs [go_sem]
  refine CC.mono (sCheck_cc _ _ d hd) ?_
  rintro _ _ _ ⟨rfl, rfl, rfl⟩
  simp -implicitDefEqProofs [go_sem]
  refine SWp.seq (Wp.s ?_)
  by_cases h0 : checkD d = 0
  case neg =>
    simp -implicitDefEqProofs [go_sem, h0]
    refine Wp.s ?_
    simp -implicitDefEqProofs [go_sem]
    exact bad (openV_1 h0) (by simp) (by simp)
  simp -implicitDefEqProofs [go_sem, h0]
  refine Wp.s ?_
  simp -implicitDefEqProofs [go_sem]
  refine SWp0.seq (SWp.s0 (Wp.s ?_))
  simp -implicitDefEqProofs [go_sem]
  refine CC.mono (vSize_cc _ _ .sh l n hl) ?_
  rintro _ _ _ ⟨rfl, rfl, rfl⟩
  simp -implicitDefEqProofs [go_sem]
  refine SWp0.seq (SWp.s0 (SWp.seq (Wp.s ?_)))
  by_cases h1 : (sizeV l n).2 = 0
  case neg =>
    simp -implicitDefEqProofs [go_sem, h1]
    refine Wp.s ?_
    simp -implicitDefEqProofs [go_sem]
    exact bad (openV_2 h0 h1) (by simp) (by simp)
  simp -implicitDefEqProofs [go_sem, h1]
  refine Wp.s ?_
  simp -implicitDefEqProofs [go_sem]
  refine SWp0.seq (SWp.s0 (SWp.seq (Wp.s ?_)))
  by_cases h2 : (d.stable.length : Int) < (sizeV l n).1
  · simp -implicitDefEqProofs [go_sem, h2]
    refine Wp.s ?_
    simp -implicitDefEqProofs [go_sem]
    exact bad (openV_3 h0 h1 h2) (by simp) (by simp)
  simp -implicitDefEqProofs [go_sem, h2]
  refine Wp.s ?_
  simp -implicitDefEqProofs [go_sem]
  obtain ⟨z1, z2, z3, z4⟩ := sizeV_ok h1
  have hz := SzOk.of z1
  have hzl := (sizesE_0 z1)
  refine SWp0.seq (SWp.s0 (Wp.s ?_))
  simp -implicitDefEqProofs [go_sem]
  refine CC.mono (Open_cc _ _ 0 n d hd (loadS_len d 0)) ?_
  rintro _ _ _ ⟨rfl, rfl, rfl⟩
  have e5 := openV_5 (l := l) (n := n) h0 h1 h2
  have e4 := openV_4 (l := l) (n := n) h0 h1 h2
  obtain ⟨o1, o2, o3, o4⟩ := openJ_bd 0 n d
  have o5 := openJ_pay 0 n d
  have o6 := openJ_chk (s := 0) (c := n) (d := d)
  generalize openJ 0 n d = oj at e4 e5 o1 o2 o3 o4 o5 o6 ⊢
  obtain ⟨j, rs, ops, eo⟩ := oj
  dsimp only at e4 e5 o1 o2 o3 o4 o5 o6
  simp -implicitDefEqProofs [go_sem, opV]
  refine SWp0.seq (SWp.s0 (SWp.seq (Wp.s ?_)))
  by_cases h4 : eo = 0
  case neg =>
    have h4' : ¬ (eo : Int) = 0 := by omega
    simp -implicitDefEqProofs [go_sem, h4, h4']
    refine Wp.s ?_
    simp -implicitDefEqProofs [go_sem]
    exact bad (e4 h4) (by simp) (by simp)
  subst h4
  replace e5 := e5 rfl
  have hjf := chkJ_first (o6 rfl)
  simp -implicitDefEqProofs [go_sem]
  refine Wp.s ?_
  simp -implicitDefEqProofs [go_sem]
  obtain ⟨m, rfl⟩ : ∃ m : Nat, n = (m : Int) := ⟨n.toNat, by omega⟩
  have hin : (m : Int) + sumI l ≤ d.stable.length := by rw [z4] at h2; omega
  have hsz := imgSz_area (s := newestD d) (a := m) hz (by rw [newestD_len]; exact hin)
  rw [Int.toNat_natCast] at e5
  refine SWp0.seq (SWp.s0 (Wp.s ?_))
  simp -implicitDefEqProofs [go_sem]
  refine CC.mono (content_cc _ _ d l m hd h0 hz hin) ?_
  rintro _ _ _ ⟨rfl, rfl, rfl⟩
  generalize areaI (newestD d) m l = im at hsz e5 ⊢
  have him := img_small z1 hsz
  simp -implicitDefEqProofs [go_sem]
  refine SWp0.seq (SWp.s0 (SWp.seq (Wp.s ?_)))
  simp -implicitDefEqProofs [go_sem]
  refine Wp.s ?_
  simp -implicitDefEqProofs [go_sem]
  have w1 : IntKind.i64.wrap (j.first - 1) = j.first - 1 := IntWalk.i64_in _ ⟨by omega, by omega⟩
  refine SWp0.seq (SWp.s0 (SWp.drawnT [] [9] (.s 0 .pl <| .s 2 .pl <| .s 3 .pl <| .s 4 .pl <| .s 5 .pl <| .s 6 .pl <| .c 1 <| .s 7 .pl <| .s 8 .pl <| .s 9 .st <| .n) (by kernel_rfl) (by kernel_rfl) ?_))
  simp -implicitDefEqProofs [go_sem, w1]
  refine ⟨_, fun H V => vcloneInt_cc H V .sh l (by omega), ?_⟩
  simp -implicitDefEqProofs [go_sem, w1, jrC]
  refine SWp0.seq (SWp0.seq (SWp.s0 (Wp.s ?_)))
  simp -implicitDefEqProofs [go_sem]
  refine CC.mono (writes_cc _ _ im rs) ?_
  rintro _ _ _ ⟨rfl, rfl, rfl⟩
  simp -implicitDefEqProofs [go_sem]
  simp only [Nat.add_assoc, Nat.reduceAdd]
  obtain ⟨TT, hTT⟩ : ∃ TT : Tm, TT = [(6, .ptr (H.length + 1) 0), (7, .ptr (H.length + 2) 0), (8, .ptr (H.length + 3) 0), (14, opsV ops), (15, imV im), (16, .ptr (H.length + 5) 0), (75, .fn 150 [.ptr (H.length + 7) 0, .ptr (H.length + 6) 0])] := ⟨_, rfl⟩
  refine SWp0.ghost (T' := TT) (H' := H ++ [some (dkC d), some zstC, some [.v (.slice none 0 0)], some [ci 0], some (jrC j), some (stO l j m (.sl (.own V.length 0) 3 []) (.v (.slice none 0 0))), some [.sl .sh 1 (im.map imE)], some [.sl .sh 3 (rs.map rcC)]]) (V' := V ++ [0]) (Sh.tokL (b := H.length + 5) (ds := stO l j m (.sl (.own V.length 0) 3 []) (.v (.slice none 0 0))) (hget _ _ 5) (by simp [go_sem]) (by simp [CV.isObj]) (by rw [hTT]; simp [go_sem]) ?_ rfl) ?_
  · simp [go_sem]
    exact ⟨rfl, rfl⟩
  refine SWp0.block (SWp0.range TT (by rw [hTT]; rfl) (by rw [hTT]; simp [go_sem]) ?_)
  simp -implicitDefEqProofs [go_sem]
  generalize hbd : Code.block 1 _ = bd
  generalize has : Code.seq (Code.region 17 _ _) _ = asg
  refine CC.mono (writes1_cc (HV H d zstC (ci 0) j (stO l j m (.sl (.own V.length 0) 3 []) (.v (.slice none 0 0))) im rs (some [lpc 102 #[76, 77] asg bd TT .ready none])) (V ++ [0]) (H.length + 8) (H.length + 7) (H.length + 6) im rs (hget _ _ 7) (hget _ _ 6) (by omega) (fun r hr => by have := o5 r hr; omega) him.1 him.2 (fun r hr w hw => by have := sng_len hw; have := o5 r hr; omega)
    (fun i G V' => WrI im rs i ∧ V' = V ++ [i] ∧ G = HV H d zstC (ci 0) j (stO l j m (.sl (.own V.length i) 3 ((wvU im rs i).map wrC)) (.v (.slice none 0 0))) im rs (some [lpc 102 #[76, 77] asg bd TT .ready none]))
    (fun G V' => (WrI im rs rs.length ∧ V' = V ++ [rs.length] ∧ G = HV H d zstC (ci 0) j (stO l j m (.sl (.own V.length rs.length) 3 ((wvU im rs rs.length).map wrC)) (.v (.slice none 0 0))) im rs (some [lpc 102 #[76, 77] asg bd TT .ready none])) ∨
      ∃ i, ∃ h : i < rs.length, WrI im rs i ∧ (wrE im rs[i]).2 ≠ 0 ∧ V' = V ++ [i] ∧ G = HV H d zstC (er (wrE im rs[i]).2) j (stO l j m (.sl (.own V.length i) 3 ((wvU im rs i).map wrC)) (.v (.slice none 0 0))) im rs (some [lpc 102 #[76, 77] asg bd TT .done (some .ret)]))
    ⟨fun k h hk => absurd hk (Nat.not_lt_zero _), rfl, rfl⟩ ?_ ?_ ?_ ?_) ?_
  · rintro i _ V' ⟨-, rfl, rfl⟩
    exact ⟨by simp, hget _ _ 7, hget _ _ 6⟩
  · rintro i h hok' _ _ W ⟨hwi, rfl, rfl⟩
    refine YC.of_round (n := 102) (ps := #[76, 77]) (bd := bd) (T := TT) (by rw [List.append_assoc]; exact hget _ _ 8) rfl (by decide) ?_
    subst hbd has
    refine SWp.seq (Wp.s ?_)
    simp -implicitDefEqProofs [go_sem, tps, hTT]
    refine Wp.s ?_
    simp -implicitDefEqProofs [go_sem]
    generalize hlp : lpc 102 #[76, 77] _ _ _ LoopState.busy none = lp
    generalize hqq : RQ 102 #[76, 77] _ _ _ _ _ = QQ
    refine SWp.block (SWp.seq (SWp.seq (Wp.s ?_)))
    simp -implicitDefEqProofs [go_sem]
    refine Wp.s ?_
    simp -implicitDefEqProofs [go_sem]
    have hwl := wvU_len (im := im) (rs := rs) (i := i) (by omega)
    have hws := wvU_s (im := im) h
    have hwn : WrI im rs (i + 1) := fun k hk hki => by
      rcases Nat.lt_or_eq_of_le (Nat.le_of_lt_succ hki) with e | e
      · exact hwi k hk e
      · subst e; exact hok'
    refine Wp.s ?_
    simp -implicitDefEqProofs [go_sem, hwl]
    refine ⟨by omega, ?_⟩
    rw [← hqq, ← hlp]
    refine ⟨hget _ _ 8, rfl, _, ⟨hwn, rfl, rfl⟩, [some (wrC (wrE im rs[i]).1)], ?_⟩
    rw [hws]
    simp [go_sem]
  · rintro i h hne _ _ W ⟨hwi, rfl, rfl⟩
    have hne' : ¬ ((wrE im rs[i]).2 : Int) = 0 := by omega
    refine YC.of_round (n := 102) (ps := #[76, 77]) (bd := bd) (T := TT) (by rw [List.append_assoc]; exact hget _ _ 8) rfl (by decide) ?_
    subst hbd has
    refine SWp.seq (Wp.s ?_)
    simp -implicitDefEqProofs [go_sem, tps, hTT]
    refine Wp.s ?_
    simp -implicitDefEqProofs [go_sem]
    generalize hlp : lpc 102 #[76, 77] _ _ _ LoopState.busy none = lp
    generalize hqq : RQ 102 #[76, 77] _ _ _ _ _ = QQ
    refine SWp.block (SWp.seq (SWp.seq (Wp.s ?_)))
    simp -implicitDefEqProofs [go_sem, hne, hne']
    refine Wp.s ?_
    simp -implicitDefEqProofs [go_sem]
    rw [← hqq, ← hlp]
    refine ⟨hget _ _ 8, .inl rfl, _, .inr ⟨i, hwi, h, hne, rfl, rfl⟩, [some (wrC (wrE im rs[i]).1)], ?_⟩
    simp [go_sem]
    rfl
  · rintro _ _ ⟨h1, rfl, rfl⟩
    exact .inl ⟨h1, rfl, rfl⟩
  · rintro _ _ _ ⟨G, W, hQ, rfl⟩
    rcases hQ with ⟨hw, rfl, rfl⟩ | ⟨i, h, hwi, hne, rfl, rfl⟩
    · refine .inl ⟨by rw [List.append_assoc]; exact hget _ _ 8, ?_⟩
      have hws := wrsV_ok hw
      rw [hws] at e5
      have hwl := wvU_len (im := im) (rs := rs) (i := rs.length) (Nat.le_refl _)
      have hwd : ∀ w ∈ wvU im rs rs.length, w.data.length ≤ 1000000000 ∧ fitsS (imgSz im) w = 0 := fun w hm => by
        rw [wvU, List.take_length] at hm
        obtain ⟨r, hr, rfl⟩ := List.mem_map.1 hm
        obtain ⟨k, hk, rfl⟩ := List.getElem_of_mem hr
        obtain ⟨f1, f2⟩ := wrE_fits (hw k hk hk)
        have := sng_len f2
        have := o5 _ (List.getElem_mem hk)
        refine ⟨by omega, ?_⟩
        rwa [fitsI, if_neg (by rw [hsz]; simp [z1])] at f1
      generalize wvU im rs rs.length = ws at e5 hwl hwd ⊢
      have har : apR im ws = (apF im ws, 0, 0) := apR_F (by rw [hsz]; exact z1) fun w hm => (hwd w hm).2
      refine SWp0.seq (SWp0.seq (SWp.s0 (Wp.s ?_)))
      simp -implicitDefEqProofs [go_sem, hTT]
      refine CC.le (ys := [.sl .sh 1 (im.map imE), .sl .sh 3 (ws.map wrC)]) (.cons (.refl _) (.cons (.sh _ _ _) .nil)) ?_
      refine CC.mono (replay_cc _ _ .sh im ws him.1 (by omega) (fun w hm => (hwd w hm).1)) ?_
      rintro _ _ _ ⟨rfl, rfl, rfl⟩
      rw [har]
      simp -implicitDefEqProofs [go_sem]
      refine SWp0.seq (SWp.s0 (Wp.s ?_))
      simp -implicitDefEqProofs [go_sem]
      refine SWp.s0 (Wp.s ?_)
      simp -implicitDefEqProofs [go_sem]
      refine SWp0.seq (SWp.s0 (Wp.s ?_))
      simp -implicitDefEqProofs [go_sem]
      refine SWp.s0 (Wp.s ?_)
      simp -implicitDefEqProofs [go_sem]
      have e6 : openV d l m = (⟨l, j, m, j.first - 1, ws, apF im ws⟩, ops, 0) := by
        rw [e5]
        dsimp only
        rw [har]
      rw [e6]
      refine Fin.pu (.tup (.cons (.agg ?_) (.cons (.refl _) (.cons (.refl _) .nil)))) (okV_flV _ _ _) hokH (by simp) (by simp)
      exact .cons (.refl _) (.cons (.refl _) (.cons (.refl _) (.cons (.refl _) (.cons (.refl _) (.cons (.refl _) (.cons (.refl _) (.cons (.refl _) (.cons (.refl _) (.cons (.sh _ _ _) (.cons (.refl _) .nil))))))))))
    · refine .inr (.inl ⟨by rw [List.append_assoc]; exact hget _ _ 8, ?_⟩)
      rw [wrsV_err h hwi hne] at e5
      simp -implicitDefEqProofs [go_sem, blk, thn, hTT]
      exact bad e5 (by simp) (by simp)
end Go.Proofs.YtbnkggbpocaaiaaGreatDoor
namespace Go.Proofs.YtbnkggbpocaaiaaGreatDoor
open Go.Proofs
set_option maxRecDepth 8000 in
set_option maxHeartbeats 1600000 in
theorem rOpen_cc (H : Hp) (V : List Nat) (d : Dk) (l : List Int) (n : Int) (hd : DkS d) (hl : l.length ≤ 9223372036854775807) : CC Tryz.prog 38 [.agg (dkC d), .sl .sh 1 (l.map ic), ci n] H V (Pu (flV (openV d l n)) H V) := by
  refine CC.of_swp Tryz.func38 rfl (by kernel_rfl) (by rw [Tryz.ntmps38]; exact len_le _ _ rfl) fun hok hokH => ?_
  clear hok
  have bad : ∀ {e : Nat} {H' : Hp} {V' : List Nat}, openV d l n = (zsto, [], e) → H'.take H.length = H → V'.take V.length = V → Fin H.length V.length (Pu (flV (openV d l n)) H V) (.tup [.agg zstC, .v (.slice none 0 0), er e]) H' V' := fun h1 h2 h3 => by
    rw [h1]
    exact Fin.pu (.tup (.cons (.agg zsto_le) (.cons (.nil 3 (by decide)) (.cons (.refl _) .nil)))) (okV_flV _ _ _) hokH h2 h3
  refine SWp.seq (Wp.s ?_)
  simp -implicitDefEqProofs [go_sem, args0]
  refine SWp.seq (SWp.seq (Wp.s ?_))
  simp -implicitDefEqProofs [go_sem]
  refine CC.mono (srCheck_cc _ _ d hd) ?_
  rintro _ _ _ ⟨rfl, rfl, rfl⟩
  simp -implicitDefEqProofs [go_sem]
  refine SWp.seq (Wp.s ?_)
  by_cases h0 : checkD d = 0
  case neg =>
    simp -implicitDefEqProofs [go_sem, h0]
    refine Wp.s ?_
    simp -implicitDefEqProofs [go_sem]
    exact bad (openV_1 h0) (by simp) (by simp)
  simp -implicitDefEqProofs [go_sem, h0]
  refine Wp.s ?_
  simp -implicitDefEqProofs [go_sem]
  refine SWp.seq (Wp.s ?_)
  simp -implicitDefEqProofs [go_sem]
  refine CC.mono (rSize_cc _ _ .sh l n hl) ?_
  rintro _ _ _ ⟨rfl, rfl, rfl⟩
  simp -implicitDefEqProofs [go_sem]
  refine SWp.seq (SWp.seq (Wp.s ?_))
  by_cases h1 : (sizeV l n).2 = 0
  case neg =>
    simp -implicitDefEqProofs [go_sem, h1]
    refine Wp.s ?_
    simp -implicitDefEqProofs [go_sem]
    exact bad (openV_2 h0 h1) (by simp) (by simp)
  simp -implicitDefEqProofs [go_sem, h1]
  refine Wp.s ?_
  simp -implicitDefEqProofs [go_sem]
  refine SWp.seq (SWp.seq (Wp.s ?_))
  by_cases h2 : (d.stable.length : Int) < (sizeV l n).1
  · simp -implicitDefEqProofs [go_sem, h2]
    refine Wp.s ?_
    simp -implicitDefEqProofs [go_sem]
    exact bad (openV_3 h0 h1 h2) (by simp) (by simp)
  simp -implicitDefEqProofs [go_sem, h2]
  refine Wp.s ?_
  simp -implicitDefEqProofs [go_sem]
  obtain ⟨z1, z2, z3, z4⟩ := sizeV_ok h1
  have hz := SzOk.of z1
  have hzl := (sizesE_0 z1)
  refine SWp.seq (Wp.s ?_)
  simp -implicitDefEqProofs [go_sem]
  refine CC.mono (refOpen_cc _ _ 0 n d hd) ?_
  rintro _ _ _ ⟨rfl, rfl, rfl⟩
  have e5 := openV_5 (l := l) (n := n) h0 h1 h2
  have e4 := openV_4 (l := l) (n := n) h0 h1 h2
  obtain ⟨o1, o2, o3, o4⟩ := openJ_bd 0 n d
  have o5 := openJ_pay 0 n d
  have o6 := openJ_chk (s := 0) (c := n) (d := d)
  generalize openJ 0 n d = oj at e4 e5 o1 o2 o3 o4 o5 o6 ⊢
  obtain ⟨j, rs, ops, eo⟩ := oj
  dsimp only at e4 e5 o1 o2 o3 o4 o5 o6
  simp -implicitDefEqProofs [go_sem, opV]
  refine SWp.seq (SWp.seq (Wp.s ?_))
  by_cases h4 : eo = 0
  case neg =>
    have h4' : ¬ (eo : Int) = 0 := by omega
    simp -implicitDefEqProofs [go_sem, h4, h4']
    refine Wp.s ?_
    simp -implicitDefEqProofs [go_sem]
    exact bad (e4 h4) (by simp) (by simp)
  subst h4
  replace e5 := e5 rfl
  have hjf := chkJ_first (o6 rfl)
  simp -implicitDefEqProofs [go_sem]
  refine Wp.s ?_
  simp -implicitDefEqProofs [go_sem]
  obtain ⟨m, rfl⟩ : ∃ m : Nat, n = (m : Int) := ⟨n.toNat, by omega⟩
  have hin : (m : Int) + sumI l ≤ d.stable.length := by rw [z4] at h2; omega
  have hsz := imgSz_area (s := newestD d) (a := m) hz (by rw [newestD_len]; exact hin)
  rw [Int.toNat_natCast] at e5
  have w1 : IntKind.i64.wrap (j.first - 1) = j.first - 1 := IntWalk.i64_in _ ⟨by omega, by omega⟩
  refine SWp.seq (SWp.drawnT [] [9] (.s 0 .pl <| .s 2 .pl <| .s 3 .pl <| .s 4 .pl <| .s 5 .pl <| .s 6 .pl <| .c 1 <| .s 7 .pl <| .s 8 .pl <| .s 9 .st <| .n) (by kernel_rfl) (by kernel_rfl) ?_)
  simp -implicitDefEqProofs [go_sem, w1]
  refine ⟨_, fun H V => ints_cc H V .sh l (by omega), ?_⟩
  simp -implicitDefEqProofs [go_sem, w1, jrC]
  refine SWp.join (α := Nat) (fun v => ([(1, .sl .sh 1 (l.map ic)), (3, .ptr H.length 0), (6, .ptr (H.length + 1) 0), (13, .sl .sh 3 (rs.map rcC)), (14, opsV ops), (15, .ptr (H.length + 3) 0)], H ++ [some (dkC d), some zstC, some (jrC j), some (stO l j m (.v (.slice none 0 0)) (.sl (.own V.length v) 1 (arX (newestD d) m l l.length)))], V ++ [v])) (fun _ => True) ?_ ?_
  · refine SWp.seq (Wp.s ?_)
    simp -implicitDefEqProofs [go_sem]
    refine SWp.block ?_
    refine SWp.loop (α := Nat × Nat) (fun x => ([(1, .sl .sh 1 (l.map ic)), (3, .ptr H.length 0), (6, .ptr (H.length + 1) 0), (13, .sl .sh 3 (rs.map rcC)), (14, opsV ops), (15, .ptr (H.length + 3) 0), (16, ci x.1)], H ++ [some (dkC d), some zstC, some (jrC j), some (stO l j m (.v (.slice none 0 0)) (.sl (.own V.length x.2) 1 (arX (newestD d) m l x.1)))], V ++ [x.2])) (fun x => x.1 ≤ l.length) (fun x => l.length - x.1) (0, 0) (Nat.zero_le _) ?_ ?_
    · refine Sh.tokL (b := H.length + 3) (ds := stO l j m (.v (.slice none 0 0)) (.sl (.own V.length 0) 1 [])) (hget _ _ 3) (by simp [go_sem]) (by simp [CV.isObj]) (by simp [go_sem]) ?_ rfl
      simp [go_sem]
      exact ⟨rfl, rfl, rfl⟩
    rintro ⟨i, v⟩ hi
    dsimp only at hi ⊢
    refine SWp.seq (SWp.seq (Wp.s ?_))
    by_cases h : i < l.length
    case neg =>
      obtain rfl : i = l.length := by omega
      simp -implicitDefEqProofs [go_sem]
      refine Wp.s ?_
      simp -implicitDefEqProofs [go_sem]
      exact ⟨v, Sh.forget (by simp [go_sem]) rfl rfl⟩
    simp -implicitDefEqProofs [go_sem, h]
    refine Wp.s ?_
    simp -implicitDefEqProofs [go_sem]
    have hsu := hz.sum i
    have hl0 := hz.2 l[i] (List.getElem_mem h)
    have hl1 := hz.1
    have htk := sumI_take l i h
    have hmo : sumI (l.take (i + 1)) ≤ sumI l := by
      have e := sumI_app (l.take (i + 1)) (l.drop (i + 1))
      rw [List.take_append_drop] at e
      have hd2 : SzOk (l.drop (i + 1)) := ⟨by rw [List.length_drop]; omega, fun n hn => hz.2 n (List.mem_of_mem_drop hn)⟩
      have := hd2.sum'
      omega
    have hst := checkD_0 h0
    obtain ⟨q, hq⟩ : ∃ q : Nat, sumI (l.take i) = (q : Int) := ⟨(sumI (l.take i)).toNat, by omega⟩
    obtain ⟨k, hk⟩ : ∃ k : Nat, l[i] = (k : Int) := ⟨l[i].toNat, by omega⟩
    have hrd : readD d ((m : Int) + (q : Int)) (k : Int) = (((newestD d).drop (m + q)).take k, 0) := by
      rw [readD, if_neg (by simp [h0]), if_neg (by simp [insideB]; omega)]
      rw [show ((m : Int) + (q : Int)).toNat = m + q by omega, Int.toNat_natCast]
    have hxs := arX_s (newestD d) m l i
    have hxl := arX_len (newestD d) m l i
    have hxe : arX (newestD d) m l i = (areaX (newestD d) m l i).map imE := rfl
    rw [hq, Int.toNat_natCast, List.getD_eq_getElem?_getD, List.getElem?_eq_getElem h, Option.getD_some, hk, Int.toNat_natCast] at hxs
    generalize arX (newestD d) m l i = M at hxs hxl hxe ⊢
    refine SWp.seq (SWp.block (SWp.seq (SWp.drawnT [] [] (.s 0 .pl <| .s 1 .pl <| .s 2 .pl <| .s 4 .pl <| .s 5 .pl <| .s 6 .pl <| .s 7 .pl <| .s 3 .pl <| .s 8 .pl <| .s 9 .pl <| .s 10 .pl <| .s 11 .pl <| .s 12 .pl <| .s 13 .pl <| .s 14 .pl <| .n) (by kernel_rfl) (by kernel_rfl) ?_)))
    simp -implicitDefEqProofs [go_sem, h, hk]
    refine CC.le (ys := [.agg (stoC ⟨l, j, m, j.first - 1, [], areaX (newestD d) m l i⟩), ci i, ci 0]) (.cons (.agg (.cons (.refl _) (.cons (.refl _) (.cons (.refl _) (.cons (.refl _) (.cons (.refl _) (.cons (.refl _) (.cons (.refl _) (.cons (.refl _) (.cons (.refl _) (.cons (.nil 3 (by decide)) (.cons (by rw [hxe]; exact .sh _ _ _) .nil)))))))))))) (.cons (.refl _) (.cons (.refl _) .nil))) ?_
    refine CC.mono (rPlace_cc _ _ ⟨l, j, m, j.first - 1, [], areaX (newestD d) m l i⟩ i 0 hz (by show i ≤ l.length; omega) (by show (0 : Int) ≤ m; omega) (by show (m : Int) ≤ 100000; omega) (by decide) (by decide)) ?_
    rintro _ _ _ ⟨rfl, rfl, rfl⟩
    rw [show ((⟨l, j, m, j.first - 1, [], areaX (newestD d) m l i⟩ : Sto).data + sumI ((⟨l, j, m, j.first - 1, [], areaX (newestD d) m l i⟩ : Sto).sizes.take i) + 0 : Int) = (m : Int) + (q : Int) by show (m : Int) + sumI (l.take i) + 0 = _; omega]
    simp -implicitDefEqProofs [go_sem, h, hk]
    refine CC.mono (srRead_cc _ _ d ⟨(m : Int) + (q : Int), (k : Int)⟩ hd) ?_
    rintro _ _ _ ⟨rfl, rfl, rfl⟩
    dsimp only
    rw [hrd]
    simp -implicitDefEqProofs [go_sem]
    refine Wp.s ?_
    simp -implicitDefEqProofs [go_sem, hxl]
    refine ⟨by omega, ?_⟩
    refine Wp.s ?_
    simp -implicitDefEqProofs [go_sem]
    refine ⟨i + 1, by omega, by omega, v + 1, Sh.forget ?_ ?_ (by simp)⟩
    · simp [go_sem, wrap_succ (show i ≤ 1000000000 by omega)]
    · rw [hxs]
      simp [go_sem, imE, secsV, List.map_take, List.map_drop]
  rintro v -
  dsimp only
  have hxe : arX (newestD d) m l l.length = (areaI (newestD d) m l).map imE := rfl
  rw [hxe]
  generalize areaI (newestD d) m l = im at hsz e5 ⊢
  have him := img_small z1 hsz
  have hfe : ∀ w, fitsI im w = fitsS l w := fun w => by rw [fitsI, if_neg (by rw [hsz]; simp [z1]), hsz]
  refine SWp.join (α := Unit) (fun _ => ([(6, .ptr (H.length + 1) 0), (14, opsV ops), (15, .ptr (H.length + 3) 0)], H ++ [some (dkC d), some zstC, some (jrC j), some (stO l j m (.sl (.own (V.length + 1) rs.length) 3 ((wvU im rs rs.length).map wrC)) (.sl (.own V.length v) 1 (im.map imE)))], V ++ [v] ++ [rs.length])) (fun _ => WrI im rs rs.length) ?_ ?_
  · refine SWp.seq (Wp.s ?_)
    simp -implicitDefEqProofs [go_sem]
    refine SWp.block ?_
    refine SWp.loop (α := Nat) (fun i => ([(1, .sl .sh 1 (l.map ic)), (6, .ptr (H.length + 1) 0), (13, .sl .sh 3 (rs.map rcC)), (14, opsV ops), (15, .ptr (H.length + 3) 0), (19, ci i)], H ++ [some (dkC d), some zstC, some (jrC j), some (stO l j m (.sl (.own (V.length + 1) i) 3 ((wvU im rs i).map wrC)) (.sl (.own V.length v) 1 (im.map imE)))], V ++ [v] ++ [i])) (fun i => i ≤ rs.length ∧ WrI im rs i) (fun i => rs.length - i) 0 ⟨Nat.zero_le _, fun k h hk => absurd hk (Nat.not_lt_zero _)⟩ ?_ ?_
    · refine Sh.tokL (b := H.length + 3) (ds := stO l j m (.sl (.own (V.length + 1) 0) 3 []) (.sl (.own V.length v) 1 (im.map imE))) (hget _ _ 3) (by simp [go_sem]) (by simp [CV.isObj]) (by simp [go_sem]) ?_ rfl
      simp [go_sem, wvU]
    rintro i ⟨hi, hwi⟩
    dsimp only at hi ⊢
    refine SWp.seq (SWp.seq (Wp.s ?_))
    by_cases h : i < rs.length
    case neg =>
      obtain rfl : i = rs.length := by omega
      simp -implicitDefEqProofs [go_sem]
      refine Wp.s ?_
      simp -implicitDefEqProofs [go_sem]
      exact ⟨hwi, Sh.forget (by simp [go_sem]) rfl rfl⟩
    simp -implicitDefEqProofs [go_sem, h]
    refine Wp.s ?_
    simp -implicitDefEqProofs [go_sem]
    have herr : ∀ {e : Nat}, (wrE im rs[i]).2 = e → e ≠ 0 → openV d l m = (zsto, [], e) := fun he hne => by
      rw [e5, wrsV_err h hwi (by rw [he]; exact hne), he]
    have hpay := o5 _ (List.getElem_mem h)
    refine SWp.seq (SWp.block (SWp.seq (Wp.s ?_)))
    simp -implicitDefEqProofs [go_sem, h]
    refine CC.mono (refWrites_cc _ _ .sh rs[i].pay (by omega)) ?_
    rintro _ _ _ ⟨rfl, rfl, rfl⟩
    have hs : sng rs[i] = if rs[i].kind = 1 then sngP (listP wrP rs[i].pay) else none := rfl
    generalize listP wrP rs[i].pay = x at hs ⊢
    have no : sng rs[i] = none → openV d l m = (zsto, [], 3) := fun q => herr (by rw [wrE_none q]) (by decide)
    have w0 : ∀ x, sng rs[i] = some x → (wrE im rs[i]).2 = fitsS l x ∧ (wrE im rs[i]).1 = x := fun x q => by rw [wrE_some q, hfe]; exact ⟨rfl, rfl⟩
    cases x with
    | error e =>
      have hs' : sng rs[i] = none := by rw [hs]; split <;> rfl
      simp -implicitDefEqProofs [go_sem, rdv]
      refine SWp.seq (SWp.seq (Wp.s ?_))
      by_cases hk : rs[i].kind = 1
      · simp -implicitDefEqProofs [go_sem, h, hk]
        refine ⟨fun _ => ?_, fun _ => ?_⟩
        · refine Wp.s ?_
          simp -implicitDefEqProofs [go_sem]
          exact bad (no hs') (by simp) (by simp)
        · refine Wp.s ?_
          simp -implicitDefEqProofs [go_sem]
          exact bad (no hs') (by simp) (by simp)
      · simp -implicitDefEqProofs [go_sem, h, hk]
        refine Wp.s ?_
        simp -implicitDefEqProofs [go_sem]
        exact bad (no hs') (by simp) (by simp)
    | ok x =>
    obtain ⟨lw, sr⟩ := x
    simp -implicitDefEqProofs [go_sem, rdv]
    refine SWp.seq (SWp.seq (Wp.s ?_))
    by_cases hk : rs[i].kind = 1
    case neg =>
      rw [if_neg hk] at hs
      simp -implicitDefEqProofs [go_sem, h, hk]
      refine Wp.s ?_
      simp -implicitDefEqProofs [go_sem]
      exact bad (no hs) (by simp) (by simp)
    rw [if_pos hk] at hs
    match lw with
    | [] =>
      have hs' : sng rs[i] = none := by rw [hs]; rfl
      simp -implicitDefEqProofs [go_sem, h, hk]
      refine Wp.s ?_
      simp -implicitDefEqProofs [go_sem]
      exact bad (no hs') (by simp) (by simp)
    | a :: b :: lw =>
      have hs' : sng rs[i] = none := by rw [hs]; rfl
      have hb : ¬ (lw.length : Int) + 1 + 1 = 1 := by omega
      simp -implicitDefEqProofs [go_sem, h, hk, hb]
      refine Wp.s ?_
      simp -implicitDefEqProofs [go_sem]
      exact bad (no hs') (by simp) (by simp)
    | [w] =>
    cases sr with
    | cons b sr =>
      have hs' : sng rs[i] = none := by rw [hs]; rfl
      have hb : 0 < (sr.length : Int) + 1 := by omega
      simp -implicitDefEqProofs [go_sem, h, hk, hb]
      refine Wp.s ?_
      simp -implicitDefEqProofs [go_sem]
      exact bad (no hs') (by simp) (by simp)
    | nil =>
    have hs' : sng rs[i] = some w := by rw [hs]; rfl
    obtain ⟨we, ww⟩ := w0 w hs'
    have hwd : w.data.length ≤ 1000000000 := by have := sng_len hs'; omega
    simp -implicitDefEqProofs [go_sem, h, hk]
    refine Wp.s ?_
    simp -implicitDefEqProofs [go_sem]
    refine SWp.seq (SWp.seq (Wp.s ?_))
    simp -implicitDefEqProofs [go_sem]
    refine CC.mono (refFits_cc _ _ .sh l w (by omega) hzl.2.2 hwd) ?_
    rintro _ _ _ ⟨rfl, rfl, rfl⟩
    simp -implicitDefEqProofs [go_sem]
    refine SWp.seq (Wp.s ?_)
    by_cases hf : fitsS l w = 0
    case neg =>
      have hf' : ¬ (fitsS l w : Int) = 0 := by omega
      simp -implicitDefEqProofs [go_sem, hf, hf']
      refine Wp.s ?_
      simp -implicitDefEqProofs [go_sem]
      exact bad (herr we hf) (by simp) (by simp)
    simp -implicitDefEqProofs [go_sem, hf]
    refine Wp.s ?_
    simp -implicitDefEqProofs [go_sem]
    have hwl := wvU_len (im := im) (rs := rs) (i := i) (by omega)
    have hws := wvU_s (im := im) h
    rw [ww] at hws
    have hwn : WrI im rs (i + 1) := fun k hk hki => by
      rcases Nat.lt_or_eq_of_le (Nat.le_of_lt_succ hki) with e | e
      · exact hwi k hk e
      · subst e; rw [we, hf]
    refine SWp.drawnT [] [8] (.s 0 .pl <| .s 1 .pl <| .s 2 .pl <| .s 3 .pl <| .s 4 .pl <| .s 5 .pl <| .s 6 .pl <| .s 7 .pl <| .s 8 .st <| .n) (by kernel_rfl) (by kernel_rfl) ?_
    simp -implicitDefEqProofs [go_sem, hwl]
    refine ⟨by omega, ?_⟩
    refine Wp.s ?_
    simp -implicitDefEqProofs [go_sem]
    refine ⟨i + 1, ⟨by omega, hwn⟩, by omega, Sh.forget ?_ ?_ ?_⟩
    · simp [go_sem, wrap_succ (show i ≤ 1000000000 by omega)]
    · rw [hws]; simp [go_sem]
    · simp
  rintro _ hw
  dsimp only
  have hws := wrsV_ok hw
  rw [hws] at e5
  have hwl := wvU_len (im := im) (rs := rs) (i := rs.length) (Nat.le_refl _)
  have hwd : ∀ w ∈ wvU im rs rs.length, w.data.length ≤ 1000000000 ∧ fitsS (imgSz im) w = 0 := fun w hm => by
    rw [wvU, List.take_length] at hm
    obtain ⟨r, hr, rfl⟩ := List.mem_map.1 hm
    obtain ⟨k, hk, rfl⟩ := List.getElem_of_mem hr
    obtain ⟨f1, f2⟩ := wrE_fits (hw k hk hk)
    have := sng_len f2
    have := o5 _ (List.getElem_mem hk)
    refine ⟨by omega, ?_⟩
    rwa [fitsI, if_neg (by rw [hsz]; simp [z1])] at f1
  generalize wvU im rs rs.length = ws at e5 hwl hwd ⊢
  have har : apR im ws = (apF im ws, 0, 0) := apR_F (by rw [hsz]; exact z1) fun w hm => (hwd w hm).2
  refine SWp.seq (Wp.s ?_)
  simp -implicitDefEqProofs [go_sem]
  refine CC.le (ys := [.sl .sh 1 (im.map imE), .sl .sh 3 (ws.map wrC)]) (.cons (.sh _ _ _) (.cons (.sh _ _ _) .nil)) ?_
  refine CC.mono (rApply_cc _ _ im ws him.1 (by omega) (fun w hm => (hwd w hm).1)) ?_
  rintro _ _ _ ⟨rfl, rfl, rfl⟩
  rw [har]
  simp -implicitDefEqProofs [go_sem, apV]
  refine SWp.seq (Wp.s ?_)
  simp -implicitDefEqProofs [go_sem]
  refine Wp.s ?_
  simp -implicitDefEqProofs [go_sem]
  have e6 : openV d l m = (⟨l, j, m, j.first - 1, ws, apF im ws⟩, ops, 0) := by
    rw [e5]
    dsimp only
    rw [har]
  rw [e6]
  refine Fin.pu (.tup (.cons (.agg ?_) (.cons (.refl _) (.cons (.refl _) .nil)))) (okV_flV _ _ _) hokH (by simp) (by simp)
  exact .cons (.refl _) (.cons (.refl _) (.cons (.refl _) (.cons (.refl _) (.cons (.refl _) (.cons (.refl _) (.cons (.refl _) (.cons (.refl _) (.cons (.refl _) (.cons (.sh _ _ _) (.cons (.refl _) .nil))))))))))
end Go.Proofs.YtbnkggbpocaaiaaGreatDoor
namespace Go.Proofs.YtbnkggbpocaaiaaGreatDoor
open Go.Proofs
theorem openV_S {d : Dk} {l : List Int} {n : Int} (hd : d.stable.length ≤ 1000000) : StS (openV d l n).1 := by
  by_cases h0 : checkD d = 0
  case neg => rw [openV_1 h0]; exact zsto_S
  by_cases h1 : (sizeV l n).2 = 0
  case neg => rw [openV_2 h0 h1]; exact zsto_S
  by_cases h2 : (d.stable.length : Int) < (sizeV l n).1
  · rw [openV_3 h0 h1 h2]; exact zsto_S
  by_cases h4 : (openJ 0 n d).2.2.2 = 0
  case neg => rw [openV_4 h0 h1 h2 h4]; exact zsto_S
  rw [openV_5 h0 h1 h2 h4]
  obtain ⟨z1, z2, z3, z4⟩ := sizeV_ok h1
  have hz := SzOk.of z1
  have hzl := (sizesE_0 z1).2.1
  obtain ⟨o1, o2, -, -⟩ := openJ_bd 0 n d
  have o5 := openJ_pay 0 n d
  obtain ⟨m, rfl⟩ : ∃ m : Nat, n = (m : Int) := ⟨n.toNat, by omega⟩
  have hsz := imgSz_area (s := newestD d) (a := m) hz (by rw [newestD_len]; rw [z4] at h2; omega)
  rw [Int.toNat_natCast]
  generalize areaI (newestD d) m l = im at hsz ⊢
  cases hw : wrsV im (openJ 0 m d).2.1 with
  | error e => exact zsto_S
  | ok ws =>
    dsimp only
    have key : ∀ (rs : List Rcd) (ws : List Wr), (∀ r ∈ rs, r.pay.length ≤ 4096) → wrsV im rs = .ok ws → ws.length = rs.length ∧ ∀ w ∈ ws, w.data.length ≤ 4096 ∧ fitsS l w = 0 := by
      intro rs
      induction rs with
      | nil => intro ws _ h; cases h; exact ⟨rfl, fun w h => by cases h⟩
      | cons r rs ih =>
        intro ws hp h
        rw [wrsV] at h
        split at h
        · cases h
        · rename_i hr
          have hr : (wrE im r).2 = 0 := Classical.not_not.1 hr
          split at h
          · rename_i l' hl'
            cases h
            obtain ⟨i1, i2⟩ := ih l' (fun x hx => hp x (List.mem_cons_of_mem _ hx)) hl'
            obtain ⟨f1, f2⟩ := wrE_fits hr
            have := sng_len f2
            have := hp r List.mem_cons_self
            refine ⟨by rw [List.length_cons, List.length_cons, i1], fun w hw => ?_⟩
            rcases List.mem_cons.1 hw with rfl | hw
            · refine ⟨by omega, ?_⟩
              rwa [fitsI, if_neg (by rw [hsz]; simp [z1]), hsz] at f1
            · exact i2 w hw
          · cases h
    obtain ⟨k1, k2⟩ := key _ _ o5 hw
    have har : apR im ws = (apF im ws, 0, 0) := apR_F (by rw [hsz]; exact z1) fun w hm => by rw [hsz]; exact (k2 w hm).2
    have hsz2 : imgSz (apF im ws) = l := by rw [apF_sz ws im (fun w hm => by rw [hsz]; exact (k2 w hm).2), hsz]
    obtain ⟨i1, i2⟩ := sizes_pos (l := apF im ws) (by rw [hsz2]; exact z1)
    rw [har]
    exact ⟨by show l.length ≤ _; omega, o1, by show ws.length ≤ _; omega, fun w hm => by have := (k2 w hm).1; omega, by show (apF im ws).length ≤ _; omega, fun u hu => by have := (i2 u hu).2; omega⟩
theorem openV_O (d : Dk) (l : List Int) (n : Int) : (openV d l n).2.1.length ≤ 900000000 ∧ ∀ o ∈ (openV d l n).2.1, o.data.length ≤ 900000000 := by
  obtain ⟨-, -, o3, o4⟩ := openJ_bd 0 n d
  unfold openV
  split
  · exact ⟨Nat.zero_le _, fun o h => by cases h⟩
  · split
    · exact ⟨Nat.zero_le _, fun o h => by cases h⟩
    · split
      · exact ⟨Nat.zero_le _, fun o h => by cases h⟩
      · split
        · exact ⟨Nat.zero_le _, fun o h => by cases h⟩
        · split
          · exact ⟨Nat.zero_le _, fun o h => by cases h⟩
          · exact ⟨o3, o4⟩
set_option maxRecDepth 8000 in
theorem VOpens_law (H : Hp) (V : List Nat) (d : Dk) (l : List Int) (n : Int) (hl : l.length ≤ 9223372036854775807) : CC Tryz.prog 8 [.agg (dkC d), .sl .sh 1 (l.map ic), ci n] H V (Pu (cb true) H V) := by
  refine CC.of_swp Tryz.func8 rfl (by kernel_rfl) (by rw [Tryz.ntmps8]; exact len_le _ _ rfl) fun hok hokH => ?_
  clear hok
  have aw : ∀ (H0 : Hp) (V0 : List Nat), CC Tryz.prog 11 [] H0 V0 (Pu (cb true) H0 V0) := fun H0 V0 => vawake_cc H0 V0
  refine SWp.seq (Wp.s ?_)
  simp -implicitDefEqProofs [go_sem, args0]
  refine SWp.seq (SWp.seq (Wp.s ?_))
  simp -implicitDefEqProofs [go_sem]
  refine CC.mono (few9_cc _ _ d) ?_
  rintro _ _ _ ⟨rfl, rfl, rfl⟩
  cases hf : few9 d with
  | false =>
    simp -implicitDefEqProofs [go_sem]
    refine Wp.s ?_
    simp -implicitDefEqProofs [go_sem]
    refine CC.mono (aw _ _) ?_
    rintro _ _ _ ⟨rfl, rfl, rfl⟩
    simp -implicitDefEqProofs [go_sem]
    exact Fin.bool rfl hokH (by simp) (by simp)
  | true =>
  have h9 := few9_S hf
  have hd : DkS d := ⟨by omega, by omega⟩
  by_cases h20 : 20 < (l.length : Int)
  · simp -implicitDefEqProofs [go_sem, h20]
    refine Wp.s ?_
    simp -implicitDefEqProofs [go_sem]
    refine CC.mono (aw _ _) ?_
    rintro _ _ _ ⟨rfl, rfl, rfl⟩
    simp -implicitDefEqProofs [go_sem]
    exact Fin.bool rfl hokH (by simp) (by simp)
  simp -implicitDefEqProofs [go_sem, h20]
  refine Wp.s ?_
  simp -implicitDefEqProofs [go_sem]
  have hS := openV_S (l := l) (n := n) (d := d) (by omega)
  obtain ⟨hO1, hO2⟩ := openV_O d l n
  refine SWp.seq (Wp.s ?_)
  simp -implicitDefEqProofs [go_sem]
  refine CC.mono (vOpen_cc _ _ d l n hd hl) ?_
  rintro _ _ _ ⟨rfl, rfl, rfl⟩
  generalize hx : openV d l n = x at hS hO1 hO2 ⊢
  obtain ⟨s, ops, e⟩ := x
  dsimp only at hS hO1 hO2
  simp -implicitDefEqProofs [go_sem, flV]
  refine SWp.seq (Wp.s ?_)
  simp -implicitDefEqProofs [go_sem]
  refine CC.mono (rOpen_cc _ _ d l n hd hl) ?_
  rintro _ _ _ ⟨rfl, rfl, rfl⟩
  rw [hx]
  simp -implicitDefEqProofs [go_sem, flV]
  refine SWp.seq (Wp.s ?_)
  simp -implicitDefEqProofs [go_sem]
  refine CC.mono (aw _ _) ?_
  rintro _ _ _ ⟨rfl, rfl, rfl⟩
  simp -implicitDefEqProofs [go_sem]
  refine CC.mono (vSame_cc _ _ s hS) ?_
  rintro _ _ _ ⟨rfl, rfl, rfl⟩
  simp -implicitDefEqProofs [go_sem]
  refine CC.mono (sSameOps_cc _ _ .sh .sh ops hO1 hO2) ?_
  rintro _ _ _ ⟨rfl, rfl, rfl⟩
  simp -implicitDefEqProofs [go_sem]
  refine Wp.s ?_
  simp -implicitDefEqProofs [go_sem]
  exact Fin.bool rfl hokH (by simp) (by simp)
end Go.Proofs.YtbnkggbpocaaiaaGreatDoor
namespace Go.Proofs.YtbnkggbpocaaiaaGreatDoor
open Go.RowKit

def gh0 (w : World) : Gh where
  lim k := match w.heap[k]? with
    | some (.cells c _ _) => c.size
    | _ => 0
  box := []
  tip := []

theorem gh0_inv (w : World) : Inv (gh0 w) w [] [] where
  boxlen := rfl
  tiplen := rfl
  limv k h := by
    simp only [gh0] at h ⊢
    split at h
    · rename_i c e fr hc
      exact ⟨c, e, fr, hc, by simp⟩
    · omega
  tips := by intro t k h; simp [gh0] at h
  boxes := by intro b k h; simp [gh0] at h
  uniq := by intro b b' k cs cs' h; simp at h
  live := by intro b cs h; simp at h

theorem gh0_lim {w : World} {k o : Nat} {u : Value} (h : w.cell? ⟨k, o, none⟩ = some u) : o < (gh0 w).lim k := by
  simp only [World.cell?] at h
  simp only [gh0]
  split at h
  · rename_i c e fr hc
    simp only [hc]
    simp at h
    obtain ⟨h, _⟩ := Array.getElem?_eq_some_iff.1 h
    exact h
  · cases h

theorem law_calls {P : Program} {f : FuncId} {args : Array Value} {W : World} {cs : List CV} {R : CV → Hp → List Nat → Prop} (hrel : RelL (gh0 W) W [] cs args.toList) (h : CC P f cs [] [] R)
    (hR : ∀ r H V, R r H V → r = .v (.bool true)) : Calls P f args W fun e W' => e = .returned (.bool true) ∧ Below W.heap.size W W' := by
  have := h.2 (gh0 W) W args.toList (gh0_inv W) hrel
  rw [Array.toArray_toList] at this
  refine this.mono ?_
  rintro e w' ⟨u, m', r, H', V', rfl, hr, _, hu, hx⟩
  obtain rfl := hR _ _ _ hr
  rw [RelV] at hu
  subst hu
  exact ⟨rfl, hx.os, hx.tape, hx.output, hx.size, fun k hk => hx.same k hk (by simp [gh0]) (by simp [gh0])⟩

def Opens (P : Program) (t : TypeId) (S : List CV → Prop) : Prop :=
  ∀ (H : Type) (enc : TypeId × Value → H) (w : World) (base : Nat) (spare : Nat → Bool) (held : Bool) (fuel : Nat) (us : List Value) (x : DataW H × List MemPlace),
    DataW.trod enc P w base spare held fuel t us = some x → ∃ cs, S cs ∧ RelL (gh0 w) w [] cs us ∧ ∀ u ∈ us, u.oneCell' = true

theorem relL_one {m : Gh} {w : World} {V : List Nat} {c : CV} {u : Value} (h : RelV m w V c u) : RelL m w V [c] [u] := by
  rw [RelL]; exact ⟨u, [], rfl, h, by rw [RelL]⟩

theorem relL_one' {m : Gh} {w : World} {V : List Nat} {c : CV} {u : Value} (h : RelL m w V [c] [u]) : RelV m w V c u := by
  rw [RelL] at h; obtain ⟨_, _, h1, h2, _⟩ := h; cases h1; exact h2

theorem relL_nil {m : Gh} {w : World} {V : List Nat} : RelL m w V [] [] := by rw [RelL]
theorem relL_mk2 {m : Gh} {w : World} {V : List Nat} {c : CV} {u : Value} {cs : List CV} {us : List Value} (h : RelV m w V c u) (h2 : RelL m w V cs us) : RelL m w V (c :: cs) (u :: us) := by
  rw [RelL]; exact ⟨u, us, rfl, h, h2⟩
variable {P : Program} {t e : TypeId}
theorem Opens.int {k : IntKind} (ht : P.underlying t = some (.int k)) : Opens P t fun cs => ∃ n, cs = [.v (.int k n)] ∧ (Lit.int k n).wf = true := by
  intro H enc w base spare held fuel us x h
  obtain ⟨n, rfl, _, hw⟩ := DataW.trod_int ht h
  exact ⟨_, ⟨n, rfl, hw⟩, relL_one (by rw [RelV]), by simp [Value.oneCell']⟩

theorem Opens.bool (ht : P.underlying t = some .bool) : Opens P t fun cs => ∃ b, cs = [.v (.bool b)] := by
  intro H enc w base spare held fuel us x h
  obtain ⟨n, rfl, _⟩ := DataW.trod_bool ht h
  exact ⟨_, ⟨n, rfl⟩, relL_one (by rw [RelV]), by simp [Value.oneCell']⟩

theorem Opens.string (ht : P.underlying t = some .string) : Opens P t fun cs => ∃ s : ByteArray, cs = [.v (.string s)] ∧ s.size ≤ maxLen := by
  intro H enc w base spare held fuel us x h
  obtain ⟨n, rfl, _, hs⟩ := DataW.trod_string ht h
  exact ⟨_, ⟨n, rfl, hs⟩, relL_one (by rw [RelV]), by simp [Value.oneCell']⟩

theorem cells_get {w : World} {base : Nat} {a : Addr} {n : Nat} {us : List Value} (h : w.cells? base a n = some us) : us.length = n ∧ ∀ j, j < n → w.cell? (a.add j) = us[j]? := by
  unfold World.cells? at h
  split at h
  · exact ⟨by simpa using mapM_some_length h, fun j hj => mapM_some_get h j j (by simp [hj])⟩
  · cases h

theorem add_none {a : Addr} (ha : a.spot = none) (i : Nat) : a.add i = ⟨a.block, a.off + i, none⟩ := by
  cases a with
  | mk b o s =>
    simp only at ha
    subst ha
    unfold Addr.add
    split <;> simp_all

theorem Opens.slice {sz : Nat} {S : List CV → Prop} (ht : P.underlying t = some (.slice e)) (hs : P.cellsOf e = sz) (h0 : 0 < sz) (he : Opens P e S) :
    Opens P t fun cs => ∃ xs, cs = [.sl .sh sz xs] ∧ xs.length ≤ maxLen ∧ ∀ x ∈ xs, S x := by
  intro H enc w base spare held fuel us x h
  rcases DataW.trod_slice ht h with ⟨rfl, _⟩ | ⟨a, len, cap, elems, rest, n, _, rfl, rfl, hb, hl, hm, hlen, hel, hsp, hns⟩
  · refine ⟨_, ⟨[], rfl, by simp, by simp⟩, relL_one ?_, by simp [Value.oneCell']⟩
    rw [RelV]
    exact ⟨none, 0, rfl, by simp, trivial, h0, .inl rfl⟩
  · have key : ∀ i, i < len → ∃ (cs : List CV) (vs : List Value), S cs ∧ RelL (gh0 w) w [] cs vs ∧ (∀ u ∈ vs, u.oneCell' = true) ∧ vs.length = sz ∧ ∀ j, j < sz → w.cell? ((a.add (i * sz)).add j) = vs[j]? := by
      intro i hi
      have h1 := hel i hi
      rw [List.getElem?_eq_getElem (by omega)] at h1
      obtain ⟨vs, h2, h3⟩ := Option.bind_eq_some_iff.1 h1
      obtain ⟨cs, h4, h5, h6⟩ := he _ enc w base spare held n vs _ h3
      rw [hs] at h2
      obtain ⟨h7, h8⟩ := cells_get h2
      exact ⟨cs, vs, h4, h5, h6, h7, h8⟩
    by_cases hz : len = 0
    · subst hz
      refine ⟨_, ⟨[], rfl, by simp, by simp⟩, relL_one ?_, by simp [Value.oneCell']⟩
      rw [RelV]
      exact ⟨some a, cap, rfl, by simp, trivial, h0, .inl rfl⟩
    · have hsp : a.spot = none := by
        obtain ⟨cs, vs, _, _, _, h7, h8⟩ := key 0 (by omega)
        have h9 := h8 0 h0
        rw [List.getElem?_eq_getElem (by omega)] at h9
        have : (a.add (0 * sz)).add 0 = a := by simp [Addr.add]
        rw [this] at h9
        simp only [World.cell?] at h9
        split at h9
        · split at h9
          · cases h9
          · rename_i h; simpa using h
        · cases h9
      let g : Nat → List CV := fun i => if h : i < len then Classical.choose (key i h) else []
      have hg : ∀ i (h : i < len), ∃ (vs : List Value), S (g i) ∧ RelL (gh0 w) w [] (g i) vs ∧ (∀ u ∈ vs, u.oneCell' = true) ∧ vs.length = sz ∧ ∀ j, j < sz → w.cell? ((a.add (i * sz)).add j) = vs[j]? := by
        intro i h
        have := Classical.choose_spec (key i h)
        simp only [g, h, dif_pos]
        exact this
      have cell : ∀ i j, i < len → j < sz → ∃ u, w.cell? ⟨a.block, a.off + i * sz + j, none⟩ = some u := by
        intro i j hi hj
        obtain ⟨vs, _, _, _, h7, h8⟩ := hg i hi
        have h9 := h8 j hj
        rw [List.getElem?_eq_getElem (by omega), add_none hsp, add_none rfl] at h9
        exact ⟨_, h9⟩
      refine ⟨_, ⟨(List.range len).map g, rfl, by simp; omega, ?_⟩, relL_one ?_, by simp [Value.oneCell']⟩
      · intro x hx
        obtain ⟨i, hi, rfl⟩ := List.mem_map.1 hx
        obtain ⟨_, h4, _⟩ := hg i (by simpa using hi)
        exact h4
      · rw [RelV]
        refine ⟨some a, cap, by simp, by simp; omega, trivial, h0, .inr ⟨a.block, a.off, by cases a; simp_all, ?_, relE_mk fun j c hc => ?_⟩⟩
        · obtain ⟨u, hu⟩ := cell (len - 1) (sz - 1) (by omega) (by omega)
          have := gh0_lim hu
          simp only [List.length_map, List.length_range]
          have h1 : len * sz = (len - 1) * sz + sz := by
            rw [← Nat.succ_mul]; congr 1; omega
          omega
        · simp only [List.getElem?_map, Option.map_eq_some_iff] at hc
          obtain ⟨i, hi, rfl⟩ := hc
          obtain ⟨hi', hi⟩ := List.getElem?_eq_some_iff.1 hi
          simp at hi hi'
          subst hi
          obtain ⟨vs, h4, h5, h6, h7, h8⟩ := hg j hi'
          have hl := relL_length h5
          refine ⟨by omega, relC_mk fun q c hc => ?_⟩
          obtain ⟨u, hu, hv⟩ := relL_get h5 q c hc
          have hq : q < sz := by
            have := (List.getElem?_eq_some_iff.1 hc).1
            omega
          have h9 := h8 q hq
          rw [hu, add_none hsp, add_none rfl] at h9
          exact ⟨u, h9, hv, h6 u (List.mem_of_getElem? hu)⟩

def OpensF (P : Program) (N : Nat) (fs : List Field) (o : Nat) (S : List CV → Prop) : Prop :=
  ∀ (H : Type) (enc : TypeId × Value → H) (w : World) (base : Nat) (spare : Nat → Bool) (held : Bool) (fuel : Nat) (us : List Value), us.length = N →
    (∀ f ∈ fs, ∃ x, DataW.trod enc P w base spare held fuel f.type ((us.drop f.offset).take (P.cellsOf f.type)) = some x) →
    ∃ cs, S cs ∧ RelL (gh0 w) w [] cs (us.drop o) ∧ ∀ u ∈ us.drop o, u.oneCell' = true

theorem OpensF.nil {N : Nat} : OpensF P N [] N fun cs => cs = [] := by
  intro H enc w base spare held fuel us hl h
  subst hl
  exact ⟨_, rfl, by rw [List.drop_length, RelL], by simp⟩

theorem OpensF.cons {N : Nat} {f : Field} {fs : List Field} {o n : Nat} {S S' : List CV → Prop} (ho : f.offset = o) (hn : P.cellsOf f.type = n) (h1 : Opens P f.type S) (h2 : OpensF P N fs (o + n) S') :
    OpensF P N (f :: fs) o fun cs => ∃ a b, cs = a ++ b ∧ S a ∧ S' b := by
  intro H enc w base spare held fuel us hl h
  obtain ⟨x, hx⟩ := h f (by simp)
  rw [ho, hn] at hx
  obtain ⟨a, ha, ra, oa⟩ := h1 _ enc w base spare held fuel _ _ hx
  obtain ⟨b, hb, rb, ob⟩ := h2 _ enc w base spare held fuel us hl fun g hg => h g (List.mem_cons_of_mem _ hg)
  have hd : us.drop o = (us.drop o).take n ++ us.drop (o + n) := by
    rw [← List.drop_drop, List.take_append_drop]
  refine ⟨_, ⟨a, b, rfl, ha, hb⟩, ?_, ?_⟩
  · rw [hd]; exact relL_append ra rb
  · rw [hd]
    intro u hu
    rcases List.mem_append.1 hu with h | h
    · exact oa u h
    · exact ob u h

theorem Opens.struct {fs : Array Field} {S : List CV → Prop} (ht : P.underlying t = some (.struct fs)) {N : Nat} (hN : P.cellsOf t = N) (h : OpensF P N fs.toList 0 S) : Opens P t S := by
  intro H enc w base spare held fuel us x hx
  obtain ⟨xs, n, _, _, hl, hl2, hf⟩ := DataW.trod_struct ht hx
  obtain ⟨cs, h1, h2, h3⟩ := h _ enc w base spare held n us (by omega) (by
    intro f hf'
    obtain ⟨i, hi⟩ := List.getElem?_of_mem hf'
    have := hf i f (by simpa using hi)
    have hi' : i < fs.size := by
      have := (List.getElem?_eq_some_iff.1 hi).1
      simpa using this
    rw [this, List.getElem?_eq_getElem (by omega)]
    exact ⟨_, rfl⟩)
  exact ⟨cs, h1, by simpa using h2, by simpa using h3⟩

theorem Opens.array {n sz : Nat} {S : List CV → Prop} (ht : P.underlying t = some (.array n e)) (hs : P.cellsOf e = sz) (hN : P.cellsOf t = n * sz) (he : Opens P e S) :
    Opens P t fun cs => ∃ xs : List (List CV), cs = xs.flatten ∧ xs.length = n ∧ ∀ x ∈ xs, S x := by
  intro H enc w base spare held fuel us x hx
  obtain ⟨xs, m, _, _, hl, hl2, hf⟩ := DataW.trod_array ht hx
  rw [hN] at hl
  rw [hs] at hf
  have key : ∀ q, q ≤ n → ∃ ys : List (List CV), ys.length = q ∧ (∀ x ∈ ys, S x) ∧ RelL (gh0 w) w [] ys.flatten (us.drop ((n - q) * sz)) ∧ ∀ u ∈ us.drop ((n - q) * sz), u.oneCell' = true := by
    intro q
    induction q with
    | zero =>
      intro _
      refine ⟨[], rfl, by simp, ?_, ?_⟩
      · rw [Nat.sub_zero, List.drop_of_length_le (by omega), List.flatten_nil, RelL]
      · rw [Nat.sub_zero, List.drop_of_length_le (by omega)]; simp
    | succ q ih =>
      intro hq
      obtain ⟨ys, h1, h2, h3, h4⟩ := ih (by omega)
      have hx := hf (n - (q + 1)) (by omega)
      rw [List.getElem?_eq_getElem (by omega)] at hx
      obtain ⟨a, ha, ra, oa⟩ := he _ enc w base spare held m _ _ hx
      have hd : us.drop ((n - (q + 1)) * sz) = (us.drop ((n - (q + 1)) * sz)).take sz ++ us.drop ((n - q) * sz) := by
        have : (n - q) * sz = (n - (q + 1)) * sz + sz := by
          rw [← Nat.succ_mul]; congr 1; omega
        rw [this, ← List.drop_drop, List.take_append_drop]
      refine ⟨a :: ys, by simp [h1], by simpa using ⟨ha, h2⟩, ?_, ?_⟩
      · rw [hd, List.flatten_cons]; exact relL_append ra h3
      · rw [hd]
        intro u hu
        rcases List.mem_append.1 hu with h | h
        · exact oa u h
        · exact h4 u h
  obtain ⟨ys, h1, h2, h3, h4⟩ := key n (Nat.le_refl _)
  rw [Nat.sub_self, Nat.zero_mul, List.drop_zero] at h3 h4
  exact ⟨_, ⟨ys, rfl, h1, h2⟩, h3, h4⟩

theorem Opens.mono {S S' : List CV → Prop} (h : Opens P t S) (hs : ∀ cs, S cs → S' cs) : Opens P t S' := by
  intro H enc w base spare held fuel us x hx
  obtain ⟨cs, h1, h2, h3⟩ := h _ enc w base spare held fuel us x hx
  exact ⟨cs, hs cs h1, h2, h3⟩

variable {H : Type} {enc : TypeId × Value → H} {w : World} {base : Nat} {spare : Nat → Bool} {held : Bool}
theorem Opens.arg {S : List CV → Prop} (h : Opens P t S) {v : Value} {d : DataW H} {p : List MemPlace} (hv : v.cells.toList = [v]) (hd : DataW.Trod enc P w base spare held t v d p) :
    ∃ c, S [c] ∧ RelV (gh0 w) w [] c v := by
  obtain ⟨fuel, hf⟩ := hd
  rw [hv] at hf
  obtain ⟨cs, h1, h2, _⟩ := h _ enc w base spare held fuel _ _ hf
  have := relL_length h2
  match cs, this with
  | [c], _ => exact ⟨c, h1, relL_one' h2⟩
theorem Opens.args {S : List CV → Prop} (h : Opens P t S) {us : Array Value} {d : DataW H} {p : List MemPlace} (hd : DataW.Trod enc P w base spare held t (.agg us) d p) :
    ∃ cs, S cs ∧ RelV (gh0 w) w [] (.agg cs) (.agg us) := by
  obtain ⟨fuel, hf⟩ := hd
  obtain ⟨cs, h1, h2, _⟩ := h _ enc w base spare held fuel _ _ hf
  refine ⟨cs, h1, ?_⟩
  rw [RelV]
  refine ⟨us.toList, by simp, ?_⟩
  simpa [Value.cells] using h2

theorem trodAll_below (hl : laidOutB P = true) {W W' : World} (hb : Below W.heap.size W W') : ∀ {ts : List TypeId} {vs : List Value} {ds : List (DataW H)} {p : List MemPlace},
    (ts.all fun t => P.readableRec t && decide (t < P.types.size)) = true → DataW.TrodAll enc P W 0 (fun _ => true) true ts vs ds p → DataW.TrodAll enc P W' 0 (fun b => decide (b < W.heap.size)) true ts vs ds p
  | [], [], [], p, _, h => h
  | t :: ts, v :: vs, d :: ds, p, ht, h => by
    obtain ⟨p, q, h1, h2, rfl⟩ := h
    simp only [List.all_cons, Bool.and_eq_true, decide_eq_true_eq] at ht
    refine ⟨p, q, Below.trod hl ht.1.1 ht.1.2 h1 hb ?_, trodAll_below hl hb ht.2 h2, rfl⟩
    obtain ⟨m, hm⟩ := h1
    exact DataW.trod_lt m _ _ _ hm
  | [], [], _ :: _, _, _, h => h.elim
  | [], _ :: _, _, _, _, h => h.elim
  | _ :: _, [], _, _, _, h => h.elim
  | _ :: _, _ :: _, [], _, _, h => h.elim
end Go.Proofs.YtbnkggbpocaaiaaGreatDoor
namespace Go.Proofs.YtbnkggbpocaaiaaGreatDoor
open Go.Proofs
theorem exMapF {α : Type} {f : α → List CV} : ∀ {xs : List (List CV)}, (∀ x ∈ xs, ∃ a, x = f a) → ∃ ys : List α, xs = ys.map f
  | [], _ => ⟨[], rfl⟩
  | x :: xs, h => by
    obtain ⟨a, rfl⟩ := h x (by simp)
    obtain ⟨ys, rfl⟩ := exMapF fun y hy => h y (List.mem_cons_of_mem _ hy)
    exact ⟨a :: ys, rfl⟩
theorem opens_int : Opens Tryz.prog 3 fun cs => ∃ n, cs = ic n :=
  (Opens.int Tryz.underlying3).mono fun _ ⟨n, h, _⟩ => ⟨n, h⟩
theorem opens_u8 : Opens Tryz.prog 5 fun cs => ∃ b, cs = u8 b :=
  (Opens.int Tryz.underlying5).mono fun _ ⟨n, h, hw⟩ => ⟨byt n, by
    simp only [Lit.wf, Bool.and_eq_true, decide_eq_true_eq] at hw
    have h1 : 0 ≤ n := hw.1
    have h2 : n ≤ 255 := hw.2
    rw [h, u8, byt_toNat, Int.emod_eq_of_lt h1 (by omega)]⟩
theorem opens_sl {t e sz : Nat} {α : Type} {f : α → List CV} (ht : Tryz.prog.underlying t = some (.slice e)) (hs : Tryz.prog.cellsOf e = sz) (h0 : 0 < sz) (he : Opens Tryz.prog e fun cs => ∃ a, cs = f a) :
    Opens Tryz.prog t fun cs => ∃ l : List α, cs = [.sl .sh sz (l.map f)] ∧ l.length ≤ maxLen :=
  (Opens.slice ht hs h0 he).mono fun _ ⟨xs, h, hl, hx⟩ => by
    obtain ⟨ys, rfl⟩ := exMapF hx
    exact ⟨ys, h, by simpa using hl⟩
theorem opens_ints : Opens Tryz.prog 22 fun cs => ∃ l : List Int, cs = [.sl .sh 1 (l.map ic)] ∧ l.length ≤ 9223372036854775807 := (opens_sl Tryz.underlying22 (by kernel_rfl) (by decide) opens_int).mono fun _ ⟨l, h, hl⟩ => ⟨l, h, Nat.le_trans hl (by decide)⟩
theorem flat_u8' : ∀ l : List UInt8, (l.map u8).flatten = l.map fun b => CV.v (.int .u8 (b.toNat : Int))
  | [] => rfl
  | b :: l => by rw [List.map_cons, List.flatten_cons]; exact congrArg (_ :: ·) (flat_u8' l)
theorem opens_sec : Opens Tryz.prog 85 fun cs => ∃ s : Sec, cs = secC s :=
  (Opens.array (sz := 1) Tryz.underlying85 (by kernel_rfl) (by kernel_rfl) opens_u8).mono fun cs ⟨xs, h, hl, hx⟩ => by
    obtain ⟨l, rfl⟩ := exMapF hx
    refine ⟨⟨l, by simpa using hl⟩, ?_⟩
    rw [h]; exact flat_u8' l
theorem opens_secs : Opens Tryz.prog 46 fun cs => ∃ l : List Sec, cs = [.sl .sh 8 (l.map secC)] ∧ l.length ≤ maxLen := opens_sl Tryz.underlying46 (by kernel_rfl) (by decide) opens_sec
end Go.Proofs.YtbnkggbpocaaiaaGreatDoor
namespace Go.Proofs.YtbnkggbpocaaiaaGreatDoor
open Go.Proofs
theorem opens_cach : Opens Tryz.prog 205 fun cs => ∃ x, cs = cachC x :=
  (Opens.struct Tryz.underlying205 (N := 9) (by kernel_rfl) (.cons rfl (n := 1) (by kernel_rfl) opens_int (.cons rfl (n := 8) (by kernel_rfl) opens_sec .nil))).mono fun cs h => by
    obtain ⟨_, _, rfl, ⟨a, rfl⟩, _, _, rfl, ⟨b, rfl⟩, rfl⟩ := h
    exact ⟨⟨a, b⟩, by rw [List.append_nil]; rfl⟩
theorem opens_cachs : Opens Tryz.prog 58 fun cs => ∃ l : List Cach, cs = [.sl .sh 9 (l.map cachC)] ∧ l.length ≤ maxLen := opens_sl Tryz.underlying58 (by kernel_rfl) (by decide) opens_cach
theorem opens_dk : Opens Tryz.prog 60 fun cs => ∃ d, cs = dkC d :=
  (Opens.struct Tryz.underlying60 (N := 2) (by kernel_rfl) (.cons rfl (n := 1) (by kernel_rfl) opens_secs (.cons rfl (n := 1) (by kernel_rfl) opens_cachs .nil))).mono fun cs h => by
    obtain ⟨_, _, rfl, ⟨a, rfl, _⟩, _, _, rfl, ⟨b, rfl, _⟩, rfl⟩ := h
    exact ⟨⟨a, b⟩, rfl⟩
end Go.Proofs.YtbnkggbpocaaiaaGreatDoor
namespace Go.Proofs.YtbnkggbpocaaiaaGreatDoor
open Go.Proofs
end Go.Proofs.YtbnkggbpocaaiaaGreatDoor
namespace Go.Proofs.YtbnkggbpocaaiaaGreatDoor
open Go.Proofs
end Go.Proofs.YtbnkggbpocaaiaaGreatDoor
namespace Go.Proofs.YtbnkggbpocaaiaaGreatDoor
open Go.Proofs
end Go.Proofs.YtbnkggbpocaaiaaGreatDoor
