import Derived.Test.YtbnkggbpocaaiaaGreatDoorE8
import Derived.Test.YtbnkggbpocaaiaaGreatDoorE7
import Derived.Test.YtbnkggbpocaaiaaGreatDoorE5
import Derived.Shelf.SortM.Plain
import Derived.Shelf.SortM.SortNone
import Derived.Test.YtbnkggbpocaaiaaGreatDoorE3
import Derived.ProofKit
import Derived.OpenShut
import Derived.Below
set_option linter.unusedSimpArgs false
set_option linter.unusedVariables false
set_option linter.unusedSectionVars false
namespace Go.Proofs.YtbnkggbpocaaiaaGreatDoor
open Go.Proofs
def zerL (n : Nat) : List Sec := List.replicate n sec0
theorem zerL_len (n : Nat) : (zerL n).length = n := List.length_replicate ..
theorem zerL_get {n q : Nat} (h : q < n) : (zerL n)[q]? = some sec0 := by rw [zerL, List.getElem?_replicate, if_pos h]
theorem pat_zer {n a k : Nat} (h : a + k ≤ n) : patS (zerL n) a (List.replicate k sec0) = zerL n := by
  refine List.ext_getElem? fun q => ?_
  rw [patS_get (by rw [zerL_len, List.length_replicate]; exact h), List.length_replicate]
  split
  · rename_i c
    rw [zerL_get (by omega), List.getElem?_replicate, if_pos (by omega)]
  · rfl
theorem super01_len : (superJ 0 1).length ≤ 31 := super_len 0 1
theorem copy01_best : best (copyS 1 (superJ 0 1) ++ List.replicate 8 sec0) = (1, superJ 0 1) := by kernel_rfl
theorem copy01_top : Nat.ble (topS (copyS 1 (superJ 0 1) ++ List.replicate 8 sec0)) 1 = true := by kernel_rfl
theorem top_of {a b : List Sec} (h : a = b) (g : Nat.ble (topS b) 1 = true) : topS a ≤ 1 := by subst h; exact Nat.le_of_ble_eq_true g
def newS (n st : Nat) : List Sec := patS (zerL n) st (copyS 1 (superJ 0 1))
theorem newS_len (n st : Nat) : (newS n st).length = n := by rw [newS, patS_len, zerL_len]
theorem newS_get {n st : Nat} (h : st + 16 ≤ n) {q : Nat} (hq : q < n) (ho : q < st ∨ st + 16 ≤ q) : (newS n st)[q]? = some sec0 := by
  rw [newS, patS_get (by rw [zerL_len, copyS_len]; omega), copyS_len, if_neg (by omega), zerL_get hq]
theorem newS_win {n st : Nat} (h : st + 16 ≤ n) : win st (newS n st) = copyS 1 (superJ 0 1) ++ List.replicate 8 sec0 := by
  refine List.ext_getElem? fun i => ?_
  rw [win, List.getElem?_take, List.getElem?_drop, newS, patS_get (by rw [zerL_len, copyS_len]; omega), copyS_len]
  by_cases c : i < 8
  · rw [if_pos (by omega), if_pos (by omega), List.getElem?_append_left (by rw [copyS_len]; exact c)]; congr 1; omega
  · rw [List.getElem?_append_right (by rw [copyS_len]; omega), copyS_len, List.getElem?_replicate]
    by_cases c2 : i < 16
    · rw [if_pos c2, if_neg (by omega), if_pos (by omega), zerL_get (by omega)]
    · rw [if_neg c2, if_neg (by omega)]
def newJ (st c : Int) : Jrn := ⟨st, c, 0, 0, 1, []⟩
theorem newS_RJ {n st : Nat} {c : Int} (hv : validJ st c = true) (h : st + c.toNat ≤ n) (hn : n ≤ 4096) : RJ (newS n st) (newJ st c) [] [] 1 := by
  have v := (validJ_iff _ _).1 hv
  have hc : chkJ (newJ st c) = true := by
    rw [chkJ_iff]
    refine ⟨hv, (preJ_iff _).2 ⟨?_, ?_, ?_, ?_, ?_⟩, rfl, ?_, ?_⟩
    · show (0 : Int) ≤ 0; omega
    · show (0 : Int) < c - 16; omega
    · show (1 : Int) ≤ 1; omega
    · simp [newJ]
    · simp [newJ]
    · show (0 : Int) ≤ c - 16; omega
    · show (0 : Int) = (0 + 0) % (c - 16); simp
  have hjd : JD (newS n st) (newJ st c) 1 := by
    refine ⟨hc, by rw [newS_len]; show (st : Int).toNat + c.toNat ≤ n; omega, 1, ?_⟩
    show Gd (st : Int).toNat _ 1 (superJ 0 1) 1
    rw [Int.toNat_natCast]
    exact ⟨by rw [newS_len]; omega, by rw [newS_len]; exact hn, by rw [newS_win (by omega), copy01_best], Nat.le_refl _, top_of (newS_win (by omega)) copy01_top⟩
  refine ⟨hjd, rfl, RcOk.nil _, .inl rfl, ringJ (newS n st) (newJ st c), rfl, fun i x hx => .inl ?_, .inl rfl⟩
  show (gn x : Int) < 1 + ((0 : Nat) : Int)
  have hx' : (ringR (newS n st) (st + 16) 0 (c - 16).toNat)[i]? = some x := hx
  have hi : i < (c - 16).toNat := by have := (List.getElem?_eq_some_iff.1 hx').1; rwa [ringR_len] at this
  have hp := posN_lt (h := 0) (n := (c - 16).toNat) (i := i) (by omega) (by omega)
  rw [ringR_get (by rw [newS_len]; omega) (by omega) hi, newS_get (by omega) (by omega) (by omega)] at hx'
  rw [← Option.some.inj hx', sec0_gn]; decide
theorem fmtJ_eq {st : Nat} {c : Int} (hv : validJ st c = true) : formatJ st c = (newJ st c, opW ((st + 16 : Nat) : Int) (List.replicate (c - 16).toNat sec0) :: opS :: [opW (st : Int) (List.replicate 16 sec0), opS, opW (st : Int) (copyS 1 (superJ 0 1)), opS], 0) := by
  have v := (validJ_iff _ _).1 hv
  have hf : formatS (st : Int) (superJ 0 1) = ([opW (st : Int) (List.replicate 16 sec0), opS, opW (st : Int) (copyS 1 (superJ 0 1)), opS], 0) := by
    rw [formatS, if_neg (by omega), if_neg (by have := super01_len; omega)]
  rw [formatJ, if_neg (by simp [hv]), hf, if_neg (by simp)]
  rfl
theorem fmtJ_exec {st n : Nat} {c : Int} (hv : validJ st c = true) (h : st + c.toNat ≤ n) : execS (zerL n) (formatJ st c).2.1 = newS n st ∧ (∀ o ∈ (formatJ st c).2.1, OpOk n o) ∧ (formatJ st c).2.1.getLast? = some opS := by
  have v := (validJ_iff _ _).1 hv
  rw [fmtJ_eq hv]
  refine ⟨?_, fun o ho => ?_, rfl⟩
  · dsimp only
    rw [execS_w, execS_s, execS_w, execS_s, execS_w, execS_s, execS, pat_zer (by omega), pat_zer (by omega)]; rfl
  · simp only [List.mem_cons, List.not_mem_nil, or_false] at ho
    rcases ho with rfl | rfl | rfl | rfl | rfl | rfl
    · exact .inr ⟨_, _, rfl, by rw [List.length_replicate]; omega⟩
    · exact .inl rfl
    · exact .inr ⟨_, _, rfl, by rw [List.length_replicate]; omega⟩
    · exact .inl rfl
    · exact .inr ⟨_, _, rfl, by rw [copyS_len]; omega⟩
    · exact .inl rfl
end Go.Proofs.YtbnkggbpocaaiaaGreatDoor
namespace Go.Proofs.YtbnkggbpocaaiaaGreatDoor
open Go.Proofs
theorem RJ.mono {s : List Sec} {j : Jrn} {rs : List Rcd} {l : List Sec} {T T' : Nat} (h : RJ s j rs l T) (ht : T ≤ T') : RJ s j rs l T' := by
  refine ⟨⟨h.jd.chk, h.jd.len, ?_⟩, h.sz, h.rc, h.lk, h.ring⟩
  obtain ⟨g, hg⟩ := h.jd.gd
  exact ⟨g, hg.l1, hg.l2, hg.bst, hg.pos, Nat.le_trans hg.top ht⟩
theorem mix_out {s s' : List Sec} {P : Nat → Sec → Prop} {a b : Nat} (hm : MixW s P s') (hP : ∀ q x, P q x → a ≤ q ∧ q < b) {q : Nat} (hq : q < a ∨ b ≤ q) : s'[q]? = s[q]? := by
  rcases hm.2 q with e | ⟨x, hx, -⟩
  · exact e
  · have := hP q x hx; omega
def clnO (ws : List Opn) : List Opn := if ws = [] then [] else ws ++ [opS]
theorem cln_run {s : List Sec} {ws : List Opn} (hs : s.length ≤ 4096) (h : WsOk s.length ws) : runR ⟨s, []⟩ (clnO ws) = (⟨execS s ws, []⟩, (clnO ws).length, 0) := by
  rw [clnO]
  split
  · rename_i e; subst e; rw [run_nil hs]; rfl
  · rw [h.run hs, List.length_append]; rfl
theorem cln_len (ws : List Opn) : (clnO ws).length ≤ ws.length + 1 := by
  rw [clnO]
  split
  · simp
  · simp
theorem cln_tot {n : Nat} {ws : List Opn} (h : WsOk n ws) : tot (clnO ws) ≤ (ws.length + 1) * n := by
  rw [clnO]
  split
  · simp [tot]
  · exact h.tot
end Go.Proofs.YtbnkggbpocaaiaaGreatDoor
namespace Go.Proofs.YtbnkggbpocaaiaaGreatDoor
open Go.Proofs
@[go_sem, simp] theorem dkC_drop2Q (d : Dk) : (dkC d).drop 2 = [] := rfl
end Go.Proofs.YtbnkggbpocaaiaaGreatDoor
namespace Go.Proofs.YtbnkggbpocaaiaaGreatDoor
open Go.Proofs
end Go.Proofs.YtbnkggbpocaaiaaGreatDoor
namespace Go.Proofs.YtbnkggbpocaaiaaGreatDoor
open Go.Proofs
def zwr : Wr := ⟨0, 0, []⟩
def sngP : Except Nat (List Wr × List UInt8) → Option Wr
  | .ok ([w], []) => some w
  | _ => none
def sng (r : Rcd) : Option Wr := if r.kind = 1 then sngP (listP wrP r.pay) else none
def sngV : Option Wr → CV
  | none => .tup [.agg (wrC zwr), er 3]
  | some w => .tup [.agg (wrC w), er 0]
theorem okV_sngV (i j : Nat) (x : Option Wr) : okV i j (sngV x) := by
  cases x <;> simp [sngV, go_sem, okL, okV, okL_wrC]
theorem zwr_le : Le (.agg [ci 0, ci 0, .v (.slice none 0 0)]) (.agg (wrC zwr)) := .agg (.cons (.refl _) (.cons (.refl _) (.cons (.nil 8 (by decide)) .nil)))
theorem single_cc (H : Hp) (V : List Nat) (r : Rcd) (hl : r.pay.length ≤ 1000000000) : CC Tryz.prog 151 [.agg (rcC r)] H V (Pu (sngV (sng r)) H V) := by
  refine CC.of_swp Tryz.func151 rfl (by kernel_rfl) (by rw [Tryz.ntmps151]; exact len_le _ _ rfl) fun hok hokH => ?_
  clear hok
  have bad : ∀ {H' : Hp} {V' : List Nat}, sng r = none → H'.take H.length = H → V'.take V.length = V → Fin H.length V.length (Pu (sngV (sng r)) H V) (.tup [.agg [ci 0, ci 0, .v (.slice none 0 0)], er 3]) H' V' := fun h1 h2 h3 => by
    rw [h1]
    exact Fin.pu (.tup (.cons zwr_le (.cons (.refl _) .nil))) (okV_sngV _ _ none) hokH h2 h3
  refine sW ?_
  simp -implicitDefEqProofs [go_sem, args0]
  refine sW ?_
  simp -implicitDefEqProofs [go_sem]
  refine CC.mono (Writes_cc _ _ .sh r.pay hl) ?_
  rintro _ _ _ ⟨rfl, rfl, rfl⟩
  have hs : sng r = if r.kind = 1 then sngP (listP wrP r.pay) else none := rfl
  generalize listP wrP r.pay = x at hs ⊢
  cases x with
  | error e =>
    have hs' : sng r = none := by rw [hs]; split <;> rfl
    simp -implicitDefEqProofs [go_sem, rdv]
    refine SWp.seq (sW ?_)
    by_cases hk : r.kind = 1
    · simp -implicitDefEqProofs [go_sem, hk]
      refine ⟨fun _ => ?_, fun _ => ?_⟩
      · refine Wp.s ?_
        simp -implicitDefEqProofs [go_sem]
        exact bad hs' (by simp) (by simp)
      · refine Wp.s ?_
        simp -implicitDefEqProofs [go_sem]
        exact bad hs' (by simp) (by simp)
    · simp -implicitDefEqProofs [go_sem, hk]
      refine Wp.s ?_
      simp -implicitDefEqProofs [go_sem]
      exact bad hs' (by simp) (by simp)
  | ok x =>
    obtain ⟨l, s⟩ := x
    simp -implicitDefEqProofs [go_sem, rdv]
    refine SWp.seq (sW ?_)
    by_cases hk : r.kind = 1
    case neg =>
      rw [if_neg hk] at hs
      simp -implicitDefEqProofs [go_sem, hk]
      refine Wp.s ?_
      simp -implicitDefEqProofs [go_sem]
      exact bad hs (by simp) (by simp)
    rw [if_pos hk] at hs
    cases s with
    | cons b s =>
      have hs' : sng r = none := by
        rw [hs]
        match l with
        | [] => rfl
        | [w] => rfl
        | _ :: _ :: _ => rfl
      have hb : 0 < ((b :: s).length : Int) := by rw [List.length_cons]; omega
      simp -implicitDefEqProofs [go_sem, hk, hb]
      refine Wp.s ?_
      simp -implicitDefEqProofs [go_sem]
      exact bad hs' (by simp) (by simp)
    | nil =>
      match l with
      | [] =>
        simp -implicitDefEqProofs [go_sem, hk]
        refine Wp.s ?_
        simp -implicitDefEqProofs [go_sem]
        exact bad hs (by simp) (by simp)
      | [w] =>
        simp -implicitDefEqProofs [go_sem, hk]
        refine Wp.s ?_
        simp -implicitDefEqProofs [go_sem]
        refine sW ?_
        simp -implicitDefEqProofs [go_sem]
        refine Wp.s ?_
        simp -implicitDefEqProofs [go_sem]
        rw [hs]
        exact Fin.pu (.refl _) (okV_sngV _ _ (some w)) hokH (by simp) (by simp)
      | a :: b :: l =>
        have hb : ¬ (l.length : Int) + 1 + 1 = 1 := by omega
        simp -implicitDefEqProofs [go_sem, hk, hb]
        refine Wp.s ?_
        simp -implicitDefEqProofs [go_sem]
        exact bad hs (by simp) (by simp)
def areaX (s : List Sec) (a : Nat) (l : List Int) : Nat → Img
  | 0 => []
  | i + 1 => areaX s a l i ++ [(s.drop (a + (sumI (l.take i)).toNat)).take (l.getD i 0).toNat]
def areaI (s : List Sec) (a : Nat) (l : List Int) : Img := areaX s a l l.length
theorem areaX_len (s : List Sec) (a : Nat) (l : List Int) : ∀ i, (areaX s a l i).length = i
  | 0 => rfl
  | i + 1 => by rw [areaX, List.length_append, areaX_len s a l i]; rfl
def arX (s : List Sec) (a : Nat) (l : List Int) (i : Nat) : List (List CV) := (areaX s a l i).map imE
theorem arX_len (s : List Sec) (a : Nat) (l : List Int) (i : Nat) : (arX s a l i).length = i := by rw [arX, List.length_map, areaX_len]
theorem arX_s (s : List Sec) (a : Nat) (l : List Int) (i : Nat) : arX s a l (i + 1) = arX s a l i ++ [imE ((s.drop (a + (sumI (l.take i)).toNat)).take (l.getD i 0).toNat)] := by rw [arX, areaX, List.map_append]; rfl
set_option maxRecDepth 8000 in
theorem content_cc (H : Hp) (V : List Nat) (d : Dk) (l : List Int) (a : Nat) (hd : DkS d) (hc : checkD d = 0) (hz : SzOk l) (hin : (a : Int) + sumI l ≤ d.stable.length) : CC Tryz.prog 96 [.agg (dkC d), .sl .sh 1 (l.map ic), ci a] H V (Pu (.tup [imV (areaI (newestD d) a l), er 0]) H V) := by
  refine CC.of_swp Tryz.func96 rfl (by kernel_rfl) (by rw [Tryz.ntmps96]; exact len_le _ _ rfl) fun hok hokH => ?_
  clear hok
  have hst := checkD_0 hc
  have hnl := newestD_len d
  refine sW ?_
  simp -implicitDefEqProofs [go_sem, args0]
  refine sW ?_
  simp -implicitDefEqProofs [go_sem]
  refine SWp.join (α := Nat) (fun v => ([(8, .sl (.own V.length v) 1 (arX (newestD d) a l l.length))], H ++ [some (dkC d)], V ++ [v])) (fun _ => True) ?_ ?_
  · refine sW ?_
    simp -implicitDefEqProofs [go_sem]
    refine SWp.block ?_
    refine SWp.loop (α := Nat × Nat) (fun x => ([(2, ci (a + sumI (l.take x.1))), (3, .ptr H.length 0), (8, .sl (.own V.length x.2) 1 (arX (newestD d) a l x.1)), (13, .sl .sh 1 (l.map ic)), (14, ci l.length), (15, ci x.1)], H ++ [some (dkC d)], V ++ [x.2])) (fun x => x.1 ≤ l.length) (fun x => l.length - x.1) (0, 0) (Nat.zero_le _) (Sh.tokT (by simp [go_sem, sumI, arX, areaX]) rfl rfl) ?_
    rintro ⟨i, v⟩ hi
    dsimp only at hi ⊢
    refine sW ?_
    simp -implicitDefEqProofs [go_sem]
    refine sW ?_
    simp -implicitDefEqProofs [go_sem]
    refine ⟨fun h => ?_, fun h => ?_⟩
    case refine_2 =>
      obtain rfl : i = l.length := by omega
      exact ⟨v, Sh.forget (by simp [go_sem]) rfl rfl⟩
    have hsu := hz.sum i
    have hl0 := hz.2 l[i] (List.getElem_mem h)
    have hl1 := hz.1
    have htk := sumI_take l i h
    have hmo : sumI (l.take (i + 1)) ≤ sumI l := by
      have e := sumI_app (l.take (i + 1)) (l.drop (i + 1))
      rw [List.take_append_drop] at e
      have hd2 : SzOk (l.drop (i + 1)) := ⟨by rw [List.length_drop]; omega, fun n hn => hz.2 n (List.mem_of_mem_drop hn)⟩
      have := hd2.sum'
      omega
    obtain ⟨q, hq⟩ : ∃ q : Nat, sumI (l.take i) = (q : Int) := ⟨(sumI (l.take i)).toNat, by omega⟩
    obtain ⟨k, hk⟩ : ∃ k : Nat, l[i] = (k : Int) := ⟨l[i].toNat, by omega⟩
    have hrd : readD d ((a : Int) + (q : Int)) (k : Int) = (((newestD d).drop (a + q)).take k, 0) := by
      rw [readD, if_neg (by simp [hc]), if_neg (by simp [insideB]; omega)]
      rw [show ((a : Int) + (q : Int)).toNat = a + q by omega, Int.toNat_natCast]
    have hxs := arX_s (newestD d) a l i
    have hxl := arX_len (newestD d) a l i
    rw [hq, Int.toNat_natCast, List.getD_eq_getElem?_getD, List.getElem?_eq_getElem h, Option.getD_some, hk, Int.toNat_natCast] at hxs
    generalize arX (newestD d) a l i = M at hxs hxl ⊢
    rw [hq]
    refine SWp.seq (SWp.block (sW ?_))
    simp -implicitDefEqProofs [go_sem, h, hk]
    refine sW ?_
    simp -implicitDefEqProofs [go_sem]
    refine CC.mono (sRead_cc _ _ d ⟨(a : Int) + (q : Int), (k : Int)⟩ hd) ?_
    rintro _ _ _ ⟨rfl, rfl, rfl⟩
    dsimp only
    rw [hrd]
    simp -implicitDefEqProofs [go_sem]
    refine SWp.seq (sW ?_)
    simp -implicitDefEqProofs [go_sem]
    refine Wp.s ?_
    simp -implicitDefEqProofs [go_sem]
    have w3 : IntKind.i64.wrap ((a : Int) + (q : Int) + (k : Int)) = (a : Int) + (q : Int) + (k : Int) := IntWalk.i64_in _ ⟨by omega, by omega⟩
    refine Wp.s ?_
    simp -implicitDefEqProofs [go_sem, w3, hxl]
    refine ⟨by omega, ?_⟩
    refine Wp.s ?_
    simp -implicitDefEqProofs [go_sem]
    refine ⟨i + 1, by omega, by omega, v + 1, Sh.forget ?_ rfl (by simp)⟩
    rw [hxs, htk, hq, hk]
    simp [go_sem, wrap_succ (show i ≤ 1000000000 by omega), imE, secsV, List.map_take, List.map_drop, Int.add_assoc]
  rintro v -
  dsimp only
  refine sW ?_
  simp -implicitDefEqProofs [go_sem]
  refine Wp.s ?_
  simp -implicitDefEqProofs [go_sem]
  refine Fin.pu (.tup (.cons ?_ (.cons (.refl _) .nil))) (by simp [go_sem, okL, okV, okE_ims]) hokH (by simp) (by simp)
  exact .sh _ _ _
end Go.Proofs.YtbnkggbpocaaiaaGreatDoor
namespace Go.Proofs.YtbnkggbpocaaiaaGreatDoor
open Go.Proofs
def wrE (im : Img) (r : Rcd) : Wr × Nat :=
  match sng r with
  | none => (zwr, 3)
  | some w => (w, fitsI im w)
theorem wrE_none {im : Img} {r : Rcd} (h : sng r = none) : wrE im r = (zwr, 3) := by rw [wrE, h]
theorem wrE_some {im : Img} {r : Rcd} {w : Wr} (h : sng r = some w) : wrE im r = (w, fitsI im w) := by rw [wrE, h]
theorem writes_cc (H : Hp) (V : List Nat) (im : Img) (rs : List Rcd) : CC Tryz.prog 97 [.sl .sh 1 (im.map imE), .sl .sh 3 (rs.map rcC)] H V (fun r H' V' => r = .fn 150 [.ptr (H.length + 1) 0, .ptr H.length 0] ∧ H' = H ++ [some [.sl .sh 1 (im.map imE)], some [.sl .sh 3 (rs.map rcC)]] ∧ V = V') := by
  refine CC.of_swp Tryz.func97 rfl (by kernel_rfl) (by rw [Tryz.ntmps97]; exact len_le _ _ rfl) fun hok hokH => ?_
  clear hok
  refine sW ?_
  simp -implicitDefEqProofs [go_sem, args0]
  refine Wp.s ?_
  simp -implicitDefEqProofs [go_sem]
  refine Fin.cut (H.length + 2) V.length ⟨rfl, rfl, rfl⟩ (by omega) (Nat.le_refl _) (List.take_of_length_le (by simp)) (List.take_of_length_le (Nat.le_refl _)) (.refl _) (by simp [go_sem]) ?_
  intro b cs hb
  rw [List.getElem?_append] at hb
  split at hb
  · exact okL_mono (by omega) (Nat.le_refl _) (hokH b cs hb)
  · exact okH_get (i := H.length + 2) (j := V.length) (L := [some [.sl .sh 1 (im.map imE)], some [.sl .sh 3 (rs.map rcC)]]) (by simp [go_sem, okL, okV, okE_ims, okE_rcs]) _ _ hb
set_option maxRecDepth 8000 in
theorem writes1_cc (H : Hp) (V : List Nat) (L b1 b2 : Nat) (im : Img) (rs : List Rcd) (hb1 : H[b1]? = some (some [.sl .sh 3 (rs.map rcC)])) (hb2 : H[b2]? = some (some [.sl .sh 1 (im.map imE)])) (hrl : rs.length ≤ 1000000000) (hrp : ∀ r ∈ rs, r.pay.length ≤ 1000000000)
    (hil : im.length ≤ 1000000000) (hiv : ∀ v ∈ im, v.length ≤ 1000000000) (hwd : ∀ r ∈ rs, ∀ w, sng r = some w → w.data.length ≤ 1000000000)
    (I : Nat → Hp → List Nat → Prop) (Q : Hp → List Nat → Prop) (h0 : I 0 H V)
    (hI : ∀ i G V', I i G V' → G.length = H.length ∧ G[b1]? = some (some [.sl .sh 3 (rs.map rcC)]) ∧ G[b2]? = some (some [.sl .sh 1 (im.map imE)]))
    (hn : ∀ i (h : i < rs.length), (wrE im rs[i]).2 = 0 → ∀ G V' W, I i G V' → YC Tryz.prog L [.agg (wrC (wrE im rs[i]).1), er 0] (G ++ W) V' (fun r H2 V2 => r = .v (.bool true) ∧ ∃ G' W', I (i + 1) G' V2 ∧ H2 = G' ++ (W ++ W')))
    (he : ∀ i (h : i < rs.length), (wrE im rs[i]).2 ≠ 0 → ∀ G V' W, I i G V' → YC Tryz.prog L [.agg (wrC (wrE im rs[i]).1), er (wrE im rs[i]).2] (G ++ W) V' (fun r H2 V2 => ∃ b, r = .v (.bool b) ∧ ∃ G' W', Q G' V2 ∧ H2 = G' ++ (W ++ W')))
    (hq : ∀ G V', I rs.length G V' → Q G V') :
    CC Tryz.prog 150 [.yl L, .ptr b1 0, .ptr b2 0] H V (fun _ H' V' => ∃ G W, Q G V' ∧ H' = G ++ W) := by
  have lt1 := (List.getElem?_eq_some_iff.1 hb1).1
  have lt2 := (List.getElem?_eq_some_iff.1 hb2).1
  refine CC.of_swp Tryz.func150 rfl (by kernel_rfl) (by rw [Tryz.ntmps150]; exact len_le _ _ rfl) fun hok hokH => ?_
  clear hok
  refine sW ?_
  simp -implicitDefEqProofs [go_sem, args0, hbx_of hb1]
  refine SWp.block ?_
  refine SWp.loop (α := Nat × Hp × Hp × List Nat) (fun x => ([(0, .yl L), (1, .ptr b1 0), (2, .ptr b2 0), (8, .sl .sh 3 (rs.map rcC)), (9, ci rs.length), (10, ci x.1)], x.2.1 ++ x.2.2.1, x.2.2.2)) (fun x => x.1 ≤ rs.length ∧ I x.1 x.2.1 x.2.2.2) (fun x => rs.length - x.1) (0, H, [], V) ⟨Nat.zero_le _, h0⟩ (Sh.forget (by simp [go_sem]) (by simp) rfl) ?_
  rintro ⟨i, G, W, V1⟩ ⟨hi, hi1⟩
  dsimp only at hi hi1 ⊢
  obtain ⟨g0, g1, g2⟩ := hI _ _ _ hi1
  refine sW ?_
  simp -implicitDefEqProofs [go_sem]
  refine sW ?_
  simp -implicitDefEqProofs [go_sem]
  refine ⟨fun h => ?_, fun h => ?_⟩
  case refine_2 =>
    obtain rfl : i = rs.length := by omega
    exact Fin.self ⟨G, hq _ _ hi1, W, rfl⟩
  have hK1 : (G ++ W)[b1]? = some (some [.sl .sh 3 (rs.map rcC)]) := by rw [List.getElem?_append_left (by omega)]; exact g1
  have hK2 : (G ++ W)[b2]? = some (some [.sl .sh 1 (im.map imE)]) := by rw [List.getElem?_append_left (by omega)]; exact g2
  have hkl : b2 < (G ++ W).length := by rw [List.length_append]; omega
  have hnn := hn i h
  have hee := he i h
  have hpay := hrp _ (List.getElem_mem h)
  have hwdd := hwd _ (List.getElem_mem h)
  obtain ⟨K, hK⟩ : ∃ K, K = G ++ W := ⟨_, rfl⟩
  rw [← hK] at hK1 hK2 hkl ⊢
  refine SWp.seq (SWp.block (sW ?_))
  simp -implicitDefEqProofs [go_sem, h]
  refine sW ?_
  simp -implicitDefEqProofs [go_sem]
  refine CC.mono (single_cc _ _ rs[i] hpay) ?_
  rintro _ _ _ ⟨rfl, rfl, rfl⟩
  have k2 : ∀ M : Hp, (K ++ M)[b2]? = some (some [.sl .sh 1 (im.map imE)]) := fun M => by rw [List.getElem?_append_left hkl]; exact hK2
  cases hsn : sng rs[i] with
  | none =>
    have hwe := wrE_none (im := im) hsn
    simp -implicitDefEqProofs [go_sem, sngV]
    refine SWp.seq (sW ?_)
    simp -implicitDefEqProofs [go_sem]
    refine Wp.s ?_
    simp -implicitDefEqProofs [go_sem]
    rw [hwe] at hee
    refine sW ?_
    simp -implicitDefEqProofs [go_sem]
    have hy := hee (by decide) G V1 (W ++ [some (rcC rs[i]), some (wrC zwr)]) hi1
    rw [← List.append_assoc, ← hK] at hy
    refine YC.mono hy ?_
    rintro _ _ V2 ⟨b, rfl, G', W', hQ, rfl⟩
    cases b with
    | false =>
      simp -implicitDefEqProofs [go_sem]
      refine Wp.s ?_
      simp -implicitDefEqProofs [go_sem]
      exact Fin.self ⟨G', hQ, _, rfl⟩
    | true =>
      simp -implicitDefEqProofs [go_sem]
      refine Wp.s ?_
      simp -implicitDefEqProofs [go_sem]
      exact Fin.self ⟨G', hQ, _, rfl⟩
  | some w =>
    have hwe := wrE_some (im := im) hsn
    simp -implicitDefEqProofs [go_sem, sngV]
    refine SWp.seq (sW ?_)
    simp -implicitDefEqProofs [go_sem]
    refine Wp.s ?_
    simp -implicitDefEqProofs [go_sem, hbx_of (k2 [some (rcC rs[i]), some (wrC w)])]
    refine CC.mono (Fits_cc _ _ .sh im w hil hiv (hwdd w hsn)) ?_
    rintro _ _ _ ⟨rfl, rfl, rfl⟩
    simp -implicitDefEqProofs [go_sem]
    rw [hwe] at hee hnn
    dsimp only at hee hnn
    refine sW ?_
    simp -implicitDefEqProofs [go_sem]
    by_cases hf : fitsI im w = 0
    case neg =>
      have hf' : ¬ (fitsI im w : Int) = 0 := by omega
      have hy := hee hf G V1 (W ++ [some (rcC rs[i]), some (wrC w)]) hi1
      rw [← List.append_assoc, ← hK] at hy
      refine YC.mono hy ?_
      rintro _ _ V2 ⟨b, rfl, G', W', hQ, rfl⟩
      cases b with
      | false =>
        simp -implicitDefEqProofs [go_sem]
        refine Wp.s ?_
        simp -implicitDefEqProofs [go_sem]
        exact Fin.self ⟨G', hQ, _, rfl⟩
      | true =>
        simp -implicitDefEqProofs [go_sem, hf, hf']
        refine Wp.s ?_
        simp -implicitDefEqProofs [go_sem]
        exact Fin.self ⟨G', hQ, _, rfl⟩
    rw [hf]
    have hy := hnn hf G V1 (W ++ [some (rcC rs[i]), some (wrC w)]) hi1
    rw [← List.append_assoc, ← hK] at hy
    refine YC.mono hy ?_
    rintro _ _ V2 ⟨rfl, G', W', hI', rfl⟩
    simp -implicitDefEqProofs [go_sem]
    refine Wp.s ?_
    simp -implicitDefEqProofs [go_sem]
    refine Wp.s ?_
    simp -implicitDefEqProofs [go_sem]
    refine ⟨i + 1, G', W ++ [some (rcC rs[i]), some (wrC w)] ++ W', V2, ⟨by omega, hI'⟩, by omega, Sh.forget ?_ (by simp) rfl⟩
    simp [go_sem, wrap_succ (show i ≤ 1000000000 by omega)]
end Go.Proofs.YtbnkggbpocaaiaaGreatDoor
namespace Go.Proofs.YtbnkggbpocaaiaaGreatDoor
open Go.Proofs
def wrsV (im : Img) : List Rcd → Except Nat (List Wr)
  | [] => .ok []
  | r :: rs => if (wrE im r).2 ≠ 0 then .error (wrE im r).2 else match wrsV im rs with
    | .ok l => .ok ((wrE im r).1 :: l)
    | .error e => .error e
def openV (d : Dk) (sizes : List Int) (n : Int) : Sto × List Opn × Nat :=
  if checkD d ≠ 0 then (zsto, [], checkD d) else if (sizeV sizes n).2 ≠ 0 then (zsto, [], (sizeV sizes n).2)
  else if (d.stable.length : Int) < (sizeV sizes n).1 then (zsto, [], 2)
  else if (openJ 0 n d).2.2.2 ≠ 0 then (zsto, [], (openJ 0 n d).2.2.2)
  else match wrsV (areaI (newestD d) n.toNat sizes) (openJ 0 n d).2.1 with
    | .error e => (zsto, [], e)
    | .ok ws => (⟨sizes, (openJ 0 n d).1, n, (openJ 0 n d).1.first - 1, ws, (apR (areaI (newestD d) n.toNat sizes) ws).1⟩, (openJ 0 n d).2.2.1, 0)
def WrI (im : Img) (rs : List Rcd) (i : Nat) : Prop := ∀ k (h : k < rs.length), k < i → (wrE im rs[k]).2 = 0
def wvU (im : Img) (rs : List Rcd) (i : Nat) : List Wr := (rs.take i).map fun r => (wrE im r).1
theorem wvU_s {im : Img} {rs : List Rcd} {i : Nat} (h : i < rs.length) : wvU im rs (i + 1) = wvU im rs i ++ [(wrE im rs[i]).1] := by
  rw [wvU, List.take_succ_eq_append_getElem h, List.map_append]; rfl
theorem wvU_len {im : Img} {rs : List Rcd} {i : Nat} (h : i ≤ rs.length) : (wvU im rs i).length = i := by
  rw [wvU, List.length_map, List.length_take]; omega
theorem wrsV_ok {im : Img} : ∀ {rs : List Rcd}, WrI im rs rs.length → wrsV im rs = .ok (wvU im rs rs.length)
  | [], _ => rfl
  | r :: rs, h => by
    have h0 := h 0 (by simp) (by simp)
    have ih := wrsV_ok (im := im) (rs := rs) fun k hk _ => by
      have := h (k + 1) (by simp; omega) (by simp; omega)
      simpa using this
    rw [wrsV, if_neg (by simpa using h0), ih]
    show Except.ok ((wrE im r).1 :: wvU im rs rs.length) = Except.ok (wvU im (r :: rs) (rs.length + 1))
    rw [wvU, wvU, List.take_succ_cons]; rfl
theorem wrsV_err {im : Img} : ∀ {rs : List Rcd} {i : Nat} (h : i < rs.length), WrI im rs i → (wrE im rs[i]).2 ≠ 0 → wrsV im rs = .error (wrE im rs[i]).2
  | r :: rs, 0, _, _, h => by rw [wrsV, if_pos (by simpa using h)]; rfl
  | r :: rs, i + 1, hi, hp, h => by
    have h0 := hp 0 (by simp) (by simp)
    have ih := wrsV_err (im := im) (rs := rs) (i := i) (by simpa using hi) (fun k hk hki => by
      have := hp (k + 1) (by simp; omega) (by omega)
      simpa using this) (by simpa using h)
    rw [wrsV, if_neg (by simpa using h0), ih]
    simp
theorem imgSz_area {s : List Sec} {a : Nat} {l : List Int} (hz : SzOk l) (h : (a : Int) + sumI l ≤ s.length) : imgSz (areaI s a l) = l := by
  have key : ∀ i, i ≤ l.length → imgSz (areaX s a l i) = l.take i := fun i => by
    induction i with
    | zero => intro _; rfl
    | succ i ih =>
      intro hi
      have hsu := hz.sum i
      have hil : i < l.length := by omega
      have hl0 := hz.2 l[i] (List.getElem_mem hil)
      have htk := sumI_take l i hil
      have hmo : sumI (l.take (i + 1)) ≤ sumI l := by
        have e := sumI_app (l.take (i + 1)) (l.drop (i + 1))
        rw [List.take_append_drop] at e
        have hd2 : SzOk (l.drop (i + 1)) := ⟨by rw [List.length_drop]; have := hz.1; omega, fun n hn => hz.2 n (List.mem_of_mem_drop hn)⟩
        have := hd2.sum'
        omega
      have e : imgSz (areaX s a l (i + 1)) = imgSz (areaX s a l i) ++ [(((s.drop (a + (sumI (l.take i)).toNat)).take (l.getD i 0).toNat).length : Int)] := by
        rw [imgSz, areaX, List.map_append]; rfl
      rw [e, ih (by omega), List.take_succ_eq_append_getElem hil, List.getD_eq_getElem?_getD, List.getElem?_eq_getElem hil, Option.getD_some, List.length_take, List.length_drop]
      congr 2
      omega
  have := key l.length (Nat.le_refl _)
  rwa [List.take_length] at this
theorem wrE_fits {im : Img} {r : Rcd} (h : (wrE im r).2 = 0) : fitsI im (wrE im r).1 = 0 ∧ sng r = some (wrE im r).1 := by
  cases hs : sng r with
  | none => rw [wrE_none hs] at h; cases h
  | some w => rw [wrE_some hs] at h ⊢; exact ⟨h, rfl⟩
theorem len_flatV {α : Type} {e : α → List UInt8} (he : ∀ a, 1 ≤ (e a).length) : ∀ l : List α, l.length ≤ (l.flatMap e).length
  | [] => Nat.le_refl _
  | a :: l => by
    rw [List.flatMap_cons, List.length_append, List.length_cons]
    have := he a
    have := len_flatV he l
    omega
theorem openJ_pay (s c : Int) (d : Dk) : ∀ r ∈ (openJ s c d).2.1, r.pay.length ≤ 4096 := by
  by_cases h : (rhead s c d).2.2 = 0
  case neg => rw [openJ_bad h]; exact fun r h => by cases h
  obtain ⟨hv, -, -, e⟩ := openJ_ok h
  rw [e]
  have hr := recsO_le (rhead s c d).2.1 (turnM (rhead s c d).1 (c - 16).toNat (readD d (s + 16) (c - 16)).1 (c - 16).toNat)
  intro r hm
  have := hr.1 (szR (r.pay.length : Int)) (List.mem_map.2 ⟨r, hm, rfl⟩)
  unfold szR at this
  split at this <;> omega
theorem sng_pay {r : Rcd} {w : Wr} (h : sng r = some w) : r.kind = 1 ∧ r.pay = encWrs [w] := by
  unfold sng at h
  split at h
  · rename_i hk
    refine ⟨hk, ?_⟩
    unfold sngP at h
    split at h
    · rename_i w' hx
      obtain rfl : w' = w := by simpa using h
      have := list_on wr_on _ _ _ hx
      rw [this, List.append_nil]; rfl
    · cases h
  · cases h
theorem sng_len {r : Rcd} {w : Wr} (h : sng r = some w) : w.data.length ≤ r.pay.length := by
  have hf := len_flatV (e := Sec.val) (fun s => by rw [s.len]; decide) w.data
  rw [(sng_pay h).2, encWrs, List.flatMap_cons, List.flatMap_nil, List.append_nil, encWr, encSecs]
  simp only [List.length_append]
  omega
end Go.Proofs.YtbnkggbpocaaiaaGreatDoor
namespace Go.Proofs.YtbnkggbpocaaiaaGreatDoor
open Go.Proofs
def preN (l : List Int) (i : Nat) : Nat := (sumI (l.take i)).toNat
def szAt (l : List Int) (i : Nat) : Nat := (l.getD i 0).toNat
theorem preN_s {l : List Int} (hz : SzOk l) {i : Nat} (h : i < l.length) : preN l (i + 1) = preN l i + szAt l i ∧ l[i] = (szAt l i : Int) ∧ sumI (l.take i) = (preN l i : Int) := by
  have h1 := hz.sum i
  have h2 := hz.2 l[i] (List.getElem_mem h)
  have h3 := sumI_take l i h
  have e : l.getD i 0 = l[i] := by rw [List.getD_eq_getElem?_getD, List.getElem?_eq_getElem h]; rfl
  unfold preN szAt
  rw [e]
  omega
theorem preN_mono {l : List Int} (hz : SzOk l) {i k : Nat} (h : i ≤ k) : preN l i ≤ preN l k := by
  induction k with
  | zero =>
    obtain rfl : i = 0 := by omega
    exact Nat.le_refl _
  | succ k ih =>
    rcases Nat.lt_or_eq_of_le h with e | e
    · by_cases hk : k < l.length
      · have := (preN_s hz hk).1
        have := ih (by omega)
        omega
      · have : preN l (k + 1) = preN l k := by unfold preN; rw [List.take_of_length_le (by omega), List.take_of_length_le (by omega)]
        rw [this]; exact ih (by omega)
    · rw [e]; exact Nat.le_refl _
theorem preN_all {l : List Int} (hz : SzOk l) : sumI l = (preN l l.length : Int) := by
  have := hz.sum'
  unfold preN; rw [List.take_length]; omega
theorem preN_in {l : List Int} (hz : SzOk l) {i : Nat} (h : i < l.length) : preN l i + szAt l i ≤ preN l l.length := by
  rw [← (preN_s hz h).1]; exact preN_mono hz h
theorem areaX_get (s : List Sec) (a : Nat) (l : List Int) : ∀ (m i : Nat), (areaX s a l m)[i]? = if i < m then some ((s.drop (a + preN l i)).take (szAt l i)) else none
  | 0, i => by rw [if_neg (by omega)]; rfl
  | m + 1, i => by
    rw [areaX, List.getElem?_append, areaX_len, areaX_get s a l m i]
    by_cases h : i < m
    · rw [if_pos h, if_pos h, if_pos (by omega)]
    · rw [if_neg h]
      by_cases h2 : i = m
      · subst h2
        rw [if_pos (by omega), Nat.sub_self]; rfl
      · rw [if_neg (by omega), List.getElem?_eq_none (by simp; omega)]
theorem sat_areaI (s : List Sec) (a : Nat) (l : List Int) (v p : Nat) : sat (areaI s a l) v p = if v < l.length ∧ p < szAt l v then s[a + preN l v + p]? else none := by
  rw [sat, areaI, areaX_get]
  by_cases h : v < l.length
  · rw [if_pos h, Option.bind_some, List.getElem?_take, List.getElem?_drop]
    by_cases h2 : p < szAt l v
    · rw [if_pos h2, if_pos ⟨h, h2⟩]
    · rw [if_neg h2, if_neg (fun q => h2 q.2)]
  · rw [if_neg h, if_neg (fun q => h q.1)]; rfl
theorem fits_gen {l : List Int} (hs : sizesE l = 0) {w : Wr} (h : fitsS l w = 0) : ∃ n p : Nat, w.volume = n ∧ w.start = p ∧ n < l.length ∧ p + w.data.length ≤ szAt l n := by
  have h' : fitsS (imgSz (imOf l)) w = 0 := by rw [imgSz_of hs]; exact h
  obtain ⟨n, hv, hn, hd, p, hp, hpl⟩ := fitsI_0 h'
  have hz := imgSz_of hs
  have hl : (imOf l).length = l.length := by have := congrArg List.length hz; rwa [imgSz_len] at this
  refine ⟨n, p, hv, hp, by omega, ?_⟩
  have hg := imgSz_getD (imOf l) n hn
  rw [hz] at hg
  unfold szAt
  omega
theorem area_same {s t : List Sec} {a : Nat} {l : List Int} (hl : s.length = t.length) (hz : SzOk l) (hin : a + preN l l.length ≤ s.length) (h : ∀ i, a ≤ i → i < a + preN l l.length → s[i]? = t[i]?) : areaI s a l = areaI t a l := by
  refine img_ext (by rw [imgSz_area hz (by have := preN_all hz; omega), imgSz_area hz (by have := preN_all hz; omega)]) fun v p => ?_
  rw [sat_areaI, sat_areaI]
  split
  · rename_i c
    have := preN_in hz c.1
    exact h _ (by omega) (by omega)
  · rfl
theorem opOf_gen {v : Sto} {l : List Int} {a : Nat} (hs : v.sizes = l) (hd : v.data = a) (hE : sizesE l = 0) {w : Wr} (h : fitsS l w = 0) : ∃ b : Nat, opOf v w = opW b w.data ∧ a ≤ b ∧ b + w.data.length ≤ a + preN l l.length ∧
    (∀ i : Nat, b ≤ i → i < b + w.data.length → ∃ n p : Nat, cov w n p ∧ i = a + preN l n + p ∧ n < l.length ∧ p < szAt l n) ∧
    ∀ s : List Sec, a + preN l l.length ≤ s.length → areaI (patS s b w.data) a l = ap1 (areaI s a l) w := by
  have hz := SzOk.of hE
  obtain ⟨n, p, hv, hp, hn, hc⟩ := fits_gen hE h
  obtain ⟨q1, q2, q3⟩ := preN_s hz hn
  have q4 := preN_in hz hn
  refine ⟨a + preN l n + p, ?_, by omega, by omega, fun i i1 i2 => ⟨n, i - (a + preN l n), ⟨hv, by omega, by omega⟩, by omega, hn, by omega⟩, fun s hsl => ?_⟩
  · rw [opOf, hs, hd, hv, hp, Int.toNat_natCast, q3]
    exact opW_val _ _ (by omega)
  · have hsz := imgSz_area (s := s) (a := a) hz (by have := preN_all hz; omega)
    have hf : fitsS (imgSz (areaI s a l)) w = 0 := by rw [hsz]; exact h
    refine img_ext (by rw [imgSz_ap1 hf, hsz, imgSz_area hz (by rw [patS_len]; have := preN_all hz; omega)]) fun v' p' => ?_
    rw [sat_ap1 hf, sat_areaI, sat_areaI]
    have hcov : cov w v' p' ↔ (n = v' ∧ p ≤ p' ∧ p' < p + w.data.length) := by unfold cov; rw [hv, hp]; omega
    by_cases hin : v' < l.length ∧ p' < szAt l v'
    · rw [if_pos hin, if_pos hin, patS_get (by omega)]
      have r1 := preN_s hz hin.1
      by_cases e : n = v'
      · subst e
        by_cases e1 : p ≤ p' ∧ p' < p + w.data.length
        · rw [if_pos (by omega), if_pos (hcov.2 ⟨rfl, e1⟩), hp, Int.toNat_natCast]
          congr 1; omega
        · rw [if_neg (by omega), if_neg (fun q => e1 (hcov.1 q).2)]
      · rw [if_neg (c := cov w v' p') (fun q => e (hcov.1 q).1), if_neg]
        rcases Nat.lt_or_gt_of_ne e with e2 | e2
        · have := preN_mono hz (show n + 1 ≤ v' by omega)
          omega
        · have := preN_mono hz (show v' + 1 ≤ n by omega)
          omega
    · rw [if_neg hin, if_neg hin, if_neg]
      intro q
      obtain ⟨rfl, q1, q2⟩ := hcov.1 q
      exact hin ⟨hn, by omega⟩
theorem home_gen {v : Sto} {l : List Int} {a : Nat} (hs : v.sizes = l) (hd : v.data = a) (hE : sizesE l = 0) : ∀ (ws : List Wr) (s : List Sec), a + preN l l.length ≤ s.length → (∀ w ∈ ws, fitsS l w = 0) →
    WsOk s.length (ws.map (opOf v)) ∧ areaI (execS s (ws.map (opOf v))) a l = apF (areaI s a l) ws ∧
    (∀ q x, InW (ws.map (opOf v)) q x → a ≤ q ∧ ∃ w ∈ ws, ∃ n p : Nat, cov w n p ∧ q = a + preN l n + p ∧ n < l.length ∧ p < szAt l n)
  | [], s, _, _ => ⟨fun o ho => (by cases ho), rfl, fun q x ⟨_, _, _, m, _⟩ => (by cases m)⟩
  | w :: ws, s, hl, h => by
    obtain ⟨b, e, a1, a2, a3, a4⟩ := opOf_gen hs hd hE (h w (by simp))
    obtain ⟨h1, h2, h3⟩ := home_gen hs hd hE ws (patS s b w.data) (by rw [patS_len]; exact hl) (fun x hx => h x (by simp [hx]))
    rw [patS_len] at h1
    rw [List.map_cons, e, execS_w]
    refine ⟨fun o ho => ?_, by rw [h2, a4 s hl]; rfl, fun q x hq => ?_⟩
    · rcases List.mem_cons.1 ho with rfl | ho
      · exact ⟨b, _, rfl, by omega⟩
      · exact h1 o ho
    · obtain ⟨c, m, i, m1, m2, m3⟩ := hq
      rcases List.mem_cons.1 m1 with e2 | m1
      · obtain ⟨rfl, rfl⟩ := opW_inj e2
        have hi := (List.getElem?_eq_some_iff.1 m2).1
        obtain ⟨n, p, r1, r2, r3, r4⟩ := a3 q (by omega) (by omega)
        exact ⟨by omega, w, by simp, n, p, r1, r2, r3, r4⟩
      · obtain ⟨g1, w', g2, n, p, g3, g4, g5, g6⟩ := h3 q x ⟨c, m, i, m1, m2, m3⟩
        exact ⟨g1, w', by simp [g2], n, p, g3, g4, g5, g6⟩
theorem sat_cov : ∀ (ws : List Wr) (l k : Img) (v p : Nat), imgSz l = imgSz k → (∀ w ∈ ws, fitsS (imgSz l) w = 0) → (∃ w ∈ ws, cov w v p) → sat (apF l ws) v p = sat (apF k ws) v p
  | [], l, k, v, p, _, _, ⟨w, hw, _⟩ => by cases hw
  | w :: ws, l, k, v, p, hs, hf, hc => by
    have h0 := hf w (by simp)
    have h0' : fitsS (imgSz k) w = 0 := by rw [← hs]; exact h0
    show sat (apF (ap1 l w) ws) v p = sat (apF (ap1 k w) ws) v p
    have e1 : imgSz (ap1 l w) = imgSz (ap1 k w) := by rw [imgSz_ap1 h0, imgSz_ap1 h0', hs]
    have e2 : ∀ x ∈ ws, fitsS (imgSz (ap1 l w)) x = 0 := fun x hx => by rw [imgSz_ap1 h0]; exact hf x (by simp [hx])
    by_cases c : cov w v p
    · refine sat_apF ws _ _ v p e1 e2 ?_
      rw [sat_ap1 h0, sat_ap1 h0', if_pos c, if_pos c]
    · refine sat_cov ws _ _ v p e1 e2 ?_
      obtain ⟨x, hx, hxc⟩ := hc
      rcases List.mem_cons.1 hx with rfl | hx
      · exact absurd hxc c
      · exact ⟨x, hx, hxc⟩
theorem home_mix {v : Sto} {l : List Int} {a : Nat} (hs : v.sizes = l) (hd : v.data = a) (hE : sizesE l = 0) {ws : List Wr} {s s' : List Sec} (hl : a + preN l l.length ≤ s.length) (hf : ∀ w ∈ ws, fitsS l w = 0) (hm : MixW s (InW (ws.map (opOf v))) s') : apF (areaI s' a l) ws = apF (areaI s a l) ws := by
  have hz := SzOk.of hE
  have hh := (home_gen hs hd hE ws s hl hf).2.2
  have z1 := imgSz_area (s := s) (a := a) hz (by have := preN_all hz; omega)
  have z2 := imgSz_area (s := s') (a := a) hz (by rw [hm.1]; have := preN_all hz; omega)
  have f1 : ∀ w ∈ ws, fitsS (imgSz (areaI s a l)) w = 0 := fun w hw => by rw [z1]; exact hf w hw
  have f2 : ∀ w ∈ ws, fitsS (imgSz (areaI s' a l)) w = 0 := fun w hw => by rw [z2]; exact hf w hw
  refine img_ext (by rw [apF_sz ws _ f2, apF_sz ws _ f1, z1, z2]) fun n p => ?_
  by_cases c : ∃ w ∈ ws, cov w n p
  · exact sat_cov ws _ _ n p (by rw [z1, z2]) f2 c
  · refine sat_apF ws _ _ n p (by rw [z1, z2]) f2 ?_
    rw [sat_areaI, sat_areaI]
    split
    · rename_i hin
      rcases hm.2 (a + preN l n + p) with e | ⟨x, hx, -⟩
      · exact e
      · obtain ⟨-, w, hw, n', p', hc, he, hn', hp'⟩ := hh _ x hx
        exfalso
        apply c
        have r1 := preN_s hz hin.1
        have r2 := preN_s hz hn'
        have : n = n' := by
          rcases Nat.lt_trichotomy n n' with e | e | e
          · have := preN_mono hz (show n + 1 ≤ n' by omega); omega
          · exact e
          · have := preN_mono hz (show n' + 1 ≤ n by omega); omega
        subst this
        have : p = p' := by omega
        subst this
        exact ⟨w, hw, hc⟩
    · rfl
end Go.Proofs.YtbnkggbpocaaiaaGreatDoor
namespace Go.Proofs.YtbnkggbpocaaiaaGreatDoor
open Go.Proofs
theorem openV_1 {d : Dk} {l : List Int} {n : Int} (h : checkD d ≠ 0) : openV d l n = (zsto, [], checkD d) := if_pos h
theorem openV_2 {d : Dk} {l : List Int} {n : Int} (h : checkD d = 0) (h2 : (sizeV l n).2 ≠ 0) : openV d l n = (zsto, [], (sizeV l n).2) := by rw [openV, if_neg (by simp [h]), if_pos h2]
theorem openV_3 {d : Dk} {l : List Int} {n : Int} (h : checkD d = 0) (h2 : (sizeV l n).2 = 0) (h3 : (d.stable.length : Int) < (sizeV l n).1) : openV d l n = (zsto, [], 2) := by rw [openV, if_neg (by simp [h]), if_neg (by simp [h2]), if_pos h3]
theorem openV_4 {d : Dk} {l : List Int} {n : Int} (h : checkD d = 0) (h2 : (sizeV l n).2 = 0) (h3 : ¬ (d.stable.length : Int) < (sizeV l n).1) (h4 : (openJ 0 n d).2.2.2 ≠ 0) : openV d l n = (zsto, [], (openJ 0 n d).2.2.2) := by rw [openV, if_neg (by simp [h]), if_neg (by simp [h2]), if_neg h3, if_pos h4]
theorem openV_5 {d : Dk} {l : List Int} {n : Int} (h : checkD d = 0) (h2 : (sizeV l n).2 = 0) (h3 : ¬ (d.stable.length : Int) < (sizeV l n).1) (h4 : (openJ 0 n d).2.2.2 = 0) : openV d l n = match wrsV (areaI (newestD d) n.toNat l) (openJ 0 n d).2.1 with
    | .error e => (zsto, [], e)
    | .ok ws => (⟨l, (openJ 0 n d).1, n, (openJ 0 n d).1.first - 1, ws, (apR (areaI (newestD d) n.toNat l) ws).1⟩, (openJ 0 n d).2.2.1, 0) := by
  rw [openV, if_neg (by simp [h]), if_neg (by simp [h2]), if_neg h3, if_neg (by simp [h4])] <;> rfl
theorem openJ_chk {s c : Int} {d : Dk} (h : (openJ s c d).2.2.2 = 0) : chkJ (openJ s c d).1 = true := by
  by_cases h' : (rhead s c d).2.2 = 0
  case neg => rw [openJ_bad h'] at h; exact absurd h h'
  obtain ⟨hv, hh, hn, e⟩ := openJ_ok h'
  rw [e]
  exact chkJ_jO hv hh.1 hh.2.1 hh.2.2.1 hh.2.2.2 (by rw [turnM_len]; omega)
abbrev stO (l : List Int) (j : Jrn) (n : Int) (cv im : CV) : List CV := [.sl .sh 1 (l.map ic), iv j.start, iv j.count, iv j.head, iv j.tail, iv j.first, .sl .sh 1 (j.sizes.map ic), iv n, iv (j.first - 1), cv, im]
abbrev HV (H : Hp) (d : Dk) (z : List CV) (er1 : CV) (j : Jrn) (so : List CV) (im : Img) (rs : List Rcd) (lp : Option (List CV)) : Hp :=
  H ++ (some (dkC d) :: some z :: some [.v (.slice none 0 0)] :: some [er1] :: some (jrC j) :: some so :: some [.sl .sh 1 (im.map imE)] :: some [.sl .sh 3 (rs.map rcC)] :: lp :: [])
set_option maxRecDepth 8000 in
set_option maxHeartbeats 1600000 in
theorem vOpen_cc (H : Hp) (V : List Nat) (d : Dk) (l : List Int) (n : Int) (hd : DkS d) (hl : l.length ≤ 9223372036854775807) : CC Tryz.prog 37 [.agg (dkC d), .sl .sh 1 (l.map ic), ci n] H V (Pu (flV (openV d l n)) H V) := by
  refine CC.of_swp0 Tryz.func37 rfl (by kernel_rfl) (by rw [Tryz.ntmps37]; exact len_le _ _ rfl) fun hok hokH => ?_
  have bad : ∀ {e : Nat} {H' : Hp} {V' : List Nat}, openV d l n = (zsto, [], e) → H'.take H.length = H → V'.take V.length = V → Fin H.length V.length (Pu (flV (openV d l n)) H V) (.tup [.agg zstC, .v (.slice none 0 0), er e]) H' V' := fun h1 h2 h3 => by
    rw [h1]
    exact Fin.pu (.tup (.cons (.agg zsto_le) (.cons (.nil 3 (by decide)) (.cons (.refl _) .nil)))) (okV_flV _ _ _) hokH h2 h3
  refine SWp0.seq (SWp.s0 (Wp.s ?_))
  simp -implicitDefEqProofs [go_sem, args0]
  refine SWp0.seq (SWp.s0 (sW ?_))
  simp -implicitDefEqProofs [go_sem]
  refine CC.mono (sCheck_cc _ _ d hd) ?_
  rintro _ _ _ ⟨rfl, rfl, rfl⟩
  simp -implicitDefEqProofs [go_sem]
  refine sW ?_
  by_cases h0 : checkD d = 0
  case neg =>
    simp -implicitDefEqProofs [go_sem, h0]
    refine Wp.s ?_
    simp -implicitDefEqProofs [go_sem]
    exact bad (openV_1 h0) (by simp) (by simp)
  simp -implicitDefEqProofs [go_sem, h0]
  refine Wp.s ?_
  simp -implicitDefEqProofs [go_sem]
  refine SWp0.seq (SWp.s0 (Wp.s ?_))
  simp -implicitDefEqProofs [go_sem]
  refine CC.mono (vSize_cc _ _ .sh l n hl) ?_
  rintro _ _ _ ⟨rfl, rfl, rfl⟩
  simp -implicitDefEqProofs [go_sem]
  refine SWp0.seq (SWp.s0 (sW ?_))
  by_cases h1 : (sizeV l n).2 = 0
  case neg =>
    simp -implicitDefEqProofs [go_sem, h1]
    refine Wp.s ?_
    simp -implicitDefEqProofs [go_sem]
    exact bad (openV_2 h0 h1) (by simp) (by simp)
  simp -implicitDefEqProofs [go_sem, h1]
  refine Wp.s ?_
  simp -implicitDefEqProofs [go_sem]
  refine SWp0.seq (SWp.s0 (sW ?_))
  by_cases h2 : (d.stable.length : Int) < (sizeV l n).1
  · simp -implicitDefEqProofs [go_sem, h2]
    refine Wp.s ?_
    simp -implicitDefEqProofs [go_sem]
    exact bad (openV_3 h0 h1 h2) (by simp) (by simp)
  simp -implicitDefEqProofs [go_sem, h2]
  refine Wp.s ?_
  simp -implicitDefEqProofs [go_sem]
  obtain ⟨z1, z2, z3, z4⟩ := sizeV_ok h1
  have hz := SzOk.of z1
  have hzl := (sizesE_0 z1)
  refine SWp0.seq (SWp.s0 (Wp.s ?_))
  simp -implicitDefEqProofs [go_sem]
  refine CC.mono (Open_cc _ _ 0 n d hd (loadS_len d 0)) ?_
  rintro _ _ _ ⟨rfl, rfl, rfl⟩
  have e5 := openV_5 (l := l) (n := n) h0 h1 h2
  have e4 := openV_4 (l := l) (n := n) h0 h1 h2
  obtain ⟨o1, o2, o3, o4⟩ := openJ_bd 0 n d
  have o5 := openJ_pay 0 n d
  have o6 := openJ_chk (s := 0) (c := n) (d := d)
  generalize openJ 0 n d = oj at e4 e5 o1 o2 o3 o4 o5 o6 ⊢
  obtain ⟨j, rs, ops, eo⟩ := oj
  dsimp only at e4 e5 o1 o2 o3 o4 o5 o6
  simp -implicitDefEqProofs [go_sem, opV]
  refine SWp0.seq (SWp.s0 (sW ?_))
  by_cases h4 : eo = 0
  case neg =>
    have h4' : ¬ (eo : Int) = 0 := by omega
    simp -implicitDefEqProofs [go_sem, h4, h4']
    refine Wp.s ?_
    simp -implicitDefEqProofs [go_sem]
    exact bad (e4 h4) (by simp) (by simp)
  subst h4
  replace e5 := e5 rfl
  have hjf := chkJ_first (o6 rfl)
  simp -implicitDefEqProofs [go_sem]
  refine Wp.s ?_
  simp -implicitDefEqProofs [go_sem]
  obtain ⟨m, rfl⟩ : ∃ m : Nat, n = (m : Int) := ⟨n.toNat, by omega⟩
  have hin : (m : Int) + sumI l ≤ d.stable.length := by rw [z4] at h2; omega
  have hsz := imgSz_area (s := newestD d) (a := m) hz (by rw [newestD_len]; exact hin)
  rw [Int.toNat_natCast] at e5
  refine SWp0.seq (SWp.s0 (Wp.s ?_))
  simp -implicitDefEqProofs [go_sem]
  refine CC.mono (content_cc _ _ d l m hd h0 hz hin) ?_
  rintro _ _ _ ⟨rfl, rfl, rfl⟩
  generalize areaI (newestD d) m l = im at hsz e5 ⊢
  have him := img_small z1 hsz
  simp -implicitDefEqProofs [go_sem]
  refine SWp0.seq (SWp.s0 (sW ?_))
  simp -implicitDefEqProofs [go_sem]
  refine Wp.s ?_
  simp -implicitDefEqProofs [go_sem]
  have w1 : IntKind.i64.wrap (j.first - 1) = j.first - 1 := IntWalk.i64_in _ ⟨by omega, by omega⟩
  refine SWp0.seq (SWp.s0 (SWp.drawnT [] [9] (.s 0 .pl <| .s 2 .pl <| .s 3 .pl <| .s 4 .pl <| .s 5 .pl <| .s 6 .pl <| .c 1 <| .s 7 .pl <| .s 8 .pl <| .s 9 .st <| .n) (by kernel_rfl) (by kernel_rfl) ?_))
  simp -implicitDefEqProofs [go_sem, w1]
  refine ⟨_, fun H V => vcloneInt_cc H V .sh l (by omega), ?_⟩
  simp -implicitDefEqProofs [go_sem, w1, jrC]
  refine SWp0.seq (SWp0.seq (SWp.s0 (Wp.s ?_)))
  simp -implicitDefEqProofs [go_sem]
  refine CC.mono (writes_cc _ _ im rs) ?_
  rintro _ _ _ ⟨rfl, rfl, rfl⟩
  simp -implicitDefEqProofs [go_sem]
  simp only [Nat.add_assoc, Nat.reduceAdd]
  obtain ⟨TT, hTT⟩ : ∃ TT : Tm, TT = [(6, .ptr (H.length + 1) 0), (7, .ptr (H.length + 2) 0), (8, .ptr (H.length + 3) 0), (14, opsV ops), (15, imV im), (16, .ptr (H.length + 5) 0), (75, .fn 150 [.ptr (H.length + 7) 0, .ptr (H.length + 6) 0])] := ⟨_, rfl⟩
  refine SWp0.ghost (T' := TT) (H' := H ++ [some (dkC d), some zstC, some [.v (.slice none 0 0)], some [ci 0], some (jrC j), some (stO l j m (.sl (.own V.length 0) 3 []) (.v (.slice none 0 0))), some [.sl .sh 1 (im.map imE)], some [.sl .sh 3 (rs.map rcC)]]) (V' := V ++ [0]) (Sh.tokL (b := H.length + 5) (ds := stO l j m (.sl (.own V.length 0) 3 []) (.v (.slice none 0 0))) (hget _ _ 5) (by simp [go_sem]) (by simp [CV.isObj]) (by rw [hTT]; simp [go_sem]) ?_ rfl) ?_
  · simp [go_sem]
    exact ⟨rfl, rfl⟩
  refine SWp0.block (SWp0.range TT (by rw [hTT]; rfl) (by rw [hTT]; simp [go_sem]) ?_)
  simp -implicitDefEqProofs [go_sem]
  generalize hbd : Code.block 1 _ = bd
  generalize has : Code.seq (Code.region 17 _ _) _ = asg
  refine CC.mono (writes1_cc (HV H d zstC (ci 0) j (stO l j m (.sl (.own V.length 0) 3 []) (.v (.slice none 0 0))) im rs (some [lpc 102 #[76, 77] asg bd TT .ready none])) (V ++ [0]) (H.length + 8) (H.length + 7) (H.length + 6) im rs (hget _ _ 7) (hget _ _ 6) (by omega) (fun r hr => by have := o5 r hr; omega) him.1 him.2 (fun r hr w hw => by have := sng_len hw; have := o5 r hr; omega)
    (fun i G V' => WrI im rs i ∧ V' = V ++ [i] ∧ G = HV H d zstC (ci 0) j (stO l j m (.sl (.own V.length i) 3 ((wvU im rs i).map wrC)) (.v (.slice none 0 0))) im rs (some [lpc 102 #[76, 77] asg bd TT .ready none]))
    (fun G V' => (WrI im rs rs.length ∧ V' = V ++ [rs.length] ∧ G = HV H d zstC (ci 0) j (stO l j m (.sl (.own V.length rs.length) 3 ((wvU im rs rs.length).map wrC)) (.v (.slice none 0 0))) im rs (some [lpc 102 #[76, 77] asg bd TT .ready none])) ∨
      ∃ i, ∃ h : i < rs.length, WrI im rs i ∧ (wrE im rs[i]).2 ≠ 0 ∧ V' = V ++ [i] ∧ G = HV H d zstC (er (wrE im rs[i]).2) j (stO l j m (.sl (.own V.length i) 3 ((wvU im rs i).map wrC)) (.v (.slice none 0 0))) im rs (some [lpc 102 #[76, 77] asg bd TT .done (some .ret)]))
    ⟨fun k h hk => absurd hk (Nat.not_lt_zero _), rfl, rfl⟩ ?_ ?_ ?_ ?_) ?_
  · rintro i _ V' ⟨-, rfl, rfl⟩
    exact ⟨by simp, hget _ _ 7, hget _ _ 6⟩
  · rintro i h hok' _ _ W ⟨hwi, rfl, rfl⟩
    refine YC.of_round (n := 102) (ps := #[76, 77]) (bd := bd) (T := TT) (by rw [List.append_assoc]; exact hget _ _ 8) rfl (by decide) ?_
    subst hbd has
    refine sW ?_
    simp -implicitDefEqProofs [go_sem, tps, hTT]
    refine Wp.s ?_
    simp -implicitDefEqProofs [go_sem]
    generalize hlp : lpc 102 #[76, 77] _ _ _ LoopState.busy none = lp
    generalize hqq : RQ 102 #[76, 77] _ _ _ _ _ = QQ
    refine SWp.block (SWp.seq (sW ?_))
    simp -implicitDefEqProofs [go_sem]
    refine Wp.s ?_
    simp -implicitDefEqProofs [go_sem]
    have hwl := wvU_len (im := im) (rs := rs) (i := i) (by omega)
    have hws := wvU_s (im := im) h
    have hwn : WrI im rs (i + 1) := fun k hk hki => by
      rcases Nat.lt_or_eq_of_le (Nat.le_of_lt_succ hki) with e | e
      · exact hwi k hk e
      · subst e; exact hok'
    refine Wp.s ?_
    simp -implicitDefEqProofs [go_sem, hwl]
    refine ⟨by omega, ?_⟩
    rw [← hqq, ← hlp]
    refine ⟨hget _ _ 8, rfl, _, ⟨hwn, rfl, rfl⟩, [some (wrC (wrE im rs[i]).1)], ?_⟩
    rw [hws]
    simp [go_sem]
  · rintro i h hne _ _ W ⟨hwi, rfl, rfl⟩
    have hne' : ¬ ((wrE im rs[i]).2 : Int) = 0 := by omega
    refine YC.of_round (n := 102) (ps := #[76, 77]) (bd := bd) (T := TT) (by rw [List.append_assoc]; exact hget _ _ 8) rfl (by decide) ?_
    subst hbd has
    refine sW ?_
    simp -implicitDefEqProofs [go_sem, tps, hTT]
    refine Wp.s ?_
    simp -implicitDefEqProofs [go_sem]
    generalize hlp : lpc 102 #[76, 77] _ _ _ LoopState.busy none = lp
    generalize hqq : RQ 102 #[76, 77] _ _ _ _ _ = QQ
    refine SWp.block (SWp.seq (sW ?_))
    simp -implicitDefEqProofs [go_sem, hne, hne']
    refine Wp.s ?_
    simp -implicitDefEqProofs [go_sem]
    rw [← hqq, ← hlp]
    refine ⟨hget _ _ 8, .inl rfl, _, .inr ⟨i, hwi, h, hne, rfl, rfl⟩, [some (wrC (wrE im rs[i]).1)], ?_⟩
    simp [go_sem]
    rfl
  · rintro _ _ ⟨h1, rfl, rfl⟩
    exact .inl ⟨h1, rfl, rfl⟩
  · rintro _ _ _ ⟨G, W, hQ, rfl⟩
    rcases hQ with ⟨hw, rfl, rfl⟩ | ⟨i, h, hwi, hne, rfl, rfl⟩
    · refine .inl ⟨by rw [List.append_assoc]; exact hget _ _ 8, ?_⟩
      have hws := wrsV_ok hw
      rw [hws] at e5
      have hwl := wvU_len (im := im) (rs := rs) (i := rs.length) (Nat.le_refl _)
      have hwd : ∀ w ∈ wvU im rs rs.length, w.data.length ≤ 1000000000 ∧ fitsS (imgSz im) w = 0 := fun w hm => by
        rw [wvU, List.take_length] at hm
        obtain ⟨r, hr, rfl⟩ := List.mem_map.1 hm
        obtain ⟨k, hk, rfl⟩ := List.getElem_of_mem hr
        obtain ⟨f1, f2⟩ := wrE_fits (hw k hk hk)
        have := sng_len f2
        have := o5 _ (List.getElem_mem hk)
        refine ⟨by omega, ?_⟩
        rwa [fitsI, if_neg (by rw [hsz]; simp [z1])] at f1
      generalize wvU im rs rs.length = ws at e5 hwl hwd ⊢
      have har : apR im ws = (apF im ws, 0, 0) := apR_F (by rw [hsz]; exact z1) fun w hm => (hwd w hm).2
      refine SWp0.seq (SWp0.seq (SWp.s0 (Wp.s ?_)))
      simp -implicitDefEqProofs [go_sem, hTT]
      refine CC.le (ys := [.sl .sh 1 (im.map imE), .sl .sh 3 (ws.map wrC)]) (.cons (.refl _) (.cons (.sh _ _ _) .nil)) ?_
      refine CC.mono (replay_cc _ _ .sh im ws him.1 (by omega) (fun w hm => (hwd w hm).1)) ?_
      rintro _ _ _ ⟨rfl, rfl, rfl⟩
      rw [har]
      simp -implicitDefEqProofs [go_sem]
      refine SWp0.seq (SWp.s0 (Wp.s ?_))
      simp -implicitDefEqProofs [go_sem]
      refine SWp.s0 (Wp.s ?_)
      simp -implicitDefEqProofs [go_sem]
      refine SWp0.seq (SWp.s0 (Wp.s ?_))
      simp -implicitDefEqProofs [go_sem]
      refine SWp.s0 (Wp.s ?_)
      simp -implicitDefEqProofs [go_sem]
      have e6 : openV d l m = (⟨l, j, m, j.first - 1, ws, apF im ws⟩, ops, 0) := by
        rw [e5]
        dsimp only
        rw [har]
      rw [e6]
      refine Fin.pu (.tup (.cons (.agg ?_) (.cons (.refl _) (.cons (.refl _) .nil)))) (okV_flV _ _ _) hokH (by simp) (by simp)
      exact .cons (.refl _) (.cons (.refl _) (.cons (.refl _) (.cons (.refl _) (.cons (.refl _) (.cons (.refl _) (.cons (.refl _) (.cons (.refl _) (.cons (.refl _) (.cons (.sh _ _ _) (.cons (.refl _) .nil))))))))))
    · refine .inr (.inl ⟨by rw [List.append_assoc]; exact hget _ _ 8, ?_⟩)
      rw [wrsV_err h hwi hne] at e5
      simp -implicitDefEqProofs [go_sem, blk, thn, hTT]
      exact bad e5 (by simp) (by simp)
end Go.Proofs.YtbnkggbpocaaiaaGreatDoor
namespace Go.Proofs.YtbnkggbpocaaiaaGreatDoor
open Go.Proofs
def recW (f : Int) : List Wr → List Rcd
  | [] => []
  | w :: ws => ⟨1, f, encWrs [w]⟩ :: recW (f + 1) ws
theorem recW_len : ∀ (ws : List Wr) (f : Int), (recW f ws).length = ws.length
  | [], f => rfl
  | w :: ws, f => by rw [recW, List.length_cons, recW_len ws]; rfl
theorem recW_snoc : ∀ (ws : List Wr) (f : Int) (w : Wr), recW f (ws ++ [w]) = recW f ws ++ [⟨1, f + ws.length, encWrs [w]⟩]
  | [], f, w => by simp [recW]
  | x :: ws, f, w => by
    rw [List.cons_append, recW, recW_snoc ws, recW, List.cons_append, List.length_cons]
    rw [show f + 1 + (ws.length : Int) = f + ((ws.length + 1 : Nat) : Int) by omega]
theorem sng_enc {k : Int} {w : Wr} (hd : w.data.length ≤ 65536) (hv : 0 ≤ w.volume) (hv2 : w.volume ≤ 9007199254740991) (hs : 0 ≤ w.start) (hs2 : w.start ≤ 9007199254740991) : sng ⟨1, k, encWrs [w]⟩ = some w := by
  have h := list_rt wr_rt [w] [] ⟨by simp, fun a ha => by rw [List.mem_singleton] at ha; subst ha; exact hd⟩
  rw [List.append_nil] at h
  have e : listP wrP (encWrs [w]) = .ok ([w], []) := by
    rw [encWrs, h]
    obtain ⟨a, b, c⟩ := w
    simp only [List.map_cons, List.map_nil]
    dsimp only at hv hv2 hs hs2
    rw [norm_nat hv hv2, norm_nat hs hs2]
  rw [sng, if_pos rfl]
  show sngP (listP wrP (encWrs [w])) = _
  rw [e]; rfl
theorem fits_sng {l : List Int} (hs : sizesE l = 0) {w : Wr} (h : fitsS l w = 0) {k : Int} : sng ⟨1, k, encWrs [w]⟩ = some w := by
  obtain ⟨n, p, hv, hp, hn, hc⟩ := fits_gen hs h
  have hz := SzOk.of hs
  have h1 := hz.1
  have h2 := hz.2 l[n] (List.getElem_mem hn)
  have h3 := (preN_s hz hn).2.1
  exact sng_enc (by omega) (by omega) (by omega) (by omega) (by omega)
theorem wrsV_rec {im : Img} {l : List Int} (hs : sizesE l = 0) (hi : imgSz im = l) : ∀ (ws : List Wr) (f : Int), (∀ w ∈ ws, fitsS l w = 0) → wrsV im (recW f ws) = .ok ws
  | [], f, _ => rfl
  | w :: ws, f, h => by
    have h0 := h w (by simp)
    have hw := wrE_some (im := im) (fits_sng hs h0 (k := f))
    have hf : fitsI im w = 0 := by rw [fitsI, if_neg (by rw [hi]; simp [hs]), hi, h0]
    rw [recW, wrsV, hw, if_neg (by simp [hf]), wrsV_rec hs hi ws (f + 1) (fun x hx => h x (by simp [hx]))]
structure VI (l : List Int) (J T : Nat) (s : List Sec) (v : Sto) (im : Img) (k : List Sec) : Prop where
  ok : StOk v
  sz : v.sizes = l
  js : v.jr.start = 0
  jc : v.jr.count = (J : Int)
  img : v.img = im
  rj : RJ s v.jr (recW v.jr.first v.pend) k T
  nx : nextJ v.jr ≤ T
  ar : apF (areaI s J l) v.pend = im
  len : s.length = J + preN l l.length
structure VX (l : List Int) (J : Nat) (s : List Sec) (v : Sto) : Prop where
  dt : v.data = J
  ap : v.applied = v.jr.first - 1
  pl : v.pend.length = v.jr.sizes.length
  hE : sizesE l = 0
  hz : SzOk l
  l4 : s.length ≤ 4096
  fs : ∀ w ∈ v.pend, fitsS l w = 0
  j2 : 20 ≤ J
  sl : 2 * (v.jr.sizes.length : Int) ≤ J - 16
theorem VI.x {l : List Int} {J T : Nat} {s : List Sec} {v : Sto} {im : Img} {k : List Sec} (h : VI l J T s v im k) : VX l J s v := by
  have hA := h.ok.A.a
  have hB := h.ok.A.b
  have hE : sizesE l = 0 := by rw [← h.sz]; exact h.ok.sz
  obtain ⟨g, hg⟩ := h.rj.jd.gd
  have hc := (chkJ_iff _).1 h.rj.jd.chk
  have hv := (validJ_iff _ _).1 hc.1
  have hsu := chkJ_sum h.rj.jd.chk
  have hge := sumI_ge _ hc.2.2.1
  have hJ := h.jc
  refine ⟨?_, Classical.byContradiction fun e => hB (.inl e), Classical.byContradiction fun e => hB (.inr e), hE, SzOk.of hE, hg.l2, fun w hw => by rw [← h.sz]; exact stOk_fits h.ok w hw, by omega, by omega⟩
  have : v.data = v.jr.count := Classical.byContradiction fun e => hA (.inr (.inl e))
  omega
theorem VI.mono {l : List Int} {J T T' : Nat} {s : List Sec} {v : Sto} {im : Img} {k : List Sec} (h : VI l J T s v im k) (ht : T ≤ T') : VI l J T' s v im k :=
  ⟨h.ok, h.sz, h.js, h.jc, h.img, h.rj.mono ht, by have := h.nx; omega, h.ar, h.len⟩
theorem VI.open {l : List Int} {J T : Nat} {s : List Sec} {v : Sto} {im : Img} {k : List Sec} (h : VI l J T s v im k) :
    ∃ ws, openV ⟨s, []⟩ l J = (v, clnO ws, 0) ∧ WsOk s.length ws ∧ ws.length ≤ J ∧ (∀ s', MixW s (InW ws) s' → VI l J T s' v im k) ∧ VI l J T (execS s ws) v im [] ∧ (k = [] → ws = []) := by
  have X := h.x
  have hpre := preN_all X.hz
  have ho := h.rj.open
  obtain ⟨ws, c1, c2, c3, c4, c5, c6, c7⟩ := h.rj.clean
  rw [c1, h.js, h.jc] at ho
  have hlen := h.len
  have hsz := imgSz_area (s := s) (a := J) X.hz (by omega)
  have hA := h.ok.A.a
  have hsv : sizeV l J = ((J : Int) + sumI l, 0) := by
    rw [sizeV, if_neg (by simp [X.hE]), if_neg]
    have := X.l4
    have := X.j2
    omega
  have hwr := wrsV_rec X.hE hsz v.pend v.jr.first X.fs
  have har : apR (areaI s J l) v.pend = (apF (areaI s J l) v.pend, 0, 0) := apR_F (by rw [hsz]; exact X.hE) (by rw [hsz]; exact X.fs)
  have e0 := openV_5 (d := ⟨s, []⟩) (l := l) (n := J) (chk_nil X.l4) (by rw [hsv]) (by rw [hsv]; show ¬ (s.length : Int) < J + sumI l; omega) (by rw [ho])
  rw [ho, Int.toNat_natCast, show newestD ⟨s, []⟩ = s from rfl, hwr] at e0
  dsimp only at e0
  rw [har, h.ar] at e0
  have hP : ∀ q x, InW ws q x → 0 ≤ q ∧ q < J := fun q x hq => by
    have := c3 q x hq
    rw [h.js, h.jc] at this
    have : q < (0 : Int).toNat + (J : Int).toNat := this.2
    omega
  have hto : ∀ s' k', MixW s (InW ws) s' → RJ s' v.jr (recW v.jr.first v.pend) k' T → VI l J T s' v im k' := fun s' k' hm hr =>
    ⟨h.ok, h.sz, h.js, h.jc, h.img, hr, h.nx, by rw [← h.ar]; congr 1; exact area_same hm.1 X.hz (by rw [hm.1]; omega) (fun i i1 i2 => mix_out hm hP (.inr i1)), by rw [hm.1]; exact hlen⟩
  refine ⟨ws, ?_, c2, ?_, fun s' hm => hto s' k hm (c4 s' hm), hto _ _ (exec_mix ws s c2) c5, c6⟩
  · rw [e0]
    show ((⟨l, v.jr, J, v.jr.first - 1, v.pend, im⟩ : Sto), clnO ws, 0) = (v, clnO ws, 0)
    rw [← h.sz, ← X.dt, ← X.ap, ← h.img]
  · rw [h.jc] at c7
    have := X.j2
    omega
theorem VI.wr {l : List Int} {J T : Nat} {s : List Sec} {v : Sto} {im : Img} (h : VI l J T s v im []) (hT : T ≤ 1000) {w : Wr} (hf : fitsS l w = 0) (hp : (encWrs [w]).length ≤ 4096) :
    (writeV v w).2.2.2 = 11 ∨ ∃ ws v', writeV v w = (v', nextJ v.jr, ws ++ [opS], 0) ∧ v'.jr.first = v.jr.first ∧ v'.pend = v.pend ++ [w] ∧ ws.length ≤ 2 ∧ WsOk s.length ws ∧
      (∀ s', MixW s (InW ws) s' → ∃ k, VI l J (T + 1) s' v im k ∨ VI l J (T + 1) s' v' (ap1 im w) []) ∧ VI l J (T + 1) (execS s ws) v' (ap1 im w) [] := by
  have X := h.x
  have hpre := preN_all X.hz
  have hlen := h.len
  have hJ := h.rj.jd.chk
  have hn := chkJ_next hJ
  have hnx := h.nx
  have hnd : nextJ v.jr = v.jr.first + v.jr.sizes.length := rfl
  have hwv : writeV v w = if (appJ v.jr 1 (encWrs [w])).2.2 ≠ 0 then (zsto, 0, [], (appJ v.jr 1 (encWrs [w])).2.2) else (⟨v.sizes, (appJ v.jr 1 (encWrs [w])).1, v.data, v.applied, v.pend ++ [w], ap1 v.img w⟩, nextJ v.jr, (appJ v.jr 1 (encWrs [w])).2.1, 0) := by
    rw [writeV, if_neg (by simp [stOk_chk h.ok]), if_neg (by rw [h.sz]; simp [hf])]
  cases hen : encR ⟨1, nextJ v.jr, encWrs [w]⟩ with
  | error e =>
    rw [enc_ok (by show ¬ ((1 : Int) < 1 ∨ 255 < (1 : Int) ∨ nextJ v.jr < 1 ∨ 4294967295 < nextJ v.jr); omega) (by show ¬ 4096 < (encWrs [w]).length; omega)] at hen
    cases hen
  | ok rl =>
    by_cases h2 : freeJ v.jr < rl.length
    · left
      rw [hwv, appJ_full hJ hen (by omega) h2]; rfl
    right
    have h1 : ¬ 1073741824 ≤ nextJ v.jr := by omega
    obtain ⟨a1, a2, a3, a4⟩ := h.rj.app hen h1 h2
    rw [appJ_ok hJ hen h1 h2, if_neg (by simp)] at hwv
    dsimp only at hwv
    generalize hjd : (⟨v.jr.start, v.jr.count, v.jr.head, (v.jr.tail + rl.length) % (v.jr.count - 16), v.jr.first, v.jr.sizes ++ [(rl.length : Int)]⟩ : Jrn) = j' at hwv a3 a4
    have e1 : j'.start = v.jr.start ∧ j'.count = v.jr.count ∧ j'.first = v.jr.first ∧ j'.sizes.length = v.jr.sizes.length + 1 := by rw [← hjd]; exact ⟨rfl, rfl, rfl, by simp⟩
    obtain ⟨e1, e2, e3, e4⟩ := e1
    have hrec : recW v.jr.first v.pend ++ [⟨1, nextJ v.jr, encWrs [w]⟩] = recW j'.first (v.pend ++ [w]) := by
      rw [recW_snoc, e3, hnd, X.pl]
    rw [hrec] at a3 a4
    have hP : ∀ q x, InW (wrapW v.jr.start v.jr.count v.jr.tail rl) q x → 0 ≤ q ∧ q < J := fun q x hq => by
      have := a2 q x hq
      rw [h.js, h.jc] at this
      have : q < (0 : Int).toNat + (J : Int).toNat := this.2
      omega
    have har : ∀ s', MixW s (InW (wrapW v.jr.start v.jr.count v.jr.tail rl)) s' → areaI s' J l = areaI s J l := fun s' hm => area_same hm.1 X.hz (by rw [hm.1]; omega) (fun i i1 i2 => mix_out hm hP (.inr i1))
    have hfi : fitsS (imgSz v.img) w = 0 := by rw [h.ok.im, h.sz]; exact hf
    have hfs : ∀ x ∈ v.pend, fitsS (imgSz v.img) x = 0 := fun x hx => by rw [h.ok.im]; exact stOk_fits h.ok x hx
    have hA := h.ok.A.a
    have hok' : StOk ⟨v.sizes, j', v.data, v.applied, v.pend ++ [w], ap1 v.img w⟩ := by
      refine stOk_of h.ok.sz ⟨a4.jd.chk, ?_, ?_⟩ (fun x hx => ?_) ?_ (apF_again hfs hfi (stOk_F h.ok))
      · show ¬ (j'.start ≠ 0 ∨ v.data ≠ j'.count ∨ 4096 - sumI v.sizes < v.data)
        rw [e1, e2]; exact hA
      · show ¬ (v.applied ≠ j'.first - 1 ∨ (v.pend ++ [w]).length ≠ j'.sizes.length)
        rw [e3, e4, List.length_append, List.length_singleton, X.ap, X.pl]; simp
      · rcases List.mem_append.1 hx with hx | hx
        · exact stOk_fits h.ok x hx
        · rw [List.mem_singleton] at hx; rw [hx]; show fitsS v.sizes _ = 0; rw [h.sz]; exact hf
      · show imgSz (ap1 v.img w) = v.sizes
        rw [imgSz_ap1 hfi, h.ok.im]
    have hold : ∀ s' k', MixW s (InW (wrapW v.jr.start v.jr.count v.jr.tail rl)) s' → RJ s' v.jr (recW v.jr.first v.pend) k' T → VI l J (T + 1) s' v im k' := fun s' k' hm hr =>
      ⟨h.ok, h.sz, h.js, h.jc, h.img, hr.mono (Nat.le_succ _), by omega, by rw [har s' hm]; exact h.ar, by rw [hm.1]; exact hlen⟩
    have hnew : ∀ s', MixW s (InW (wrapW v.jr.start v.jr.count v.jr.tail rl)) s' → RJ s' j' (recW j'.first (v.pend ++ [w])) [] T → VI l J (T + 1) s' ⟨v.sizes, j', v.data, v.applied, v.pend ++ [w], ap1 v.img w⟩ (ap1 im w) [] := fun s' hm hr =>
      ⟨hok', h.sz, by rw [← h.js]; exact e1, by rw [← h.jc]; exact e2, by rw [← h.img], hr.mono (Nat.le_succ _), by show j'.first + (j'.sizes.length : Int) ≤ _; rw [e3, e4]; omega, by rw [har s' hm]; show apF _ (v.pend ++ [w]) = _; rw [apF_snoc, h.ar], by rw [hm.1]; exact hlen⟩
    refine ⟨wrapW v.jr.start v.jr.count v.jr.tail rl, _, hwv, e3, rfl, wrapW_len _ _ _ _, a1, fun s' hm => ?_, hnew _ (exec_mix _ s a1) a4⟩
    rcases a3 s' hm with e | e
    · exact ⟨rl, .inl (hold s' rl hm e)⟩
    · exact ⟨[], .inr (hnew s' hm e)⟩
end Go.Proofs.YtbnkggbpocaaiaaGreatDoor
namespace Go.Proofs.YtbnkggbpocaaiaaGreatDoor
open Go.Proofs
theorem VI.fl {l : List Int} {J T : Nat} {s : List Sec} {v : Sto} {im : Img} (h : VI l J T s v im []) (hT : T ≤ 1000) :
    (v.pend = [] ∧ flushV ⟨s, []⟩ v = (v, [], 0)) ∨
    ∃ w1 w2 v', flushV ⟨s, []⟩ v = (v', w1 ++ opS :: (w2 ++ [opS]), 0) ∧ v'.pend = [] ∧ v'.jr.first = nextJ v.jr ∧ w1.length ≤ J ∧ w2.length ≤ 2 ∧ WsOk s.length w1 ∧ WsOk s.length w2 ∧
      (∀ s', MixW s (InW w1) s' → VI l J (T + 1) s' v im []) ∧ (∀ s', MixW (execS s w1) (InW w2) s' → VI l J (T + 1) s' v im [] ∨ VI l J (T + 1) s' v' im []) ∧ VI l J (T + 1) (execS (execS s w1) w2) v' im [] := by
  have X := h.x
  have hpre := preN_all X.hz
  have hlen := h.len
  have hJ := h.rj.jd.chk
  have hnx := h.nx
  have hnd : nextJ v.jr = v.jr.first + v.jr.sizes.length := rfl
  have hc := chk_nil X.l4
  have e1 : flushV ⟨s, []⟩ v = if v.pend.length = 0 then (v, [], 0)
      else if (relJ ⟨s, []⟩ v.jr (nextJ v.jr - 1)).2.2 ≠ 0 then (zsto, [], (relJ ⟨s, []⟩ v.jr (nextJ v.jr - 1)).2.2)
      else (⟨v.sizes, (relJ ⟨s, []⟩ v.jr (nextJ v.jr - 1)).1, v.data, nextJ v.jr - 1, [], v.img⟩, v.pend.map (opOf v) ++ opS :: (relJ ⟨s, []⟩ v.jr (nextJ v.jr - 1)).2.1, 0) := by
    rw [flushV, if_neg (by simp [hc]), if_neg (by simp [stOk_chk h.ok]), if_neg (by rw [X.dt, h.sz]; show ¬ (s.length : Int) < J + sumI l; omega)]
  by_cases h0 : v.pend.length = 0
  · rw [if_pos h0] at e1
    exact .inl ⟨List.eq_nil_of_length_eq_zero h0, e1⟩
  right
  rw [if_neg h0] at e1
  obtain ⟨k1, k2, k3⟩ := home_gen h.sz X.dt X.hE v.pend s (by omega) X.fs
  have hP1 : ∀ q x, InW (v.pend.map (opOf v)) q x → J ≤ q ∧ q < s.length := fun q x hq => by
    obtain ⟨g1, w, -, n, p, -, g4, g5, g6⟩ := k3 q x hq
    have := preN_in X.hz g5
    omega
  have hkeep : ∀ s', MixW s (InW (v.pend.map (opOf v))) s' → RJ s' v.jr (recW v.jr.first v.pend) [] T := fun s' hm => by
    have hs : ∀ q, q < J → s'[q]? = s[q]? := fun q hq => mix_out hm hP1 (.inl hq)
    obtain ⟨st, n, hd, u, V⟩ := h.rj.val
    obtain ⟨R, hR, hTC⟩ := h.rj.ring
    have e0 : v.jr.start.toNat = 0 := by rw [h.js]; rfl
    refine ⟨sb_keep' h.rj.jd hm.1 (fun q q1 q2 => hs q ?_), h.rj.sz, h.rj.rc, h.rj.lk, R, ?_, hTC⟩
    · have := X.j2; rw [e0] at q2; omega
    · rw [← hR, ringJ, ringJ, e0, h.jc]
      have : (v.jr.head.toNat) < ((J : Int) - 16).toNat := by
        have := V.ehd; have := V.ehn; have := V.ect; have := h.jc
        omega
      refine ring_keep (by have := X.j2; omega) this hm.1 fun q q1 q2 => hs q (by have := X.j2; omega)
  have hmix1 : ∀ s', MixW s (InW (v.pend.map (opOf v))) s' → VI l J (T + 1) s' v im [] := fun s' hm =>
    ⟨h.ok, h.sz, h.js, h.jc, h.img, (hkeep s' hm).mono (Nat.le_succ _), by omega, by rw [home_mix h.sz X.dt X.hE (by omega) X.fs hm]; exact h.ar, by rw [hm.1]; exact hlen⟩
  obtain ⟨s1, hs1⟩ : ∃ s1, s1 = execS s (v.pend.map (opOf v)) := ⟨_, rfl⟩
  have hm1 := exec_mix _ s k1
  have hrj1 := hkeep _ hm1
  rw [← hs1] at k2 hm1 hrj1
  have hs1l : s1.length = s.length := hm1.1
  have hrl : (recW v.jr.first v.pend).length = v.jr.sizes.length := by rw [recW_len, X.pl]
  obtain ⟨ws, r1, r0, r2, r3, r4, r5⟩ := h.rj.rel (by omega) (n := v.jr.sizes.length) (by omega) (by rw [← X.pl]; exact h0)
  obtain ⟨ws', r1', -, r2', r3', r4', r5'⟩ := hrj1.rel (by omega) (n := v.jr.sizes.length) (by omega) (by rw [← X.pl]; exact h0)
  have hsame : relJ ⟨s1, []⟩ v.jr (v.jr.first - 1 + (v.jr.sizes.length : Int)) = relJ ⟨s, []⟩ v.jr (v.jr.first - 1 + (v.jr.sizes.length : Int)) := by
    have hc1 := chk_nil (show s1.length ≤ 4096 by have := X.l4; omega)
    have hst : ∀ p, storeS ⟨s1, []⟩ v.jr.start p = storeS ⟨s, []⟩ v.jr.start p := fun p => by
      have hl16 : 0 + 16 ≤ s.length := by have := X.j2; omega
      obtain ⟨f1, f2⟩ := find_nil (o := 0) hl16 X.l4
      obtain ⟨f3, f4⟩ := find_nil (o := 0) (s := s1) (by omega) (by have := X.l4; omega)
      have hw : win 0 s1 = win 0 s := by
        rw [win, win]
        refine List.ext_getElem? fun i => ?_
        rw [List.getElem?_take, List.getElem?_take]
        split
        · rw [List.getElem?_drop, List.getElem?_drop, mix_out hm1 hP1 (.inl (by have := X.j2; omega))]
        · rfl
      rw [h.js]
      rw [storeS, storeS]
      show (if findE ⟨s1, []⟩ ((0 : Nat) : Int) ≠ 0 then _ else _) = (if findE ⟨s, []⟩ ((0 : Nat) : Int) ≠ 0 then _ else _)
      rw [show (0 : Int) = ((0 : Nat) : Int) from rfl, f1, f3, f2, f4, hw]
    simp only [relJ, hst, hc, hc1]
  rw [r1, r1'] at hsame
  have hww : ws' = ws := by
    simp only [Prod.mk.injEq] at hsame
    exact List.append_cancel_right hsame.2.1
  subst hww
  rw [show v.jr.first - 1 + (v.jr.sizes.length : Int) = nextJ v.jr - 1 by omega] at r1
  rw [r1, if_neg (by simp)] at e1
  dsimp only at e1
  have hdr : (recW v.jr.first v.pend).drop v.jr.sizes.length = [] := List.drop_of_length_le (by omega)
  rw [hdr] at r4' r5'
  have hP2 : ∀ q x, InW ws' q x → 0 ≤ q ∧ q < 16 := fun q x hq => by
    have := r3' q x hq
    rw [h.js] at this
    have : q < (0 : Int).toNat + 16 := this.2
    omega
  have harea : ∀ s', MixW s1 (InW ws') s' → areaI s' J l = im := fun s' hm => by
    rw [← h.ar, ← k2]
    exact area_same hm.1 X.hz (by rw [hm.1]; omega) (fun i i1 i2 => mix_out hm hP2 (.inr (by have := X.j2; omega)))
  have hA := h.ok.A.a
  have hds : (dropJ v.jr v.jr.sizes.length).sizes = [] := List.drop_length
  have hdf : (dropJ v.jr v.jr.sizes.length).first = nextJ v.jr := rfl
  have hjok : ∀ s', RJ s' (dropJ v.jr v.jr.sizes.length) [] [] (T + 1) → StOk ⟨v.sizes, dropJ v.jr v.jr.sizes.length, v.data, nextJ v.jr - 1, [], v.img⟩ := fun s' hr => by
    refine stOk_of h.ok.sz ⟨hr.jd.chk, hA, ?_⟩ (fun w hw => (by cases hw)) h.ok.im rfl
    show ¬ (nextJ v.jr - 1 ≠ nextJ v.jr - 1 ∨ ([] : List Wr).length ≠ (dropJ v.jr v.jr.sizes.length).sizes.length)
    rw [hds]; simp
  have hnew : ∀ s', MixW s1 (InW ws') s' → RJ s' (dropJ v.jr v.jr.sizes.length) [] [] (T + 1) → VI l J (T + 1) s' ⟨v.sizes, dropJ v.jr v.jr.sizes.length, v.data, nextJ v.jr - 1, [], v.img⟩ im [] := fun s' hm hr =>
    ⟨hjok s' hr, h.sz, h.js, h.jc, h.img, hr, by show (dropJ v.jr v.jr.sizes.length).first + (((dropJ v.jr v.jr.sizes.length).sizes.length : Nat) : Int) ≤ _; rw [hds, hdf]; simp; omega, harea s' hm, by rw [hm.1, hs1l]; exact hlen⟩
  have hold : ∀ s', MixW s1 (InW ws') s' → RJ s' v.jr (recW v.jr.first v.pend) [] (T + 1) → VI l J (T + 1) s' v im [] := fun s' hm hr =>
    ⟨h.ok, h.sz, h.js, h.jc, h.img, hr, by omega, by rw [harea s' hm]; have := stOk_F h.ok; rw [h.img] at this; exact this, by rw [hm.1, hs1l]; exact hlen⟩
  have hpl := X.pl
  have hsl := X.sl
  refine ⟨v.pend.map (opOf v), ws', _, e1, rfl, rfl, by rw [List.length_map]; omega, by omega, k1, by rw [hs1l] at r2'; exact r2', hmix1, fun s' hm => ?_, ?_⟩
  · rw [← hs1] at hm
    rcases r4' s' hm with e | e
    · exact .inl (hold s' hm e)
    · exact .inr (hnew s' hm e)
  · rw [← hs1]
    exact hnew _ (exec_mix ws' s1 r2') r5'
theorem imOf_area {n J : Nat} {l : List Int} (hE : sizesE l = 0) (h : J + preN l l.length ≤ n) (hJ : 16 ≤ J) : areaI (newS n 0) J l = imOf l := by
  have hz := SzOk.of hE
  have hpre := preN_all hz
  refine img_ext (by rw [imgSz_area hz (by rw [newS_len]; omega), imgSz_of hE]) fun v p => ?_
  rw [sat_areaI]
  by_cases c : v < l.length ∧ p < szAt l v
  · have := preN_in hz c.1
    rw [if_pos c, newS_get (by omega) (by omega) (by omega), sat, imOf, List.getElem?_map, List.getElem?_eq_getElem c.1]
    have e : l[v] = (szAt l v : Int) := (preN_s hz c.1).2.1
    show _ = (List.replicate (l[v]).toNat sec0)[p]?
    rw [List.getElem?_replicate, if_pos (by omega)]
  · rw [if_neg c, sat, imOf, List.getElem?_map]
    by_cases hv : v < l.length
    · rw [List.getElem?_eq_getElem hv]
      have e : l[v] = (szAt l v : Int) := (preN_s hz hv).2.1
      show _ = (List.replicate (l[v]).toNat sec0)[p]?
      rw [List.getElem?_replicate, if_neg (by intro q; exact c ⟨hv, by omega⟩)]
    · rw [List.getElem?_eq_none (by omega)]; rfl
theorem VI.begin {l : List Int} {J : Nat} (hE : sizesE l = 0) (hJ : 20 ≤ J) (h : J + preN l l.length ≤ 4096) :
    fmtV l J = (⟨l, newJ 0 J, J, 0, [], imOf l⟩, (fmtV l J).2.1, 0) ∧ runR ⟨zerL (J + preN l l.length), []⟩ (fmtV l J).2.1 = (⟨newS (J + preN l l.length) 0, []⟩, (fmtV l J).2.1.length, 0) ∧
    VI l J 1 (newS (J + preN l l.length) 0) ⟨l, newJ 0 J, J, 0, [], imOf l⟩ (imOf l) [] := by
  have hz := SzOk.of hE
  have hpre := preN_all hz
  have hv : validJ ((0 : Nat) : Int) J = true := (validJ_iff _ _).2 ⟨by omega, by omega, by omega, by omega⟩
  have hf := fmtJ_eq hv
  obtain ⟨x1, x2, x3⟩ := fmtJ_exec (n := J + preN l l.length) hv (by omega)
  rw [show ((0 : Nat) : Int) = 0 from rfl] at hf x1 x2 x3
  have hsv : sizeV l J = ((J : Int) + sumI l, 0) := by rw [sizeV, if_neg (by simp [hE]), if_neg (by omega)]
  have hfm : fmtV l J = (⟨l, (formatJ 0 J).1, J, 0, [], imOf l⟩, opW J (List.replicate (sumI l).toNat sec0) :: opS :: (formatJ 0 J).2.1, 0) := by rw [fmtV, if_neg (by rw [hsv]; simp)]
  have h1 : fmtV l J = (⟨l, newJ 0 J, J, 0, [], imOf l⟩, (fmtV l J).2.1, 0) := by rw [hfm, hf]
  have hrj := newS_RJ (n := J + preN l l.length) hv (by omega) h
  rw [show ((0 : Nat) : Int) = 0 from rfl] at hrj
  refine ⟨h1, ?_, ?_⟩
  · have ho : ∀ o ∈ (fmtV l J).2.1, OpOk (zerL (J + preN l l.length)).length o := fun o ho => by
      rw [zerL_len]
      rw [hfm] at ho
      rcases List.mem_cons.1 ho with rfl | ho
      · exact .inr ⟨J, _, rfl, by rw [List.length_replicate]; omega⟩
      · rcases List.mem_cons.1 ho with rfl | ho
        · exact .inl rfl
        · exact x2 o ho
    rw [runR_exec (by rw [zerL_len]; exact h) ho (.inr ?_)]
    · congr 2
      rw [hfm]
      show execS (zerL _) (opW J (List.replicate (sumI l).toNat sec0) :: opS :: (formatJ 0 J).2.1) = _
      rw [execS_w, execS_s, pat_zer (by omega), x1]
    · rw [hfm]
      show (opW J _ :: opS :: (formatJ 0 J).2.1).getLast? = _
      rw [List.getLast?_cons, List.getLast?_cons, x3]; rfl
  · have hok : StOk ⟨l, newJ 0 J, J, 0, [], imOf l⟩ := by
      refine stOk_of hE ⟨hrj.jd.chk, ?_, ?_⟩ (fun w hw => (by cases hw)) (imgSz_of hE) rfl
      · show ¬ ((0 : Int) ≠ 0 ∨ (J : Int) ≠ J ∨ 4096 - sumI l < (J : Int)); omega
      · show ¬ ((0 : Int) ≠ 1 - 1 ∨ (0 : Nat) ≠ 0); omega
    exact ⟨hok, rfl, rfl, rfl, rfl, hrj, by show (1 : Int) + ((0 : Nat) : Int) ≤ 1; omega, by show apF (areaI _ J l) [] = _; rw [apF_nil, imOf_area hE (Nat.le_refl _) (by omega)], newS_len _ _⟩
end Go.Proofs.YtbnkggbpocaaiaaGreatDoor
namespace Go.Proofs.YtbnkggbpocaaiaaGreatDoor
open Go.Proofs
abbrev VQ (T : Nat) (z : List Sec × Sto × Img) : Prop := VI [6, 3] 40 T z.1 z.2.1 z.2.2 []
theorem VQ.begin : VQ 1 qZ0 := by
  obtain ⟨b1, b2, b3⟩ := VI.begin (l := [6, 3]) (J := 40) qf4 (by decide) (by decide)
  have h0 : qD0 = ⟨zerL (40 + preN [6, 3] [6, 3].length), []⟩ := by kernel_rfl
  have h1 : qS0 = ⟨[6, 3], newJ 0 40, 40, 0, [], imOf [6, 3]⟩ := by
    show (fmtV [6, 3] ((40 : Nat) : Int)).1 = _
    rw [b1]; rfl
  have h2 : qs1 = newS (40 + preN [6, 3] [6, 3].length) 0 := by
    show (runR qD0 (fmtV [6, 3] ((40 : Nat) : Int)).2.1).1.stable = _
    rw [h0]
    exact congrArg (fun r : Dk × Nat × Nat => r.1.stable) b2
  show VI [6, 3] 40 1 qs1 qS0 qI0 []
  rw [h1, h2]
  exact b3
end Go.Proofs.YtbnkggbpocaaiaaGreatDoor
namespace Go.Proofs.YtbnkggbpocaaiaaGreatDoor
open Go.Proofs
structure NxOk (l : List Int) (J T : Nat) (s : List Sec) (v : Sto) (im : Img) (ops : List Opn) (v' : Sto) (im' : Img) : Prop where
  len : ops.length ≤ J + 4
  tot : tot ops ≤ (J + 4) * s.length
  run : ∃ s1, runR ⟨s, []⟩ ops = (⟨s1, []⟩, ops.length, 0) ∧ VI l J T s1 v' im' []
  itr : ∀ a : Nat, a ≤ ops.length → ∀ d' e, ItrS ⟨s, []⟩ ops a d' e → e = 0 ∧ ∃ s' k, d' = ⟨s', []⟩ ∧ ((a < ops.length ∧ VI l J T s' v im k) ∨ VI l J T s' v' im' [])
theorem NxOk.nil {l : List Int} {J T : Nat} {s : List Sec} {v : Sto} {im : Img} (h : VI l J T s v im []) : NxOk l J T s v im [] v im := by
  have X := h.x
  refine ⟨Nat.zero_le _, by simp [Go.Proofs.YtbnkggbpocaaiaaGreatDoor.tot], ⟨s, run_nil X.l4, h⟩, fun a ha d' e hI => ?_⟩
  obtain rfl : a = 0 := by simpa using ha
  obtain ⟨e0, e1⟩ := itr_nil X.l4 hI
  exact ⟨e0, s, [], e1, .inr h⟩
theorem tot_app (a b : List Opn) : tot (a ++ b) = tot a + tot b := by simp [tot]
theorem NxOk.wr {l : List Int} {J T : Nat} {s : List Sec} {v v' : Sto} {im im' : Img} {ws : List Opn} (hs : s.length ≤ 4096) (hl : ws.length ≤ 2) (hw : WsOk s.length ws)
    (hm : ∀ s', MixW s (InW ws) s' → ∃ k, VI l J T s' v im k ∨ VI l J T s' v' im' []) (hf : VI l J T (execS s ws) v' im' []) : NxOk l J T s v im (ws ++ [opS]) v' im' := by
  refine ⟨by simp; omega, ?_, ⟨_, by rw [hw.run hs, List.length_append]; rfl, hf⟩, fun a ha d' e h => ?_⟩
  · exact Nat.le_trans hw.tot (Nat.mul_le_mul_right _ (by omega))
  · rw [List.length_append, List.length_singleton] at ha ⊢
    obtain ⟨e0, s', e1, e2, e3⟩ := itr_w hs hw ha h
    refine ⟨e0, s', ?_⟩
    by_cases c : a = ws.length + 1
    · exact ⟨[], e1, .inr (by rw [e3 c]; exact hf)⟩
    · obtain ⟨k, h | h⟩ := hm s' e2
      · exact ⟨k, e1, .inl ⟨by omega, h⟩⟩
      · exact ⟨k, e1, .inr h⟩
theorem NxOk.fl {l : List Int} {J T : Nat} {s : List Sec} {v v' : Sto} {im : Img} {w1 w2 : List Opn} (hs : s.length ≤ 4096) (hl1 : w1.length ≤ J) (hl2 : w2.length ≤ 2) (hw1 : WsOk s.length w1) (hw2 : WsOk s.length w2)
    (hm1 : ∀ s', MixW s (InW w1) s' → VI l J T s' v im []) (hm2 : ∀ s', MixW (execS s w1) (InW w2) s' → VI l J T s' v im [] ∨ VI l J T s' v' im []) (hf : VI l J T (execS (execS s w1) w2) v' im []) :
    NxOk l J T s v im (w1 ++ opS :: (w2 ++ [opS])) v' im := by
  have hs1 : (execS s w1).length = s.length := execS_len _ _
  have hlen : (w1 ++ opS :: (w2 ++ [opS])).length = w1.length + 1 + (w2.length + 1) := by simp; omega
  have hw2' : WsOk (execS s w1).length w2 := by rw [hs1]; exact hw2
  refine ⟨by rw [hlen]; omega, ?_, ⟨_, ?_, hf⟩, fun a ha d' e h => ?_⟩
  · have t1 := tot_le hw1.dat
    have t2 := hw2.tot
    rw [tot_app]
    have t3 : Go.Proofs.YtbnkggbpocaaiaaGreatDoor.tot (opS :: (w2 ++ [opS])) = Go.Proofs.YtbnkggbpocaaiaaGreatDoor.tot (w2 ++ [opS]) := by simp [Go.Proofs.YtbnkggbpocaaiaaGreatDoor.tot, opS]
    rw [t3]
    have m1 : w1.length * s.length ≤ J * s.length := Nat.mul_le_mul_right _ hl1
    have m2 : (w2.length + 1) * s.length ≤ 4 * s.length := Nat.mul_le_mul_right _ (by omega)
    rw [Nat.add_mul]; omega
  · have ho : ∀ o ∈ w1 ++ opS :: (w2 ++ [opS]), OpOk s.length o := fun o ho => by
      rcases List.mem_append.1 ho with ho | ho
      · exact hw1.ok o ho
      · rcases List.mem_cons.1 ho with rfl | ho
        · exact .inl rfl
        · rcases List.mem_append.1 ho with ho | ho
          · exact hw2.ok o ho
          · rw [List.mem_singleton] at ho; exact .inl ho
    rw [runR_exec hs ho (.inr (by rw [List.getLast?_append, List.getLast?_cons, List.getLast?_append]; simp)), execS_app, execS_s, execS_app, execS_s]; rfl
  · rw [hlen] at ha
    by_cases c : a ≤ w1.length
    · obtain ⟨e0, s', e1, e2⟩ := itr_fst hs hw1 c h
      exact ⟨e0, s', [], e1, .inl ⟨by rw [hlen]; omega, hm1 s' e2⟩⟩
    · obtain ⟨b, rfl⟩ : ∃ b, a = w1.length + 1 + b := ⟨a - (w1.length + 1), by omega⟩
      have h2 := itr_snd hs hw1 h (by simp; omega)
      obtain ⟨e0, s', e1, e2, e3⟩ := itr_w (by omega) hw2' (by omega) h2
      refine ⟨e0, s', [], e1, ?_⟩
      by_cases c2 : b = w2.length + 1
      · exact .inr (by rw [e3 c2]; exact hf)
      · rcases hm2 s' e2 with h | h
        · exact .inl ⟨by rw [hlen]; omega, h⟩
        · exact .inr h
theorem VI.flN {l : List Int} {J T : Nat} {s : List Sec} {v : Sto} {im : Img} (h : VI l J T s v im []) (hT : T ≤ 1000) : ∃ v' ops, flushV ⟨s, []⟩ v = (v', ops, 0) ∧ v'.pend = [] ∧ NxOk l J (T + 1) s v im ops v' im ∧ nextJ v'.jr = nextJ v.jr := by
  have X := h.x
  rcases h.fl hT with ⟨hp, e⟩ | ⟨w1, w2, v', e, hp, hfst, a1, a2, a3, a4, a5, a6, a7⟩
  · exact ⟨v, [], e, hp, .nil (h.mono (Nat.le_succ _)), rfl⟩
  · refine ⟨v', _, e, hp, .fl X.l4 a1 a2 a3 a4 a5 a6 a7, ?_⟩
    have hpl := a7.x.pl
    rw [hp] at hpl
    show v'.jr.first + (v'.jr.sizes.length : Int) = _
    rw [hfst, ← hpl]; simp
theorem VI.next {T : Nat} {s : List Sec} {v : Sto} {im : Img} (h : VI [6, 3] 40 T s v im []) (hT : T ≤ 1000) (x : Stq) : ∃ v' ops im', nextQ ⟨s, []⟩ v im x = (v', ops, im', true) ∧ NxOk [6, 3] 40 (T + 1) s v im ops v' im' := by
  have X := h.x
  by_cases hfl : x.fl = true
  · obtain ⟨v', ops, e, -, g, -⟩ := h.flN hT
    exact ⟨v', ops, im, by rw [nextQ, if_pos hfl, e]; rfl, g⟩
  · rcases h.wr hT (dq_fits x) (dq_pay x) with e | ⟨ws, v', e, -, -, a1, a2, a3, a4⟩
    · exact ⟨v, [], im, by rw [nextQ, if_neg hfl, if_pos e], .nil (h.mono (Nat.le_succ _))⟩
    · have har : apR im [dataQ x] = (ap1 im (dataQ x), 0, 0) := apR_one (by rw [← h.img, h.ok.im]; exact h.ok.sz) (by rw [← h.img, h.ok.im, h.sz]; exact dq_fits x)
      exact ⟨v', _, _, by rw [nextQ, if_neg hfl, e, if_neg (by simp), har]; rfl, .wr X.l4 a1 a2 a3 a4⟩
theorem VI.S {l : List Int} {J T : Nat} {s : List Sec} {v : Sto} {im : Img} {k : List Sec} (h : VI l J T s v im k) : StS v := by
  have X := h.x
  have hJ := h.len
  obtain ⟨i1, i2⟩ := sizes_pos (l := v.img) (by rw [h.ok.im]; exact h.ok.sz)
  have hl4 := X.l4
  have hpl := X.pl
  have hsl := X.sl
  have hzl := (sizesE_0 X.hE).2.1
  refine ⟨by rw [h.sz]; omega, by omega, by omega, fun w hw => ?_, by omega, fun u hu => by have := (i2 u hu).2; omega⟩
  obtain ⟨n, p, -, -, hn, hc⟩ := fits_gen X.hE (X.fs w hw)
  have := preN_in X.hz hn
  omega
end Go.Proofs.YtbnkggbpocaaiaaGreatDoor
namespace Go.Proofs.YtbnkggbpocaaiaaGreatDoor
open Go.Proofs Go.Shelf Go.Sort
def sortRen : Go.Shelf.Ren := ⟨fun | 5 => 194 | 8 => 217 | 7 => 216 | 19 => 239 | 20 => 240 | 10 => 230 | 11 => 231 | 12 => 232 | 13 => 233 | 14 => 234 | 15 => 235 | 16 => 236 | 17 => 237 | 18 => 238 | 30 => 248 | 31 => 249 | 32 => 250 | 33 => 251 | 34 => 252 | 35 => 253 | 40 => 258 | n => n, fun | 23 => 22 | 25 => 3 | 3 => 3 | 32 => 273 | 22 => 22 | 0 => 0 | 44 => 224 | 46 => 331 | 4 => 4 | 36 => 322 | 35 => 321 | 41 => 327 | 5 => 5 | 9 => 9 | 53 => 344 | 57 => 348 | 63 => 356 | 64 => 27 | n => n, fun | n => n⟩
theorem sortLay : SlLaysM.n5 Tryz.prog sortRen := {
  mixed := by kernel_rfl
  f5 := ⟨Tryz.f194.name, by decide, Tryz.func194.trans (congrArg some (by kernel_rfl))⟩
  f7 := ⟨Tryz.f216.name, by decide, Tryz.func216.trans (congrArg some (by kernel_rfl))⟩
  f8 := Tryz.func217.trans (congrArg some (by kernel_rfl))
  f10 := ⟨Tryz.f230.name, by decide, Tryz.func230.trans (congrArg some (by kernel_rfl))⟩
  f11 := ⟨Tryz.f231.name, by decide, Tryz.func231.trans (congrArg some (by kernel_rfl))⟩
  f12 := ⟨Tryz.f232.name, by decide, Tryz.func232.trans (congrArg some (by kernel_rfl))⟩
  f13 := ⟨Tryz.f233.name, by decide, Tryz.func233.trans (congrArg some (by kernel_rfl))⟩
  f14 := ⟨Tryz.f234.name, by decide, Tryz.func234.trans (congrArg some (by kernel_rfl))⟩
  f15 := ⟨Tryz.f235.name, by decide, Tryz.func235.trans (congrArg some (by kernel_rfl))⟩
  f16 := ⟨Tryz.f236.name, by decide, Tryz.func236.trans (congrArg some (by kernel_rfl))⟩
  f17 := ⟨Tryz.f237.name, by decide, Tryz.func237.trans (congrArg some (by kernel_rfl))⟩
  f18 := ⟨Tryz.f238.name, by decide, Tryz.func238.trans (congrArg some (by kernel_rfl))⟩
  f19 := Tryz.func239.trans (congrArg some (by kernel_rfl))
  f20 := Tryz.func240.trans (congrArg some (by kernel_rfl))
  f30 := ⟨Tryz.f248.name, by decide, Tryz.func248.trans (congrArg some (by kernel_rfl))⟩
  f31 := Tryz.func249.trans (congrArg some (by kernel_rfl))
  f32 := Tryz.func250.trans (congrArg some (by kernel_rfl))
  f33 := ⟨Tryz.f251.name, by decide, Tryz.func251.trans (congrArg some (by kernel_rfl))⟩
  f34 := ⟨Tryz.f252.name, by decide, Tryz.func252.trans (congrArg some (by kernel_rfl))⟩
  f35 := ⟨Tryz.f253.name, by decide, Tryz.func253.trans (congrArg some (by kernel_rfl))⟩
  f40 := ⟨Tryz.f258.name, by decide, Tryz.func258.trans (congrArg some (by kernel_rfl))⟩
  t0 := Tryz.underlying0
  a0 := Tryz.isAgg0
  z0 := Tryz.sizeOf0
  v0 := Tryz.zeroValue0
  t3 := Tryz.underlying3
  a3 := Tryz.isAgg3
  z3 := Tryz.sizeOf3
  v3 := Tryz.zeroValue3
  t4 := Tryz.underlying4
  a4 := Tryz.isAgg4
  z4 := Tryz.sizeOf4
  v4 := Tryz.zeroValue4
  t5 := Tryz.underlying5
  a5 := Tryz.isAgg5
  z5 := Tryz.sizeOf5
  v5 := Tryz.zeroValue5
  t9 := Tryz.underlying9
  a9 := Tryz.isAgg9
  z9 := Tryz.sizeOf9
  v9 := Tryz.zeroValue9
  t22 := Tryz.underlying22
  a22 := Tryz.isAgg22
  z22 := Tryz.sizeOf22
  v22 := Tryz.zeroValue22
  t23 := Tryz.underlying22
  a23 := Tryz.isAgg22
  z23 := Tryz.sizeOf22
  v23 := Tryz.zeroValue22
  t25 := Tryz.underlying3
  a25 := Tryz.isAgg3
  z25 := Tryz.sizeOf3
  v25 := Tryz.zeroValue3
  t32 := Tryz.underlying273
  a32 := Tryz.isAgg273
  z32 := Tryz.sizeOf273
  v32 := Tryz.zeroValue273
  t35 := Tryz.underlying321
  a35 := Tryz.isAgg321
  z35 := Tryz.sizeOf321
  v35 := Tryz.zeroValue321
  t36 := Tryz.underlying322
  a36 := Tryz.isAgg322
  z36 := Tryz.sizeOf322
  v36 := Tryz.zeroValue322
  t41 := Tryz.underlying327
  a41 := Tryz.isAgg327
  z41 := Tryz.sizeOf327
  v41 := Tryz.zeroValue327
  t44 := Tryz.underlying224
  a44 := Tryz.isAgg224
  z44 := Tryz.sizeOf224
  v44 := Tryz.zeroValue224
  t46 := Tryz.underlying331
  a46 := Tryz.isAgg331
  z46 := Tryz.sizeOf331
  v46 := Tryz.zeroValue331
  t53 := Tryz.underlying344
  a53 := Tryz.isAgg344
  z53 := Tryz.sizeOf344
  v53 := Tryz.zeroValue344
  t57 := Tryz.underlying348
  a57 := Tryz.isAgg348
  z57 := Tryz.sizeOf348
  v57 := Tryz.zeroValue348
  t63 := Tryz.underlying356
  a63 := Tryz.isAgg356
  z63 := Tryz.sizeOf356
  v63 := Tryz.zeroValue356
  t64 := Tryz.underlying27
  a64 := Tryz.isAgg27
  z64 := Tryz.sizeOf27
  v64 := Tryz.zeroValue27 }

theorem Inv.more {m : Gh} {w w' : World} {H : List (Option (List CV))} {V : List Nat} (hi : Inv m w H V) (h1 : w'.os = w.os) (h2 : w'.tape = w.tape) (h3 : w'.output = w.output) (h4 : w.heap.size ≤ w'.heap.size) (h5 : ∀ j, j < w.heap.size → w'.heap[j]? = w.heap[j]?) :
    Inv m w' H V ∧ Ext m w V m w' V := by
  have hlt : ∀ {k : Nat} {x : Obj}, w.heap[k]? = some x → w'.heap[k]? = some x := fun h => by
    rw [h5 _ (Array.getElem?_eq_some_iff.1 h).1]; exact h
  have hx : Ext m w V m w' V := by
    refine ⟨h1, h2, h3, h4, fun k c e fr h => ⟨c, hlt h, rfl⟩, fun _ => Nat.le_refl _, fun k o ho => ?_, fun k ds h => hlt h, fun k hk _ _ => h5 k hk, fun _ _ h => h, fun b _ h => .inl ⟨b, h⟩, fun _ _ h => .inl h, fun _ v h => ⟨v, h, Nat.le_refl _, fun _ => ⟨rfl, fun _ _ => rfl⟩⟩⟩
    rcases Nat.lt_or_ge k w.heap.size with h | h
    · exact World.cell?_of_block (w := w) (a := ⟨k, o, none⟩) (h5 k h)
    · rw [hi.lim_new h] at ho; omega
  refine ⟨⟨hi.boxlen, hi.tiplen, fun k hk => ?_, fun t k h => ?_, fun b k h => Nat.lt_of_lt_of_le (hi.boxes b k h) h4, hi.uniq, fun b cs h => (hi.live b cs h).mono hx fun k hk => ⟨h5 k (hi.boxes b k hk), rfl⟩⟩, hx⟩
  · obtain ⟨c, e, fr, q1, q2⟩ := hi.limv k hk
    exact ⟨c, e, fr, hlt q1, q2⟩
  · obtain ⟨⟨c, e, q1⟩, q2, q3⟩ := hi.tips t k h
    exact ⟨⟨c, e, hlt q1⟩, q2, q3⟩
theorem relL_cis (m : Gh) (w : World) (V : List Nat) : ∀ ys : List Int, RelL m w V (ys.map ci) (ys.map (Value.int .i64))
  | [] => by rw [List.map_nil, RelL]; rfl
  | y :: ys => by rw [List.map_cons, RelL]; exact ⟨_, _, rfl, by rw [RelV], relL_cis m w V ys⟩
theorem step_sorted {m : Gh} {w : World} {H : List (Option (List CV))} {V : List Nat} {b k : Nat} {xs ys : List Int} {c : Array Value} {e : TypeId} (hi : Inv m w H V) (hb : H[b]? = some (some (xs.map ci))) (hk : m.box[b]? = some k)
    (hc : w.heap[k]? = some (.cells c e (0, 0))) (hl : ys.length = xs.length) (n : Nat) (os : Array Obj) :
    let w' := grow (putRow (Value.int .i64) (Sort.ahead w n) k 0 ys.toArray) os
    Inv m w' (H.set b (some (ys.map ci))) V ∧ Ext m w V m w' V := by
  intro w'
  have hkl := (Array.getElem?_eq_some_iff.1 hc).1
  have hcl : xs.length ≤ c.size := by
    obtain ⟨c', e', g1, g2, _⟩ := hi.alive hb hk ⟨c, e, _, hc⟩
    rw [hc] at g1; cases g1
    simpa using g2
  obtain ⟨s1, s2⟩ := step_store (o := 0) (us := ys.map (Value.int .i64)) (ds := ys.map ci) hi hb hk hc (relL_cis _ _ _ _) (fun u hu => by obtain ⟨z, _, rfl⟩ := List.mem_map.1 hu; rfl) (by simp; omega)
  have hnew := setRow_heap w k c ((c.toList.take 0 ++ ys.map (Value.int .i64) ++ c.toList.drop (0 + (ys.map (Value.int .i64)).length)).toArray) e (0, 0) hc
  have hoth := fun j hj => setRow_other w k j ((c.toList.take 0 ++ ys.map (Value.int .i64) ++ c.toList.drop (0 + (ys.map (Value.int .i64)).length)).toArray) hj
  have he : H.set b (some ((xs.map ci).take 0 ++ ys.map ci ++ (xs.map ci).drop (0 + (ys.map ci).length))) = H.set b (some (ys.map ci)) := by
    congr 2
    rw [List.drop_of_length_le (by simp; omega)]; simp
  rw [he] at s1
  obtain ⟨t1, t2⟩ := s1.more (w' := w') rfl rfl rfl (by simp [w', grow, World.setRow, putRow, mapBlock, Sort.ahead]) (fun j hj => by
    have hj' : j < w.heap.size := by simpa [World.setRow] using hj
    have hg : w'.heap[j]? = (putRow (Value.int .i64) (Sort.ahead w n) k 0 ys.toArray).heap[j]? := by
      show (_ ++ os)[j]? = _
      rw [Array.getElem?_append_left (by simpa [Sort.ahead] using hj')]
    rw [hg]
    show ((w.heap.modify k _)[j]?) = _
    rw [Array.getElem?_modify]
    by_cases hjk : k = j
    · subst hjk
      rw [if_pos rfl, hc, hnew]
      simp only [Option.map_some, onCells]
      congr 2
      apply Array.ext
      · simp [putCells]; omega
      · intro i h1 h2
        simp only [putCells, Array.getElem_mapIdx, Nat.zero_le, true_and, Nat.zero_add, List.size_toArray, List.getElem_toArray, List.take_zero, List.nil_append, List.length_map, Nat.sub_zero]
        by_cases hi2 : i < ys.length
        · rw [if_pos hi2, List.getElem_append_left (by simpa using hi2), List.getElem_map, getElem!_pos _ i (by simpa using hi2)]
          simp
        · rw [if_neg hi2, List.getElem_append_right (by simp; omega), List.getElem_drop]
          simp only [List.length_map, Array.getElem_toList]
          congr 1; omega
    · rw [if_neg hjk, hoth j (Ne.symm hjk)])
  exact ⟨t1, s2.trans t2⟩
theorem sortOK : SortOK where
  box H V b xs hb hx := by
    refine ⟨⟨Tryz.f194, Tryz.func194, rfl, by kernel_rfl⟩, fun m w us hi hu => ?_⟩
    rw [RelL] at hu
    obtain ⟨u, r, rfl, h1, h2⟩ := hu
    rw [RelL] at h2; subst h2
    rw [RelV] at h1
    obtain ⟨k, cap, c, e, rfl, g1, g2, hk, hc, g3⟩ := h1
    obtain ⟨c', e', q1, q2, q3, q4⟩ := hi.alive hb hk ⟨c, e, _, hc⟩
    rw [hc] at q1; cases q1
    have hH : Holds (Value.int .i64) w k 0 xs.toArray := by
      intro j hj
      have hj' : j < xs.length := by simpa using hj
      obtain ⟨v, a1, a2, _⟩ := relC_get q4 j (ci xs[j]) (by rw [List.getElem?_map, List.getElem?_eq_getElem hj']; rfl)
      rw [RelV] at a2; subst a2
      refine ⟨by rw [a1, getElem!_pos _ j (by simpa using hj')]; simp, ?_⟩
      simp [World.frozen?, hc]
    refine (AnyM.slices_Sort_int sortLay k 0 cap xs w hH (Array.getElem?_eq_some_iff.1 hc).1 (by omega)).mono ?_
    rintro _ _ ⟨rfl, n, os, rfl⟩
    obtain ⟨s1, s2⟩ := step_sorted (ys := xs.mergeSort fun x y => decide (x ≤ y)) hi hb hk hc (by simp) n os
    exact ⟨_, m, .any, _, _, rfl, ⟨_, fun y hy => by simpa using hy, by simp, rfl, rfl⟩, s1, by rw [RelV]; trivial, s2⟩
  none H V := by
    refine ⟨⟨Tryz.f194, Tryz.func194, rfl, by kernel_rfl⟩, fun m w us hi hu => ?_⟩
    rw [RelL] at hu
    obtain ⟨u, r, rfl, h1, h2⟩ := hu
    rw [RelL] at h2; subst h2
    rw [RelV] at h1
    obtain ⟨base, cap, rfl, g1, g2, g3, g4⟩ := h1
    refine (AnyM.slices_Sort_int_none sortLay base cap w).mono ?_
    rintro _ _ ⟨rfl, rfl⟩
    exact ⟨_, m, .any, _, _, rfl, ⟨rfl, rfl⟩, hi, by rw [RelV]; trivial, Ext.refl _ _ _⟩
end Go.Proofs.YtbnkggbpocaaiaaGreatDoor
namespace Go.Proofs.YtbnkggbpocaaiaaGreatDoor
open Go.Proofs
@[go_sem] theorem stoC_10 (s : Sto) (h : 10 < (stoC s).length) : (stoC s)[10] = imV s.img := rfl
set_option maxRecDepth 8000 in
set_option maxHeartbeats 3200000 in
theorem VRecovers_law (H : Hp) (V : List Nat) (xs : List Stq) (af : List UInt8) (ch : List Int) : CC Tryz.prog 10 [.sl .sh 5 (xs.map stqC), .sl .sh 1 (bs af), .sl .sh 1 (ch.map ic)] H V (Pu (cb true) H V) := by
  refine CC.of_swp Tryz.func10 rfl (by kernel_rfl) (by rw [Tryz.ntmps10]; exact len_le _ _ rfl) fun hok hokH => ?_
  clear hok
  have aw : ∀ (H0 : Hp) (V0 : List Nat), CC Tryz.prog 11 [] H0 V0 (Pu (cb true) H0 V0) := fun H0 V0 => vawake_cc H0 V0
  refine sW ?_
  simp -implicitDefEqProofs [go_sem, args0]
  refine SWp.seq (sW ?_)
  by_cases hsm : xs.length ≤ 25 ∧ af.length ≤ 25 ∧ ch.length ≤ 200
  case neg =>
    have big : ∀ {T : Tm}, True := fun {_} => trivial
    by_cases g1 : 25 < (xs.length : Int)
    · simp -implicitDefEqProofs [go_sem, g1]
      refine Wp.s ?_
      simp -implicitDefEqProofs [go_sem]
      refine CC.mono (aw _ _) ?_
      rintro _ _ _ ⟨rfl, rfl, rfl⟩
      simp -implicitDefEqProofs [go_sem]
      exact Fin.bool rfl hokH (by simp) (by simp)
    by_cases g2 : 25 < (af.length : Int)
    · simp -implicitDefEqProofs [go_sem, g1, g2]
      refine Wp.s ?_
      simp -implicitDefEqProofs [go_sem]
      refine CC.mono (aw _ _) ?_
      rintro _ _ _ ⟨rfl, rfl, rfl⟩
      simp -implicitDefEqProofs [go_sem]
      exact Fin.bool rfl hokH (by simp) (by simp)
    have g3 : 200 < (ch.length : Int) := by omega
    simp -implicitDefEqProofs [go_sem, g1, g2, g3]
    refine Wp.s ?_
    simp -implicitDefEqProofs [go_sem]
    refine CC.mono (aw _ _) ?_
    rintro _ _ _ ⟨rfl, rfl, rfl⟩
    simp -implicitDefEqProofs [go_sem]
    exact Fin.bool rfl hokH (by simp) (by simp)
  obtain ⟨hx25, ha25, hc200⟩ := hsm
  have g1 : ¬ 25 < (xs.length : Int) := by omega
  have g2 : ¬ 25 < (af.length : Int) := by omega
  have g3 : ¬ 200 < (ch.length : Int) := by omega
  simp -implicitDefEqProofs [go_sem, g1, g2, g3]
  refine Wp.s ?_
  simp -implicitDefEqProofs [go_sem]
  refine sW ?_
  simp -implicitDefEqProofs [go_sem]
  refine CC.mono (begin_cc _ _) ?_
  rintro _ _ _ ⟨rfl, rfl, rfl⟩
  simp -implicitDefEqProofs [go_sem, bgV]
  rw [qD1_eq]
  refine SWp.seq (sW ?_)
  simp -implicitDefEqProofs [go_sem]
  refine Wp.s ?_
  simp -implicitDefEqProofs [go_sem]
  refine SWp.join (α := List CV × List CV) (fun a => ([], H ++ [some a.1, some a.2], V)) (fun _ => True) ?_ ?_
  · refine sW ?_
    simp -implicitDefEqProofs [go_sem]
    refine SWp.block ?_
    refine SWp.loop (α := Nat × (List Sec × Sto × Img) × List Int) (fun a => ([(0, .sl .sh 5 (xs.map stqC)), (1, .sl .sh 1 (bs af)), (2, .sl .sh 1 (a.2.2.map ic)), (7, .ptr H.length 0), (8, .ptr (H.length + 1) 0), (9, imV a.2.1.2.2), (11, ci a.1)], H ++ [some (dkC ⟨a.2.1.1, []⟩), some (stoC a.2.1.2.1)], V))
      (fun a => a.1 ≤ xs.length ∧ VQ (a.1 + 1) a.2.1 ∧ a.2.2.length ≤ 1000) (fun a => xs.length - a.1) (0, qZ0, ch) ⟨Nat.zero_le _, VQ.begin, by show ch.length ≤ _; omega⟩ (Sh.forget (by simp [go_sem]; exact .refl _) rfl rfl) ?_
    rintro ⟨i, ⟨s, v, im⟩, cs⟩ ⟨hi, hv, hcs⟩
    dsimp only at hi hv hcs ⊢
    refine SWp.seq (sW ?_)
    by_cases h : i < xs.length
    case neg =>
      obtain rfl : i = xs.length := by omega
      simp -implicitDefEqProofs [go_sem]
      refine Wp.s ?_
      simp -implicitDefEqProofs [go_sem]
      exact ⟨_, _, Sh.forget (by simp [go_sem]) rfl rfl⟩
    simp -implicitDefEqProofs [go_sem, h]
    refine Wp.s ?_
    simp -implicitDefEqProofs [go_sem]
    have hv : VI [6, 3] 40 (i + 1) s v im [] := hv
    have hvS := hv.S
    have hvl : s.length = 49 := hv.len
    have him : im.length ≤ 1000000000 := by rw [← hv.img]; have := hvS.il; omega
    have hd : DkS ⟨s, []⟩ := ⟨by show s.length ≤ _; omega, by simp⟩
    obtain ⟨v', ops, im', hnx, hop⟩ := hv.next (by omega) xs[i]
    have hol := hop.len
    have hot := hop.tot
    rw [hvl] at hot
    refine SWp.seq (SWp.block (SWp.seq (SWp.drawnT [] [14] (.s 0 .pl <| .s 1 .pl <| .s 2 .pl <| .s 3 .pl <| .s 4 .pl <| .s 5 .pl <| .s 6 .pl <| .c 7 <| .s 8 .pl <| .s 9 .pl <| .s 10 .pl <| .s 11 .pl <| .s 12 .pl <| .s 13 .pl <| .s 14 .st <| .s 15 .pl <| .s 16 .pl <| .s 17 .pl <| .n) (by kernel_rfl) (by kernel_rfl) ?_)))
    simp -implicitDefEqProofs [go_sem, h]
    refine ⟨nxQV (nextQ ⟨s, []⟩ v im xs[i]), fun H V => nextQ_cc H V ⟨s, []⟩ v im xs[i] hd hvS him, ?_⟩
    rw [hnx]
    simp -implicitDefEqProofs [go_sem, nxQV]
    refine SWp.seq (sW ?_)
    simp -implicitDefEqProofs [go_sem]
    refine Wp.s ?_
    simp -implicitDefEqProofs [go_sem]
    have w5 : IntKind.i64.wrap ((i : Int) + 1) = (i : Int) + 1 := IntWalk.i64_in _ ⟨by omega, by omega⟩
    have hkp : ∀ (a b c d a' b' : Option (List CV)), Kp [H.length + 2] (H ++ [a, b, c, d]) (H ++ [a', b', c, d]) := fun a b c d a' b' => Kp.keep fun y hy => by
      obtain rfl : y = H.length + 2 := by simpa using hy
      rw [hget, hget]; rfl
    refine SWp.seq (sW ?_)
    have hcase : (af.length ≤ i) ∨ (∃ h2 : i < af.length, ops.length < af[i].toNat) ∨ (∃ h2 : i < af.length, af[i].toNat ≤ ops.length) := by
      by_cases c : af.length ≤ i
      · exact .inl c
      · have h2 : i < af.length := by omega
        by_cases c2 : ops.length < af[i].toNat
        · exact .inr (.inl ⟨h2, c2⟩)
        · exact .inr (.inr ⟨h2, by omega⟩)
    rcases hcase with c | ⟨h2, c⟩ | ⟨h2, c⟩
    · have c' : (af.length : Int) ≤ (i : Int) := by omega
      simp -implicitDefEqProofs [go_sem, c']
      obtain ⟨s1, r1, r2⟩ := hop.run
      refine SWp.condT rfl ?_
      refine sW ?_
      simp -implicitDefEqProofs [go_sem]
      refine CC.mono (sRun_cc _ _ ⟨s, []⟩ ops (by show s.length ≤ _; omega) (by show [].length + _ ≤ _; simp; omega) (by omega)) ?_
      rintro _ _ _ ⟨rfl, rfl, rfl⟩
      rw [r1]
      simp -implicitDefEqProofs [go_sem, runV]
      refine SWp.seq (sW ?_)
      simp -implicitDefEqProofs [go_sem]
      refine Wp.s ?_
      simp -implicitDefEqProofs [go_sem]
      refine SWp.seq (SWp.drawnT [H.length + 2] [3, 4] (.s 0 .pl <| .s 1 .ld <| .s 2 .pl <| .s 3 .st <| .s 4 .st <| .s 5 .pl <| .n) (by kernel_rfl) (by kernel_rfl) ?_)
      simp -implicitDefEqProofs [go_sem]
      refine ⟨hkp _ _ _ _ _ _, hkp _ _ _ _ _ _, ?_⟩
      refine Wp.s ?_
      simp -implicitDefEqProofs [go_sem]
      refine Wp.s ?_
      simp -implicitDefEqProofs [go_sem, w5]
      refine ⟨i + 1, s1, v', im', cs, ⟨by omega, r2, hcs⟩, by omega, ?_⟩
      refine Sh.trim (L := [some (dkC ⟨s1, []⟩), some (stoC v')]) (by simp [go_sem]) (by simp [go_sem, okE_stqs, okE_ims, okE_ints]) hokH (by simp [go_sem, okL_dkC, okL_stoC]) (by simp) (by simp) (by simp)
    · have c' : ¬ (af.length : Int) ≤ (i : Int) := by omega
      have w6 : IntKind.i64.wrap (af[i].toNat : Int) = (af[i].toNat : Int) := by have := af[i].toNat_lt; exact IntWalk.i64_in _ ⟨by omega, by omega⟩
      have c2 : (ops.length : Int) < (af[i].toNat : Int) := by omega
      simp -implicitDefEqProofs [go_sem, c', h2, w6, c2]
      obtain ⟨s1, r1, r2⟩ := hop.run
      refine SWp.condT rfl ?_
      refine sW ?_
      simp -implicitDefEqProofs [go_sem]
      refine CC.mono (sRun_cc _ _ ⟨s, []⟩ ops (by show s.length ≤ _; omega) (by show [].length + _ ≤ _; simp; omega) (by omega)) ?_
      rintro _ _ _ ⟨rfl, rfl, rfl⟩
      rw [r1]
      simp -implicitDefEqProofs [go_sem, runV]
      refine SWp.seq (sW ?_)
      simp -implicitDefEqProofs [go_sem]
      refine Wp.s ?_
      simp -implicitDefEqProofs [go_sem]
      refine SWp.seq (SWp.drawnT [H.length + 2] [3, 4] (.s 0 .pl <| .s 1 .ld <| .s 2 .pl <| .s 3 .st <| .s 4 .st <| .s 5 .pl <| .n) (by kernel_rfl) (by kernel_rfl) ?_)
      simp -implicitDefEqProofs [go_sem]
      refine ⟨hkp _ _ _ _ _ _, hkp _ _ _ _ _ _, ?_⟩
      refine Wp.s ?_
      simp -implicitDefEqProofs [go_sem]
      refine Wp.s ?_
      simp -implicitDefEqProofs [go_sem, w5]
      refine ⟨i + 1, s1, v', im', cs, ⟨by omega, r2, hcs⟩, by omega, ?_⟩
      refine Sh.trim (L := [some (dkC ⟨s1, []⟩), some (stoC v')]) (by simp [go_sem]) (by simp [go_sem, okE_stqs, okE_ims, okE_ints]) hokH (by simp [go_sem, okL_dkC, okL_stoC]) (by simp) (by simp) (by simp)
    have c' : ¬ (af.length : Int) ≤ (i : Int) := by omega
    have w6 : IntKind.i64.wrap (af[i].toNat : Int) = (af[i].toNat : Int) := by have := af[i].toNat_lt; exact IntWalk.i64_in _ ⟨by omega, by omega⟩
    have c2 : ¬ (ops.length : Int) < (af[i].toNat : Int) := by omega
    have hitr := hop.itr af[i].toNat c
    simp -implicitDefEqProofs [go_sem, c', h2, w6, c2]
    refine Wp.s ?_
    simp -implicitDefEqProofs [go_sem]
    refine SWp.join (α := (List Sec × Sto × Img) × List Sec × List Int) (fun a => ([(0, .sl .sh 5 (xs.map stqC)), (1, .sl .sh 1 (bs af)), (2, .sl .sh 1 (cs.map ic)), (7, .ptr H.length 0), (8, .ptr (H.length + 1) 0), (9, imV im), (11, ci i), (12, .ptr (H.length + 2) 0), (13, opsV ops), (14, imV im'), (19, .ptr (H.length + 3) 0), (20, .sl .sh 1 (a.2.2.map ic)), (21, er 0)], H ++ [some (dkC ⟨s, []⟩), some (stoC v), some (stoC v'), some (dkC ⟨a.1.1, []⟩)], V))
      (fun a => VI [6, 3] 40 (i + 1 + 1) a.1.1 a.1.2.1 a.1.2.2 a.2.1 ∧ ((a.1.2.2 = im ∧ af[i].toNat < ops.length) ∨ a.1.2.2 = im') ∧ a.2.2.length ≤ 1000) ?_ ?_
    · refine SWp.drawnT [] [14] (.s 0 .pl <| .s 1 .pl <| .s 2 .pl <| .s 3 .pl <| .s 4 .pl <| .s 5 .pl <| .s 6 .pl <| .s 7 .pl <| .f 8 .pl (.s 9 .pl <| .s 10 .pl <| .s 11 .pl <| .s 12 .pl <| .s 13 .pl <| .s 14 .st <| .s 15 .pl <| .s 16 .pl <| .n) 13 .pl (.s 8 .pl <| .s 9 .pl <| .s 10 .pl <| .s 11 .pl <| .s 12 .pl <| .s 14 .st <| .s 15 .pl <| .s 16 .pl <| .n)) (by kernel_rfl) (by kernel_rfl) ?_
      simp -implicitDefEqProofs [go_sem, h2, w6]
      have fin : ∀ d2 e2, ItrS ⟨s, []⟩ ops af[i].toNat d2 e2 → e2 = 0 ∧ ∃ s' vv ii k, d2 = ⟨s', []⟩ ∧ VI [6, 3] 40 (i + 1 + 1) s' vv ii k ∧ ((ii = im ∧ af[i].toNat < ops.length) ∨ ii = im') := fun d2 e2 hI => by
        obtain ⟨e0, s', k, e1, hcs'⟩ := hitr d2 e2 hI
        refine ⟨e0, s', ?_⟩
        rcases hcs' with ⟨q1, q2⟩ | q
        · exact ⟨v, im, k, e1, q2, .inl ⟨rfl, q1⟩⟩
        · exact ⟨v', im', [], e1, q, .inr rfl⟩
      refine ⟨?_, ?_⟩
      · refine CC.mono (sInterrupt_cc _ _ ⟨s, []⟩ ops af[i].toNat .sh cs (by show s.length ≤ _; omega) (by show [].length + _ ≤ _; simp; omega) (by omega) (by omega) sortOK) ?_
        rintro _ _ V9 ⟨d2, l2, e2, ⟨hI, hl2⟩, rfl, rfl, eV⟩
        obtain rfl := eV.symm
        obtain ⟨rfl, s', vv, ii, k, rfl, f1, f2⟩ := fin d2 e2 hI
        simp -implicitDefEqProofs [go_sem]
        exact ⟨s', vv, ii, k, l2, ⟨f1, f2, by omega⟩, Sh.forget (by simp [go_sem]) rfl rfl⟩
      · refine CC.mono (sInterrupt_cc _ _ ⟨s, []⟩ ops af[i].toNat .sh cs (by show s.length ≤ _; omega) (by show [].length + _ ≤ _; simp; omega) (by omega) (by omega) sortOK) ?_
        rintro _ _ V9 ⟨d2, l2, e2, ⟨hI, hl2⟩, rfl, rfl, eV⟩
        obtain rfl := eV.symm
        obtain ⟨rfl, s', vv, ii, k, rfl, f1, f2⟩ := fin d2 e2 hI
        simp -implicitDefEqProofs [go_sem]
        exact ⟨s', vv, ii, k, l2, ⟨f1, f2, by omega⟩, Sh.forget (by simp [go_sem]) rfl rfl⟩
    rintro ⟨⟨s', vv, ii⟩, k, l2⟩ ⟨f1, f2, f3⟩
    dsimp only at f1 f2 f3 ⊢
    have hs'l : s'.length = 49 := f1.len
    obtain ⟨ws, o1, o2, o3, o4, o5, o6⟩ := f1.open
    have hct := cln_tot o2
    have hcl := cln_len ws
    have hmul : (ws.length + 1) * s'.length ≤ 41 * 49 := Nat.mul_le_mul (by omega) (by omega)
    have hfi := img_small (x := ii) f1.ok.sz (by rw [← f1.img]; exact f1.ok.im)
    have hfS := f1.S
    refine SWp.seq (sW ?_)
    simp -implicitDefEqProofs [go_sem]
    refine Wp.s ?_
    simp -implicitDefEqProofs [go_sem]
    refine sW ?_
    simp -implicitDefEqProofs [go_sem]
    refine SWp.seq (SWp.drawnT [] [8] (.s 0 .pl <| .c 1 <| .c 2 <| .s 3 .pl <| .s 4 .pl <| .s 5 .pl <| .s 6 .pl <| .s 7 .pl <| .s 8 .st <| .s 9 .pl <| .s 10 .pl <| .n) (by kernel_rfl) (by kernel_rfl) ?_)
    simp -implicitDefEqProofs [go_sem]
    refine ⟨_, fun H V => sizesQ_cc H V, ?_⟩
    simp -implicitDefEqProofs [go_sem]
    refine ⟨_, fun H V => vOpen_cc H V ⟨s', []⟩ [6, 3] 40 ⟨by show s'.length ≤ _; omega, by simp⟩ (by decide), ?_⟩
    rw [show openV ⟨s', []⟩ [6, 3] 40 = (vv, clnO ws, 0) from o1]
    simp -implicitDefEqProofs [go_sem, flV]
    refine SWp.join (α := Unit) (fun _ => ([(0, .sl .sh 5 (xs.map stqC)), (1, .sl .sh 1 (bs af)), (2, .sl .sh 1 (l2.map ic)), (7, .ptr H.length 0), (8, .ptr (H.length + 1) 0), (9, imV im), (11, ci i), (13, opsV ops), (14, imV im'), (19, .ptr (H.length + 3) 0), (22, .ptr (H.length + 4) 0), (23, opsV (clnO ws))], H ++ [some (dkC ⟨s, []⟩), some (stoC v), some (stoC v'), some (dkC ⟨s', []⟩), some (stoC vv)], V)) (fun _ => True) ?_ ?_
    · refine sW ?_
      simp -implicitDefEqProofs [go_sem]
      rw [f1.img]
      refine CC.mono (SameImg_cc _ _ .sh .sh ii im hfi.1 hfi.2) ?_
      rintro _ _ _ ⟨rfl, rfl, rfl⟩
      by_cases q1 : ii = im
      · rw [decide_eq_true q1]
        simp -implicitDefEqProofs [go_sem]
        refine Wp.s ?_
        simp -implicitDefEqProofs [go_sem]
        exact Sh.forget (by simp [go_sem]) rfl rfl
      · have q3 : ii = im' := by
          rcases f2 with ⟨q, -⟩ | q
          · exact absurd q q1
          · exact q
        rw [decide_eq_false q1]
        simp -implicitDefEqProofs [go_sem]
        rw [f1.img]
        refine CC.mono (SameImg_cc _ _ .sh .sh ii im' hfi.1 hfi.2) ?_
        rintro _ _ _ ⟨rfl, rfl, rfl⟩
        rw [decide_eq_true q3]
        simp -implicitDefEqProofs [go_sem]
        refine Wp.s ?_
        simp -implicitDefEqProofs [go_sem]
        exact Sh.forget (by simp [go_sem]) rfl rfl
    rintro _ -
    dsimp only
    refine SWp.join (α := Unit) (fun _ => ([(0, .sl .sh 5 (xs.map stqC)), (1, .sl .sh 1 (bs af)), (2, .sl .sh 1 (l2.map ic)), (7, .ptr H.length 0), (8, .ptr (H.length + 1) 0), (9, imV im), (11, ci i), (13, opsV ops), (14, imV im'), (19, .ptr (H.length + 3) 0), (22, .ptr (H.length + 4) 0), (23, opsV (clnO ws))], H ++ [some (dkC ⟨s, []⟩), some (stoC v), some (stoC v'), some (dkC ⟨s', []⟩), some (stoC vv)], V)) (fun _ => True) ?_ ?_
    · refine sW ?_
      by_cases q2 : af[i].toNat = ops.length
      · have q3 : ii = im' := by
          rcases f2 with ⟨-, q⟩ | q
          · omega
          · exact q
        have w7 : IntKind.i64.wrap (ops.length : Int) = (ops.length : Int) := IntWalk.i64_in _ ⟨by omega, by omega⟩
        simp -implicitDefEqProofs [go_sem, h2, w6, w7, q2]
        rw [f1.img]
        refine CC.mono (SameImg_cc _ _ .sh .sh ii im' hfi.1 hfi.2) ?_
        rintro _ _ _ ⟨rfl, rfl, rfl⟩
        rw [decide_eq_true q3]
        simp -implicitDefEqProofs [go_sem]
        refine Wp.s ?_
        simp -implicitDefEqProofs [go_sem]
        exact Sh.forget (by simp [go_sem]) rfl rfl
      · have q2' : ¬ (af[i].toNat : Int) = (ops.length : Int) := by omega
        simp -implicitDefEqProofs [go_sem, h2, w6, q2, q2']
        refine Wp.s ?_
        simp -implicitDefEqProofs [go_sem]
        exact Sh.forget (by simp [go_sem]) rfl rfl
    rintro _ -
    dsimp only
    refine sW ?_
    simp -implicitDefEqProofs [go_sem]
    refine CC.mono (sRun_cc _ _ ⟨s', []⟩ (clnO ws) (by show s'.length ≤ _; omega) (by show [].length + _ ≤ _; simp; omega) (by omega)) ?_
    rintro _ _ _ ⟨rfl, rfl, rfl⟩
    rw [cln_run (by omega) o2]
    simp -implicitDefEqProofs [go_sem, runV]
    refine SWp.seq (sW ?_)
    simp -implicitDefEqProofs [go_sem]
    refine Wp.s ?_
    simp -implicitDefEqProofs [go_sem]
    have hkp2 : ∀ (a b c d e a' b' : Option (List CV)), Kp [H.length + 4] (H ++ [a, b, c, d, e]) (H ++ [a', b', c, d, e]) := fun a b c d e a' b' => Kp.keep fun y hy => by
      obtain rfl : y = H.length + 4 := by simpa using hy
      rw [hget, hget]; rfl
    refine SWp.drawnT [H.length + 4] [4, 5] (.s 0 .pl <| .s 1 .ld <| .s 2 .pl <| .s 3 .ld <| .s 4 .st <| .s 5 .st <| .s 6 .pl <| .n) (by kernel_rfl) (by kernel_rfl) ?_
    simp -implicitDefEqProofs [go_sem]
    refine ⟨hkp2 _ _ _ _ _ _ _, hkp2 _ _ _ _ _ _ _, ?_⟩
    refine Wp.s ?_
    simp -implicitDefEqProofs [go_sem, w5]
    refine ⟨i + 1, execS s' ws, vv, ii, l2, ⟨by omega, o5, f3⟩, by omega, ?_⟩
    rw [f1.img]
    refine Sh.trim (L := [some (dkC ⟨execS s' ws, []⟩), some (stoC vv)]) (by simp [go_sem]) (by simp [go_sem, okE_stqs, okE_ims, okE_ints]) hokH (by simp [go_sem, okL_dkC, okL_stoC]) (by simp) (by simp) (by simp)
  rintro _ -
  dsimp only
  refine sW ?_
  simp -implicitDefEqProofs [go_sem]
  refine CC.mono (aw _ _) ?_
  rintro _ _ _ ⟨rfl, rfl, rfl⟩
  simp -implicitDefEqProofs [go_sem]
  refine Wp.s ?_
  simp -implicitDefEqProofs [go_sem]
  exact Fin.bool rfl hokH (by simp) (by simp)
end Go.Proofs.YtbnkggbpocaaiaaGreatDoor
namespace Go.Proofs.YtbnkggbpocaaiaaGreatDoor
open Go.RowKit

def gh0 (w : World) : Gh where
  lim k := match w.heap[k]? with
    | some (.cells c _ _) => c.size
    | _ => 0
  box := []
  tip := []

theorem gh0_inv (w : World) : Inv (gh0 w) w [] [] where
  boxlen := rfl
  tiplen := rfl
  limv k h := by
    simp only [gh0] at h ⊢
    split at h
    · rename_i c e fr hc
      exact ⟨c, e, fr, hc, by simp⟩
    · omega
  tips := by intro t k h; simp [gh0] at h
  boxes := by intro b k h; simp [gh0] at h
  uniq := by intro b b' k cs cs' h; simp at h
  live := by intro b cs h; simp at h

theorem gh0_lim {w : World} {k o : Nat} {u : Value} (h : w.cell? ⟨k, o, none⟩ = some u) : o < (gh0 w).lim k := by
  simp only [World.cell?] at h
  simp only [gh0]
  split at h
  · rename_i c e fr hc
    simp only [hc]
    simp at h
    obtain ⟨h, _⟩ := Array.getElem?_eq_some_iff.1 h
    exact h
  · cases h

theorem law_calls {P : Program} {f : FuncId} {args : Array Value} {W : World} {cs : List CV} {R : CV → Hp → List Nat → Prop} (hrel : RelL (gh0 W) W [] cs args.toList) (h : CC P f cs [] [] R)
    (hR : ∀ r H V, R r H V → r = .v (.bool true)) : Calls P f args W fun e W' => e = .returned (.bool true) ∧ Below W.heap.size W W' := by
  have := h.2 (gh0 W) W args.toList (gh0_inv W) hrel
  rw [Array.toArray_toList] at this
  refine this.mono ?_
  rintro e w' ⟨u, m', r, H', V', rfl, hr, _, hu, hx⟩
  obtain rfl := hR _ _ _ hr
  rw [RelV] at hu
  subst hu
  exact ⟨rfl, hx.os, hx.tape, hx.output, hx.size, fun k hk => hx.same k hk (by simp [gh0]) (by simp [gh0])⟩

def Opens (P : Program) (t : TypeId) (S : List CV → Prop) : Prop :=
  ∀ (H : Type) (enc : TypeId × Value → H) (w : World) (base : Nat) (spare : Nat → Bool) (held : Bool) (fuel : Nat) (us : List Value) (x : DataW H × List MemPlace),
    DataW.trod enc P w base spare held fuel t us = some x → ∃ cs, S cs ∧ RelL (gh0 w) w [] cs us ∧ ∀ u ∈ us, u.oneCell' = true

theorem relL_one {m : Gh} {w : World} {V : List Nat} {c : CV} {u : Value} (h : RelV m w V c u) : RelL m w V [c] [u] := by
  rw [RelL]; exact ⟨u, [], rfl, h, by rw [RelL]⟩

theorem relL_one' {m : Gh} {w : World} {V : List Nat} {c : CV} {u : Value} (h : RelL m w V [c] [u]) : RelV m w V c u := by
  rw [RelL] at h; obtain ⟨_, _, h1, h2, _⟩ := h; cases h1; exact h2

theorem relL_nil {m : Gh} {w : World} {V : List Nat} : RelL m w V [] [] := by rw [RelL]
theorem relL_mk2 {m : Gh} {w : World} {V : List Nat} {c : CV} {u : Value} {cs : List CV} {us : List Value} (h : RelV m w V c u) (h2 : RelL m w V cs us) : RelL m w V (c :: cs) (u :: us) := by
  rw [RelL]; exact ⟨u, us, rfl, h, h2⟩
variable {P : Program} {t e : TypeId}
theorem Opens.int {k : IntKind} (ht : P.underlying t = some (.int k)) : Opens P t fun cs => ∃ n, cs = [.v (.int k n)] ∧ (Lit.int k n).wf = true := by
  intro H enc w base spare held fuel us x h
  obtain ⟨n, rfl, _, hw⟩ := DataW.trod_int ht h
  exact ⟨_, ⟨n, rfl, hw⟩, relL_one (by rw [RelV]), by simp [Value.oneCell']⟩

theorem Opens.bool (ht : P.underlying t = some .bool) : Opens P t fun cs => ∃ b, cs = [.v (.bool b)] := by
  intro H enc w base spare held fuel us x h
  obtain ⟨n, rfl, _⟩ := DataW.trod_bool ht h
  exact ⟨_, ⟨n, rfl⟩, relL_one (by rw [RelV]), by simp [Value.oneCell']⟩

theorem Opens.string (ht : P.underlying t = some .string) : Opens P t fun cs => ∃ s : ByteArray, cs = [.v (.string s)] ∧ s.size ≤ maxLen := by
  intro H enc w base spare held fuel us x h
  obtain ⟨n, rfl, _, hs⟩ := DataW.trod_string ht h
  exact ⟨_, ⟨n, rfl, hs⟩, relL_one (by rw [RelV]), by simp [Value.oneCell']⟩

theorem cells_get {w : World} {base : Nat} {a : Addr} {n : Nat} {us : List Value} (h : w.cells? base a n = some us) : us.length = n ∧ ∀ j, j < n → w.cell? (a.add j) = us[j]? := by
  unfold World.cells? at h
  split at h
  · exact ⟨by simpa using mapM_some_length h, fun j hj => mapM_some_get h j j (by simp [hj])⟩
  · cases h

theorem add_none {a : Addr} (ha : a.spot = none) (i : Nat) : a.add i = ⟨a.block, a.off + i, none⟩ := by
  cases a with
  | mk b o s =>
    simp only at ha
    subst ha
    unfold Addr.add
    split <;> simp_all

theorem Opens.slice {sz : Nat} {S : List CV → Prop} (ht : P.underlying t = some (.slice e)) (hs : P.cellsOf e = sz) (h0 : 0 < sz) (he : Opens P e S) :
    Opens P t fun cs => ∃ xs, cs = [.sl .sh sz xs] ∧ xs.length ≤ maxLen ∧ ∀ x ∈ xs, S x := by
  intro H enc w base spare held fuel us x h
  rcases DataW.trod_slice ht h with ⟨rfl, _⟩ | ⟨a, len, cap, elems, rest, n, _, rfl, rfl, hb, hl, hm, hlen, hel, hsp, hns⟩
  · refine ⟨_, ⟨[], rfl, by simp, by simp⟩, relL_one ?_, by simp [Value.oneCell']⟩
    rw [RelV]
    exact ⟨none, 0, rfl, by simp, trivial, h0, .inl rfl⟩
  · have key : ∀ i, i < len → ∃ (cs : List CV) (vs : List Value), S cs ∧ RelL (gh0 w) w [] cs vs ∧ (∀ u ∈ vs, u.oneCell' = true) ∧ vs.length = sz ∧ ∀ j, j < sz → w.cell? ((a.add (i * sz)).add j) = vs[j]? := by
      intro i hi
      have h1 := hel i hi
      rw [List.getElem?_eq_getElem (by omega)] at h1
      obtain ⟨vs, h2, h3⟩ := Option.bind_eq_some_iff.1 h1
      obtain ⟨cs, h4, h5, h6⟩ := he _ enc w base spare held n vs _ h3
      rw [hs] at h2
      obtain ⟨h7, h8⟩ := cells_get h2
      exact ⟨cs, vs, h4, h5, h6, h7, h8⟩
    by_cases hz : len = 0
    · subst hz
      refine ⟨_, ⟨[], rfl, by simp, by simp⟩, relL_one ?_, by simp [Value.oneCell']⟩
      rw [RelV]
      exact ⟨some a, cap, rfl, by simp, trivial, h0, .inl rfl⟩
    · have hsp : a.spot = none := by
        obtain ⟨cs, vs, _, _, _, h7, h8⟩ := key 0 (by omega)
        have h9 := h8 0 h0
        rw [List.getElem?_eq_getElem (by omega)] at h9
        have : (a.add (0 * sz)).add 0 = a := by simp [Addr.add]
        rw [this] at h9
        simp only [World.cell?] at h9
        split at h9
        · split at h9
          · cases h9
          · rename_i h; simpa using h
        · cases h9
      let g : Nat → List CV := fun i => if h : i < len then Classical.choose (key i h) else []
      have hg : ∀ i (h : i < len), ∃ (vs : List Value), S (g i) ∧ RelL (gh0 w) w [] (g i) vs ∧ (∀ u ∈ vs, u.oneCell' = true) ∧ vs.length = sz ∧ ∀ j, j < sz → w.cell? ((a.add (i * sz)).add j) = vs[j]? := by
        intro i h
        have := Classical.choose_spec (key i h)
        simp only [g, h, dif_pos]
        exact this
      have cell : ∀ i j, i < len → j < sz → ∃ u, w.cell? ⟨a.block, a.off + i * sz + j, none⟩ = some u := by
        intro i j hi hj
        obtain ⟨vs, _, _, _, h7, h8⟩ := hg i hi
        have h9 := h8 j hj
        rw [List.getElem?_eq_getElem (by omega), add_none hsp, add_none rfl] at h9
        exact ⟨_, h9⟩
      refine ⟨_, ⟨(List.range len).map g, rfl, by simp; omega, ?_⟩, relL_one ?_, by simp [Value.oneCell']⟩
      · intro x hx
        obtain ⟨i, hi, rfl⟩ := List.mem_map.1 hx
        obtain ⟨_, h4, _⟩ := hg i (by simpa using hi)
        exact h4
      · rw [RelV]
        refine ⟨some a, cap, by simp, by simp; omega, trivial, h0, .inr ⟨a.block, a.off, by cases a; simp_all, ?_, relE_mk fun j c hc => ?_⟩⟩
        · obtain ⟨u, hu⟩ := cell (len - 1) (sz - 1) (by omega) (by omega)
          have := gh0_lim hu
          simp only [List.length_map, List.length_range]
          have h1 : len * sz = (len - 1) * sz + sz := by
            rw [← Nat.succ_mul]; congr 1; omega
          omega
        · simp only [List.getElem?_map, Option.map_eq_some_iff] at hc
          obtain ⟨i, hi, rfl⟩ := hc
          obtain ⟨hi', hi⟩ := List.getElem?_eq_some_iff.1 hi
          simp at hi hi'
          subst hi
          obtain ⟨vs, h4, h5, h6, h7, h8⟩ := hg j hi'
          have hl := relL_length h5
          refine ⟨by omega, relC_mk fun q c hc => ?_⟩
          obtain ⟨u, hu, hv⟩ := relL_get h5 q c hc
          have hq : q < sz := by
            have := (List.getElem?_eq_some_iff.1 hc).1
            omega
          have h9 := h8 q hq
          rw [hu, add_none hsp, add_none rfl] at h9
          exact ⟨u, h9, hv, h6 u (List.mem_of_getElem? hu)⟩

def OpensF (P : Program) (N : Nat) (fs : List Field) (o : Nat) (S : List CV → Prop) : Prop :=
  ∀ (H : Type) (enc : TypeId × Value → H) (w : World) (base : Nat) (spare : Nat → Bool) (held : Bool) (fuel : Nat) (us : List Value), us.length = N →
    (∀ f ∈ fs, ∃ x, DataW.trod enc P w base spare held fuel f.type ((us.drop f.offset).take (P.cellsOf f.type)) = some x) →
    ∃ cs, S cs ∧ RelL (gh0 w) w [] cs (us.drop o) ∧ ∀ u ∈ us.drop o, u.oneCell' = true

theorem OpensF.nil {N : Nat} : OpensF P N [] N fun cs => cs = [] := by
  intro H enc w base spare held fuel us hl h
  subst hl
  exact ⟨_, rfl, by rw [List.drop_length, RelL], by simp⟩

theorem OpensF.cons {N : Nat} {f : Field} {fs : List Field} {o n : Nat} {S S' : List CV → Prop} (ho : f.offset = o) (hn : P.cellsOf f.type = n) (h1 : Opens P f.type S) (h2 : OpensF P N fs (o + n) S') :
    OpensF P N (f :: fs) o fun cs => ∃ a b, cs = a ++ b ∧ S a ∧ S' b := by
  intro H enc w base spare held fuel us hl h
  obtain ⟨x, hx⟩ := h f (by simp)
  rw [ho, hn] at hx
  obtain ⟨a, ha, ra, oa⟩ := h1 _ enc w base spare held fuel _ _ hx
  obtain ⟨b, hb, rb, ob⟩ := h2 _ enc w base spare held fuel us hl fun g hg => h g (List.mem_cons_of_mem _ hg)
  have hd : us.drop o = (us.drop o).take n ++ us.drop (o + n) := by
    rw [← List.drop_drop, List.take_append_drop]
  refine ⟨_, ⟨a, b, rfl, ha, hb⟩, ?_, ?_⟩
  · rw [hd]; exact relL_append ra rb
  · rw [hd]
    intro u hu
    rcases List.mem_append.1 hu with h | h
    · exact oa u h
    · exact ob u h

theorem Opens.struct {fs : Array Field} {S : List CV → Prop} (ht : P.underlying t = some (.struct fs)) {N : Nat} (hN : P.cellsOf t = N) (h : OpensF P N fs.toList 0 S) : Opens P t S := by
  intro H enc w base spare held fuel us x hx
  obtain ⟨xs, n, _, _, hl, hl2, hf⟩ := DataW.trod_struct ht hx
  obtain ⟨cs, h1, h2, h3⟩ := h _ enc w base spare held n us (by omega) (by
    intro f hf'
    obtain ⟨i, hi⟩ := List.getElem?_of_mem hf'
    have := hf i f (by simpa using hi)
    have hi' : i < fs.size := by
      have := (List.getElem?_eq_some_iff.1 hi).1
      simpa using this
    rw [this, List.getElem?_eq_getElem (by omega)]
    exact ⟨_, rfl⟩)
  exact ⟨cs, h1, by simpa using h2, by simpa using h3⟩

theorem Opens.array {n sz : Nat} {S : List CV → Prop} (ht : P.underlying t = some (.array n e)) (hs : P.cellsOf e = sz) (hN : P.cellsOf t = n * sz) (he : Opens P e S) :
    Opens P t fun cs => ∃ xs : List (List CV), cs = xs.flatten ∧ xs.length = n ∧ ∀ x ∈ xs, S x := by
  intro H enc w base spare held fuel us x hx
  obtain ⟨xs, m, _, _, hl, hl2, hf⟩ := DataW.trod_array ht hx
  rw [hN] at hl
  rw [hs] at hf
  have key : ∀ q, q ≤ n → ∃ ys : List (List CV), ys.length = q ∧ (∀ x ∈ ys, S x) ∧ RelL (gh0 w) w [] ys.flatten (us.drop ((n - q) * sz)) ∧ ∀ u ∈ us.drop ((n - q) * sz), u.oneCell' = true := by
    intro q
    induction q with
    | zero =>
      intro _
      refine ⟨[], rfl, by simp, ?_, ?_⟩
      · rw [Nat.sub_zero, List.drop_of_length_le (by omega), List.flatten_nil, RelL]
      · rw [Nat.sub_zero, List.drop_of_length_le (by omega)]; simp
    | succ q ih =>
      intro hq
      obtain ⟨ys, h1, h2, h3, h4⟩ := ih (by omega)
      have hx := hf (n - (q + 1)) (by omega)
      rw [List.getElem?_eq_getElem (by omega)] at hx
      obtain ⟨a, ha, ra, oa⟩ := he _ enc w base spare held m _ _ hx
      have hd : us.drop ((n - (q + 1)) * sz) = (us.drop ((n - (q + 1)) * sz)).take sz ++ us.drop ((n - q) * sz) := by
        have : (n - q) * sz = (n - (q + 1)) * sz + sz := by
          rw [← Nat.succ_mul]; congr 1; omega
        rw [this, ← List.drop_drop, List.take_append_drop]
      refine ⟨a :: ys, by simp [h1], by simpa using ⟨ha, h2⟩, ?_, ?_⟩
      · rw [hd, List.flatten_cons]; exact relL_append ra h3
      · rw [hd]
        intro u hu
        rcases List.mem_append.1 hu with h | h
        · exact oa u h
        · exact h4 u h
  obtain ⟨ys, h1, h2, h3, h4⟩ := key n (Nat.le_refl _)
  rw [Nat.sub_self, Nat.zero_mul, List.drop_zero] at h3 h4
  exact ⟨_, ⟨ys, rfl, h1, h2⟩, h3, h4⟩

theorem Opens.mono {S S' : List CV → Prop} (h : Opens P t S) (hs : ∀ cs, S cs → S' cs) : Opens P t S' := by
  intro H enc w base spare held fuel us x hx
  obtain ⟨cs, h1, h2, h3⟩ := h _ enc w base spare held fuel us x hx
  exact ⟨cs, hs cs h1, h2, h3⟩

variable {H : Type} {enc : TypeId × Value → H} {w : World} {base : Nat} {spare : Nat → Bool} {held : Bool}
theorem Opens.arg {S : List CV → Prop} (h : Opens P t S) {v : Value} {d : DataW H} {p : List MemPlace} (hv : v.cells.toList = [v]) (hd : DataW.Trod enc P w base spare held t v d p) :
    ∃ c, S [c] ∧ RelV (gh0 w) w [] c v := by
  obtain ⟨fuel, hf⟩ := hd
  rw [hv] at hf
  obtain ⟨cs, h1, h2, _⟩ := h _ enc w base spare held fuel _ _ hf
  have := relL_length h2
  match cs, this with
  | [c], _ => exact ⟨c, h1, relL_one' h2⟩
theorem Opens.args {S : List CV → Prop} (h : Opens P t S) {us : Array Value} {d : DataW H} {p : List MemPlace} (hd : DataW.Trod enc P w base spare held t (.agg us) d p) :
    ∃ cs, S cs ∧ RelV (gh0 w) w [] (.agg cs) (.agg us) := by
  obtain ⟨fuel, hf⟩ := hd
  obtain ⟨cs, h1, h2, _⟩ := h _ enc w base spare held fuel _ _ hf
  refine ⟨cs, h1, ?_⟩
  rw [RelV]
  refine ⟨us.toList, by simp, ?_⟩
  simpa [Value.cells] using h2

theorem trodAll_below (hl : laidOutB P = true) {W W' : World} (hb : Below W.heap.size W W') : ∀ {ts : List TypeId} {vs : List Value} {ds : List (DataW H)} {p : List MemPlace},
    (ts.all fun t => P.readableRec t && decide (t < P.types.size)) = true → DataW.TrodAll enc P W 0 (fun _ => true) true ts vs ds p → DataW.TrodAll enc P W' 0 (fun b => decide (b < W.heap.size)) true ts vs ds p
  | [], [], [], p, _, h => h
  | t :: ts, v :: vs, d :: ds, p, ht, h => by
    obtain ⟨p, q, h1, h2, rfl⟩ := h
    simp only [List.all_cons, Bool.and_eq_true, decide_eq_true_eq] at ht
    refine ⟨p, q, Below.trod hl ht.1.1 ht.1.2 h1 hb ?_, trodAll_below hl hb ht.2 h2, rfl⟩
    obtain ⟨m, hm⟩ := h1
    exact DataW.trod_lt m _ _ _ hm
  | [], [], _ :: _, _, _, h => h.elim
  | [], _ :: _, _, _, _, h => h.elim
  | _ :: _, [], _, _, _, h => h.elim
  | _ :: _, _ :: _, [], _, _, h => h.elim
end Go.Proofs.YtbnkggbpocaaiaaGreatDoor
namespace Go.Proofs.YtbnkggbpocaaiaaGreatDoor
open Go.Proofs
theorem exMapF {α : Type} {f : α → List CV} : ∀ {xs : List (List CV)}, (∀ x ∈ xs, ∃ a, x = f a) → ∃ ys : List α, xs = ys.map f
  | [], _ => ⟨[], rfl⟩
  | x :: xs, h => by
    obtain ⟨a, rfl⟩ := h x (by simp)
    obtain ⟨ys, rfl⟩ := exMapF fun y hy => h y (List.mem_cons_of_mem _ hy)
    exact ⟨a :: ys, rfl⟩
theorem opens_int : Opens Tryz.prog 3 fun cs => ∃ n, cs = ic n :=
  (Opens.int Tryz.underlying3).mono fun _ ⟨n, h, _⟩ => ⟨n, h⟩
theorem opens_u8 : Opens Tryz.prog 5 fun cs => ∃ b, cs = u8 b :=
  (Opens.int Tryz.underlying5).mono fun _ ⟨n, h, hw⟩ => ⟨byt n, by
    simp only [Lit.wf, Bool.and_eq_true, decide_eq_true_eq] at hw
    have h1 : 0 ≤ n := hw.1
    have h2 : n ≤ 255 := hw.2
    rw [h, u8, byt_toNat, Int.emod_eq_of_lt h1 (by omega)]⟩
theorem opens_sl {t e sz : Nat} {α : Type} {f : α → List CV} (ht : Tryz.prog.underlying t = some (.slice e)) (hs : Tryz.prog.cellsOf e = sz) (h0 : 0 < sz) (he : Opens Tryz.prog e fun cs => ∃ a, cs = f a) :
    Opens Tryz.prog t fun cs => ∃ l : List α, cs = [.sl .sh sz (l.map f)] ∧ l.length ≤ maxLen :=
  (Opens.slice ht hs h0 he).mono fun _ ⟨xs, h, hl, hx⟩ => by
    obtain ⟨ys, rfl⟩ := exMapF hx
    exact ⟨ys, h, by simpa using hl⟩
theorem opens_ints : Opens Tryz.prog 22 fun cs => ∃ l : List Int, cs = [.sl .sh 1 (l.map ic)] ∧ l.length ≤ 9223372036854775807 := (opens_sl Tryz.underlying22 (by kernel_rfl) (by decide) opens_int).mono fun _ ⟨l, h, hl⟩ => ⟨l, h, Nat.le_trans hl (by decide)⟩
end Go.Proofs.YtbnkggbpocaaiaaGreatDoor
namespace Go.Proofs.YtbnkggbpocaaiaaGreatDoor
open Go.Proofs
end Go.Proofs.YtbnkggbpocaaiaaGreatDoor
namespace Go.Proofs.YtbnkggbpocaaiaaGreatDoor
open Go.Proofs
end Go.Proofs.YtbnkggbpocaaiaaGreatDoor
namespace Go.Proofs.YtbnkggbpocaaiaaGreatDoor
open Go.Proofs
theorem opens_boolQ : Opens Tryz.prog 4 fun cs => ∃ b, cs = [.v (.bool b)] := Opens.bool Tryz.underlying4
theorem opens_stq : Opens Tryz.prog 66 fun cs => ∃ x, cs = stqC x :=
  (Opens.struct Tryz.underlying66 (N := 5) (by kernel_rfl) (.cons rfl (n := 1) (by kernel_rfl) opens_u8 (.cons rfl (n := 1) (by kernel_rfl) opens_u8 (.cons rfl (n := 1) (by kernel_rfl) opens_u8 (.cons rfl (n := 1) (by kernel_rfl) opens_u8 (.cons rfl (n := 1) (by kernel_rfl) opens_boolQ .nil)))))).mono fun cs h => by
    obtain ⟨_, _, rfl, ⟨a, rfl⟩, _, _, rfl, ⟨b, rfl⟩, _, _, rfl, ⟨c, rfl⟩, _, _, rfl, ⟨d, rfl⟩, _, _, rfl, ⟨e, rfl⟩, rfl⟩ := h
    exact ⟨⟨a, b, c, d, e⟩, rfl⟩
theorem opens_stqs : Opens Tryz.prog 57 fun cs => ∃ l : List Stq, cs = [.sl .sh 5 (l.map stqC)] ∧ l.length ≤ maxLen := opens_sl Tryz.underlying57 (by kernel_rfl) (by decide) opens_stq
end Go.Proofs.YtbnkggbpocaaiaaGreatDoor
namespace Go.Proofs.YtbnkggbpocaaiaaGreatDoor
open Go.Proofs
theorem opens_bytes : Opens Tryz.prog 91 fun cs => ∃ l : List UInt8, cs = [.sl .sh 1 (bs l)] ∧ l.length ≤ maxLen := opens_sl Tryz.underlying91 (by kernel_rfl) (by decide) opens_u8
end Go.Proofs.YtbnkggbpocaaiaaGreatDoor
