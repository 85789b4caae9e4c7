import Derived.Test.YtbnkggbpocaaiaaGreatDoorB5
import Derived.Test.YtbnkggbpocaaiaaGreatDoorB4
set_option linter.unusedSimpArgs false
set_option linter.unusedVariables false
set_option linter.unusedSectionVars false
namespace Go.Proofs.YtbnkggbpocaaiaaGreatDoor
open Go.Proofs
def kW (c p : Int) (l : List Sec) : Nat := min l.length (c - 16 - p).toNat
theorem wrapW_1 {s c p : Int} {l : List Sec} (h : kW c p l < l.length) : wrapW s c p l = [opW (s + 16 + p) (l.take (kW c p l)), opW (s + 16) (l.drop (kW c p l))] := by
  show opW _ _ :: (if kW c p l < l.length then _ else _) = _
  rw [if_pos h]; rfl
theorem wrapW_0 {s c p : Int} {l : List Sec} (h : ¬ kW c p l < l.length) : wrapW s c p l = [opW (s + 16 + p) (l.take (kW c p l))] := by
  show opW _ _ :: (if kW c p l < l.length then _ else _) = _
  rw [if_neg h]; rfl
theorem write_cc (H : Hp) (V : List Nat) (s c p : Int) (l : List Sec) (h : validJ s c = true) (h1 : 0 ≤ p) (h2 : p ≤ c - 16) (hl : l.length ≤ 1000000) : CC Tryz.prog 106 [.agg [iv s, iv c], iv p, secsV l] H V (Fr 3 ((wrapW s c p l).map opC) H V) := by
  refine CC.of_swp Tryz.func106 rfl (by kernel_rfl) (by rw [Tryz.ntmps106]; exact len_le _ _ rfl) fun hok hokH => ?_
  clear hok
  have hv := (validJ_iff s c).1 h
  obtain ⟨k, hk⟩ : ∃ k, k = kW c p l := ⟨_, rfl⟩
  have hkm : min (l.length : Int) (c - 16 - p) = (k : Int) := by rw [hk, kW]; omega
  have hkl : k ≤ l.length := by rw [hk, kW]; omega
  have w1 : IntKind.i64.wrap (c - 16 - p) = c - 16 - p := IntWalk.i64_in _ ⟨by omega, by omega⟩
  refine SWp.seq (Wp.s ?_)
  simp -implicitDefEqProofs [go_sem, args0]
  refine SWp.seq (Wp.s ?_)
  simp -implicitDefEqProofs [go_sem]
  refine CC.mono (length_cc _ _ _ _ h) ?_
  rintro _ _ _ ⟨rfl, rfl, rfl⟩
  simp -implicitDefEqProofs [go_sem, w1, hkm]
  refine SWp.seq (SWp.drawnT [] [] (.s 0 .pl <| .s 1 .pl <| .s 3 .pl <| .s 4 .pl <| .s 5 .pl <| .s 6 .pl <| .s 2 .pl <| .s 7 .pl <| .s 8 .pl <| .s 9 .pl <| .n) (by kernel_rfl) (by kernel_rfl) ?_)
  simp -implicitDefEqProofs [go_sem, hkl]
  refine CC.mono (sector_cc _ _ _ _ _ h h1 (by omega)) ?_
  rintro _ _ _ ⟨rfl, rfl, rfl⟩
  simp -implicitDefEqProofs [go_sem]
  by_cases hw : k < l.length
  case neg =>
    have hw' : ¬ (k : Int) < (l.length : Int) := by omega
    refine SWp.seq (SWp.seq (Wp.s ?_))
    simp -implicitDefEqProofs [go_sem, hw]
    refine Wp.s ?_
    simp -implicitDefEqProofs [go_sem]
    refine Wp.s ?_
    simp -implicitDefEqProofs [go_sem]
    rw [wrapW_0 (by rw [← hk]; exact hw), ← hk]
    refine Fin.ge (Ge.slk (ys := [opW (s + 16 + p) (l.take k)].map opC) (.cons (.cons (.refl _) (.cons (.refl _) (.cons (by rw [← List.map_take]; exact .sh _ _ _) .nil))) .nil)) ?_
    exact Fin.frtok (by decide) (.inr rfl) (by simp [go_sem, okE_ops]) hokH (by simp) (by simp)
  refine SWp.seq (SWp.seq (Wp.s ?_))
  simp -implicitDefEqProofs [go_sem, hw]
  refine SWp.condT (by simp [go_sem]) ?_
  refine SWp.drawnT [] [] (.s 0 .pl <| .s 1 .pl <| .s 3 .pl <| .s 4 .pl <| .s 5 .pl <| .s 2 .pl <| .s 6 .pl <| .s 7 .pl <| .s 8 .pl <| .s 9 .pl <| .n) (by kernel_rfl) (by kernel_rfl) ?_
  simp -implicitDefEqProofs [go_sem, hkl]
  refine CC.mono (sector_cc _ _ _ _ _ h (Int.le_refl 0) (by omega)) ?_
  rintro _ _ _ ⟨rfl, rfl, rfl⟩
  simp -implicitDefEqProofs [go_sem]
  refine Wp.s ?_
  simp -implicitDefEqProofs [go_sem]
  rw [wrapW_1 (by rw [← hk]; exact hw), ← hk]
  refine Fin.ge (Ge.slk (ys := [opW (s + 16 + p) (l.take k), opW (s + 16) (l.drop k)].map opC) (.cons (.cons (.refl _) (.cons (.refl _) (.cons (by rw [← List.map_take]; exact .sh _ _ _) .nil))) (.cons (.cons (.refl _) (.cons (.refl _) (.cons (by rw [← List.map_drop]; exact .refl _) .nil))) .nil))) ?_
  exact Fin.fresh rfl (by simp [go_sem, okE_ops]) hokH (by simp)
theorem jrC_take5 (j : Jrn) : List.take 5 (jrC j) = [iv j.start, iv j.count, iv j.head, iv j.tail, iv j.first] := rfl
theorem own_cc (H : Hp) (V : List Nat) (j : Jrn) (u : Int) (hl : j.sizes.length ≤ 1000000000) : CC Tryz.prog 118 [.agg (stJ j u)] H V (fun r H' V' => ∃ v, r = .agg [iv j.start, iv j.count, iv j.head, iv j.tail, iv j.first, .sl (.own V.length v) 1 (j.sizes.map ic)] ∧ H = H' ∧ V ++ [v] = V') := by
  refine CC.of_swp Tryz.func118 rfl (by kernel_rfl) (by rw [Tryz.ntmps118]; exact len_le _ _ rfl) fun hok hokH => ?_
  clear hok
  refine SWp.seq (Wp.s ?_)
  simp -implicitDefEqProofs [go_sem, args0]
  refine SWp.seq (Wp.s ?_)
  simp -implicitDefEqProofs [go_sem]
  refine SWp.seq (Wp.s ?_)
  simp -implicitDefEqProofs [go_sem, jrC_take5]
  refine ⟨by omega, ?_⟩
  refine SWp.seq (Wp.s ?_)
  simp -implicitDefEqProofs [go_sem]
  refine Wp.s ?_
  simp -implicitDefEqProofs [go_sem]
  refine Fin.cut H.length (V.length + 1) ⟨0, rfl, rfl, rfl⟩ (Nat.le_refl _) (by omega) (by simp) (by simp) (.refl _) ?_ fun b cs hb => okL_mono (Nat.le_refl _) (by omega) (hokH b cs hb)
  simp [go_sem, okL, okV, okE_ints]
end Go.Proofs.YtbnkggbpocaaiaaGreatDoor
namespace Go.Proofs.YtbnkggbpocaaiaaGreatDoor
open Go.Proofs
def jtV (x : Jrn × List Opn × Nat) : CV := .tup [.agg (jrC x.1), opsV x.2.1, er x.2.2]
theorem formatJ_no {s c : Int} (h : ¬ validJ s c = true) : formatJ s c = (zjr, [], 2) := by rw [formatJ, if_pos (by simpa using h)]
theorem superJ_01 : superJ 0 1 = [0, 1] := by rw [superJ, enc, enc, norm, norm, if_neg (by decide), if_neg (by decide), show (0 : Int).toNat = 0 from rfl, show (1 : Int).toNat = 1 from rfl, encN_lt (by decide), encN_lt (by decide)]; rfl
def fmtOps (s : Int) : List Opn := [opW s (List.replicate 16 sec0), opS, opW s (copyS 1 [0, 1]), opS]
theorem formatS_ok {s c : Int} (h : validJ s c = true) : formatS s (superJ 0 1) = (fmtOps s, 0) := by
  have hv := (validJ_iff s c).1 h
  rw [superJ_01, formatS, if_neg (by omega), if_neg (by decide)]; rfl
theorem formatJ_ok {s c : Int} (h : validJ s c = true) : formatJ s c = (⟨s, c, 0, 0, 1, []⟩, opW (s + 16) (List.replicate (c - 16).toNat sec0) :: opS :: fmtOps s, 0) := by
  rw [formatJ, if_neg (by simp [h]), formatS_ok h, if_neg (by simp)]
theorem fin_jt {H H' : Hp} {V V' : List Nat} {x : Jrn × List Opn × Nat} {a b : CV} {e : Nat} (h1 : Le a (.agg (jrC x.1))) (h2 : Le b (opsV x.2.1)) (h3 : e = x.2.2) (hokH : ∀ (b : Nat) cs, H[b]? = some (some cs) → okL H.length V.length cs) (hH : H'.take H.length = H) (hV : V'.take V.length = V) :
    Fin H.length V.length (Pu (jtV x) H V) (.tup [a, b, er e]) H' V' := by
  subst h3
  refine Fin.pu (.tup (.cons h1 (.cons h2 (.cons (.refl _) .nil)))) ?_ hokH hH hV
  rw [jtV, okV, okL, okL, okL, okL]
  simp [go_sem, okL, okV, okL_jrC, okE_ops]
abbrev zjC : List CV := [iv 0, iv 0, iv 0, iv 0, iv 0, .v (.slice none 0 0)]
theorem zj_le : Le (.agg zjC) (.agg (jrC zjr)) := .agg (.cons (.refl _) (.cons (.refl _) (.cons (.refl _) (.cons (.refl _) (.cons (.refl _) (.cons (.nil 1 (by decide)) .nil))))))
theorem LeE.app {a b : List (List CV)} {c d : List (List CV)} : LeE a b → LeE c d → LeE (a ++ c) (b ++ d)
  | .nil, h => h
  | .cons h t, g => .cons h (LeE.app t g)
theorem LeL.rfl' : ∀ l : List CV, LeL l l
  | [] => .nil
  | c :: l => .cons (.refl c) (LeL.rfl' l)
theorem LeE.rfl' : ∀ l : List (List CV), LeE l l
  | [] => .nil
  | c :: l => .cons (LeL.rfl' c) (LeE.rfl' l)
theorem LeE.sync : LeE [[iv 1, iv 0, .v (.slice none 0 0)]] ([opS].map opC) := .cons (.cons (.refl _) (.cons (.refl _) (.cons (.nil 8 (by decide)) .nil))) .nil
theorem ops_le (A B : List Opn) : LeE (A.map opC ++ [iv 1, iv 0, .v (.slice none 0 0)] :: B.map opC) ((A ++ opS :: B).map opC) := by
  rw [List.map_append, List.map_cons]
  exact LeE.app (LeE.rfl' _) (LeE.app LeE.sync (LeE.rfl' (B.map opC)))
theorem jr0_le (s c : Int) : Le (.agg [iv s, iv c, iv 0, iv 0, iv 1, .v (.slice none 0 0)]) (.agg (jrC ⟨s, c, 0, 0, 1, []⟩)) := .agg (.cons (.refl _) (.cons (.refl _) (.cons (.refl _) (.cons (.refl _) (.cons (.refl _) (.cons (.nil 1 (by decide)) .nil))))))
theorem wrapW_all {s c : Int} (h : validJ s c = true) : wrapW s c 0 (List.replicate (c - 16).toNat sec0) = [opW (s + 16) (List.replicate (c - 16).toNat sec0)] := by
  have hk : kW c 0 (List.replicate (c - 16).toNat sec0) = (c - 16).toNat := by rw [kW, List.length_replicate]; simp
  rw [wrapW_0 (by rw [hk, List.length_replicate]; omega), hk, List.take_of_length_le (by simp), Int.add_zero]
theorem call_zeros {f : FuncId} {H : Hp} {V : List Nat} {R : CV → Hp → List Nat → Prop} {xs : List CV} (b n : Nat) (hb : H[b]? = some (some (secsF (List.replicate n sec0)))) (hc : CC Tryz.prog f (xs ++ [secsV (List.replicate n sec0)]) (H.set b none) V R) : CC Tryz.prog f (xs ++ [.bsl b 0 n 8]) H V R := by
  have hch : chunks 8 n ((secsF (List.replicate n sec0)).drop 0) = (List.replicate n sec0).map secC := by
    have := chunks_secs (List.replicate n sec0)
    rwa [List.length_replicate] at this
  refine CC.let_go _ b _ hb ?_ hc
  have : ∀ xs : List CV, FyL b (secsF (List.replicate n sec0)) (xs ++ [.bsl b 0 n 8]) (xs ++ [secsV (List.replicate n sec0)]) := fun xs => by
    induction xs with
    | nil =>
      refine .cons ?_ .nil
      show Fy _ _ _ (.sl .sh 8 ((List.replicate n sec0).map secC))
      rw [← hch]
      exact .bsl _ _ _ (by simp [Nat.mul_comm])
    | cons x xs ih => exact .cons (.refl _) ih
  exact this xs
theorem Format_cc (H : Hp) (V : List Nat) (s c : Int) : CC Tryz.prog 45 [.agg [iv s, iv c]] H V (Pu (jtV (formatJ s c)) H V) := by
  refine CC.of_swp Tryz.func45 rfl (by kernel_rfl) (by rw [Tryz.ntmps45]; exact len_le _ _ rfl) fun hok hokH => ?_
  clear hok
  refine SWp.seq (Wp.s ?_)
  simp -implicitDefEqProofs [go_sem, args0]
  refine SWp.seq (Wp.s ?_)
  simp -implicitDefEqProofs [go_sem]
  refine SWp.seq (SWp.seq (Wp.s ?_))
  simp -implicitDefEqProofs [go_sem]
  refine CC.mono (valid_cc _ _ _ _) ?_
  rintro _ _ _ ⟨rfl, rfl, rfl⟩
  by_cases h : validJ s c = true
  case neg =>
    simp -implicitDefEqProofs [go_sem, h]
    refine Wp.s ?_
    simp -implicitDefEqProofs [go_sem]
    rw [formatJ_no h]
    exact fin_jt zj_le (.nil 3 (by decide)) rfl hokH (by simp) (by simp)
  have hv := (validJ_iff s c).1 h
  simp -implicitDefEqProofs [go_sem, h]
  refine Wp.s ?_
  simp -implicitDefEqProofs [go_sem]
  refine SWp.seq (SWp.drawnT [H.length + 2] [4] (.s 0 .pl <| .s 1 .ld <| .s 5 .pl <| .s 6 .pl <| .s 2 .pl <| .s 3 .pl <| .s 4 .st <| .s 7 .pl <| .s 8 .pl <| .n) (by kernel_rfl) (by kernel_rfl) ?_)
  simp -implicitDefEqProofs [go_sem]
  refine CC.mono (length_cc _ _ _ _ h) ?_
  rintro _ _ _ ⟨rfl, rfl, rfl⟩
  simp -implicitDefEqProofs [go_sem, -List.reduceReplicate]
  refine ⟨by omega, by omega, ?_⟩
  have hz := zeros_secs (c - 16).toNat
  simp only [List.map_cons, List.map_nil] at hz
  rw [hz]
  refine call_zeros (xs := [.agg [iv s, iv c], iv 0]) (H.length + 3) (c - 16).toNat (by simp) ?_
  refine CC.mono (write_cc _ _ s c 0 (List.replicate (c - 16).toNat sec0) h (Int.le_refl 0) (by omega) (by simp; omega)) ?_
  rintro _ _ _ ⟨v, rfl, rfl, rfl⟩
  rw [wrapW_all h]
  obtain ⟨A, hA⟩ : ∃ A, A = [opW (s + 16) (List.replicate (c - 16).toNat sec0)] := ⟨_, rfl⟩
  rw [← hA]
  simp -implicitDefEqProofs [go_sem]
  refine ⟨Kp.keep fun b hb => ?_, by subst hA; simp, ?_⟩
  · obtain rfl : b = H.length + 2 := by simpa using hb
    simp
  refine SWp.seq (SWp.drawnT [] [] (.s 0 .pl <| .s 1 .pl <| .s 2 .pl <| .s 3 .pl <| .s 4 .pl <| .s 5 .pl <| .s 6 .pl <| .s 7 .pl <| .s 8 .pl <| .n) (by kernel_rfl) (by kernel_rfl) ?_)
  simp -implicitDefEqProofs [go_sem]
  refine CC.mono (payload_cc _ _ _ _) ?_
  rintro _ _ _ ⟨rfl, rfl, rfl⟩
  simp -implicitDefEqProofs [go_sem]
  refine CC.mono (sFormat_cc _ _ s _ _) ?_
  rintro _ _ _ ⟨rfl, rfl, rfl⟩
  rw [formatS_ok h]
  simp -implicitDefEqProofs [go_sem, stV]
  refine SWp.seq (SWp.seq (Wp.s ?_))
  simp -implicitDefEqProofs [go_sem]
  refine Wp.s ?_
  simp -implicitDefEqProofs [go_sem]
  refine SWp.seq (SWp.drawnT [] [5] (.s 0 .pl <| .s 1 .pl <| .s 2 .pl <| .s 3 .pl <| .s 4 .pl <| .s 5 .st <| .s 6 .pl <| .s 7 .pl <| .n) (by kernel_rfl) (by kernel_rfl) ?_)
  simp -implicitDefEqProofs [go_sem]
  refine ⟨by subst hA; simp [fmtOps], ?_⟩
  refine Wp.s ?_
  simp -implicitDefEqProofs [go_sem]
  rw [formatJ_ok h]
  refine fin_jt (jr0_le s c) ?_ rfl hokH (by simp) (by simp)
  subst hA
  exact .sle _ _ (ops_le _ _)
theorem FyL.rfl' (b : Nat) (cs : List CV) : ∀ l : List CV, FyL b cs l l
  | [] => .nil
  | c :: l => .cons (.refl c) (FyL.rfl' b cs l)
theorem FyE.rfl' (b : Nat) (cs : List CV) : ∀ l : List (List CV), FyE b cs l l
  | [] => .nil
  | c :: l => .cons (FyL.rfl' b cs c) (FyE.rfl' b cs l)
theorem Fy.zeros (b n : Nat) : Fy b (secsF (List.replicate n sec0)) (.bsl b 0 n 8) (secsV (List.replicate n sec0)) := by
  have hch : chunks 8 n ((secsF (List.replicate n sec0)).drop 0) = (List.replicate n sec0).map secC := by
    have := chunks_secs (List.replicate n sec0)
    rwa [List.length_replicate] at this
  show Fy _ _ _ (.sl .sh 8 ((List.replicate n sec0).map secC))
  rw [← hch]
  exact .bsl _ _ _ (by simp [Nat.mul_comm])
end Go.Proofs.YtbnkggbpocaaiaaGreatDoor
namespace Go.Proofs.YtbnkggbpocaaiaaGreatDoor
open Go.Proofs
def encV : Except Nat (List Sec) → CV
  | .ok l => .tup [secsV l, er 0]
  | .error e => .tup [secsV [], er e]
theorem okV_encV (i j : Nat) (x : Except Nat (List Sec)) : okV i j (encV x) := by
  cases x <;> simp only [encV] <;> rw [okV, okL, okL, okL] <;> exact ⟨okV_secsV _ _ _, okV_er _ _ _, trivial⟩
theorem enc_bad {r : Rcd} (h : r.kind < 1 ∨ 255 < r.kind ∨ r.sq < 1 ∨ 4294967295 < r.sq) : encR r = .error 2 := by rw [encR, if_pos h]
theorem enc_long {r : Rcd} (h : ¬ (r.kind < 1 ∨ 255 < r.kind ∨ r.sq < 1 ∨ 4294967295 < r.sq)) (h2 : 4096 < r.pay.length) : encR r = .error 5 := by rw [encR, if_neg h, if_pos h2]
theorem enc_ok {r : Rcd} (h : ¬ (r.kind < 1 ∨ 255 < r.kind ∨ r.sq < 1 ∨ 4294967295 < r.sq)) (h2 : ¬ 4096 < r.pay.length) : encR r = .ok (secsR r.sq.toNat (strmR r.kind r.pay)) := by rw [encR, if_neg h, if_neg h2]
theorem leN_2 (n : Nat) : leN n 2 = [UInt8.ofNat (n % 256), UInt8.ofNat (n / 256 % 256)] := by
  have e : ∀ m : Nat, byt (m : Int) = UInt8.ofNat (m % 256) := fun m => by
    apply UInt8.toNat_inj.1
    have := byt_toNat (m : Int)
    rw [UInt8.toNat_ofNat']; omega
  simp only [leN, e, List.nil_append, List.cons_append, dvP]
  rw [show (256 : Nat) ^ 0 = 1 from rfl, Nat.div_one]
theorem body_eq (k : Int) (p : List UInt8) : bodyR k p = [byt k] ++ leN p.length 2 ++ p := by rw [leN_2]; rfl
theorem body_len (k : Int) (p : List UInt8) : (bodyR k p).length = p.length + 3 := rfl
theorem strm_len (k : Int) (p : List UInt8) : (strmR k p).length = p.length + 7 := by rw [strmR, List.length_append, body_len, le4_len]
theorem u8s_1 (x : Int) : [[CV.v (.int .u8 (IntKind.u8.wrap x))]] = bs [byt x] := by rw [wrap_u8]; rfl
theorem wrap_rn (r : Reg) : IntKind.i64.wrap (rn r) = ((r.toNat : Nat) : Int) := by
  have := r.isLt
  exact IntWalk.i64_in _ ⟨by unfold rn; omega, by unfold rn; omega⟩
theorem littleI_cc (H : Hp) (V : List Nat) (n : Int) (k : Nat) (hn : 0 ≤ n) (hk : k ≤ 8) : CC Tryz.prog 170 [iv n, ci k] H V (Fr 1 (bs (leN n.toNat k)) H V) := by
  have := little_cc H V n.toNat k hk
  rwa [Int.toNat_of_nonneg hn] at this
theorem ApS.more {j : Nat} {l : List Sec} {cv : CV} {V W : List Nat} (h : ApS j l cv V) : ApS j l cv (V ++ W) := by
  rcases h with h | ⟨k, v, h1, h2, h3⟩
  · exact .inl h
  · exact .inr ⟨k, v, h1, by rw [List.getElem?_append_left (List.getElem?_eq_some_iff.1 h2).1]; exact h2, h3⟩
theorem secR_val (sq : Nat) (st : List UInt8) (i : Nat) : (secR sq st i).val = le4 sq ++ (pcOf st 4 i ++ List.replicate (4 - (pcOf st 4 i).length) 0) := by
  refine mkSec_val ?_
  show (le4 sq ++ (pcOf st 4 i ++ List.replicate (4 - (pcOf st 4 i).length) 0)).length = 8
  have : (pcOf st 4 i).length ≤ 4 := by rw [pcOf, List.length_take]; omega
  rw [List.length_append, List.length_append, List.length_replicate, le4_len]; omega
theorem secR_cells (sq : Nat) (st : List UInt8) (i : Nat) : List.take 4 (fb (le4 sq ++ [0, 0, 0, 0])) ++ ((bs (pcOf st 4 i)).flatten ++ List.drop (4 + (pcOf st 4 i).length) (fb (le4 sq ++ [0, 0, 0, 0]))) = secC (secR sq st i) := by
  have hn : (pcOf st 4 i).length ≤ 4 := by rw [pcOf, List.length_take]; omega
  have e2 : ∀ n, n ≤ 4 → List.drop (4 + n) (fb (le4 sq ++ [0, 0, 0, 0])) = fb (List.replicate (4 - n) 0) := fun n hn => by
    have h : n = 0 ∨ n = 1 ∨ n = 2 ∨ n = 3 ∨ n = 4 := by omega
    rcases h with rfl | rfl | rfl | rfl | rfl <;> rfl
  rw [e2 _ hn, fb_flat, show List.take 4 (fb (le4 sq ++ [0, 0, 0, 0])) = fb (le4 sq) from rfl, fb_app, fb_app]
  show fb _ = fb (secR sq st i).val
  rw [secR_val]
abbrev HE (H : Hp) (r : Rcd) (st : List UInt8) (cv lp : CV) (W : Hp) : Hp :=
  H ++ (some (rcC r) :: some [cv] :: some [.sl .sh 1 (bs st)] :: some [ci 4] :: some [lp] :: W)
@[go_sem] theorem hbx_W5 (H W L : Hp) (a0 a1 a2 a3 a4 : Option (List CV)) (K : List CV → Prop) : hbx (H ++ (a0 :: a1 :: a2 :: a3 :: a4 :: (W ++ L))) (H.length + (W.length + 5)) K = hbx L 0 K := by
  unfold hbx
  have : (H ++ (a0 :: a1 :: a2 :: a3 :: a4 :: (W ++ L)))[H.length + (W.length + 5)]? = L[0]? := by
    rw [hget]
    simp only [List.getElem?_cons_succ]
    exact hget W L 0
  rw [this]
theorem secsR_n (sq : Nat) (st : List UInt8) : (List.range (nPc st.length 4)).map (secR sq st) = secsR sq st := rfl
set_option maxRecDepth 8000 in
theorem REncode_cc (H : Hp) (V : List Nat) (r : Rcd) (hl : r.pay.length ≤ 900000000) : CC Tryz.prog 117 [.agg (rcC r)] H V (Pu (encV (encR r)) H V) := by
  refine CC.of_swp0 Tryz.func117 rfl (by kernel_rfl) (by rw [Tryz.ntmps117]; exact len_le _ _ rfl) fun hok hokH => ?_
  refine SWp0.seq (SWp.s0 (Wp.s ?_))
  simp -implicitDefEqProofs [go_sem, args0]
  have bad : ∀ (e : Nat) {H' : Hp} {V' : List Nat}, encR r = .error e → H'.take H.length = H → V'.take V.length = V → Fin H.length V.length (Pu (encV (encR r)) H V) (.tup [.v (.slice none 0 0), er e]) H' V' := fun e H' V' h1 h2 h3 => by
    rw [h1]
    exact Fin.pu (.tup (.cons (.nil 8 (by decide)) (.cons (.refl _) .nil))) (okV_encV _ _ (.error e)) hokH h2 h3
  refine SWp0.seq (SWp.s0 (SWp.seq (Wp.s ?_)))
  by_cases c1 : r.kind < 1
  · simp -implicitDefEqProofs [go_sem, c1]
    refine Wp.s ?_
    simp -implicitDefEqProofs [go_sem]
    exact bad 2 (enc_bad (.inl c1)) (by simp) (by simp)
  by_cases c2 : 255 < r.kind
  · simp -implicitDefEqProofs [go_sem, c1, c2]
    refine Wp.s ?_
    simp -implicitDefEqProofs [go_sem]
    exact bad 2 (enc_bad (.inr (.inl c2))) (by simp) (by simp)
  by_cases c3 : r.sq < 1
  · simp -implicitDefEqProofs [go_sem, c1, c2, c3]
    refine Wp.s ?_
    simp -implicitDefEqProofs [go_sem]
    exact bad 2 (enc_bad (.inr (.inr (.inl c3)))) (by simp) (by simp)
  by_cases c4 : 4294967295 < r.sq
  · simp -implicitDefEqProofs [go_sem, c1, c2, c3, c4]
    refine Wp.s ?_
    simp -implicitDefEqProofs [go_sem]
    exact bad 2 (enc_bad (.inr (.inr (.inr c4)))) (by simp) (by simp)
  have hb : ¬ (r.kind < 1 ∨ 255 < r.kind ∨ r.sq < 1 ∨ 4294967295 < r.sq) := by omega
  simp -implicitDefEqProofs [go_sem, c1, c2, c3, c4]
  refine Wp.s ?_
  simp -implicitDefEqProofs [go_sem]
  refine SWp0.seq (SWp.s0 (SWp.seq (Wp.s ?_)))
  by_cases c5 : 4096 < r.pay.length
  · have c5' : 4096 < (r.pay.length : Int) := by omega
    simp -implicitDefEqProofs [go_sem, c5']
    refine Wp.s ?_
    simp -implicitDefEqProofs [go_sem]
    exact bad 5 (enc_long hb c5) (by simp) (by simp)
  have c5' : ¬ 4096 < (r.pay.length : Int) := by omega
  simp -implicitDefEqProofs [go_sem, c5']
  refine Wp.s ?_
  simp -implicitDefEqProofs [go_sem]
  have hE := enc_ok hb c5
  have hsl := strm_len r.kind r.pay
  refine SWp0.seq (SWp.s0 (SWp.drawnT [] [] (.s 0 .pl <| .s 1 .pl <| .s 2 .pl <| .s 3 .pl <| .s 4 .pl <| .s 5 .pl <| .s 6 .pl <| .s 7 .pl <| .s 8 .pl <| .s 9 .pl <| .n) (by kernel_rfl) (by kernel_rfl) ?_))
  simp -implicitDefEqProofs [go_sem]
  refine CC.mono (little_cc _ _ r.pay.length 2 (by decide)) ?_
  rintro _ _ _ ⟨v, rfl, rfl, rfl⟩
  simp -implicitDefEqProofs [go_sem, u8s_1]
  refine SWp0.seq (SWp.s0 (Wp.s ?_))
  simp -implicitDefEqProofs [go_sem]
  have eb : byt r.kind :: (leN r.pay.length 2 ++ r.pay) = bodyR r.kind r.pay := (body_eq _ _).symm
  refine ⟨by omega, ?_⟩
  rw [eb]
  refine SWp0.seq (SWp.s0 (Wp.s ?_))
  simp -implicitDefEqProofs [go_sem]
  refine CC.mono (Sum_cc _ _ _ (bodyR r.kind r.pay) (by rw [body_len]; omega)) ?_
  rintro _ _ _ ⟨rfl, rfl, rfl⟩
  simp -implicitDefEqProofs [go_sem, wrap_rn]
  refine CC.mono (little_cc _ _ (crc (bodyR r.kind r.pay)).toNat 4 (by decide)) ?_
  rintro _ _ _ ⟨v2, rfl, rfl, rfl⟩
  simp -implicitDefEqProofs [go_sem]
  refine ⟨by rw [body_len]; omega, ?_⟩
  rw [leN_4, show bodyR r.kind r.pay ++ le4 (crc (bodyR r.kind r.pay)).toNat = strmR r.kind r.pay from rfl]
  generalize hst : strmR r.kind r.pay = st at hE hsl ⊢
  refine SWp0.ghost (Sh.trim (T' := [(1, .ptr H.length 0), (4, .sl .sh 1 (bs st))]) (L := [some (rcC r)]) (V' := V) (by simp [go_sem]) (by simp [go_sem]) hokH (by rw [okH_some, okL_rcC]; exact ⟨trivial, trivial⟩) (Nat.le_refl _) (by simp) (by simp)) ?_
  refine SWp0.seq (SWp.s0 (Wp.s ?_))
  simp -implicitDefEqProofs [go_sem]
  refine SWp0.join (α := CV × List Nat) (fun x => ([(5, .ptr (H.length + 1) 0)], H ++ [some (rcC r), some [x.1]], x.2))
    (fun x => ApS V.length (secsR r.sq.toNat st) x.1 x.2 ∧ V.length ≤ x.2.length ∧ x.2.take V.length = V) ?_ ?_
  · refine SWp0.seq (SWp.s0 (Wp.s ?_))
    simp -implicitDefEqProofs [go_sem]
    refine CC.mono (Chunk_cc _ _ .sh st 4 (by decide) (by trivial)) ?_
    rintro _ _ _ ⟨rfl, rfl, rfl⟩
    simp -implicitDefEqProofs [go_sem]
    refine SWp0.block (SWp0.range [(1, .ptr H.length 0), (5, .ptr (H.length + 1) 0)] rfl (by simp [go_sem]) ?_)
    simp -implicitDefEqProofs [go_sem]
    generalize hbd : Code.block 1 _ = bd
    generalize has : Code.region 10 _ _ = asg
    refine CC.mono (chunk1_cc _ V _ _ _ .sh st 4 (by decide) (by decide) (by omega) (fun i G V' => ∃ cv W, ApS V.length ((List.range i).map (secR r.sq.toNat st)) cv V' ∧ V.length ≤ V'.length ∧ V'.take V.length = V ∧
      G = HE H r st cv (lpc 65 #[51] asg bd [(1, .ptr H.length 0), (5, .ptr (H.length + 1) 0)] .ready none) W)
      ⟨.v (.slice none 0 0), [], .inl ⟨rfl, rfl⟩, Nat.le_refl _, by simp, rfl⟩ ?_ ?_) ?_
    · rintro i _ V' ⟨cv, W, _, _, _, rfl⟩
      exact ⟨hget _ _ 2, hget _ _ 3⟩
    · rintro i hi _ V' ⟨cv, W, ha, hv1, hv2, rfl⟩
      refine YC.of_round (n := 65) (ps := #[51]) (bd := bd) (T := [(1, .ptr H.length 0), (5, .ptr (H.length + 1) 0)]) (hget _ _ 4) rfl (by decide) ?_
      subst hbd has
      refine Wp.s ?_
      simp -implicitDefEqProofs [go_sem, tps]
      refine SWp.block (SWp.seq (Wp.s ?_))
      simp -implicitDefEqProofs [go_sem]
      generalize hlp : lpc 65 #[51] _ _ _ LoopState.busy none = lp
      generalize hqq : RQ 65 #[51] _ _ _ _ _ = QQ
      refine SWp.seq (SWp.drawnT [H.length] [4] (.s 0 .pl <| .s 1 .pl <| .s 2 .ld <| .s 3 .pl <| .s 4 .st <| .n) (by kernel_rfl) (by kernel_rfl) ?_)
      simp -implicitDefEqProofs [go_sem]
      refine CC.mono (littleI_cc _ _ r.sq 4 (by omega) (by decide)) ?_
      rintro _ _ _ ⟨v3, rfl, rfl, rfl⟩
      simp -implicitDefEqProofs [go_sem, leN_4]
      have e1 : (bs (le4 r.sq.toNat)).flatten ++ List.drop (le4 r.sq.toNat).length [CV.v (.int .u8 0), CV.v (.int .u8 0), CV.v (.int .u8 0), CV.v (.int .u8 0), CV.v (.int .u8 0), CV.v (.int .u8 0), CV.v (.int .u8 0), CV.v (.int .u8 0)] = fb (le4 r.sq.toNat ++ [0, 0, 0, 0]) := by
        rw [fb_flat, le4_len]; rfl
      rw [e1]
      refine ⟨by rw [le4_len]; decide, by rw [fb_flat, fb_all], by rw [le4_len]; decide, ?_, ?_⟩
      · exact Kp.keep fun b hb => by
          obtain rfl : b = H.length := by simpa using hb
          simp
      refine SWp.seq (Wp.s ?_)
      simp -implicitDefEqProofs [go_sem]
      rw [secR_cells]
      refine ⟨by rw [pcOf, List.length_take]; omega, by rw [fb_flat, fb_all], by rw [le4_len, pcOf, List.length_take]; omega, ?_⟩
      have ha := ha.more (W := [v3])
      have hv1 : V.length ≤ (V' ++ [v3]).length := by simp; omega
      have hv2 : (V' ++ [v3]).take V.length = V := by rw [List.take_append_of_le_length (by omega)]; exact hv2
      generalize V' ++ [v3] = V2 at ha hv1 hv2 ⊢
      rcases ha with ⟨rfl, he⟩ | ⟨k, v, rfl, hv, hk⟩
      · refine Wp.s ?_
        simp -implicitDefEqProofs [go_sem]
        rw [← hqq, ← hlp]
        refine ⟨hget _ _ 4, rfl, .sl (.own V2.length 0) 8 [secC (secR r.sq.toNat st i)], .inr ⟨V2.length, 0, ?_, by simp, hv1⟩, by simp; omega, ?_, W ++ [some (secC (secR r.sq.toNat st i))], ?_⟩
        · rw [List.map_append, he]; rfl
        · rw [List.take_append_of_le_length hv1]; exact hv2
        · simp
      · refine Wp.s ?_
        simp -implicitDefEqProofs [go_sem, hv]
        rw [← hqq, ← hlp]
        have hkv := (List.getElem?_eq_some_iff.1 hv).1
        have hi2 := nPc_le (len := st.length) (n := 4) (by decide)
        refine ⟨by omega, hget _ _ 4, rfl, .sl (.own k (v + 1)) 8 (List.map (secC ∘ secR r.sq.toNat st) (List.range i) ++ [secC (secR r.sq.toNat st i)]), .inr ⟨k, v + 1, ?_, by rw [List.getElem?_set_self hkv], hk⟩, by simpa using hv1, ?_, W ++ [some (secC (secR r.sq.toNat st i))], ?_⟩
        · rw [List.map_append, List.map_map]; rfl
        · rw [List.take_set_of_le hk]; exact hv2
        · simp
    · rintro _ _ V' ⟨cv, W, ha, hv1, hv2, rfl⟩
      refine .inl ⟨hget _ _ 4, ?_⟩
      rw [secsR_n] at ha
      refine ⟨cv, V', ⟨ha, hv1, hv2⟩, ?_⟩
      refine Sh.trim (L := [some (rcC r), some [cv]]) ?_ ?_ hokH ?_ hv1 ?_ (List.take_of_length_le (Nat.le_refl _))
      · simp [go_sem]
      · simp [go_sem]
      · rw [okH_some, okH_some, okL_rcC, okL, okL]
        exact ⟨trivial, ⟨ha.ok, trivial⟩, trivial⟩
      · simp
  · rintro ⟨cv, V'⟩ ⟨h1, h2, h3⟩
    dsimp only
    refine SWp0.seq (SWp.s0 (Wp.s ?_))
    simp -implicitDefEqProofs [go_sem, h1.one]
    refine SWp.s0 (Wp.s ?_)
    simp -implicitDefEqProofs [go_sem]
    rw [hE]
    exact Fin.pu (.tup (.cons h1.le (.cons (.refl _) .nil))) (okV_encV _ _ (.ok _)) hokH (by simp) h3
end Go.Proofs.YtbnkggbpocaaiaaGreatDoor
namespace Go.Proofs.YtbnkggbpocaaiaaGreatDoor
open Go.Proofs
def secsM (sq : Nat) (st : List UInt8) (m : Nat) : List Sec := (List.range m).map (secR sq st)
@[go_sem, simp] theorem secsM_len (sq : Nat) (st : List UInt8) (m : Nat) : (secsM sq st m).length = m := by rw [secsM, List.length_map, List.length_range]
theorem secsM_succ (sq : Nat) (st : List UInt8) (m : Nat) : secsM sq st (m + 1) = secsM sq st m ++ [secR sq st m] := by rw [secsM, List.range_succ, List.map_append]; rfl
end Go.Proofs.YtbnkggbpocaaiaaGreatDoor
namespace Go.Proofs.YtbnkggbpocaaiaaGreatDoor
open Go.Proofs
theorem appJ_bad {j : Jrn} {k : Int} {p : List UInt8} (h : ¬ chkJ j = true) : appJ j k p = (zjr, [], 3) := by rw [appJ, if_pos (by simpa using h)]
theorem appJ_err {j : Jrn} {k : Int} {p : List UInt8} {e : Nat} (h : chkJ j = true) (he : encR ⟨k, nextJ j, p⟩ = .error e) : appJ j k p = (zjr, [], e) := by
  rw [appJ, if_neg (by simp [h]), he]
theorem appJ_many {j : Jrn} {k : Int} {p : List UInt8} {l : List Sec} (h : chkJ j = true) (he : encR ⟨k, nextJ j, p⟩ = .ok l) (h1 : 1073741824 ≤ nextJ j) : appJ j k p = (zjr, [], 6) := by
  rw [appJ, if_neg (by simp [h]), he]; exact if_pos h1
theorem appJ_full {j : Jrn} {k : Int} {p : List UInt8} {l : List Sec} (h : chkJ j = true) (he : encR ⟨k, nextJ j, p⟩ = .ok l) (h1 : ¬ 1073741824 ≤ nextJ j) (h2 : freeJ j < l.length) : appJ j k p = (zjr, [], 11) := by
  rw [appJ, if_neg (by simp [h]), he]; exact (if_neg h1).trans (if_pos h2)
theorem appJ_ok {j : Jrn} {k : Int} {p : List UInt8} {l : List Sec} (h : chkJ j = true) (he : encR ⟨k, nextJ j, p⟩ = .ok l) (h1 : ¬ 1073741824 ≤ nextJ j) (h2 : ¬ freeJ j < l.length) :
    appJ j k p = (⟨j.start, j.count, j.head, (j.tail + l.length) % (j.count - 16), j.first, j.sizes ++ [(l.length : Int)]⟩, wrapW j.start j.count j.tail l ++ [opS], 0) := by
  rw [appJ, if_neg (by simp [h]), he]; exact (if_neg h1).trans (if_neg h2)
theorem enc_le {r : Rcd} {l : List Sec} (h : encR r = .ok l) : l.length ≤ 1100 ∧ 1 ≤ l.length := by
  rw [encR] at h
  split at h
  · cases h
  · split at h
    · cases h
    · cases h
      rw [secsR, List.length_map, List.length_range, strm_len]
      omega
theorem enc_err {r : Rcd} {e : Nat} (h : encR r = .error e) : e = 2 ∨ e = 5 := by
  rw [encR] at h
  split at h
  · cases h; exact .inl rfl
  · split at h
    · cases h; exact .inr rfl
    · cases h
theorem rc_args (k n : Int) (p : List UInt8) : [iv k, iv n, .sl .sh 1 (bs p)] = rcC ⟨k, n, p⟩ := rfl
theorem chkJ_tail {j : Jrn} (h : chkJ j = true) : 0 ≤ j.tail ∧ j.tail < j.count - 16 := by
  have h1 := (chkJ_iff j).1 h
  have hv := (validJ_iff _ _).1 h1.1
  rw [h1.2.2.2.2]
  exact ⟨Int.emod_nonneg _ (by omega), Int.emod_lt_of_pos _ (by omega)⟩
theorem wrapW_len (s c p : Int) (l : List Sec) : (wrapW s c p l).length ≤ 2 := by
  by_cases h : kW c p l < l.length
  · rw [wrapW_1 h]; exact Nat.le_refl _
  · rw [wrapW_0 h]; exact Nat.le_succ _
theorem snoc_ints (l : List Int) (n : Int) : List.map ic l ++ [[iv n]] = (l ++ [n]).map ic := by rw [List.map_append]; rfl
theorem ops_le1 (A : List Opn) : LeE (A.map opC ++ [[iv 1, iv 0, .v (.slice none 0 0)]]) ((A ++ [opS]).map opC) := by
  rw [List.map_append]
  exact LeE.app (LeE.rfl' _) LeE.sync
theorem jr_upd_le (j : Jrn) (n : Int) (tl : Int) (tk : Tk) : Le (.agg [iv j.start, iv j.count, iv j.head, iv tl, iv j.first, .sl tk 1 (List.map ic j.sizes ++ [[iv n]])]) (.agg (jrC ⟨j.start, j.count, j.head, tl, j.first, j.sizes ++ [n]⟩)) := by
  refine .agg (.cons (.refl _) (.cons (.refl _) (.cons (.refl _) (.cons (.refl _) (.cons (.refl _) (.cons ?_ .nil))))))
  rw [snoc_ints]
  exact .sh _ _ _
set_option maxRecDepth 8000 in
theorem Append_cc (H : Hp) (V : List Nat) (j : Jrn) (kind : Int) (p : List UInt8) (hl : j.sizes.length ≤ 1000000000) (hp : p.length ≤ 900000000) : CC Tryz.prog 60 [.agg (jrC j), iv kind, .sl .sh 1 (bs p)] H V (Pu (jtV (appJ j kind p)) H V) := by
  refine CC.of_swp Tryz.func60 rfl (by kernel_rfl) (by rw [Tryz.ntmps60]; exact len_le _ _ rfl) fun hok hokH => ?_
  clear hok
  refine SWp.seq (Wp.s ?_)
  simp -implicitDefEqProofs [go_sem, args0]
  have bad : ∀ (e : Nat) {H' : Hp} {V' : List Nat}, appJ j kind p = (zjr, [], e) → H'.take H.length = H → V'.take V.length = V → Fin H.length V.length (Pu (jtV (appJ j kind p)) H V) (.tup [.agg zjC, .v (.slice none 0 0), er e]) H' V' := fun e H' V' h1 h2 h3 => by
    rw [h1]
    exact fin_jt zj_le (.nil 3 (by decide)) rfl hokH h2 h3
  refine SWp.seq (Wp.s ?_)
  simp -implicitDefEqProofs [go_sem]
  refine CC.mono (examine_cc _ _ j hl) ?_
  rintro _ _ _ ⟨u, rfl, rfl, rfl, hu⟩
  simp -implicitDefEqProofs [go_sem]
  refine SWp.seq (SWp.seq (Wp.s ?_))
  by_cases h : chkJ j = true
  case neg =>
    simp -implicitDefEqProofs [go_sem, h]
    refine Wp.s ?_
    simp -implicitDefEqProofs [go_sem]
    exact bad 3 (appJ_bad h) (by simp) (by simp)
  obtain rfl := hu h
  have hn := chkJ_next h
  have hsu := chkJ_sum h
  have hva := chkJ_val h
  have hv := (validJ_iff _ _).1 hva
  have ht := chkJ_tail h
  simp -implicitDefEqProofs [go_sem, h]
  refine Wp.s ?_
  simp -implicitDefEqProofs [go_sem]
  refine SWp.seq (Wp.s ?_)
  simp -implicitDefEqProofs [go_sem]
  refine CC.mono (next_cc _ _ j _ hn.1 hn.2) ?_
  rintro _ _ _ ⟨rfl, rfl, rfl⟩
  simp -implicitDefEqProofs [go_sem, rc_args]
  refine CC.mono (REncode_cc _ _ ⟨kind, nextJ j, p⟩ hp) ?_
  rintro _ _ _ ⟨rfl, rfl, rfl⟩
  cases he : encR ⟨kind, nextJ j, p⟩ with
  | error e =>
    have hee : ¬ e = 0 := by have := enc_err he; omega
    simp -implicitDefEqProofs [go_sem, encV]
    refine SWp.seq (SWp.block (SWp.seq (Wp.s ?_)))
    simp -implicitDefEqProofs [go_sem, hee]
    refine Wp.s ?_
    simp -implicitDefEqProofs [go_sem]
    exact bad e (appJ_err h he) (by simp) (by simp)
  | ok l =>
    have hle := enc_le he
    simp -implicitDefEqProofs [go_sem, encV]
    refine SWp.seq (SWp.block (SWp.seq (Wp.s ?_)))
    simp -implicitDefEqProofs [go_sem]
    refine SWp.condF (by simp [go_sem]) ?_
    refine SWp.seq (Wp.s ?_)
    simp -implicitDefEqProofs [go_sem]
    refine CC.mono (next_cc _ _ j _ hn.1 hn.2) ?_
    rintro _ _ _ ⟨rfl, rfl, rfl⟩
    by_cases h1 : 1073741824 ≤ nextJ j
    · simp -implicitDefEqProofs [go_sem, h1]
      refine Wp.s ?_
      simp -implicitDefEqProofs [go_sem]
      exact bad 6 (appJ_many h he h1) (by simp) (by simp)
    simp -implicitDefEqProofs [go_sem, h1]
    refine SWp.condF (by simp [go_sem]) ?_
    refine SWp.seq (Wp.s ?_)
    simp -implicitDefEqProofs [go_sem]
    refine CC.mono (free_cc _ _ j _ hva hsu.1 (by omega)) ?_
    rintro _ _ _ ⟨rfl, rfl, rfl⟩
    by_cases h2 : freeJ j < l.length
    · have h2' : j.count - 16 - sumI j.sizes < (l.length : Int) := h2
      simp -implicitDefEqProofs [go_sem, h2']
      refine Wp.s ?_
      simp -implicitDefEqProofs [go_sem]
      exact bad 11 (appJ_full h he h1 h2) (by simp) (by simp)
    have h2' : ¬ j.count - 16 - sumI j.sizes < (l.length : Int) := h2
    simp -implicitDefEqProofs [go_sem, h2']
    refine Wp.s ?_
    simp -implicitDefEqProofs [go_sem]
    refine SWp.seq (Wp.s ?_)
    simp -implicitDefEqProofs [go_sem]
    refine CC.mono (own_cc _ _ j _ hl) ?_
    rintro _ _ _ ⟨v, rfl, rfl, rfl⟩
    simp -implicitDefEqProofs [go_sem]
    refine SWp.seq (Wp.s ?_)
    simp -implicitDefEqProofs [go_sem]
    refine ⟨by omega, ?_⟩
    have w1 : IntKind.i64.wrap (j.tail + (l.length : Int)) = j.tail + (l.length : Int) := IntWalk.i64_in _ ⟨by omega, by omega⟩
    have t1 := Int.tmod_eq_emod_of_nonneg (b := j.count - 16) (show 0 ≤ j.tail + (l.length : Int) by omega)
    have hz : ¬ j.count - 16 = 0 := by omega
    refine SWp.seq (SWp.drawnT [] [10] (.s 0 .pl <| .s 1 .pl <| .s 2 .pl <| .s 3 .pl <| .s 4 .pl <| .s 5 .pl <| .s 6 .pl <| .s 7 .pl <| .s 8 .pl <| .s 9 .pl <| .s 10 .st <| .n) (by kernel_rfl) (by kernel_rfl) ?_)
    simp -implicitDefEqProofs [go_sem, w1]
    refine CC.mono (length_cc _ _ _ _ hva) ?_
    rintro _ _ _ ⟨rfl, rfl, rfl⟩
    simp -implicitDefEqProofs [go_sem, w1, t1, hz]
    refine SWp.seq (SWp.drawnT [H.length + 2] [11] (.s 0 .pl <| .s 1 .pl <| .s 2 .ld <| .s 3 .pl <| .s 4 .pl <| .s 5 .ld <| .s 6 .pl <| .s 8 .pl <| .s 9 .pl <| .s 7 .pl <| .s 10 .pl <| .s 11 .st <| .s 12 .pl <| .s 13 .pl <| .n) (by kernel_rfl) (by kernel_rfl) ?_)
    simp -implicitDefEqProofs [go_sem]
    refine CC.mono (write_cc _ _ j.start j.count j.tail l hva ht.1 (by omega) (by omega)) ?_
    rintro _ _ _ ⟨v2, rfl, rfl, rfl⟩
    have hA := wrapW_len j.start j.count j.tail l
    have hJ := appJ_ok h he h1 h2
    generalize wrapW j.start j.count j.tail l = A at hA hJ ⊢
    simp -implicitDefEqProofs [go_sem]
    refine ⟨by omega, Kp.keep fun b hb => ?_, Wp.s ?_⟩
    · obtain rfl : b = H.length + 2 := by simpa using hb
      rw [hget, hget]; rfl
    simp -implicitDefEqProofs [go_sem]
    rw [hJ]
    exact fin_jt (jr_upd_le j _ _ _) (.sle _ _ (ops_le1 A)) rfl hokH (by simp) (by simp)
end Go.Proofs.YtbnkggbpocaaiaaGreatDoor
namespace Go.Proofs.YtbnkggbpocaaiaaGreatDoor
open Go.Proofs
def opE (l : List Opn) : List CV := [opsV l]
@[go_sem, simp] theorem opE_len (l : List Opn) : (opE l).length = 1 := rfl
@[go_sem, simp] theorem opE_get (l : List Opn) (h : 0 < (opE l).length) : (opE l)[0] = opsV l := rfl
@[go_sem] theorem okL_opE (i j : Nat) (l : List Opn) : okL i j (opE l) = True := by simp [opE, go_sem, okL, okV, okE_ops]
@[go_sem] theorem okE_opEs (i j : Nat) (l : List (List Opn)) : okE i j (l.map opE) = True := eq_true (okE_map opE l fun e => by rw [okL_opE]; trivial)
theorem zcOp : zcTy Tryz.prog 98 = some [.int .i64 0, .int .i64 0, .slice none 0 0] := by kernel_rfl
theorem growOp_cc (H : Hp) (V : List Nat) (n : Nat) (hn : n ≤ 1000000000) : CC Tryz.prog 166 [.v (.slice none 0 0), ci n] H V (Fr 3 [] H V) := by
  refine CC.of_swp Tryz.func166 rfl (by kernel_rfl) (by rw [Tryz.ntmps166]; exact len_le _ _ rfl) fun hok hokH => ?_
  clear hok
  refine SWp.seq (Wp.s ?_)
  simp -implicitDefEqProofs [go_sem, args0]
  refine SWp.seq (Wp.s ?_)
  simp -implicitDefEqProofs [go_sem, show ¬ (n : Int) < 0 by omega]
  refine SWp.seq (SWp.seq ?_)
  refine SWp.opx (pre := [_, _]) (post := [_, _, _, _, _]) rfl (by intro c e; cases e) ?_
  simp -implicitDefEqProofs [go_sem]
  refine ⟨_, _, _, capnil (by rfl) (by rw [slTy38]; rfl), ?_⟩
  have w0 : IntKind.i64.wrap 0 = 0 := rfl
  have wn : IntKind.i64.wrap (n : Int) = n := IntWalk.i64_in _ ⟨by omega, by omega⟩
  simp -implicitDefEqProofs [go_sem, w0, wn]
  refine SWp.seq (Wp.s ?_)
  rcases Nat.eq_zero_or_pos n with rfl | h0
  · simp -implicitDefEqProofs [go_sem, w0]
    refine Wp.s ?_
    simp -implicitDefEqProofs [go_sem]
    refine SWp.seq (Wp.s ?_)
    simp -implicitDefEqProofs [go_sem]
    refine Wp.s ?_
    simp -implicitDefEqProofs [go_sem]
    exact Fin.frtok (by decide) (.inl ⟨rfl, rfl⟩) (by simp [go_sem]) hokH (by simp) (by simp)
  · have h0' : (0 : Int) < n := by omega
    simp -implicitDefEqProofs [go_sem, h0]
    refine SWp.condT rfl ?_
    refine SWp.mw (MW.app (mid := [_, _, _, _, _]) (mid2 := [_, _, _, _, _]) ?_)
    refine MW.app (mid := [_, _]) (mid2 := [_, _, _]) (MW.crun ?_)
    simp -implicitDefEqProofs [go_sem]
    refine MW.app (mid := [_]) (mid2 := [_, _]) (MW.opx rfl (by intro c e; cases e) (by simp [dOk]) (capnil (by rfl) (by rw [slTy38]; rfl)) (MW.crun ?_))
    simp -implicitDefEqProofs [go_sem]
    refine MW.app (mid := [_, _, _, _]) (mid2 := [_]) (MW.room (N := n) (k0 := 0) slTy38 (by kernel_rfl) zcOp rfl rfl rfl (by omega) (by omega) (by decide) (by decide) (MW.crun ?_))
    simp -implicitDefEqProofs [go_sem]
    refine SWp.seq (Wp.s ?_)
    simp -implicitDefEqProofs [go_sem]
    refine Wp.s ?_
    simp -implicitDefEqProofs [go_sem]
    exact Fin.fresh rfl (by simp [go_sem]) hokH (by simp)
theorem flt_take {α : Type} {l : List (List α)} {i : Nat} (h : i < l.length) : (l.take (i + 1)).flatten = (l.take i).flatten ++ l[i] := by
  rw [List.take_succ_eq_append_getElem h, List.flatten_append]; simp
theorem flt_le {α : Type} (l : List (List α)) (i : Nat) : (l.take i).flatten.length ≤ l.flatten.length := by
  conv => rhs; rw [← List.take_append_drop i l, List.flatten_append, List.length_append]
  omega
def catO (l : List (List Opn)) : List Opn := l.flatten
def ftO (l : List (List Opn)) (i : Nat) : List Opn := (l.take i).flatten
theorem ftO_len {l : List (List Opn)} {i : Nat} (h : i < l.length) : (ftO l (i + 1)).length = (ftO l i).length + l[i].length := by
  unfold ftO; rw [flt_take h, List.length_append]
theorem ftO_step {l : List (List Opn)} {i : Nat} (h : i < l.length) : ftO l i ++ l[i] = ftO l (i + 1) := by
  unfold ftO; rw [flt_take h]
theorem ftO_le (l : List (List Opn)) (i : Nat) : (ftO l i).length ≤ (catO l).length := flt_le l i
theorem ftO_all {l : List (List Opn)} {i : Nat} (h : l.length ≤ i) : ftO l i = catO l := by unfold ftO; rw [List.take_of_length_le h]; rfl
theorem concatOp_cc (H : Hp) (V : List Nat) (tk : Tk) (l : List (List Opn)) (hl : l.length ≤ 1000000000) (hf : (catO l).length ≤ 1000000000) : CC Tryz.prog 110 [.sl tk 1 (l.map opE)] H V (Fr 3 ((catO l).map opC) H V) := by
  refine CC.of_swp Tryz.func110 rfl (by kernel_rfl) (by rw [Tryz.ntmps110]; exact len_le _ _ rfl) fun hok hokH => ?_
  clear hok
  refine SWp.seq (Wp.s ?_)
  simp -implicitDefEqProofs [go_sem, args0]
  refine SWp.seq (Wp.s ?_)
  simp -implicitDefEqProofs [go_sem]
  refine SWp.join (α := Unit) (fun _ => ([(0, .sl tk 1 (l.map opE)), (3, ci (catO l).length)], H, V)) (fun _ => True) ?_ ?_
  · refine SWp.seq (Wp.s ?_)
    simp -implicitDefEqProofs [go_sem]
    refine SWp.block ?_
    refine SWp.loop (α := Nat) (fun i => ([(0, .sl tk 1 (l.map opE)), (9, .sl tk 1 (l.map opE)), (10, ci l.length), (11, ci i), (3, ci (ftO l i).length)], H, V)) (fun i => i ≤ l.length) (fun i => l.length - i) 0 (Nat.zero_le _) (Sh.forget (by simp [go_sem, ftO]) rfl rfl) ?_
    intro i hi
    dsimp only
    refine SWp.seq (Wp.s ?_)
    simp -implicitDefEqProofs [go_sem]
    refine SWp.seq (Wp.s ?_)
    simp -implicitDefEqProofs [go_sem]
    refine ⟨fun h => ?_, fun h => Sh.forget (by simp [go_sem, ftO_all h]) rfl rfl⟩
    have q1 := ftO_len h
    have q2 := ftO_le l (i + 1)
    refine SWp.seq (SWp.block (SWp.seq (Wp.s ?_)))
    simp -implicitDefEqProofs [go_sem, h]
    have w1 : IntKind.i64.wrap (((ftO l i).length : Int) + (l[i].length : Int)) = ((ftO l (i + 1)).length : Int) := by rw [IntWalk.i64_in _ ⟨by omega, by omega⟩]; omega
    refine SWp.seq (Wp.s ?_)
    simp -implicitDefEqProofs [go_sem, w1]
    refine SWp.seq (Wp.s ?_)
    simp -implicitDefEqProofs [go_sem, show ¬ ((ftO l (i + 1)).length : Int) < 0 by omega]
    refine Wp.s ?_
    simp -implicitDefEqProofs [go_sem]
    refine Wp.s ?_
    simp -implicitDefEqProofs [go_sem]
    refine ⟨i + 1, by omega, by omega, Sh.forget ?_ rfl rfl⟩
    simp [go_sem, wrap_big (show i < 9223372036854775807 by omega)]
  · rintro _ -
    dsimp only
    refine SWp.seq (Wp.s ?_)
    simp -implicitDefEqProofs [go_sem]
    refine CC.mono (growOp_cc _ _ _ hf) ?_
    rintro _ _ _ ⟨v, rfl, rfl, rfl⟩
    simp -implicitDefEqProofs [go_sem]
    refine SWp.join (α := Nat) (fun v => ([(6, .sl (.own V.length v) 3 ((catO l).map opC))], H, V ++ [v])) (fun _ => True) ?_ ?_
    · refine SWp.seq (Wp.s ?_)
      simp -implicitDefEqProofs [go_sem]
      refine SWp.block ?_
      refine SWp.loop (α := Nat × Nat) (fun x => ([(25, .sl tk 1 (l.map opE)), (26, ci l.length), (27, ci x.1), (6, .sl (.own V.length x.2) 3 ((ftO l x.1).map opC))], H, V ++ [x.2])) (fun x => x.1 ≤ l.length) (fun x => l.length - x.1) (0, v) (Nat.zero_le _) (Sh.forget (by simp [go_sem, ftO]) rfl rfl) ?_
      rintro ⟨i, v⟩ hi
      dsimp only at hi ⊢
      refine SWp.seq (Wp.s ?_)
      simp -implicitDefEqProofs [go_sem]
      refine SWp.seq (Wp.s ?_)
      simp -implicitDefEqProofs [go_sem]
      refine ⟨fun h => ?_, fun h => ⟨v, Sh.forget (by simp [go_sem, ftO_all h]) rfl rfl⟩⟩
      have q1 := ftO_len h
      have q2 := ftO_le l (i + 1)
      refine SWp.seq (SWp.block (SWp.seq (Wp.s ?_)))
      simp -implicitDefEqProofs [go_sem, h]
      refine Wp.s ?_
      simp -implicitDefEqProofs [go_sem]
      refine ⟨by omega, ?_⟩
      refine Wp.s ?_
      simp -implicitDefEqProofs [go_sem]
      refine ⟨i + 1, by omega, by omega, v + 1, Sh.forget ?_ rfl (by simp)⟩
      rw [← ftO_step h]
      simp [go_sem, wrap_big (show i < 9223372036854775807 by omega)]
    · rintro v -
      dsimp only
      refine SWp.seq (Wp.s ?_)
      simp -implicitDefEqProofs [go_sem]
      refine Wp.s ?_
      simp -implicitDefEqProofs [go_sem]
      exact Fin.fresh rfl (by simp [go_sem]) hokH (by simp)
end Go.Proofs.YtbnkggbpocaaiaaGreatDoor
namespace Go.Proofs.YtbnkggbpocaaiaaGreatDoor
open Go.Proofs
/-! ### The superblock's payload -/
end Go.Proofs.YtbnkggbpocaaiaaGreatDoor
namespace Go.Proofs.YtbnkggbpocaaiaaGreatDoor
open Go.Proofs
structure Sto where
  sizes : List Int
  jr : Jrn
  data : Int
  applied : Int
  pend : List Wr
  img : Img
def stoC (s : Sto) : List CV := [.sl .sh 1 (s.sizes.map ic), .v (.int .i64 s.jr.start), .v (.int .i64 s.jr.count), .v (.int .i64 s.jr.head), .v (.int .i64 s.jr.tail), .v (.int .i64 s.jr.first), .sl .sh 1 (s.jr.sizes.map ic), .v (.int .i64 s.data), .v (.int .i64 s.applied), .sl .sh 3 (s.pend.map wrC), .sl .sh 1 (s.img.map imE)]
@[go_sem, simp] theorem stoC_len (s : Sto) : (stoC s).length = 11 := rfl
@[go_sem, simp] theorem stoC_take (s : Sto) : (stoC s).take 11 = stoC s := rfl
@[go_sem, simp] theorem stoC_drop (s : Sto) : (stoC s).drop 11 = [] := rfl
@[go_sem, simp] theorem stoC_all (s : Sto) : allOne (stoC s) = true := rfl
@[go_sem, simp] theorem stoC_jr (s : Sto) : ((stoC s).drop 1).take 6 = jrC s.jr := rfl
@[go_sem] theorem okL_stoC (i j : Nat) (s : Sto) : okL i j (stoC s) = True := by simp [stoC, go_sem, okL, okV, okE_ints, okE_wrs, okE_ims]
def zsto : Sto := ⟨[], zjr, 0, 0, [], []⟩
def sizeV (sizes : List Int) (n : Int) : Int × Nat :=
  if sizesE sizes ≠ 0 then (0, sizesE sizes) else if n < 20 ∨ 4096 - sumI sizes < n then (0, 2) else (n + sumI sizes, 0)
def fmtV (sizes : List Int) (n : Int) : Sto × List Opn × Nat :=
  if (sizeV sizes n).2 ≠ 0 then (zsto, [], (sizeV sizes n).2)
  else (⟨sizes, (formatJ 0 n).1, n, 0, [], imOf sizes⟩, opW n (List.replicate (sumI sizes).toNat sec0) :: opS :: (formatJ 0 n).2.1, 0)
def chkV (s : Sto) : Nat :=
  if sizesE s.sizes ≠ 0 then sizesE s.sizes
  else if chkJ s.jr = false then 3
  else if s.jr.start ≠ 0 ∨ s.data ≠ s.jr.count ∨ 4096 - sumI s.sizes < s.data then 2
  else if s.applied ≠ s.jr.first - 1 ∨ s.pend.length ≠ s.jr.sizes.length then 3
  else if (apR (imOf s.sizes) s.pend).2.2 ≠ 0 then (apR (imOf s.sizes) s.pend).2.2
  else if imgSz s.img ≠ s.sizes then 22
  else if (apR s.img s.pend).2.2 ≠ 0 ∨ (apR s.img s.pend).1 ≠ s.img then 22 else 0
def writeV (s : Sto) (w : Wr) : Sto × Int × List Opn × Nat :=
  if chkV s ≠ 0 then (zsto, 0, [], chkV s)
  else if fitsS s.sizes w ≠ 0 then (zsto, 0, [], fitsS s.sizes w)
  else if (appJ s.jr 1 (encWrs [w])).2.2 ≠ 0 then (zsto, 0, [], (appJ s.jr 1 (encWrs [w])).2.2)
  else (⟨s.sizes, (appJ s.jr 1 (encWrs [w])).1, s.data, s.applied, s.pend ++ [w], ap1 s.img w⟩, nextJ s.jr, (appJ s.jr 1 (encWrs [w])).2.1, 0)
/-! ### Release -/
def relJ (d : Dk) (j : Jrn) (q : Int) : Jrn × List Opn × Nat :=
  if checkD d ≠ 0 then (zjr, [], checkD d) else if chkJ j = false then (zjr, [], 3)
  else if q < j.first - 1 ∨ nextJ j ≤ q then (zjr, [], 2)
  else if q = j.first - 1 then (j, [], 0)
  else
    let n := (q + 1 - j.first).toNat
    let h := (j.head + sumI (j.sizes.take n)) % (j.count - 16)
    if (storeS d j.start (superJ h (q + 1))).2 ≠ 0 then (zjr, [], (storeS d j.start (superJ h (q + 1))).2)
    else (⟨j.start, j.count, h, j.tail, q + 1, j.sizes.drop n⟩, (storeS d j.start (superJ h (q + 1))).1, 0)
def opOf (s : Sto) (w : Wr) : Opn := opW (s.data + sumI (s.sizes.take w.volume.toNat) + w.start) w.data
def flushV (d : Dk) (s : Sto) : Sto × List Opn × Nat :=
  if checkD d ≠ 0 then (zsto, [], checkD d) else if chkV s ≠ 0 then (zsto, [], chkV s)
  else if (d.stable.length : Int) < s.data + sumI s.sizes then (zsto, [], 2)
  else if s.pend.length = 0 then (s, [], 0)
  else if (relJ d s.jr (nextJ s.jr - 1)).2.2 ≠ 0 then (zsto, [], (relJ d s.jr (nextJ s.jr - 1)).2.2)
  else (⟨s.sizes, (relJ d s.jr (nextJ s.jr - 1)).1, s.data, nextJ s.jr - 1, [], s.img⟩, s.pend.map (opOf s) ++ opS :: (relJ d s.jr (nextJ s.jr - 1)).2.1, 0)
def readV (s : Sto) (v : Int) (e : Ext2) : List Sec × Nat :=
  if chkV s ≠ 0 then ([], chkV s) else if v < 0 ∨ (s.img.length : Int) ≤ v then ([], 7)
  else
    let l := s.img.getD v.toNat []
    if e.start < 0 ∨ e.count < 0 ∨ (l.length : Int) < e.start ∨ (l.length : Int) - e.start < e.count then ([], 2)
    else ((l.drop e.start.toNat).take e.count.toNat, 0)
end Go.Proofs.YtbnkggbpocaaiaaGreatDoor
namespace Go.Proofs.YtbnkggbpocaaiaaGreatDoor
open Go.Proofs
def SzOk (l : List Int) : Prop := l.length ≤ 1000 ∧ ∀ n ∈ l, 0 ≤ n ∧ n ≤ 4096
theorem SzOk.of {l : List Int} (h : sizesE l = 0) : SzOk l := by
  obtain ⟨h1, h2, h3⟩ := sizesE_0 h
  exact ⟨by omega, fun n hn => by have := h3 n hn; omega⟩
theorem SzOk.take {l : List Int} (h : SzOk l) (k : Nat) : SzOk (l.take k) := ⟨by rw [List.length_take]; have := h.1; omega, fun n hn => h.2 n (List.mem_of_mem_take hn)⟩
theorem SzOk.sum {l : List Int} (h : SzOk l) : ∀ k, 0 ≤ sumI (l.take k) ∧ sumI (l.take k) ≤ 4096 * (min k l.length : Nat)
  | 0 => by simp [sumI]
  | k + 1 => by
    have ih := h.sum k
    by_cases hk : k < l.length
    · rw [List.take_succ_eq_append_getElem hk, sumI_snoc]
      have := h.2 _ (List.getElem_mem hk)
      omega
    · rw [List.take_of_length_le (by omega)] at ih ⊢
      rw [Nat.min_eq_right (by omega)] at ih ⊢
      exact ih
theorem SzOk.sum' {l : List Int} (h : SzOk l) : 0 ≤ sumI l ∧ sumI l ≤ 4096 * (l.length : Int) := by
  have := h.sum l.length
  rw [List.take_length, Nat.min_self] at this
  omega
theorem vsum_cc (H : Hp) (V : List Nat) (tk : Tk) (l : List Int) (h : SzOk l) : CC Tryz.prog 42 [.sl tk 1 (l.map ic)] H V (Pu (ci (sumI l)) H V) := by
  refine CC.of_swp Tryz.func42 rfl (by kernel_rfl) (by rw [Tryz.ntmps42]; exact len_le _ _ rfl) fun hok hokH => ?_
  clear hok
  have hl := h.1
  refine SWp.seq (Wp.s ?_)
  simp -implicitDefEqProofs [go_sem, args0]
  refine SWp.seq (Wp.s ?_)
  simp -implicitDefEqProofs [go_sem]
  refine SWp.join (α := Unit) (fun _ => ([(3, ci (sumI l))], H, V)) (fun _ => True) ?_ ?_
  · refine SWp.seq (Wp.s ?_)
    simp -implicitDefEqProofs [go_sem]
    refine SWp.block ?_
    refine SWp.loop (α := Nat) (fun i => ([(3, ci (sumI (l.take i))), (6, .sl tk 1 (l.map ic)), (7, ci l.length), (8, ci i)], H, V)) (fun i => i ≤ l.length) (fun i => l.length - i) 0 (Nat.zero_le _) (Sh.forget (by simp [go_sem, sumI]) rfl rfl) ?_
    intro i hi
    dsimp only
    refine SWp.seq (Wp.s ?_)
    simp -implicitDefEqProofs [go_sem]
    refine SWp.seq (Wp.s ?_)
    simp -implicitDefEqProofs [go_sem]
    refine ⟨fun hi => ?_, fun hi => Sh.forget (by rw [List.take_of_length_le (by omega)]; simp [go_sem]) rfl rfl⟩
    have h1 := h.sum i
    have h2 := h.2 _ (List.getElem_mem hi)
    have hs : sumI (l.take (i + 1)) = sumI (l.take i) + l[i] := by rw [List.take_succ_eq_append_getElem hi, sumI_snoc]
    have w1 : IntKind.i64.wrap (sumI (l.take i) + l[i]) = sumI (l.take i) + l[i] := IntWalk.i64_in _ ⟨by omega, by omega⟩
    have w2 : IntKind.i64.wrap ((i : Int) + 1) = (i : Int) + 1 := IntWalk.i64_in _ ⟨by omega, by omega⟩
    refine SWp.seq (SWp.block (SWp.seq (Wp.s ?_)))
    simp -implicitDefEqProofs [go_sem, hi]
    refine Wp.s ?_
    simp -implicitDefEqProofs [go_sem, w1]
    refine Wp.s ?_
    simp -implicitDefEqProofs [go_sem, w2]
    refine ⟨i + 1, by omega, by omega, Sh.forget (by rw [hs]; simp [go_sem]) rfl rfl⟩
  rintro _ -
  dsimp only
  refine SWp.seq (Wp.s ?_)
  simp -implicitDefEqProofs [go_sem]
  refine Wp.s ?_
  simp -implicitDefEqProofs [go_sem]
  exact Fin.pu (.refl _) (by simp [go_sem]) hokH (by simp) (by simp)
theorem vSize_cc (H : Hp) (V : List Nat) (tk : Tk) (l : List Int) (n : Int) (hl : l.length ≤ 9223372036854775807) : CC Tryz.prog 12 [.sl tk 1 (l.map ic), ci n] H V (Pu (.tup [ci (sizeV l n).1, er (sizeV l n).2]) H V) := by
  refine CC.of_swp Tryz.func12 rfl (by kernel_rfl) (by rw [Tryz.ntmps12]; exact len_le _ _ rfl) fun hok hokH => ?_
  clear hok
  have fin : ∀ (x : Int) (e : Nat) (H' : Hp) (V' : List Nat), sizeV l n = (x, e) → H'.take H.length = H → V'.take V.length = V → Fin H.length V.length (Pu (.tup [ci (sizeV l n).1, er (sizeV l n).2]) H V) (.tup [ci x, er e]) H' V' := fun x e H' V' h1 h2 h3 => by
    rw [h1]; exact Fin.pu (.refl _) (by simp [go_sem]) hokH h2 h3
  refine SWp.seq (Wp.s ?_)
  simp -implicitDefEqProofs [go_sem, args0]
  refine SWp.seq (SWp.seq (Wp.s ?_))
  simp -implicitDefEqProofs [go_sem]
  refine CC.mono (New_cc _ _ tk l hl) ?_
  rintro _ _ _ ⟨rfl, rfl, rfl⟩
  simp -implicitDefEqProofs [go_sem]
  refine SWp.seq (Wp.s ?_)
  by_cases h0 : sizesE l = 0
  case neg =>
    simp -implicitDefEqProofs [go_sem, h0]
    refine Wp.s ?_
    simp -implicitDefEqProofs [go_sem]
    exact fin _ _ _ _ (by rw [sizeV, if_pos h0]) (by simp) (by simp)
  have hz := SzOk.of h0
  have hs := hz.sum'
  have hl8 := (sizesE_0 h0).2.1
  have w1 : IntKind.i64.wrap (4096 - sumI l) = 4096 - sumI l := IntWalk.i64_in _ ⟨by omega, by omega⟩
  simp -implicitDefEqProofs [go_sem, h0]
  refine Wp.s ?_
  simp -implicitDefEqProofs [go_sem]
  refine SWp.seq (SWp.seq (Wp.s ?_))
  by_cases h1 : n < 20
  · simp -implicitDefEqProofs [go_sem, h1]
    refine Wp.s ?_
    simp -implicitDefEqProofs [go_sem]
    exact fin _ _ _ _ (by rw [sizeV, if_neg (by simp [h0]), if_pos (.inl h1)]) (by simp) (by simp)
  simp -implicitDefEqProofs [go_sem, h1]
  refine CC.mono (vsum_cc _ _ tk l hz) ?_
  rintro _ _ _ ⟨rfl, rfl, rfl⟩
  by_cases h2 : 4096 - sumI l < n
  · simp -implicitDefEqProofs [go_sem, w1, h2]
    refine Wp.s ?_
    simp -implicitDefEqProofs [go_sem]
    exact fin _ _ _ _ (by rw [sizeV, if_neg (by simp [h0]), if_pos (.inr h2)]) (by simp) (by simp)
  have w2 : IntKind.i64.wrap (n + sumI l) = n + sumI l := IntWalk.i64_in _ ⟨by omega, by omega⟩
  simp -implicitDefEqProofs [go_sem, w1, h2]
  refine Wp.s ?_
  simp -implicitDefEqProofs [go_sem]
  refine SWp.seq (Wp.s ?_)
  simp -implicitDefEqProofs [go_sem]
  refine CC.mono (vsum_cc _ _ tk l hz) ?_
  rintro _ _ _ ⟨rfl, rfl, rfl⟩
  simp -implicitDefEqProofs [go_sem, w2]
  refine Wp.s ?_
  simp -implicitDefEqProofs [go_sem]
  exact fin _ _ _ _ (by rw [sizeV, if_neg (by simp [h0]), if_neg (by omega)]) (by simp) (by simp)
theorem vsync_cc (H : Hp) (V : List Nat)  : CC Tryz.prog 48 [] H V (Pu (.agg (opC opS)) H V) := by
  refine CC.of_swp Tryz.func48 rfl (by kernel_rfl) (by rw [Tryz.ntmps48]; exact len_le _ _ rfl) fun hok hokH => ?_
  clear hok
  refine SWp.seq (Wp.s ?_)
  simp -implicitDefEqProofs [go_sem, args0]
  refine SWp.seq (Wp.s ?_)
  simp -implicitDefEqProofs [go_sem]
  refine Wp.s ?_
  simp -implicitDefEqProofs [go_sem]
  exact Fin.pu (r0 := .agg (opC opS)) (.agg (.cons (.refl _) (.cons (.refl _) (.cons (.nil 8 (by decide)) .nil)))) (by simp [go_sem, okL_opC]) hokH (by simp) (by simp)
theorem operations_cc (H : Hp) (V : List Nat) (t2 : Tk) (a : List Opn) (l : List (List Opn)) (hl : l.length ≤ 1000000) (hf : (catO (a :: l)).length ≤ 1000000000) : CC Tryz.prog 47 [.sl .sh 3 (a.map opC), .sl t2 1 (l.map opE)] H V (Pu (opsV (catO (a :: l))) H V) := by
  refine CC.of_swp Tryz.func47 rfl (by kernel_rfl) (by rw [Tryz.ntmps47]; exact len_le _ _ rfl) fun hok hokH => ?_
  clear hok
  refine SWp.seq (Wp.s ?_)
  simp -implicitDefEqProofs [go_sem, args0]
  refine SWp.seq (Wp.s ?_)
  simp -implicitDefEqProofs [go_sem]
  refine ⟨by omega, ?_⟩
  refine CC.mono (concatOp_cc _ _ (.own V.length 0) (a :: l) (by simp; omega) hf) ?_
  rintro _ _ _ ⟨v, rfl, rfl, rfl⟩
  simp -implicitDefEqProofs [go_sem]
  refine Wp.s ?_
  simp -implicitDefEqProofs [go_sem]
  exact Fin.pu (.sh _ _ _) (by simp [go_sem, okE_ops]) hokH (by simp) (by simp)
end Go.Proofs.YtbnkggbpocaaiaaGreatDoor
namespace Go.Proofs.YtbnkggbpocaaiaaGreatDoor
open Go.Proofs
theorem replay_cc (H : Hp) (V : List Nat) (tk : Tk) (l : Img) (ws : List Wr) (hl : l.length ≤ 1000000000) (hn : ws.length ≤ 1000000000) (hw : ∀ w ∈ ws, w.data.length ≤ 1000000000) : CC Tryz.prog 62 [.sl tk 1 (l.map imE), .sl .sh 3 (ws.map wrC)] H V (Pu (.tup [imV (apR l ws).1, er (apR l ws).2.2]) H V) := by
  refine CC.of_swp Tryz.func62 rfl (by kernel_rfl) (by rw [Tryz.ntmps62]; exact len_le _ _ rfl) fun hok hokH => ?_
  clear hok
  refine SWp.seq (Wp.s ?_)
  simp -implicitDefEqProofs [go_sem, args0]
  refine SWp.seq (Wp.s ?_)
  simp -implicitDefEqProofs [go_sem]
  refine CC.mono (imApply_cc _ _ tk l ws hl hn hw) ?_
  rintro _ _ _ ⟨rfl, rfl, rfl⟩
  simp -implicitDefEqProofs [go_sem, apV]
  refine Wp.s ?_
  simp -implicitDefEqProofs [go_sem]
  exact Fin.pu (.refl _) (by simp [go_sem, okL, okV]) hokH (by simp) (by simp)
theorem chk1_cc (H : Hp) (V : List Nat) (tk : Tk) (v : List Sec) (n : Int) : CC Tryz.prog 74 [.sl tk 8 (v.map secC), ci n] H V (Pu (cb (decide ((v.length : Int) = n))) H V) := by
  refine CC.of_swp Tryz.func74 rfl (by kernel_rfl) (by rw [Tryz.ntmps74]; exact len_le _ _ rfl) fun hok hokH => ?_
  clear hok
  refine SWp.seq (Wp.s ?_)
  simp -implicitDefEqProofs [go_sem, args0]
  refine Wp.s ?_
  simp -implicitDefEqProofs [go_sem]
  exact Fin.pu (.refl _) (by simp [go_sem]) hokH (by simp) (by simp)
theorem imgSz_take {x : Img} {s : List Int} {i : Nat} (h : i < x.length) (h2 : i < s.length) (hp : (imgSz x).take i = s.take i) (he : (x[i].length : Int) = s[i]) : (imgSz x).take (i + 1) = s.take (i + 1) := by
  rw [List.take_succ_eq_append_getElem (by rw [imgSz_len]; exact h), List.take_succ_eq_append_getElem h2, hp, ← he]
  simp [imgSz]
theorem eqSz_cc (H : Hp) (V : List Nat) (t1 t2 : Tk) (x : Img) (s : List Int) (hl : x.length ≤ 1000000000) : CC Tryz.prog 73 [.sl t1 1 (x.map imE), .sl t2 1 (s.map ic), .fn 74 []] H V (Pu (cb (decide (imgSz x = s))) H V) := by
  refine CC.of_swp Tryz.func73 rfl (by kernel_rfl) (by rw [Tryz.ntmps73]; exact len_le _ _ rfl) fun hok hokH => ?_
  clear hok
  refine SWp.seq (Wp.s ?_)
  simp -implicitDefEqProofs [go_sem, args0]
  refine SWp.seq (SWp.seq (Wp.s ?_))
  by_cases hlen : x.length = s.length
  case neg =>
    have hlen' : ¬ (x.length : Int) = (s.length : Int) := by omega
    simp -implicitDefEqProofs [go_sem, hlen']
    refine Wp.s ?_
    simp -implicitDefEqProofs [go_sem, hlen, hlen']
    exact Fin.bool (by rw [decide_eq_false]; intro e; exact hlen (by rw [← e, imgSz_len])) hokH (by simp) (by simp)
  simp -implicitDefEqProofs [go_sem, hlen]
  refine Wp.s ?_
  simp -implicitDefEqProofs [go_sem, hlen]
  refine SWp.join (α := Unit) (fun _ => ([], H, V)) (fun _ => imgSz x = s) ?_ ?_
  · refine SWp.seq (Wp.s ?_)
    simp -implicitDefEqProofs [go_sem]
    refine SWp.block ?_
    refine SWp.loop (α := Nat) (fun i => ([(1, .sl t2 1 (s.map ic)), (2, .fn 74 []), (15, .sl t1 1 (x.map imE)), (16, ci x.length), (17, ci i)], H, V)) (fun i => i ≤ x.length ∧ (imgSz x).take i = s.take i) (fun i => x.length - i) 0 ⟨Nat.zero_le _, rfl⟩ (Sh.forget (by simp [go_sem, hlen]) rfl rfl) ?_
    rintro i ⟨hi, hp⟩
    dsimp only
    refine SWp.seq (Wp.s ?_)
    simp -implicitDefEqProofs [go_sem]
    refine SWp.seq (Wp.s ?_)
    simp -implicitDefEqProofs [go_sem]
    refine ⟨fun h => ?_, fun h => ⟨by rwa [List.take_of_length_le (by rw [imgSz_len]; exact h), List.take_of_length_le (by omega)] at hp, Sh.forget (by simp [go_sem]) rfl rfl⟩⟩
    have h2 : i < s.length := by omega
    refine SWp.seq (SWp.block (SWp.seq (Wp.s ?_)))
    simp -implicitDefEqProofs [go_sem, h]
    refine SWp.seq (Wp.s ?_)
    simp -implicitDefEqProofs [go_sem, h2]
    refine SWp.seq (Wp.s ?_)
    simp -implicitDefEqProofs [go_sem]
    refine CC.mono (chk1_cc _ _ .sh x[i] s[i]) ?_
    rintro _ _ _ ⟨rfl, rfl, rfl⟩
    by_cases he : (x[i].length : Int) = s[i]
    · simp -implicitDefEqProofs [go_sem, he]
      refine Wp.s ?_
      simp -implicitDefEqProofs [go_sem]
      refine Wp.s ?_
      simp -implicitDefEqProofs [go_sem]
      refine ⟨i + 1, ⟨by omega, imgSz_take h h2 hp he⟩, by omega, Sh.forget ?_ rfl rfl⟩
      simp [go_sem, wrap_succ (show i ≤ 1000000000 by omega)]
    · simp -implicitDefEqProofs [go_sem, he]
      refine Wp.s ?_
      simp -implicitDefEqProofs [go_sem]
      refine Fin.bool ?_ hokH (by simp) (by simp)
      rw [decide_eq_false]
      intro e
      apply he
      have := congrArg (fun l : List Int => l[i]?) e
      simp only [imgSz, List.getElem?_map, List.getElem?_eq_getElem h, List.getElem?_eq_getElem h2, Option.map_some] at this
      exact Option.some.inj this
  · rintro _ he
    dsimp only
    refine Wp.s ?_
    simp -implicitDefEqProofs [go_sem]
    exact Fin.bool (by simp [he]) hokH (by simp) (by simp)
/-- A store of bounded size. -/
structure StS (s : Sto) : Prop where
  sl : s.sizes.length ≤ 1000000000
  jl : s.jr.sizes.length ≤ 1000000000
  pl : s.pend.length ≤ 1000000
  pd : ∀ w ∈ s.pend, w.data.length ≤ 1000000
  il : s.img.length ≤ 1000000
  iv : ∀ v ∈ s.img, v.length ≤ 1000000
theorem chkJ_first {j : Jrn} (h : chkJ j = true) : 1 ≤ j.first ∧ j.first ≤ 1073741824 := by
  simp only [chkJ, Bool.and_eq_true, decide_eq_true_eq] at h
  omega
theorem apI_sz : ∀ (ws : List Wr) (l : Img) (i : Nat) {y : Img} {j : Nat}, apI l ws i = (y, j, 0) → imgSz y = imgSz l
  | [], l, i, y, j, h => by rw [apI] at h; cases h; rfl
  | w :: ws, l, i, y, j, h => by
    rw [apI] at h
    split at h
    · rename_i q
      exact absurd (congrArg (fun x => x.2.2) h) q
    · rename_i q
      rw [apI_sz ws _ _ h]
      have := ap1_sz (k := l) (w := w) (by simpa using q)
      have e : ∀ x : Img, imgSz x = (x.map List.length).map (fun n : Nat => (n : Int)) := fun x => by rw [imgSz, List.map_map]; rfl
      rw [e, e, this]
theorem apR_sz {l : Img} {ws : List Wr} (h : (apR l ws).2.2 = 0) : imgSz (apR l ws).1 = imgSz l := by
  unfold apR at h ⊢
  split at h
  · rename_i q; exact absurd h q
  · rename_i q
    rw [if_neg q]
    refine apI_sz ws l 0 (j := (apI l ws 0).2.1) ?_
    generalize apI l ws 0 = z at h ⊢
    obtain ⟨a, b, d⟩ := z
    dsimp only at h ⊢
    rw [h]
theorem img_small {sz : List Int} (hs : sizesE sz = 0) {x : Img} (hx : imgSz x = sz) : x.length ≤ 1000000000 ∧ ∀ v ∈ x, v.length ≤ 1000000000 := by
  obtain ⟨h1, h2⟩ := sizes_pos (l := x) (by rw [hx]; exact hs)
  exact ⟨by omega, fun v hv => by have := (h2 v hv).2; omega⟩
structure ChkA (s : Sto) : Prop where
  j : chkJ s.jr = true
  a : ¬ (s.jr.start ≠ 0 ∨ s.data ≠ s.jr.count ∨ 4096 - sumI s.sizes < s.data)
  b : ¬ (s.applied ≠ s.jr.first - 1 ∨ s.pend.length ≠ s.jr.sizes.length)
set_option maxRecDepth 8000 in
theorem vCheck_cc (H : Hp) (V : List Nat) (s : Sto) (hs : StS s) : CC Tryz.prog 21 [.agg (stoC s)] H V (Pu (er (chkV s)) H V) := by
  refine CC.of_swp Tryz.func21 rfl (by kernel_rfl) (by rw [Tryz.ntmps21]; exact len_le _ _ rfl) fun hok hokH => ?_
  clear hok
  have fin : ∀ (e : Nat) (H' : Hp) (V' : List Nat), chkV s = e → H'.take H.length = H → V'.take V.length = V → Fin H.length V.length (Pu (er (chkV s)) H V) (er e) H' V' := fun e H' V' h1 h2 h3 => Fin.er h1 hokH h2 h3
  refine SWp.seq (Wp.s ?_)
  simp -implicitDefEqProofs [go_sem, args0]
  refine SWp.seq (Wp.s ?_)
  simp -implicitDefEqProofs [go_sem, stoC]
  refine CC.mono (New_cc _ _ .sh s.sizes (by have := hs.sl; omega)) ?_
  rintro _ _ _ ⟨rfl, rfl, rfl⟩
  simp -implicitDefEqProofs [go_sem]
  refine SWp.seq (SWp.seq (Wp.s ?_))
  by_cases h0 : sizesE s.sizes = 0
  case neg =>
    simp -implicitDefEqProofs [go_sem, h0]
    refine Wp.s ?_
    simp -implicitDefEqProofs [go_sem]
    exact fin _ _ _ (by rw [chkV, if_pos h0]) (by simp) (by simp)
  have hz := SzOk.of h0
  have hsm := hz.sum'
  have hl8 := (sizesE_0 h0).2.1
  simp -implicitDefEqProofs [go_sem, h0]
  refine Wp.s ?_
  simp -implicitDefEqProofs [go_sem]
  refine SWp.seq (Wp.s ?_)
  simp -implicitDefEqProofs [go_sem]
  refine SWp.join (α := Unit) (fun _ => ([(1, .ptr H.length 0), (3, imV (imOf s.sizes))], H ++ [some (stoC s), some (jrC s.jr)], V)) (fun _ => ChkA s) ?_ ?_
  · refine SWp.block (SWp.seq (Wp.s ?_))
    simp -implicitDefEqProofs [go_sem]
    refine CC.mono (JCheck_cc _ _ s.jr hs.jl) ?_
    rintro _ _ _ ⟨rfl, rfl, rfl⟩
    by_cases hJ : chkJ s.jr = true
    case neg =>
      have hJ' : chkJ s.jr = false := by simpa using hJ
      simp -implicitDefEqProofs [go_sem, ckE, hJ']
      refine Wp.s ?_
      simp -implicitDefEqProofs [go_sem]
      exact fin _ _ _ (by rw [chkV, if_neg (by simp [h0]), if_pos hJ']) (by simp) (by simp)
    have e1 : chkV s = if s.jr.start ≠ 0 ∨ s.data ≠ s.jr.count ∨ 4096 - sumI s.sizes < s.data then 2
        else if s.applied ≠ s.jr.first - 1 ∨ s.pend.length ≠ s.jr.sizes.length then 3
        else if (apR (imOf s.sizes) s.pend).2.2 ≠ 0 then (apR (imOf s.sizes) s.pend).2.2
        else if imgSz s.img ≠ s.sizes then 22
        else if (apR s.img s.pend).2.2 ≠ 0 ∨ (apR s.img s.pend).1 ≠ s.img then 22 else 0 := by
      rw [chkV, if_neg (by simp [h0]), if_neg (by simp [hJ])]
    have hfi := chkJ_first hJ
    simp -implicitDefEqProofs [go_sem, ckE, hJ]
    refine SWp.condF (by simp [go_sem]) ?_
    refine SWp.seq (SWp.drawnT [] [] (.s 0 .pl <| .s 1 .pl <| .s 2 .pl <| .s 3 .pl <| .s 4 .pl <| .s 5 .pl <| .s 6 .pl <| .s 7 .pl <| .s 8 .pl <| .s 9 .pl <| .s 10 .pl <| .s 11 .pl <| .s 12 .pl <| .s 13 .pl <| .s 14 .pl <| .s 15 .pl <| .s 16 .pl <| .s 17 .pl <| .s 18 .pl <| .s 19 .pl <| .s 20 .pl <| .s 21 .pl <| .n) (by kernel_rfl) (by kernel_rfl) ?_)
    have w1 : IntKind.i64.wrap (4096 - sumI s.sizes) = 4096 - sumI s.sizes := IntWalk.i64_in _ ⟨by omega, by omega⟩
    have w2 : IntKind.i64.wrap (s.jr.first - 1) = s.jr.first - 1 := IntWalk.i64_in _ ⟨by omega, by omega⟩
    by_cases c1 : s.jr.start = 0
    case neg =>
      simp -implicitDefEqProofs [go_sem, c1]
      refine Wp.s ?_
      simp -implicitDefEqProofs [go_sem]
      exact fin _ _ _ (by rw [e1, if_pos (.inl c1)]) (by simp) (by simp)
    by_cases c2 : s.data = s.jr.count
    case neg =>
      simp -implicitDefEqProofs [go_sem, c1, c2]
      refine Wp.s ?_
      simp -implicitDefEqProofs [go_sem]
      exact fin _ _ _ (by rw [e1, if_pos (.inr (.inl c2))]) (by simp) (by simp)
    simp -implicitDefEqProofs [go_sem, c1, c2]
    refine CC.mono (vsum_cc _ _ .sh s.sizes hz) ?_
    rintro _ _ _ ⟨rfl, rfl, rfl⟩
    by_cases c3 : 4096 - sumI s.sizes < s.jr.count
    · simp -implicitDefEqProofs [go_sem, w1, c3]
      refine Wp.s ?_
      simp -implicitDefEqProofs [go_sem]
      exact fin _ _ _ (by rw [e1, if_pos (.inr (.inr (by rw [c2]; exact c3)))]) (by simp) (by simp)
    simp -implicitDefEqProofs [go_sem, w1, c3]
    refine SWp.condF (by simp [go_sem]) ?_
    have hb1 : ¬ (s.jr.start ≠ 0 ∨ s.data ≠ s.jr.count ∨ 4096 - sumI s.sizes < s.data) := by
      rintro (q | q | q)
      · exact q c1
      · exact q c2
      · rw [c2] at q; exact c3 q
    rw [if_neg hb1] at e1
    refine SWp.seq (Wp.s ?_)
    by_cases c4 : s.applied = s.jr.first - 1
    case neg =>
      simp -implicitDefEqProofs [go_sem, w2, c4]
      refine Wp.s ?_
      simp -implicitDefEqProofs [go_sem]
      exact fin _ _ _ (by rw [e1, if_pos (.inl c4)]) (by simp) (by simp)
    by_cases c5 : s.pend.length = s.jr.sizes.length
    case neg =>
      have c5' : ¬ (s.pend.length : Int) = (s.jr.sizes.length : Int) := by omega
      simp -implicitDefEqProofs [go_sem, w2, c4, c5, c5']
      refine Wp.s ?_
      simp -implicitDefEqProofs [go_sem]
      exact fin _ _ _ (by rw [e1, if_pos (.inr c5)]) (by simp) (by simp)
    simp -implicitDefEqProofs [go_sem, w2, c4, c5]
    refine Wp.s ?_
    simp -implicitDefEqProofs [go_sem]
    exact ⟨⟨hJ, hb1, by rintro (q | q); exact q c4; exact q c5⟩, Sh.forget (by simp [go_sem]) (by rw [stoC, jrC, c1, c2, c4]) rfl⟩
  rintro _ ⟨hJ, hb1, hb2⟩
  dsimp only
  have e1 : chkV s = if (apR (imOf s.sizes) s.pend).2.2 ≠ 0 then (apR (imOf s.sizes) s.pend).2.2
        else if imgSz s.img ≠ s.sizes then 22
        else if (apR s.img s.pend).2.2 ≠ 0 ∨ (apR s.img s.pend).1 ≠ s.img then 22 else 0 := by
    rw [chkV, if_neg (by simp [h0]), if_neg (by simp [hJ]), if_neg hb1, if_neg hb2]
  refine SWp.seq (SWp.seq (Wp.s ?_))
  simp -implicitDefEqProofs [go_sem, stoC]
  refine CC.mono (replay_cc _ _ .sh (imOf s.sizes) s.pend (by rw [imOf_len]; omega) (by have := hs.pl; omega) (fun w hw => by have := hs.pd w hw; omega)) ?_
  rintro _ _ _ ⟨rfl, rfl, rfl⟩
  simp -implicitDefEqProofs [go_sem]
  refine SWp.seq (Wp.s ?_)
  by_cases h1 : (apR (imOf s.sizes) s.pend).2.2 = 0
  case neg =>
    have h1' : ¬ (((apR (imOf s.sizes) s.pend).2.2 : Nat) : Int) = 0 := by omega
    simp -implicitDefEqProofs [go_sem, h1, h1']
    refine Wp.s ?_
    simp -implicitDefEqProofs [go_sem]
    exact fin _ _ _ (by rw [e1, if_pos h1]) (by simp) (by simp)
  rw [if_neg (by simp [h1])] at e1
  simp -implicitDefEqProofs [go_sem, h1]
  refine Wp.s ?_
  simp -implicitDefEqProofs [go_sem]
  refine SWp.seq (SWp.seq (Wp.s ?_))
  simp -implicitDefEqProofs [go_sem, stoC]
  refine CC.mono (eqSz_cc _ _ .sh .sh s.img s.sizes (by have := hs.il; omega)) ?_
  rintro _ _ _ ⟨rfl, rfl, rfl⟩
  by_cases h2 : imgSz s.img = s.sizes
  case neg =>
    simp -implicitDefEqProofs [go_sem, h2]
    refine Wp.s ?_
    simp -implicitDefEqProofs [go_sem]
    exact fin _ _ _ (by rw [e1, if_pos h2]) (by simp) (by simp)
  rw [if_neg (by simp [h2])] at e1
  simp -implicitDefEqProofs [go_sem, h2]
  refine Wp.s ?_
  simp -implicitDefEqProofs [go_sem]
  refine SWp.seq (SWp.seq (Wp.s ?_))
  simp -implicitDefEqProofs [go_sem, stoC]
  refine CC.mono (replay_cc _ _ .sh s.img s.pend (by have := hs.il; omega) (by have := hs.pl; omega) (fun w hw => by have := hs.pd w hw; omega)) ?_
  rintro _ _ _ ⟨rfl, rfl, rfl⟩
  simp -implicitDefEqProofs [go_sem]
  refine SWp.seq (Wp.s ?_)
  by_cases h3 : (apR s.img s.pend).2.2 = 0
  case neg =>
    have h3' : ¬ (((apR s.img s.pend).2.2 : Nat) : Int) = 0 := by omega
    simp -implicitDefEqProofs [go_sem, h3, h3']
    refine Wp.s ?_
    simp -implicitDefEqProofs [go_sem]
    exact fin _ _ _ (by rw [e1, if_pos (.inl h3)]) (by simp) (by simp)
  simp -implicitDefEqProofs [go_sem, h3, stoC]
  obtain ⟨i1, i2⟩ := img_small h0 ((apR_sz h3).trans h2)
  refine CC.mono (imSame_cc _ _ .sh .sh (apR s.img s.pend).1 s.img i1 i2) ?_
  rintro _ _ _ ⟨rfl, rfl, rfl⟩
  by_cases h4 : (apR s.img s.pend).1 = s.img
  case neg =>
    simp -implicitDefEqProofs [go_sem, h4]
    refine Wp.s ?_
    simp -implicitDefEqProofs [go_sem]
    exact fin _ _ _ (by rw [e1, if_pos (.inr h4)]) (by simp) (by simp)
  simp -implicitDefEqProofs [go_sem, h4]
  refine Wp.s ?_
  simp -implicitDefEqProofs [go_sem]
  refine SWp.seq (Wp.s ?_)
  simp -implicitDefEqProofs [go_sem]
  refine Wp.s ?_
  simp -implicitDefEqProofs [go_sem]
  exact fin _ _ _ (by rw [e1, if_neg (by rintro (q | q); exact q h3; exact q h4)]) (by simp) (by simp)
end Go.Proofs.YtbnkggbpocaaiaaGreatDoor
namespace Go.Proofs.YtbnkggbpocaaiaaGreatDoor
open Go.Proofs
theorem vcloneInt_cc (H : Hp) (V : List Nat) (tk : Tk) (xs : List Int) (hx : xs.length ≤ 1000000000) : CC Tryz.prog 46 [.sl tk 1 (xs.map ic)] H V (Pu (.sl .sh 1 (xs.map ic)) H V) := by
  refine CC.of_swp Tryz.func46 rfl (by kernel_rfl) (by rw [Tryz.ntmps46]; exact len_le _ _ rfl) fun hok hokH => Wp.s ?_
  simp -implicitDefEqProofs [go_sem, args0]
  refine ⟨⟨by omega, ?_⟩, fun h => ?_⟩
  · exact Fin.pu (.sh ..) (by simp [go_sem, okE_ints]) hokH (by simp) (by simp)
  · obtain rfl : xs = [] := by simpa using h
    exact Fin.pu (.nil 1 (by decide)) (by simp [go_sem]) hokH (by simp) (by simp)
theorem vcloneSec_cc (H : Hp) (V : List Nat) (tk : Tk) (xs : List Sec) (hx : xs.length ≤ 1000000000) : CC Tryz.prog 122 [.sl tk 8 (xs.map secC)] H V (Pu (secsV xs) H V) := by
  refine CC.of_swp Tryz.func122 rfl (by kernel_rfl) (by rw [Tryz.ntmps122]; exact len_le _ _ rfl) fun hok hokH => Wp.s ?_
  simp -implicitDefEqProofs [go_sem, args0]
  refine ⟨⟨by omega, ?_⟩, fun h => ?_⟩
  · exact Fin.pu (.sh ..) (by simp [go_sem, okE_secs]) hokH (by simp) (by simp)
  · obtain rfl : xs = [] := by simpa using h
    exact Fin.pu (.nil 8 (by decide)) (by simp [go_sem]) hokH (by simp) (by simp)
def wrU (l : List Wr) (i : Nat) : List (List CV) := (l.take i).map wrC
theorem wrU_len (l : List Wr) (i : Nat) (h : i ≤ l.length) : (wrU l i).length = i := by rw [wrU, List.length_map, List.length_take]; omega
@[go_sem] theorem wrU_0 (l : List Wr) : wrU l 0 = [] := rfl
theorem wrU_s {l : List Wr} {i : Nat} (h : i < l.length) : wrU l (i + 1) = wrU l i ++ [wrC l[i]] := by
  rw [wrU, List.take_succ_eq_append_getElem h, List.map_append]; rfl
@[go_sem] theorem wrU_all (l : List Wr) : wrU l l.length = l.map wrC := by rw [wrU, List.take_length]
@[go_sem] theorem okE_wrU (i j : Nat) (l : List Wr) (k : Nat) : okE i j (wrU l k) = True := by rw [wrU, okE_wrs]
theorem wr_put2' (w : Wr) : List.take 3 (List.take 2 (wrC w) ++ CV.sl Tk.sh 8 (List.map secC w.data) :: List.drop 3 (wrC w)) = wrC w := rfl
theorem ownWrites_cc (H : Hp) (V : List Nat) (tk : Tk) (l : List Wr) (h1 : l.length ≤ 1000000) (h2 : ∀ w ∈ l, w.data.length ≤ 1000000) : CC Tryz.prog 64 [.sl .sh 3 (l.map wrC)] H V (Fr 3 (l.map wrC) H V) := by
  refine CC.of_swp Tryz.func64 rfl (by kernel_rfl) (by rw [Tryz.ntmps64]; exact len_le _ _ rfl) fun hok hokH => ?_
  clear hok
  refine SWp.seq (Wp.s ?_)
  simp -implicitDefEqProofs [go_sem, args0]
  refine SWp.seq (Wp.s ?_)
  simp -implicitDefEqProofs [go_sem]
  refine SWp.join (α := Unit) (fun _ => ([(3, .sl (.own V.length l.length) 3 (l.map wrC))], H, V ++ [l.length])) (fun _ => True) ?_ ?_
  · refine SWp.seq (Wp.s ?_)
    simp -implicitDefEqProofs [go_sem]
    refine SWp.block ?_
    refine SWp.loop (α := Nat) (fun i => ([(3, .sl (.own V.length i) 3 (wrU l i)), (6, .sl .sh 3 (l.map wrC)), (7, ci l.length), (8, ci i)], H, V ++ [i])) (fun i => i ≤ l.length) (fun i => l.length - i) 0 (Nat.zero_le _) (Sh.tokT (by simp [go_sem]) rfl rfl) ?_
    intro i hi
    dsimp only
    refine SWp.seq (Wp.s ?_)
    simp -implicitDefEqProofs [go_sem]
    refine SWp.seq (Wp.s ?_)
    simp -implicitDefEqProofs [go_sem]
    refine ⟨fun h => ?_, fun h => ?_⟩
    case refine_2 =>
      obtain rfl : i = l.length := by omega
      exact Sh.forget (by simp [go_sem]) rfl rfl
    have hw := h2 _ (List.getElem_mem h)
    refine SWp.seq (SWp.block (SWp.seq (Wp.s ?_)))
    simp -implicitDefEqProofs [go_sem, h]
    refine SWp.seq (Wp.s ?_)
    simp -implicitDefEqProofs [go_sem]
    refine CC.mono (vcloneSec_cc _ _ .sh l[i].data (by omega)) ?_
    rintro _ _ _ ⟨rfl, rfl, rfl⟩
    simp -implicitDefEqProofs [go_sem]
    refine Wp.s ?_
    simp -implicitDefEqProofs [go_sem, wrU_len _ _ hi]
    refine ⟨rfl, by omega, ?_⟩
    have w2 : IntKind.i64.wrap ((i : Int) + 1) = (i : Int) + 1 := IntWalk.i64_in _ ⟨by omega, by omega⟩
    refine Wp.s ?_
    simp -implicitDefEqProofs [go_sem, w2]
    refine ⟨i + 1, by omega, by omega, Sh.cut H.length (V.length + 1) (by simp [go_sem, wrU_s h, wr_put2']) (Nat.le_refl _) (by omega) (TOk.all (by simp [go_sem])) (fun b cs hb => okL_mono (Nat.le_refl _) (by omega) (hokH b cs hb)) (by simp) (by simp)⟩
  · rintro _ -
    dsimp only
    refine SWp.seq (Wp.s ?_)
    simp -implicitDefEqProofs [go_sem]
    refine Wp.s ?_
    simp -implicitDefEqProofs [go_sem]
    exact Fin.fresh rfl (by simp [go_sem, okE_wrs]) hokH (by simp)
def zstC : List CV := [.v (.slice none 0 0), .v (.int .i64 0), .v (.int .i64 0), .v (.int .i64 0), .v (.int .i64 0), .v (.int .i64 0), .v (.slice none 0 0), .v (.int .i64 0), .v (.int .i64 0), .v (.slice none 0 0), .v (.slice none 0 0)]
@[go_sem, simp] theorem zstC_len : zstC.length = 11 := rfl
def stoT (s : Sto) (pv : CV) : List CV := [.sl .sh 1 (s.sizes.map ic), .v (.int .i64 s.jr.start), .v (.int .i64 s.jr.count), .v (.int .i64 s.jr.head), .v (.int .i64 s.jr.tail), .v (.int .i64 s.jr.first), .sl .sh 1 (s.jr.sizes.map ic), .v (.int .i64 s.data), .v (.int .i64 s.applied), pv, .sl .sh 1 (s.img.map imE)]
def OwnR (s : Sto) (H : Hp) (V : List Nat) : CV → Hp → List Nat → Prop := fun r H' V' => ∃ k v, r = .agg (stoT s (.sl (.own k v) 3 (s.pend.map wrC))) ∧ H = H' ∧ V'.take V.length = V ∧ V'[k]? = some v ∧ V.length ≤ k
def imU (l : Img) (i : Nat) : List (List CV) := (l.take i).map imE
theorem imU_len (l : Img) (i : Nat) (h : i ≤ l.length) : (imU l i).length = i := by rw [imU, List.length_map, List.length_take]; omega
@[go_sem] theorem imU_0 (l : Img) : imU l 0 = [] := rfl
theorem imU_s {l : Img} {i : Nat} (h : i < l.length) : imU l (i + 1) = imU l i ++ [imE l[i]] := by
  rw [imU, List.take_succ_eq_append_getElem h, List.map_append]; rfl
@[go_sem] theorem imU_all (l : Img) : imU l l.length = l.map imE := by rw [imU, List.take_length]
@[go_sem] theorem okE_imU (i j : Nat) (l : Img) (k : Nat) : okE i j (imU l k) = True := by rw [imU, okE_ims]
set_option maxRecDepth 8000 in
theorem vown_cc (H : Hp) (V : List Nat) (s : Sto) (hs : StS s) : CC Tryz.prog 63 [.agg (stoC s)] H V (OwnR s H V) := by
  refine CC.of_swp Tryz.func63 rfl (by kernel_rfl) (by rw [Tryz.ntmps63]; exact len_le _ _ rfl) fun hok hokH => ?_
  clear hok
  refine SWp.seq (Wp.s ?_)
  simp -implicitDefEqProofs [go_sem, args0]
  refine SWp.seq (Wp.s ?_)
  simp -implicitDefEqProofs [go_sem]
  refine SWp.join (α := Unit) (fun _ => ([(1, .ptr H.length 0), (2, .ptr (H.length + 1) 0), (3, .sl (.own V.length s.img.length) 1 (s.img.map imE))], H ++ [some (stoC s), some zstC], V ++ [s.img.length])) (fun _ => True) ?_ ?_
  · refine SWp.seq (Wp.s ?_)
    simp -implicitDefEqProofs [go_sem, stoC]
    refine SWp.block ?_
    refine SWp.loop (α := Nat) (fun i => ([(1, .ptr H.length 0), (2, .ptr (H.length + 1) 0), (3, .sl (.own V.length i) 1 (imU s.img i)), (7, .sl .sh 1 (s.img.map imE)), (8, ci s.img.length), (9, ci i)], H ++ [some (stoC s), some zstC], V ++ [i])) (fun i => i ≤ s.img.length) (fun i => s.img.length - i) 0 (Nat.zero_le _) ?_ ?_
    · exact Sh.tokT (by simp [go_sem]) (by simp [stoC, zstC]) rfl
    intro i hi
    dsimp only
    refine SWp.seq (Wp.s ?_)
    simp -implicitDefEqProofs [go_sem]
    refine SWp.seq (Wp.s ?_)
    simp -implicitDefEqProofs [go_sem]
    refine ⟨fun h => ?_, fun h => ?_⟩
    case refine_2 =>
      obtain rfl : i = s.img.length := by omega
      exact Sh.forget (by simp [go_sem]) rfl rfl
    have hv := hs.iv _ (List.getElem_mem h)
    have hil := hs.il
    refine SWp.seq (SWp.block (SWp.seq (Wp.s ?_)))
    simp -implicitDefEqProofs [go_sem, h]
    refine Wp.s ?_
    simp -implicitDefEqProofs [go_sem]
    refine CC.mono (vcloneSec_cc _ _ .sh s.img[i] (by omega)) ?_
    rintro _ _ _ ⟨rfl, rfl, rfl⟩
    simp -implicitDefEqProofs [go_sem, imU_len _ _ hi]
    refine ⟨by omega, ?_⟩
    have w2 : IntKind.i64.wrap ((i : Int) + 1) = (i : Int) + 1 := IntWalk.i64_in _ ⟨by omega, by omega⟩
    refine Wp.s ?_
    simp -implicitDefEqProofs [go_sem, w2]
    exact ⟨i + 1, by omega, by omega, Sh.forget (by simp [go_sem, imU_s h, imE]) rfl (by simp)⟩
  rintro _ -
  dsimp only
  refine SWp.seq (SWp.drawnT [] [8, 10, 12] (.s 0 .pl <| .s 1 .pl <| .s 3 .pl <| .s 4 .pl <| .s 5 .pl <| .s 2 .pl <| .s 7 .pl <| .s 6 .pl <| .s 8 .st <| .s 9 .pl <| .s 10 .st <| .s 11 .pl <| .s 12 .st <| .n) (by kernel_rfl) (by kernel_rfl) ?_)
  simp -implicitDefEqProofs [go_sem, stoC]
  refine CC.mono (vcloneInt_cc _ _ .sh s.sizes hs.sl) ?_
  rintro _ _ _ ⟨rfl, rfl, rfl⟩
  simp -implicitDefEqProofs [go_sem]
  refine CC.mono (ownWrites_cc _ _ .sh s.pend hs.pl hs.pd) ?_
  rintro _ _ _ ⟨v, rfl, rfl, rfl⟩
  simp -implicitDefEqProofs [go_sem]
  refine SWp.seq (Wp.s ?_)
  simp -implicitDefEqProofs [go_sem]
  refine CC.mono (vcloneInt_cc _ _ .sh s.jr.sizes hs.jl) ?_
  rintro _ _ _ ⟨rfl, rfl, rfl⟩
  simp -implicitDefEqProofs [go_sem]
  refine SWp.seq (Wp.s ?_)
  simp -implicitDefEqProofs [go_sem]
  refine Wp.s ?_
  simp -implicitDefEqProofs [go_sem]
  refine Fin.cut H.length (V.length + 2) (H'' := H) (V'' := V ++ [s.img.length, v]) (r' := .agg (stoT s (.sl (.own (V.length + 1) v) 3 (s.pend.map wrC)))) ⟨V.length + 1, v, rfl, rfl, by simp, by simp, by omega⟩ (Nat.le_refl _) (by omega) (by simp) (by simp) ?_ ?_ fun b cs hb => okL_mono (Nat.le_refl _) (by omega) (hokH b cs hb)
  · exact .agg (.cons (.refl _) (.cons (.refl _) (.cons (.refl _) (.cons (.refl _) (.cons (.refl _) (.cons (.refl _) (.cons (.refl _) (.cons (.refl _) (.cons (.refl _) (.cons (.refl _) (.cons (.sh _ _ _) .nil)))))))))))
  · simp [stoT, go_sem, okL, okV, okTk, okE_ints, okE_wrs, okE_ims]
end Go.Proofs.YtbnkggbpocaaiaaGreatDoor
namespace Go.Proofs.YtbnkggbpocaaiaaGreatDoor
open Go.Proofs
theorem vPutWrites_cc (H : Hp) (V : List Nat) (tk tk' : Tk) (l : List UInt8) (xs : List Wr) (hx : xs.length ≤ 900000000) (hl : l.length + (encWrs xs).length ≤ 900000000) :
    CC Tryz.prog 61 [.sl tk 1 (bs l), .sl tk' 3 (xs.map wrC)] H V (Pu (.sl .sh 1 (bs (l ++ encWrs xs))) H V) := by
  refine CC.of_swp Tryz.func61 rfl (by kernel_rfl) (by rw [Tryz.ntmps61]; exact len_le _ _ rfl) fun hok hokH => Wp.s ?_
  simp -implicitDefEqProofs [go_sem, args0]
  refine CC.mono (clone_cc _ _ _ _ (by simp only [bs_len]; omega)) ?_
  rintro _ _ _ ⟨v, rfl, rfl, rfl⟩
  try simp -implicitDefEqProofs [go_sem]
  refine CC.mono (putWrites_cc _ _ _ _ _ _ _ (by simp) hx hl) ?_
  rintro _ _ _ ⟨v', rfl, rfl, rfl⟩
  simp -implicitDefEqProofs [go_sem]
  exact Fin.pu (.sh _ _ _) (by simp [go_sem]) hokH (by simp) (by simp)
/-! ### What a store that is in order is like -/
structure StOk (s : Sto) : Prop where
  sz : sizesE s.sizes = 0
  A : ChkA s
  e1 : (apR (imOf s.sizes) s.pend).2.2 = 0
  im : imgSz s.img = s.sizes
  e2 : (apR s.img s.pend).2.2 = 0
  e3 : (apR s.img s.pend).1 = s.img
theorem chkV_ok {s : Sto} (h : chkV s = 0) : StOk s := by
  unfold chkV at h
  split at h
  · rename_i q; exact absurd h q
  rename_i q0
  split at h
  · cases h
  rename_i q1
  split at h
  · cases h
  rename_i q2
  split at h
  · cases h
  rename_i q3
  split at h
  · rename_i q; exact absurd h q
  rename_i q4
  split at h
  · cases h
  rename_i q5
  split at h
  · cases h
  rename_i q6
  exact ⟨by simpa using q0, ⟨by simpa using q1, q2, q3⟩, by simpa using q4, by simpa using q5, Classical.byContradiction fun e => q6 (.inl e), Classical.byContradiction fun e => q6 (.inr e)⟩
theorem apR_one {l : Img} {w : Wr} (h : sizesE (imgSz l) = 0) (hf : fitsS (imgSz l) w = 0) : apR l [w] = (ap1 l w, 0, 0) := by
  rw [apR, if_neg (by simp [h]), apI, if_neg (by simp [hf]), apI]
def wtV (x : Sto × Int × List Opn × Nat) : CV := .tup [.agg (stoC x.1), ci x.2.1, opsV x.2.2.1, er x.2.2.2]
theorem okV_wtV (i j : Nat) (x : Sto × Int × List Opn × Nat) : okV i j (wtV x) := by
  rw [wtV]; simp [go_sem, okL, okV, okL_stoC, okE_ops]
theorem zsto_le : LeL zstC (stoC zsto) := .cons (.nil 1 (by decide)) (.cons (.refl _) (.cons (.refl _) (.cons (.refl _) (.cons (.refl _) (.cons (.refl _) (.cons (.nil 1 (by decide)) (.cons (.refl _) (.cons (.refl _) (.cons (.nil 3 (by decide)) (.cons (.nil 1 (by decide)) .nil))))))))))
theorem nxJ_ok {j : Jrn} (h : chkJ j = true) : nxJ j = nextJ j := by rw [nxJ, if_pos h]
theorem encW_le {w : Wr} (h : w.data.length ≤ 1000000) : (encWrs [w]).length ≤ 900000000 := by
  have h1 := enc_len ([w].length : Int)
  have h2 := enc_len w.volume
  have h3 := enc_len w.start
  have h4 := enc_len (w.data.length : Int)
  have h5 := encSecs_len w.data
  rw [encWrs, List.length_append, List.flatMap_cons, List.flatMap_nil, List.append_nil, encWr, List.length_append, List.length_append]
  omega
set_option maxRecDepth 8000 in
set_option maxHeartbeats 1600000 in
theorem vWrite_cc (H : Hp) (V : List Nat) (s : Sto) (w : Wr) (hs : StS s) (hw : w.data.length ≤ 1000000) : CC Tryz.prog 19 [.agg (stoC s), .agg (wrC w)] H V (Pu (wtV (writeV s w)) H V) := by
  refine CC.of_swp Tryz.func19 rfl (by kernel_rfl) (by rw [Tryz.ntmps19]; exact len_le _ _ rfl) fun hok hokH => ?_
  clear hok
  have bad : ∀ (e : Nat) (H' : Hp) (V' : List Nat), writeV s w = (zsto, 0, [], e) → H'.take H.length = H → V'.take V.length = V → Fin H.length V.length (Pu (wtV (writeV s w)) H V) (.tup [.agg zstC, ci 0, .v (.slice none 0 0), er e]) H' V' := fun e H' V' h1 h2 h3 => by
    rw [h1]
    exact Fin.pu (.tup (.cons (.agg zsto_le) (.cons (.refl _) (.cons (.nil 3 (by decide)) (.cons (.refl _) .nil))))) (okV_wtV _ _ _) hokH h2 h3
  refine SWp.seq (Wp.s ?_)
  simp -implicitDefEqProofs [go_sem, args0]
  refine SWp.seq (SWp.seq (Wp.s ?_))
  simp -implicitDefEqProofs [go_sem]
  refine CC.mono (vCheck_cc _ _ s hs) ?_
  rintro _ _ _ ⟨rfl, rfl, rfl⟩
  simp -implicitDefEqProofs [go_sem]
  refine SWp.seq (Wp.s ?_)
  by_cases h0 : chkV s = 0
  case neg =>
    simp -implicitDefEqProofs [go_sem, h0]
    refine Wp.s ?_
    simp -implicitDefEqProofs [go_sem]
    exact bad _ _ _ (by rw [writeV, if_pos h0]) (by simp) (by simp)
  have hok := chkV_ok h0
  simp -implicitDefEqProofs [go_sem, h0]
  refine Wp.s ?_
  simp -implicitDefEqProofs [go_sem]
  refine SWp.seq (SWp.seq (Wp.s ?_))
  simp -implicitDefEqProofs [go_sem, stoC]
  refine CC.mono (Fits_cc _ _ .sh s.img w (by have := hs.il; omega) (fun v hv => by have := hs.iv v hv; omega) (by omega)) ?_
  rintro _ _ _ ⟨rfl, rfl, rfl⟩
  have hfi : fitsI s.img w = fitsS s.sizes w := by rw [fitsI, hok.im, if_neg (by simp [hok.sz])]
  rw [hfi]
  simp -implicitDefEqProofs [go_sem]
  refine SWp.seq (Wp.s ?_)
  by_cases h1 : fitsS s.sizes w = 0
  case neg =>
    simp -implicitDefEqProofs [go_sem, h1]
    refine Wp.s ?_
    simp -implicitDefEqProofs [go_sem]
    exact bad _ _ _ (by rw [writeV, if_neg (by simp [h0]), if_pos h1]) (by simp) (by simp)
  simp -implicitDefEqProofs [go_sem, h1]
  refine Wp.s ?_
  simp -implicitDefEqProofs [go_sem]
  have hJ := hok.A.j
  refine SWp.seq (Wp.s ?_)
  simp -implicitDefEqProofs [go_sem, stoC]
  refine CC.mono (JNext_cc _ _ s.jr hs.jl) ?_
  rintro _ _ _ ⟨rfl, rfl, rfl⟩
  rw [nxJ_ok hJ]
  simp -implicitDefEqProofs [go_sem]
  refine SWp.seq (SWp.drawnT [] [11] (.s 0 .pl <| .s 1 .pl <| .s 2 .pl <| .s 3 .pl <| .c 4 <| .c 5 <| .s 6 .pl <| .s 7 .pl <| .s 8 .pl <| .s 9 .pl <| .s 10 .pl <| .s 11 .st <| .s 12 .pl <| .s 13 .pl <| .n) (by kernel_rfl) (by kernel_rfl) ?_)
  simp -implicitDefEqProofs [go_sem, stoC]
  have hel : (encWrs [w]).length ≤ 900000000 := encW_le hw
  refine ⟨_, fun H V => CC.le (ys := [.sl .sh 1 (bs []), .sl .ti 3 ([w].map wrC)]) (.cons (.nil 1 (by decide)) (.cons (.refl _) .nil)) (vPutWrites_cc H V .sh .ti [] [w] (by simp) (by simpa using hel)), ?_⟩
  rw [List.nil_append]
  simp -implicitDefEqProofs [go_sem]
  refine ⟨_, fun H V => Append_cc H V s.jr 1 (encWrs [w]) hs.jl hel, ?_⟩
  simp -implicitDefEqProofs [go_sem, jtV]
  have hwv : writeV s w = if (appJ s.jr 1 (encWrs [w])).2.2 ≠ 0 then (zsto, 0, [], (appJ s.jr 1 (encWrs [w])).2.2) else (⟨s.sizes, (appJ s.jr 1 (encWrs [w])).1, s.data, s.applied, s.pend ++ [w], ap1 s.img w⟩, nextJ s.jr, (appJ s.jr 1 (encWrs [w])).2.1, 0) := by
    rw [writeV, if_neg (by simp [h0]), if_neg (by simp [h1])]
  generalize appJ s.jr 1 (encWrs [w]) = x at hwv ⊢
  obtain ⟨j, A, e⟩ := x
  dsimp only at hwv ⊢
  refine SWp.seq (SWp.seq (Wp.s ?_))
  by_cases he : e = 0
  case neg =>
    have he' : ¬ (e : Int) = 0 := by omega
    simp -implicitDefEqProofs [go_sem, he, he']
    refine Wp.s ?_
    simp -implicitDefEqProofs [go_sem]
    exact bad _ _ _ (by rw [hwv, if_pos he]) (by simp) (by simp)
  subst he
  rw [if_neg (by simp)] at hwv
  simp -implicitDefEqProofs [go_sem]
  refine Wp.s ?_
  simp -implicitDefEqProofs [go_sem]
  refine SWp.seq (Wp.s ?_)
  simp -implicitDefEqProofs [go_sem, stoC]
  refine CC.le (ys := [.sl .sh 1 (s.img.map imE), .sl .sh 3 ([w].map wrC)]) (.cons (.refl _) (.cons (.sh _ _ _) .nil)) ?_
  have hw1 : ∀ x ∈ [w], x.data.length ≤ 1000000000 := fun x hx => by
    rw [List.mem_singleton] at hx; subst hx; omega
  refine CC.mono (replay_cc _ _ .sh s.img [w] (by have := hs.il; omega) (by simp) hw1) ?_
  rintro _ _ _ ⟨rfl, rfl, rfl⟩
  rw [apR_one (by rw [hok.im]; exact hok.sz) (by rw [hok.im]; exact h1)]
  simp -implicitDefEqProofs [go_sem]
  refine SWp.seq (SWp.seq (Wp.s ?_))
  simp -implicitDefEqProofs [go_sem]
  refine Wp.s ?_
  simp -implicitDefEqProofs [go_sem]
  refine SWp.seq (Wp.s ?_)
  simp -implicitDefEqProofs [go_sem, stoC]
  refine CC.mono (vown_cc _ _ s hs) ?_
  rintro _ _ V1 ⟨k, v, rfl, rfl, hV1, hV2, hV3⟩
  simp -implicitDefEqProofs [go_sem, stoT]
  refine SWp.seq (SWp.drawnT [H.length + 1] [9, 11, 13] (.s 0 .pl <| .s 1 .pl <| .s 2 .pl <| .s 3 .pl <| .s 4 .ld <| .s 5 .pl <| .s 8 .pl <| .s 6 .pl <| .s 7 .pl <| .s 9 .st <| .s 10 .pl <| .s 11 .st <| .s 12 .pl <| .s 13 .st <| .n) (by kernel_rfl) (by kernel_rfl) ?_)
  simp -implicitDefEqProofs [go_sem]
  refine CC.le (ys := [.sl .sh 3 ([w].map wrC)]) (.cons (.sh _ _ _) .nil) ?_
  refine CC.mono (ownWrites_cc _ _ .sh [w] (by simp) (fun x hx => by rw [List.mem_singleton] at hx; subst hx; exact hw)) ?_
  rintro _ _ _ ⟨v2, rfl, rfl, rfl⟩
  simp -implicitDefEqProofs [go_sem]
  have hkV : k < V1.length := (List.getElem?_eq_some_iff.1 hV2).1
  have hpl := hs.pl
  have hkp : ∀ (a b c d e e' : Option (List CV)), Kp [H.length + 1] (H ++ [a, b, c, d, e]) (H ++ [a, b, c, d, e']) := fun a b c d e e' => Kp.keep fun x hx => by
    obtain rfl : x = H.length + 1 := by simpa using hx
    rw [hget, hget]; rfl
  refine ⟨by rw [List.getElem?_append_left hkV]; exact hV2, by omega, hkp _ _ _ _ _ _, hkp _ _ _ _ _ _, hkp _ _ _ _ _ _, ?_⟩
  refine SWp.seq (Wp.s ?_)
  simp -implicitDefEqProofs [go_sem]
  refine ⟨rfl, ?_⟩
  have hV1l : V.length ≤ V1.length := by omega
  refine Wp.s ?_
  simp -implicitDefEqProofs [go_sem]
  rw [hwv]
  have hsn : List.map wrC s.pend ++ [wrC w] = (s.pend ++ [w]).map wrC := by rw [List.map_append]; rfl
  rw [hsn]
  refine Fin.pu ?_ (okV_wtV _ _ _) hokH (by simp) (by first | (rw [List.take_set_of_le hV3, List.take_append_of_le_length hV1l]; exact hV1) | (rw [List.take_append_of_le_length (by simpa using hV1l), List.take_set_of_le hV3]; exact hV1))
  refine .tup (.cons (.agg ?_) (.cons (.refl _) (.cons (.refl _) (.cons (.refl _) .nil))))
  show LeL [.sl .sh 1 (s.sizes.map ic), .v (.int .i64 j.start), .v (.int .i64 j.count), .v (.int .i64 j.head), .v (.int .i64 j.tail), .v (.int .i64 j.first), .sl .sh 1 (j.sizes.map ic), .v (.int .i64 s.data), .v (.int .i64 s.applied), .sl (.own k (v + 1)) 3 ((s.pend ++ [w]).map wrC), .sl .sh 1 ((ap1 s.img w).map imE)] _
  exact .cons (.refl _) (.cons (.refl _) (.cons (.refl _) (.cons (.refl _) (.cons (.refl _) (.cons (.refl _) (.cons (.refl _) (.cons (.refl _) (.cons (.refl _) (.cons (.sh _ _ _) (.cons (.refl _) .nil))))))))))
end Go.Proofs.YtbnkggbpocaaiaaGreatDoor
namespace Go.Proofs.YtbnkggbpocaaiaaGreatDoor
open Go.Proofs
theorem place_cc (H : Hp) (V : List Nat) (s : Sto) (v : Nat) (h : SzOk s.sizes) (hv : v ≤ s.sizes.length) (h0 : 0 ≤ s.data) (h1 : s.data ≤ 100000) : CC Tryz.prog 83 [.agg (stoC s), ci v] H V (Pu (ci (s.data + sumI (s.sizes.take v))) H V) := by
  refine CC.of_swp Tryz.func83 rfl (by kernel_rfl) (by rw [Tryz.ntmps83]; exact len_le _ _ rfl) fun hok hokH => ?_
  clear hok
  have hs := h.sum v
  have hl := h.1
  refine SWp.seq (Wp.s ?_)
  simp -implicitDefEqProofs [go_sem, args0]
  refine SWp.seq (SWp.drawnT [] [] (.s 0 .pl <| .s 1 .pl <| .s 2 .pl <| .s 3 .pl <| .s 4 .pl <| .s 5 .pl <| .s 6 .pl <| .s 7 .pl <| .s 8 .pl <| .n) (by kernel_rfl) (by kernel_rfl) ?_)
  simp -implicitDefEqProofs [go_sem, stoC]
  refine ⟨by omega, ?_⟩
  rw [← List.map_take]
  refine CC.mono (vsum_cc _ _ .sh (s.sizes.take v) (h.take v)) ?_
  rintro _ _ _ ⟨rfl, rfl, rfl⟩
  have w1 : IntKind.i64.wrap (s.data + sumI (s.sizes.take v)) = s.data + sumI (s.sizes.take v) := IntWalk.i64_in _ ⟨by omega, by omega⟩
  simp -implicitDefEqProofs [go_sem, w1]
  refine Wp.s ?_
  simp -implicitDefEqProofs [go_sem]
  exact Fin.pu (.refl _) (by simp [go_sem]) hokH (by simp) (by simp)
def hdU (j : Jrn) (i : Nat) : Int := (j.head + sumI (j.sizes.take i)) % (j.count - 16)
set_option maxRecDepth 8000 in
set_option maxHeartbeats 1600000 in
theorem Release_cc (H : Hp) (V : List Nat) (d : Dk) (j : Jrn) (q : Int) (hd : DkS d) (hl : j.sizes.length ≤ 1000000000) : CC Tryz.prog 84 [.agg (dkC d), .agg (jrC j), ci q] H V (Pu (jtV (relJ d j q)) H V) := by
  refine CC.of_swp Tryz.func84 rfl (by kernel_rfl) (by rw [Tryz.ntmps84]; exact len_le _ _ rfl) fun hok hokH => ?_
  clear hok
  have bad : ∀ (e : Nat) {H' : Hp} {V' : List Nat}, relJ d j q = (zjr, [], e) → H'.take H.length = H → V'.take V.length = V → Fin H.length V.length (Pu (jtV (relJ d j q)) H V) (.tup [.agg zjC, .v (.slice none 0 0), er e]) H' V' := fun e H' V' h1 h2 h3 => by
    rw [h1]
    exact fin_jt zj_le (.nil 3 (by decide)) rfl hokH h2 h3
  refine SWp.seq (Wp.s ?_)
  simp -implicitDefEqProofs [go_sem, args0]
  refine SWp.seq (SWp.seq (Wp.s ?_))
  simp -implicitDefEqProofs [go_sem]
  refine CC.mono (sCheck_cc _ _ d hd) ?_
  rintro _ _ _ ⟨rfl, rfl, rfl⟩
  simp -implicitDefEqProofs [go_sem]
  refine SWp.seq (Wp.s ?_)
  by_cases hc : checkD d = 0
  case neg =>
    simp -implicitDefEqProofs [go_sem, hc]
    refine Wp.s ?_
    simp -implicitDefEqProofs [go_sem]
    exact bad _ (by rw [relJ, if_pos hc]) (by simp) (by simp)
  simp -implicitDefEqProofs [go_sem, hc]
  refine Wp.s ?_
  simp -implicitDefEqProofs [go_sem]
  refine SWp.seq (Wp.s ?_)
  simp -implicitDefEqProofs [go_sem]
  refine CC.mono (examine_cc _ _ j hl) ?_
  rintro _ _ _ ⟨u, rfl, rfl, rfl, hu⟩
  simp -implicitDefEqProofs [go_sem]
  refine SWp.seq (SWp.seq (Wp.s ?_))
  by_cases h : chkJ j = true
  case neg =>
    simp -implicitDefEqProofs [go_sem, h]
    refine Wp.s ?_
    simp -implicitDefEqProofs [go_sem]
    exact bad 3 (by rw [relJ, if_neg (by simp [hc]), if_pos (by simpa using h)]) (by simp) (by simp)
  obtain rfl := hu h
  have hn := chkJ_next h
  have hsu := chkJ_sum h
  have hva := chkJ_val h
  have hv := (validJ_iff _ _).1 hva
  have hfi := chkJ_first h
  simp -implicitDefEqProofs [go_sem, h]
  refine Wp.s ?_
  simp -implicitDefEqProofs [go_sem]
  refine SWp.seq (SWp.seq (Wp.s ?_))
  have w1 : IntKind.i64.wrap (j.first - 1) = j.first - 1 := IntWalk.i64_in _ ⟨by omega, by omega⟩
  by_cases c1 : q < j.first - 1
  · simp -implicitDefEqProofs [go_sem, w1, c1]
    refine Wp.s ?_
    simp -implicitDefEqProofs [go_sem]
    exact bad 2 (by rw [relJ, if_neg (by simp [hc]), if_neg (by simp [h]), if_pos (.inl c1)]) (by simp) (by simp)
  simp -implicitDefEqProofs [go_sem, w1, c1]
  refine CC.mono (next_cc _ _ j _ hn.1 hn.2) ?_
  rintro _ _ _ ⟨rfl, rfl, rfl⟩
  by_cases c2 : nextJ j ≤ q
  · simp -implicitDefEqProofs [go_sem, c2]
    refine Wp.s ?_
    simp -implicitDefEqProofs [go_sem]
    exact bad 2 (by rw [relJ, if_neg (by simp [hc]), if_neg (by simp [h]), if_pos (.inr c2)]) (by simp) (by simp)
  have hnx : nextJ j = j.first + j.sizes.length := rfl
  simp -implicitDefEqProofs [go_sem, c2]
  refine Wp.s ?_
  simp -implicitDefEqProofs [go_sem]
  refine SWp.seq (Wp.s ?_)
  simp -implicitDefEqProofs [go_sem]
  refine CC.mono (own_cc _ _ j _ hl) ?_
  rintro _ _ _ ⟨v, rfl, rfl, rfl⟩
  obtain ⟨n, hnn⟩ := Int.eq_ofNat_of_zero_le (show 0 ≤ q - j.first + 1 by omega)
  have hnl : n ≤ j.sizes.length := by omega
  have w2 : IntKind.i64.wrap (q - j.first) = q - j.first := IntWalk.i64_in _ ⟨by omega, by omega⟩
  have w3 : IntKind.i64.wrap (q - j.first + 1) = (n : Int) := by rw [IntWalk.i64_in _ ⟨by omega, by omega⟩]; omega
  simp -implicitDefEqProofs [go_sem]
  refine SWp.seq (Wp.s ?_)
  simp -implicitDefEqProofs [go_sem, w2, w3]
  have hrel : relJ d j q = if q = j.first - 1 then (j, [], 0) else
      if (storeS d j.start (superJ (hdU j n) (q + 1))).2 ≠ 0 then (zjr, [], (storeS d j.start (superJ (hdU j n) (q + 1))).2)
      else (⟨j.start, j.count, hdU j n, j.tail, q + 1, j.sizes.drop n⟩, (storeS d j.start (superJ (hdU j n) (q + 1))).1, 0) := by
    rw [relJ, if_neg (by simp [hc]), if_neg (by simp [h]), if_neg (by omega)]
    have : (q + 1 - j.first).toNat = n := by omega
    rw [this]; rfl
  refine SWp.seq (SWp.seq (Wp.s ?_))
  by_cases c3 : n = 0
  · subst c3
    simp -implicitDefEqProofs [go_sem]
    refine Wp.s ?_
    simp -implicitDefEqProofs [go_sem]
    rw [hrel, if_pos (by omega)]
    exact fin_jt (.agg (.cons (.refl _) (.cons (.refl _) (.cons (.refl _) (.cons (.refl _) (.cons (.refl _) (.cons (.sh _ _ _) .nil))))))) (.nil 3 (by decide)) rfl hokH (by simp) (by simp)
  rw [if_neg (by omega)] at hrel
  simp -implicitDefEqProofs [go_sem, c3]
  refine Wp.s ?_
  simp -implicitDefEqProofs [go_sem]
  have hjh : 0 ≤ j.head ∧ j.head < j.count - 16 := by
    have := (preJ_iff j).1 ((chkJ_iff j).1 h).2.1
    omega
  refine SWp.join (α := Unit) (fun _ => ([(3, .ptr H.length 0), (6, .ptr (H.length + 2) 0), (10, .ptr (H.length + 3) 0), (12, .ptr (H.length + 4) 0), (13, ci n)], H ++ [some (dkC d), some (jrC j), some zjC, some (stJ j (sumI j.sizes)), some [iv j.start, iv j.count, iv (hdU j n), iv j.tail, iv j.first, .sl (.own V.length v) 1 (j.sizes.map ic)]], V ++ [v])) (fun _ => True) ?_ ?_
  · refine SWp.seq (Wp.s ?_)
    simp -implicitDefEqProofs [go_sem]
    refine ⟨by omega, ?_⟩
    refine SWp.block ?_
    refine SWp.loop (α := Nat) (fun i => ([(3, .ptr H.length 0), (6, .ptr (H.length + 2) 0), (10, .ptr (H.length + 3) 0), (12, .ptr (H.length + 4) 0), (13, ci n), (59, .sl .sh 1 ((j.sizes.take n).map ic)), (60, ci n), (61, ci i)], H ++ [some (dkC d), some (jrC j), some zjC, some (stJ j (sumI j.sizes)), some [iv j.start, iv j.count, iv (hdU j i), iv j.tail, iv j.first, .sl (.own V.length v) 1 (j.sizes.map ic)]], V ++ [v])) (fun i => i ≤ n) (fun i => n - i) 0 (Nat.zero_le _) (Sh.forget ?_ ?_ rfl) ?_
    · simp [go_sem, List.map_take, Nat.min_eq_left hnl]
    · rw [show hdU j 0 = j.head by rw [hdU, List.take_zero]; show (j.head + 0) % _ = _; rw [Int.add_zero, Int.emod_eq_of_lt hjh.1 hjh.2]]
    intro i hi
    dsimp only
    refine SWp.seq (Wp.s ?_)
    simp -implicitDefEqProofs [go_sem]
    refine SWp.seq (Wp.s ?_)
    simp -implicitDefEqProofs [go_sem]
    refine ⟨fun h => ?_, fun h => ?_⟩
    case refine_2 =>
      obtain rfl : i = n := by omega
      exact Sh.forget (by simp [go_sem]) rfl rfl
    have hij : i < j.sizes.length := by omega
    have hsz := (okSz_iff _).1 (List.all_eq_true.1 ((chkJ_iff j).1 ‹chkJ j = true›).2.2.1 _ (List.getElem_mem hij))
    have hL : 0 < j.count - 16 := by omega
    have hb1 := Int.emod_nonneg (j.head + sumI (j.sizes.take i)) (show j.count - 16 ≠ 0 by omega)
    have hb2 := Int.emod_lt_of_pos (j.head + sumI (j.sizes.take i)) hL
    have hnx : (hdU j i + j.sizes[i]) % (j.count - 16) = hdU j (i + 1) := by
      rw [hdU, hdU, sumI_take _ _ hij, Int.emod_add_emod, Int.add_assoc]
    have w4 : IntKind.i64.wrap (hdU j i + j.sizes[i]) = hdU j i + j.sizes[i] := IntWalk.i64_in _ ⟨by unfold hdU; omega, by unfold hdU; omega⟩
    have t4 := Int.tmod_eq_emod_of_nonneg (b := j.count - 16) (show 0 ≤ hdU j i + j.sizes[i] by unfold hdU; omega)
    have hz : ¬ j.count - 16 = 0 := by omega
    have w5 : IntKind.i64.wrap ((i : Int) + 1) = (i : Int) + 1 := IntWalk.i64_in _ ⟨by omega, by omega⟩
    refine SWp.seq (SWp.block (SWp.seq (Wp.s ?_)))
    simp -implicitDefEqProofs [go_sem, h, hij]
    refine ⟨by first | omega | (simp; omega), ?_⟩
    refine SWp.drawnT [] [9] (.s 0 .pl <| .s 1 .pl <| .s 2 .pl <| .s 3 .pl <| .s 4 .pl <| .s 5 .pl <| .s 6 .pl <| .s 7 .pl <| .s 8 .pl <| .s 9 .st <| .n) (by kernel_rfl) (by kernel_rfl) ?_
    simp -implicitDefEqProofs [go_sem, w4]
    refine CC.mono (length_cc _ _ _ _ hva) ?_
    rintro _ _ _ ⟨rfl, rfl, rfl⟩
    simp -implicitDefEqProofs [go_sem, w4, t4, hz, hnx]
    refine Wp.s ?_
    simp -implicitDefEqProofs [go_sem, w5]
    exact ⟨i + 1, by omega, by omega, Sh.forget (by simp [go_sem]) rfl rfl⟩
  rintro _ -
  dsimp only
  refine SWp.seq (SWp.drawnT [] [9, 11] (.s 0 .pl <| .s 1 .pl <| .s 2 .pl <| .s 3 .pl <| .s 4 .pl <| .s 5 .pl <| .s 6 .pl <| .s 7 .pl <| .s 8 .pl <| .s 9 .st <| .s 10 .pl <| .s 11 .st <| .n) (by kernel_rfl) (by kernel_rfl) ?_)
  have w6 : IntKind.i64.wrap (j.first + (n : Int)) = q + 1 := by rw [IntWalk.i64_in _ ⟨by omega, by omega⟩]; omega
  simp -implicitDefEqProofs [go_sem, w6]
  refine ⟨hnl, ?_⟩
  refine SWp.seq (SWp.drawnT [] [] (.s 0 .pl <| .s 1 .pl <| .s 2 .pl <| .s 3 .pl <| .s 4 .pl <| .s 5 .pl <| .s 6 .pl <| .s 7 .pl <| .s 8 .pl <| .s 9 .pl <| .s 10 .pl <| .s 11 .pl <| .s 12 .pl <| .s 13 .pl <| .s 14 .pl <| .s 15 .pl <| .n) (by kernel_rfl) (by kernel_rfl) ?_)
  simp -implicitDefEqProofs [go_sem]
  refine CC.mono (payload_cc _ _ _ _) ?_
  rintro _ _ _ ⟨rfl, rfl, rfl⟩
  simp -implicitDefEqProofs [go_sem]
  refine CC.mono (sStore_cc _ _ d j.start .sh (superJ (hdU j n) (q + 1)) hd) ?_
  rintro _ _ _ ⟨rfl, rfl, rfl⟩
  generalize storeS d j.start (superJ (hdU j n) (q + 1)) = x at hrel ⊢
  obtain ⟨A, e⟩ := x
  dsimp only at hrel ⊢
  simp -implicitDefEqProofs [go_sem, stV]
  refine SWp.seq (SWp.seq (Wp.s ?_))
  by_cases he : e = 0
  case neg =>
    have he' : ¬ (e : Int) = 0 := by omega
    simp -implicitDefEqProofs [go_sem, he, he']
    refine Wp.s ?_
    simp -implicitDefEqProofs [go_sem]
    exact bad e (by rw [hrel, if_pos he]) (by simp) (by simp)
  subst he
  rw [if_neg (by simp)] at hrel
  simp -implicitDefEqProofs [go_sem]
  refine Wp.s ?_
  simp -implicitDefEqProofs [go_sem]
  refine SWp.seq (Wp.s ?_)
  simp -implicitDefEqProofs [go_sem]
  refine Wp.s ?_
  simp -implicitDefEqProofs [go_sem]
  rw [hrel]
  refine fin_jt (.agg (.cons (.refl _) (.cons (.refl _) (.cons (.refl _) (.cons (.refl _) (.cons (.refl _) (.cons ?_ .nil))))))) (.refl _) rfl hokH (by simp) (by simp)
  rw [← List.map_drop]
  exact .sh _ _ _
end Go.Proofs.YtbnkggbpocaaiaaGreatDoor
namespace Go.Proofs.YtbnkggbpocaaiaaGreatDoor
open Go.Proofs
theorem apI_fits : ∀ (ws : List Wr) (l : Img) (i : Nat), (apI l ws i).2.2 = 0 → ∀ w ∈ ws, fitsS (imgSz l) w = 0
  | [], l, i, h, w, hw => by cases hw
  | x :: ws, l, i, h, w, hw => by
    rw [apI] at h
    split at h
    · rename_i q; exact absurd h q
    · rename_i q
      have q' : fitsS (imgSz l) x = 0 := by simpa using q
      have hz : imgSz (ap1 l x) = imgSz l := by
        have := ap1_sz (k := l) (w := x) q'
        have e : ∀ x : Img, imgSz x = (x.map List.length).map (fun n : Nat => (n : Int)) := fun x => by rw [imgSz, List.map_map]; rfl
        rw [e, e, this]
      rcases List.mem_cons.1 hw with rfl | hw
      · exact q'
      · have := apI_fits ws _ _ h w hw
        rwa [hz] at this
theorem apR_fits {l : Img} {ws : List Wr} (h : (apR l ws).2.2 = 0) {w : Wr} (hw : w ∈ ws) : fitsS (imgSz l) w = 0 := by
  unfold apR at h
  split at h
  · rename_i q; exact absurd h q
  · exact apI_fits ws l 0 h w hw
theorem fitsS_in {s : List Int} (hs : sizesE s = 0) {w : Wr} (h : fitsS s w = 0) : ∃ n : Nat, w.volume = n ∧ n < s.length ∧ 0 ≤ w.start ∧ w.start ≤ 4096 ∧ w.data.length ≤ 4096 := by
  obtain ⟨s1, s2, s3⟩ := sizesE_0 hs
  unfold fitsS at h
  split at h
  · cases h
  · rename_i h1
    split at h
    · cases h
    · rename_i h2
      split at h
      · cases h
      · rename_i h3
        obtain ⟨n, hn⟩ := Int.eq_ofNat_of_zero_le (show 0 ≤ w.volume by omega)
        have hns : n < s.length := by omega
        rw [hn, Int.toNat_natCast, List.getD_eq_getElem?_getD, List.getElem?_eq_getElem hns, Option.getD_some] at h3
        have := s3 _ (List.getElem_mem hns)
        exact ⟨n, hn, hns, by omega, by omega, by omega⟩
theorem storeS_len (d : Dk) (a : Int) (p : List UInt8) : (storeS d a p).1.length ≤ 2 := by
  unfold storeS
  repeat' split
  all_goals simp
theorem relJ_len (d : Dk) (j : Jrn) (q : Int) : (relJ d j q).2.1.length ≤ 2 := by
  have := storeS_len d j.start (superJ ((j.head + sumI (j.sizes.take (q + 1 - j.first).toNat)) % (j.count - 16)) (q + 1))
  unfold relJ
  dsimp only
  repeat' split
  all_goals first | exact Nat.zero_le _ | exact this
def flV (x : Sto × List Opn × Nat) : CV := .tup [.agg (stoC x.1), opsV x.2.1, er x.2.2]
theorem okV_flV (i j : Nat) (x : Sto × List Opn × Nat) : okV i j (flV x) := by
  rw [flV]; simp [go_sem, okL, okV, okL_stoC, okE_ops]
def opU (s : Sto) (i : Nat) : List (List CV) := ((s.pend.take i).map (opOf s)).map opC
theorem opU_len (s : Sto) (i : Nat) (h : i ≤ s.pend.length) : (opU s i).length = i := by rw [opU, List.length_map, List.length_map, List.length_take]; omega
@[go_sem] theorem opU_0 (s : Sto) : opU s 0 = [] := rfl
theorem opU_s {s : Sto} {i : Nat} (h : i < s.pend.length) : opU s (i + 1) = opU s i ++ [opC (opOf s s.pend[i])] := by
  rw [opU, List.take_succ_eq_append_getElem h, List.map_append, List.map_append]; rfl
@[go_sem] theorem okE_opU (i j : Nat) (s : Sto) (k : Nat) : okE i j (opU s k) = True := by rw [opU, okE_ops]
set_option maxRecDepth 8000 in
set_option maxHeartbeats 1600000 in
theorem vFlush_cc (H : Hp) (V : List Nat) (d : Dk) (s : Sto) (hd : DkS d) (hs : StS s) : CC Tryz.prog 26 [.agg (dkC d), .agg (stoC s)] H V (Pu (flV (flushV d s)) H V) := by
  refine CC.of_swp Tryz.func26 rfl (by kernel_rfl) (by rw [Tryz.ntmps26]; exact len_le _ _ rfl) fun hok hokH => ?_
  clear hok
  have bad : ∀ (e : Nat) (H' : Hp) (V' : List Nat), flushV d s = (zsto, [], e) → H'.take H.length = H → V'.take V.length = V → Fin H.length V.length (Pu (flV (flushV d s)) H V) (.tup [.agg zstC, .v (.slice none 0 0), er e]) H' V' := fun e H' V' h1 h2 h3 => by
    rw [h1]
    exact Fin.pu (.tup (.cons (.agg zsto_le) (.cons (.nil 3 (by decide)) (.cons (.refl _) .nil)))) (okV_flV _ _ _) hokH h2 h3
  refine SWp.seq (Wp.s ?_)
  simp -implicitDefEqProofs [go_sem, args0]
  refine SWp.seq (SWp.seq (Wp.s ?_))
  simp -implicitDefEqProofs [go_sem]
  refine CC.mono (sCheck_cc _ _ d hd) ?_
  rintro _ _ _ ⟨rfl, rfl, rfl⟩
  simp -implicitDefEqProofs [go_sem]
  refine SWp.seq (Wp.s ?_)
  by_cases hc : checkD d = 0
  case neg =>
    simp -implicitDefEqProofs [go_sem, hc]
    refine Wp.s ?_
    simp -implicitDefEqProofs [go_sem]
    exact bad _ _ _ (by rw [flushV, if_pos hc]) (by simp) (by simp)
  simp -implicitDefEqProofs [go_sem, hc]
  refine Wp.s ?_
  simp -implicitDefEqProofs [go_sem]
  refine SWp.seq (SWp.seq (Wp.s ?_))
  simp -implicitDefEqProofs [go_sem]
  refine CC.mono (vCheck_cc _ _ s hs) ?_
  rintro _ _ _ ⟨rfl, rfl, rfl⟩
  simp -implicitDefEqProofs [go_sem]
  refine SWp.seq (Wp.s ?_)
  by_cases h0 : chkV s = 0
  case neg =>
    simp -implicitDefEqProofs [go_sem, h0]
    refine Wp.s ?_
    simp -implicitDefEqProofs [go_sem]
    exact bad _ _ _ (by rw [flushV, if_neg (by simp [hc]), if_pos h0]) (by simp) (by simp)
  have hok := chkV_ok h0
  have hz := SzOk.of hok.sz
  have hsm := hz.sum'
  have hl8 := (sizesE_0 hok.sz).2.1
  have hJ := hok.A.j
  have hva := chkJ_val hJ
  have hv := (validJ_iff _ _).1 hva
  have hA := hok.A.a
  have hB := hok.A.b
  have hd1 : s.data = s.jr.count := Classical.byContradiction fun e => hA (.inr (.inl e))
  have hn := chkJ_next hJ
  simp -implicitDefEqProofs [go_sem, h0]
  refine Wp.s ?_
  simp -implicitDefEqProofs [go_sem]
  refine SWp.seq (SWp.seq (SWp.drawnT [] [] (.s 0 .pl <| .s 1 .pl <| .s 2 .pl <| .s 3 .pl <| .s 4 .pl <| .s 5 .pl <| .s 6 .pl <| .s 7 .pl <| .s 8 .pl <| .n) (by kernel_rfl) (by kernel_rfl) ?_))
  simp -implicitDefEqProofs [go_sem, stoC]
  refine CC.mono (place_cc _ _ s s.sizes.length hz (Nat.le_refl _) (by omega) (by omega)) ?_
  rintro _ _ _ ⟨rfl, rfl, rfl⟩
  rw [List.take_length]
  have e1 : flushV d s = if (d.stable.length : Int) < s.data + sumI s.sizes then (zsto, [], 2)
      else if s.pend.length = 0 then (s, [], 0)
      else if (relJ d s.jr (nextJ s.jr - 1)).2.2 ≠ 0 then (zsto, [], (relJ d s.jr (nextJ s.jr - 1)).2.2)
      else (⟨s.sizes, (relJ d s.jr (nextJ s.jr - 1)).1, s.data, nextJ s.jr - 1, [], s.img⟩, s.pend.map (opOf s) ++ opS :: (relJ d s.jr (nextJ s.jr - 1)).2.1, 0) := by
    rw [flushV, if_neg (by simp [hc]), if_neg (by simp [h0])]
  by_cases h1 : (d.stable.length : Int) < s.data + sumI s.sizes
  · simp -implicitDefEqProofs [go_sem, h1]
    refine Wp.s ?_
    simp -implicitDefEqProofs [go_sem]
    exact bad _ _ _ (by rw [e1, if_pos h1]) (by simp) (by simp)
  rw [if_neg h1] at e1
  simp -implicitDefEqProofs [go_sem, h1]
  refine Wp.s ?_
  simp -implicitDefEqProofs [go_sem]
  refine SWp.seq (Wp.s ?_)
  simp -implicitDefEqProofs [go_sem, stoC]
  refine CC.mono (vown_cc _ _ s hs) ?_
  rintro _ _ V1 ⟨k, v, rfl, rfl, hV1, hV2, hV3⟩
  have hkV : k < V1.length := (List.getElem?_eq_some_iff.1 hV2).1
  have hV1l : V.length ≤ V1.length := by omega
  have hpl := hs.pl
  simp -implicitDefEqProofs [go_sem, stoT]
  refine SWp.seq (SWp.seq (Wp.s ?_))
  by_cases h2 : s.pend.length = 0
  · simp -implicitDefEqProofs [go_sem, h2]
    refine Wp.s ?_
    simp -implicitDefEqProofs [go_sem]
    rw [e1, if_pos h2]
    refine Fin.pu (.tup (.cons (.agg ?_) (.cons (.nil 3 (by decide)) (.cons (.refl _) .nil)))) (okV_flV _ _ _) hokH (by simp) hV1
    exact .cons (.refl _) (.cons (.refl _) (.cons (.refl _) (.cons (.refl _) (.cons (.refl _) (.cons (.refl _) (.cons (.refl _) (.cons (.refl _) (.cons (.refl _) (.cons (.sh _ _ _) (.cons (.refl _) .nil))))))))))
  rw [if_neg h2] at e1
  have w1 : IntKind.i64.wrap (nextJ s.jr - 1) = nextJ s.jr - 1 := IntWalk.i64_in _ ⟨by unfold nextJ; omega, by unfold nextJ; omega⟩
  simp -implicitDefEqProofs [go_sem, h2]
  refine Wp.s ?_
  simp -implicitDefEqProofs [go_sem]
  refine SWp.seq (Wp.s ?_)
  simp -implicitDefEqProofs [go_sem, stoC]
  refine CC.mono (JNext_cc _ _ s.jr hs.jl) ?_
  rintro _ _ _ ⟨rfl, rfl, rfl⟩
  rw [nxJ_ok hJ]
  simp -implicitDefEqProofs [go_sem, w1]
  refine SWp.seq (Wp.s ?_)
  simp -implicitDefEqProofs [go_sem, stoC]
  refine CC.mono (Release_cc _ _ d s.jr (nextJ s.jr - 1) hd hs.jl) ?_
  rintro _ _ _ ⟨rfl, rfl, rfl⟩
  generalize hrl : relJ d s.jr (nextJ s.jr - 1) = x at e1 ⊢
  obtain ⟨j, A, e⟩ := x
  dsimp only at e1 ⊢
  have hAl : A.length ≤ 2 := by have := relJ_len d s.jr (nextJ s.jr - 1); rw [hrl] at this; exact this
  simp -implicitDefEqProofs [go_sem, jtV]
  refine SWp.seq (SWp.seq (Wp.s ?_))
  by_cases he : e = 0
  case neg =>
    have he' : ¬ (e : Int) = 0 := by omega
    simp -implicitDefEqProofs [go_sem, he, he']
    refine Wp.s ?_
    simp -implicitDefEqProofs [go_sem]
    exact bad _ _ _ (by rw [e1, if_pos he]) (by simp) (by simp [hV1])
  subst he
  rw [if_neg (by simp)] at e1
  simp -implicitDefEqProofs [go_sem]
  refine Wp.s ?_
  simp -implicitDefEqProofs [go_sem]
  refine SWp.seq (Wp.s ?_)
  simp -implicitDefEqProofs [go_sem]
  refine SWp.join (α := Unit) (fun _ => ([(3, .ptr (H.length + 1) 0), (4, .ptr (H.length + 2) 0), (9, .ptr (H.length + 3) 0), (10, ci (nextJ s.jr - 1)), (11, .ptr (H.length + 4) 0), (12, opsV A), (14, .sl (.own V1.length s.pend.length) 3 ((s.pend.map (opOf s)).map opC))], H ++ [some (dkC d), some (stoC s), some zstC, some (stoT s (.sl (.own k v) 3 (s.pend.map wrC))), some (jrC j)], V1 ++ [s.pend.length])) (fun _ => True) ?_ ?_
  · refine SWp.seq (Wp.s ?_)
    simp -implicitDefEqProofs [go_sem]
    refine SWp.block ?_
    refine SWp.loop (α := Nat) (fun i => ([(3, .ptr (H.length + 1) 0), (4, .ptr (H.length + 2) 0), (9, .ptr (H.length + 3) 0), (10, ci (nextJ s.jr - 1)), (11, .ptr (H.length + 4) 0), (12, opsV A), (14, .sl (.own V1.length i) 3 (opU s i)), (64, .sl (.own k v) 3 (s.pend.map wrC)), (65, ci s.pend.length), (66, ci i)], H ++ [some (dkC d), some (stoC s), some zstC, some (stoT s (.sl (.own k v) 3 (s.pend.map wrC))), some (jrC j)], V1 ++ [i])) (fun i => i ≤ s.pend.length) (fun i => s.pend.length - i) 0 (Nat.zero_le _) (Sh.tokT (by simp [go_sem]) rfl rfl) ?_
    intro i hi
    dsimp only
    refine SWp.seq (Wp.s ?_)
    simp -implicitDefEqProofs [go_sem]
    refine SWp.seq (Wp.s ?_)
    simp -implicitDefEqProofs [go_sem]
    refine ⟨fun h => ?_, fun h => ?_⟩
    case refine_2 =>
      obtain rfl : i = s.pend.length := by omega
      exact Sh.forget (by simp [go_sem, opU]) rfl rfl
    have hf := apR_fits hok.e1 (List.getElem_mem h)
    rw [imgSz_of hok.sz] at hf
    obtain ⟨n, f1, f2, f3, f4, f5⟩ := fitsS_in hok.sz hf
    have hsu := hz.sum n
    have w2 : IntKind.i64.wrap (s.data + sumI (s.sizes.take n) + s.pend[i].start) = s.data + sumI (s.sizes.take n) + s.pend[i].start := IntWalk.i64_in _ ⟨by omega, by omega⟩
    have w5 : IntKind.i64.wrap ((i : Int) + 1) = (i : Int) + 1 := IntWalk.i64_in _ ⟨by omega, by omega⟩
    refine SWp.seq (SWp.block (SWp.seq (Wp.s ?_)))
    simp -implicitDefEqProofs [go_sem, h]
    refine SWp.drawnT [] [] (.s 0 .pl <| .s 1 .pl <| .s 2 .pl <| .s 3 .pl <| .s 5 .pl <| .s 6 .pl <| .s 8 .pl <| .s 9 .pl <| .s 4 .pl <| .s 7 .pl <| .s 10 .pl <| .s 11 .pl <| .s 12 .pl <| .s 13 .pl <| .n) (by kernel_rfl) (by kernel_rfl) ?_
    simp -implicitDefEqProofs [go_sem, f1]
    refine CC.mono (place_cc _ _ s n hz (by omega) (by omega) (by omega)) ?_
    rintro _ _ _ ⟨rfl, rfl, rfl⟩
    simp -implicitDefEqProofs [go_sem, w2, opU_len s i hi]
    refine ⟨by omega, ?_⟩
    refine Wp.s ?_
    simp -implicitDefEqProofs [go_sem, w5]
    have hop : opC (opOf s s.pend[i]) = [ci 0, ci (s.data + sumI (s.sizes.take n) + s.pend[i].start), secsV s.pend[i].data] := by rw [opOf, f1]; rfl
    have hkk : k < V1.length + 1 := by omega
    refine ⟨i + 1, by omega, by omega, Sh.trim (L := [some (dkC d), some (stoC s), some zstC, some (stoT s (.sl (.own k v) 3 (s.pend.map wrC))), some (jrC j)]) ?_ ?_ hokH ?_ (by simp; omega) (by simp) (by simp)⟩
    · simp [go_sem, opU_s h, hop]
    · simp [go_sem, okE_wrs, okE_ops, okE_opU, hkk]
    · simp [go_sem, stoT, zstC, okL, okV, okTk, okE_ints, okE_wrs, okE_ims, okL_stoC, okL_jrC, hkk]
  rintro _ -
  dsimp only
  refine SWp.seq (Wp.s ?_)
  simp -implicitDefEqProofs [go_sem, stoT]
  refine SWp.seq (SWp.drawnT [] [7] (.s 0 .pl <| .s 1 .pl <| .s 4 .pl <| .s 2 .pl <| .s 3 .pl <| .s 5 .pl <| .s 6 .pl <| .s 7 .st <| .s 8 .pl <| .s 9 .pl <| .n) (by kernel_rfl) (by kernel_rfl) ?_)
  simp -implicitDefEqProofs [go_sem]
  refine CC.mono (vsync_cc _ _) ?_
  rintro _ _ _ ⟨rfl, rfl, rfl⟩
  simp -implicitDefEqProofs [go_sem]
  refine CC.le (ys := [.sl .sh 3 ((s.pend.map (opOf s)).map opC), .sl .sh 1 ([[opS], A].map opE)]) (.cons (by rw [List.map_map]; exact .sh _ _ _) (.cons (.sle _ _ (.cons (.cons (.sh _ _ _) .nil) (.cons (.cons (.refl _) .nil) .nil))) .nil)) ?_
  refine CC.mono (operations_cc _ _ .sh (s.pend.map (opOf s)) [[opS], A] (by simp) (by simp [catO]; omega)) ?_
  rintro _ _ _ ⟨rfl, rfl, rfl⟩
  simp -implicitDefEqProofs [go_sem]
  refine ⟨rfl, ?_⟩
  refine Wp.s ?_
  simp -implicitDefEqProofs [go_sem]
  rw [e1]
  have hcat : catO [List.map (opOf s) s.pend, [opS], A] = s.pend.map (opOf s) ++ opS :: A := by simp [catO]
  rw [hcat]
  refine Fin.pu (.tup (.cons (.agg ?_) (.cons (.refl _) (.cons (.refl _) .nil)))) (okV_flV _ _ _) hokH (by simp) (by simp [List.take_append_of_le_length hV1l, hV1])
  show LeL [.sl .sh 1 (s.sizes.map ic), .v (.int .i64 j.start), .v (.int .i64 j.count), .v (.int .i64 j.head), .v (.int .i64 j.tail), .v (.int .i64 j.first), .sl .sh 1 (j.sizes.map ic), .v (.int .i64 s.data), .v (.int .i64 (nextJ s.jr - 1)), .v (.slice none 0 0), .sl .sh 1 (s.img.map imE)] _
  exact .cons (.refl _) (.cons (.refl _) (.cons (.refl _) (.cons (.refl _) (.cons (.refl _) (.cons (.refl _) (.cons (.refl _) (.cons (.refl _) (.cons (.refl _) (.cons (.nil 3 (by decide)) (.cons (.refl _) .nil))))))))))
end Go.Proofs.YtbnkggbpocaaiaaGreatDoor
namespace Go.Proofs.YtbnkggbpocaaiaaGreatDoor
open Go.Proofs
theorem sizeV_ok {l : List Int} {n : Int} (h : (sizeV l n).2 = 0) : sizesE l = 0 ∧ 20 ≤ n ∧ n ≤ 4096 - sumI l ∧ sizeV l n = (n + sumI l, 0) := by
  unfold sizeV at h ⊢
  split at h
  · rename_i q; exact absurd h q
  · rename_i q
    split at h
    · cases h
    · rename_i q2
      rw [if_neg q, if_neg q2]
      exact ⟨by simpa using q, by omega, by omega, rfl⟩
set_option maxRecDepth 8000 in
set_option maxHeartbeats 1600000 in
theorem vFormat_cc (H : Hp) (V : List Nat) (l : List Int) (n : Int) (hl : l.length ≤ 9223372036854775807) : CC Tryz.prog 14 [.sl .sh 1 (l.map ic), ci n] H V (Pu (flV (fmtV l n)) H V) := by
  refine CC.of_swp Tryz.func14 rfl (by kernel_rfl) (by rw [Tryz.ntmps14]; exact len_le _ _ rfl) fun hok hokH => ?_
  clear hok
  have bad : ∀ (e : Nat) (H' : Hp) (V' : List Nat), fmtV l n = (zsto, [], e) → H'.take H.length = H → V'.take V.length = V → Fin H.length V.length (Pu (flV (fmtV l n)) H V) (.tup [.agg zstC, .v (.slice none 0 0), er e]) H' V' := fun e H' V' h1 h2 h3 => by
    rw [h1]
    exact Fin.pu (.tup (.cons (.agg zsto_le) (.cons (.nil 3 (by decide)) (.cons (.refl _) .nil)))) (okV_flV _ _ _) hokH h2 h3
  refine SWp.seq (Wp.s ?_)
  simp -implicitDefEqProofs [go_sem, args0]
  refine SWp.seq (SWp.seq (Wp.s ?_))
  simp -implicitDefEqProofs [go_sem]
  refine CC.mono (vSize_cc _ _ .sh l n hl) ?_
  rintro _ _ _ ⟨rfl, rfl, rfl⟩
  simp -implicitDefEqProofs [go_sem]
  refine SWp.seq (Wp.s ?_)
  by_cases h0 : (sizeV l n).2 = 0
  case neg =>
    have h0' : ¬ (((sizeV l n).2 : Nat) : Int) = 0 := by omega
    simp -implicitDefEqProofs [go_sem, h0, h0']
    refine Wp.s ?_
    simp -implicitDefEqProofs [go_sem]
    exact bad _ _ _ (by rw [fmtV, if_pos h0]) (by simp) (by simp)
  obtain ⟨hE, hn1, hn2, hsv⟩ := sizeV_ok h0
  have hz := SzOk.of hE
  have hsm := hz.sum'
  have hl8 := (sizesE_0 hE).2.1
  have hva : validJ 0 n = true := (validJ_iff _ _).2 ⟨by omega, by omega, by omega, by omega⟩
  simp -implicitDefEqProofs [go_sem, h0]
  refine Wp.s ?_
  simp -implicitDefEqProofs [go_sem]
  refine SWp.seq (Wp.s ?_)
  simp -implicitDefEqProofs [go_sem]
  refine CC.mono (New_cc _ _ .sh l hl) ?_
  rintro _ _ _ ⟨rfl, rfl, rfl⟩
  simp -implicitDefEqProofs [go_sem, hE]
  refine SWp.seq (SWp.seq (Wp.s ?_))
  simp -implicitDefEqProofs [go_sem]
  refine Wp.s ?_
  simp -implicitDefEqProofs [go_sem]
  refine SWp.seq (Wp.s ?_)
  simp -implicitDefEqProofs [go_sem]
  refine CC.mono (Format_cc _ _ 0 n) ?_
  rintro _ _ _ ⟨rfl, rfl, rfl⟩
  have hfj := formatJ_ok hva
  have hfm : fmtV l n = (⟨l, (formatJ 0 n).1, n, 0, [], imOf l⟩, opW n (List.replicate (sumI l).toNat sec0) :: opS :: (formatJ 0 n).2.1, 0) := by rw [fmtV, if_neg (by simp [h0])]
  have hfe : (formatJ 0 n).2.2 = 0 := by rw [hfj]
  have hfl : (formatJ 0 n).2.1.length = 6 := by rw [hfj]; rfl
  generalize formatJ 0 n = x at hfm hfe hfl ⊢
  obtain ⟨j, A, e⟩ := x
  dsimp only at hfm hfe hfl ⊢
  subst hfe
  simp -implicitDefEqProofs [go_sem, jtV]
  refine SWp.seq (SWp.seq (Wp.s ?_))
  simp -implicitDefEqProofs [go_sem]
  refine Wp.s ?_
  simp -implicitDefEqProofs [go_sem]
  refine SWp.seq (Wp.s ?_)
  simp -implicitDefEqProofs [go_sem]
  refine CC.mono (vsum_cc _ _ .sh l hz) ?_
  rintro _ _ _ ⟨rfl, rfl, rfl⟩
  simp -implicitDefEqProofs [go_sem, -List.reduceReplicate]
  refine ⟨by omega, by omega, ?_⟩
  have hz2 := zeros_secs (sumI l).toNat
  simp only [List.map_cons, List.map_nil] at hz2
  rw [hz2]
  refine SWp.seq (SWp.drawnT [H.length + 1, H.length + 3] [11, 12] (.s 0 .pl <| .s 2 .ld <| .s 3 .pl <| .s 4 .pl <| .s 6 .ld <| .s 9 .pl <| .s 10 .pl <| .s 1 .pl <| .s 5 .pl <| .s 7 .pl <| .s 8 .pl <| .s 11 .st <| .s 12 .st <| .s 13 .pl <| .s 14 .pl <| .n) (by kernel_rfl) (by kernel_rfl) ?_)
  simp -implicitDefEqProofs [go_sem]
  refine CC.mono (vcloneInt_cc _ _ .sh l (by omega)) ?_
  rintro _ _ _ ⟨rfl, rfl, rfl⟩
  simp -implicitDefEqProofs [go_sem]
  refine CC.mono (vsync_cc _ _) ?_
  rintro _ _ _ ⟨rfl, rfl, rfl⟩
  simp -implicitDefEqProofs [go_sem]
  obtain ⟨Z, hZ⟩ : ∃ Z, Z = List.replicate (sumI l).toNat sec0 := ⟨_, rfl⟩
  refine CC.let_go (ys := [.sl .sh 3 ([opW n (List.replicate (sumI l).toNat sec0), opS].map opC), .sl .ti 1 ([A].map opE)]) (H.length + 2) (secsF (List.replicate (sumI l).toNat sec0)) (hget _ _ 2) (.cons (.sl _ _ (.cons (.cons (.refl _) (.cons (.refl _) (.cons (Fy.zeros _ _) .nil))) (.cons (FyL.rfl' _ _ _) .nil))) (.cons (.refl _) .nil)) ?_
  refine CC.mono (operations_cc _ _ .ti [opW n (List.replicate (sumI l).toNat sec0), opS] [A] (by simp) (by simp [catO]; omega)) ?_
  rintro _ _ _ ⟨rfl, rfl, rfl⟩
  simp -implicitDefEqProofs [go_sem]
  have hkp : ∀ (a b c c' d a' : Option (List CV)), Kp [H.length + 1, H.length + 3] (H ++ [a, b, c, d]) (H ++ [a', b, c', d]) := fun a b c c' d a' => Kp.keep fun x hx => by
    rcases List.mem_cons.1 hx with rfl | hx
    · rw [hget, hget]; rfl
    · obtain rfl : x = H.length + 3 := by simpa using hx
      rw [hget, hget]; rfl
  refine ⟨hkp _ _ _ _ _ _, rfl, hkp _ _ _ _ _ _, ?_⟩
  refine Wp.s ?_
  simp -implicitDefEqProofs [go_sem]
  have hcat : catO [[opW n (List.replicate (sumI l).toNat sec0), opS], A] = opW n (List.replicate (sumI l).toNat sec0) :: opS :: A := by simp [catO]
  rw [hcat, hfm]
  refine Fin.pu (.tup (.cons (.agg ?_) (.cons (.refl _) (.cons (.refl _) .nil)))) (okV_flV _ _ _) hokH (by simp) (by simp)
  show LeL [.sl .sh 1 (l.map ic), .v (.int .i64 j.start), .v (.int .i64 j.count), .v (.int .i64 j.head), .v (.int .i64 j.tail), .v (.int .i64 j.first), .sl .sh 1 (j.sizes.map ic), .v (.int .i64 n), .v (.int .i64 0), .v (.slice none 0 0), .sl .sh 1 ((imOf l).map imE)] _
  exact .cons (.refl _) (.cons (.refl _) (.cons (.refl _) (.cons (.refl _) (.cons (.refl _) (.cons (.refl _) (.cons (.refl _) (.cons (.refl _) (.cons (.refl _) (.cons (.nil 3 (by decide)) (.cons (.refl _) .nil))))))))))
def ioU (l : List Int) (i : Nat) : List (List CV) := ((imOf l).take i).map imE
@[go_sem] theorem ioU_0 (l : List Int) : ioU l 0 = [] := rfl
@[go_sem] theorem okE_ioU (i j : Nat) (l : List Int) (k : Nat) : okE i j (ioU l k) = True := by rw [ioU, okE_ims]
theorem rNew_cc (H : Hp) (V : List Nat) (l : List Int) (hl : l.length ≤ 9223372036854775807) : CC Tryz.prog 50 [.sl .sh 1 (l.map ic)] H V (Pu (.tup [imV (if sizesE l ≠ 0 then [] else imOf l), er (sizesE l)]) H V) := by
  refine CC.of_swp Tryz.func50 rfl (by kernel_rfl) (by rw [Tryz.ntmps50]; exact len_le _ _ rfl) fun hok hokH => ?_
  clear hok
  refine SWp.seq (Wp.s ?_)
  simp -implicitDefEqProofs [go_sem, args0]
  refine SWp.seq (SWp.seq (Wp.s ?_))
  simp -implicitDefEqProofs [go_sem]
  refine CC.mono (refSizes_cc _ _ .sh l hl) ?_
  rintro _ _ _ ⟨rfl, rfl, rfl⟩
  simp -implicitDefEqProofs [go_sem]
  refine SWp.seq (Wp.s ?_)
  by_cases h0 : sizesE l = 0
  case neg =>
    simp -implicitDefEqProofs [go_sem, h0]
    refine Wp.s ?_
    simp -implicitDefEqProofs [go_sem]
    exact Fin.pu (.tup (.cons (.nil 1 (by decide)) (.cons (.refl _) .nil))) (by simp [go_sem, okE]) hokH (by simp) (by simp)
  obtain ⟨s1, s2, s3⟩ := sizesE_0 h0
  simp -implicitDefEqProofs [go_sem, h0]
  refine Wp.s ?_
  simp -implicitDefEqProofs [go_sem]
  refine SWp.seq (Wp.s ?_)
  simp -implicitDefEqProofs [go_sem]
  have hil : (imOf l).length = l.length := imOf_len l
  refine SWp.join (α := Unit) (fun _ => ([(5, .sl (.own V.length l.length) 1 (bxs H.length (imOf l)))], H ++ imH (imOf l), V ++ [l.length])) (fun _ => True) ?_ ?_
  · refine SWp.seq (Wp.s ?_)
    simp -implicitDefEqProofs [go_sem]
    refine SWp.block ?_
    refine SWp.loop (α := Nat) (fun i => ([(0, .sl .sh 1 (l.map ic)), (5, .sl (.own V.length i) 1 (bxs H.length ((imOf l).take i))), (6, ci i)], H ++ imH ((imOf l).take i), V ++ [i])) (fun i => i ≤ l.length) (fun i => l.length - i) 0 (Nat.zero_le _) (Sh.tokT (by simp [go_sem, bxs]) (by simp [imH]) rfl) ?_
    intro i hi
    dsimp only
    refine SWp.seq (SWp.seq (Wp.s ?_))
    simp -implicitDefEqProofs [go_sem]
    refine Wp.s ?_
    simp -implicitDefEqProofs [go_sem]
    refine ⟨fun h => ?_, fun h => ?_⟩
    case refine_2 =>
      obtain rfl : i = l.length := by omega
      exact Sh.forget (by rw [List.take_of_length_le (by omega)]; simp [go_sem]) (by rw [List.take_of_length_le (by omega)]) rfl
    have hn := s3 _ (List.getElem_mem h)
    refine SWp.seq (SWp.block (Wp.s ?_))
    have hmn : min i l.length = i := Nat.min_eq_left (by omega)
    simp -implicitDefEqProofs [go_sem, -List.reduceReplicate, h, hmn]
    refine ⟨by omega, by omega, by omega, ?_⟩
    have hz2 := zeros_secs l[i].toNat
    simp only [List.map_cons, List.map_nil] at hz2
    rw [hz2]
    have w5 : IntKind.i64.wrap ((i : Int) + 1) = (i : Int) + 1 := IntWalk.i64_in _ ⟨by omega, by omega⟩
    have htk : (imOf l).take (i + 1) = (imOf l).take i ++ [zer l[i].toNat] := by
      rw [List.take_succ_eq_append_getElem (by omega)]; simp [imOf]
    refine Wp.s ?_
    simp -implicitDefEqProofs [go_sem, w5]
    refine ⟨i + 1, by omega, by omega, Sh.forget ?_ ?_ (by simp)⟩
    · rw [htk, bxs_snoc]; simp [go_sem, hmn]
    · rw [htk, imH, imH, List.map_append]; rfl
  rintro _ -
  dsimp only
  refine Wp.s ?_
  simp -implicitDefEqProofs [go_sem]
  obtain ⟨H', h1, h2⟩ := gst_bxs (n := 1) (nb := H.length) (nv := V.length) (b := H.length) (V := V ++ [l.length]) (cs := [er 0]) (imOf l) [] (H ++ imH (imOf l)) (.own V.length l.length) (fun j hj => imH_get H _ j hj)
  refine ⟨_, H, V, Gst.trans h2 ?_, ⟨rfl, rfl, rfl⟩⟩
  rw [List.take_left] at h1
  have := Gst.cut (n := 1) (nb := H.length) (nv := V.length) (T := [(0, .tup [imV (imOf l), er 0])]) (H := H') (V := V ++ [l.length]) H.length V.length (Nat.le_refl _) (Nat.le_refl _) (fun p hp => by simp at hp; subst hp; simp [go_sem, okL, okV]) (by rw [h1]; exact hokH)
  rwa [h1, List.take_left] at this
end Go.Proofs.YtbnkggbpocaaiaaGreatDoor
namespace Go.Proofs.YtbnkggbpocaaiaaGreatDoor
open Go.Proofs
end Go.Proofs.YtbnkggbpocaaiaaGreatDoor
namespace Go.Proofs.YtbnkggbpocaaiaaGreatDoor
open Go.Proofs
theorem SameVol_cc (H : Hp) (V : List Nat) (t1 t2 : Tk) (x y : List Sec) (hl : x.length ≤ 1000000000) : CC Tryz.prog 85 [.sl t1 8 (x.map secC), .sl t2 8 (y.map secC)] H V (Pu (.v (.bool (decide (x = y)))) H V) := by
  refine CC.of_swp Tryz.func85 rfl (by kernel_rfl) (by rw [Tryz.ntmps85]; exact len_le _ _ rfl) fun hok hokH => ?_
  clear hok
  refine SWp.seq (Wp.s ?_)
  simp -implicitDefEqProofs [go_sem, args0]
  refine SWp.seq (SWp.seq (Wp.s ?_))
  by_cases hlen : x.length = y.length
  case neg =>
    have hlen' : ¬ (x.length : Int) = (y.length : Int) := by omega
    simp -implicitDefEqProofs [go_sem, hlen']
    refine Wp.s ?_
    simp -implicitDefEqProofs [go_sem, hlen, hlen']
    exact Fin.bool (by simp [show x ≠ y from fun e => hlen (by rw [e])]) hokH (by simp) (by simp)
  simp -implicitDefEqProofs [go_sem, hlen]
  refine Wp.s ?_
  simp -implicitDefEqProofs [go_sem, hlen]
  refine SWp.join (α := Unit) (fun _ => ([], H, V)) (fun _ => x = y) ?_ ?_
  · refine SWp.seq (Wp.s ?_)
    simp -implicitDefEqProofs [go_sem]
    refine SWp.block ?_
    refine SWp.loop (α := Nat) (fun i => ([(0, .sl t1 8 (x.map secC)), (1, .sl t2 8 (y.map secC)), (5, ci i)], H, V)) (fun i => i ≤ x.length ∧ x.take i = y.take i) (fun i => x.length - i) 0 ⟨Nat.zero_le _, rfl⟩ (Sh.forget (by simp [go_sem]) rfl rfl) ?_
    rintro i ⟨hi, hp⟩
    dsimp only
    refine SWp.seq (SWp.seq (Wp.s ?_))
    simp -implicitDefEqProofs [go_sem]
    refine Wp.s ?_
    simp -implicitDefEqProofs [go_sem]
    refine ⟨fun h => ?_, fun h => ⟨eq_of_take hlen h hp, Sh.forget (by simp [go_sem]) rfl rfl⟩⟩
    have h2 : i < y.length := by omega
    refine SWp.seq (SWp.block (SWp.seq (SWp.drawnT [] [] (.s 0 .pl <| .s 1 .pl <| .s 2 .pl <| .s 3 .pl <| .s 4 .pl <| .s 5 .pl <| .s 6 .pl <| .s 7 .pl <| .s 8 .pl <| .n) (by kernel_rfl) (by kernel_rfl) ?_)))
    simp -implicitDefEqProofs [go_sem, h, h2]
    refine ⟨_, flatSec, fits_secW _, fits_secW _, fun he => ?_, fun he => ?_⟩
    · refine Wp.s ?_
      simp -implicitDefEqProofs [go_sem]
      exact Fin.bool (by simp [ne_at h h2 (fun e => he (by rw [e]))]) hokH (by simp) (by simp)
    · refine Wp.s ?_
      simp -implicitDefEqProofs [go_sem]
      refine Wp.s ?_
      simp -implicitDefEqProofs [go_sem]
      refine ⟨i + 1, ⟨by omega, take_eq_succ h h2 hp (secC_inj he)⟩, by omega, Sh.forget ?_ rfl rfl⟩
      simp [go_sem, wrap_succ (show i ≤ 1000000000 by omega)]
  · rintro _ he
    dsimp only
    refine Wp.s ?_
    simp -implicitDefEqProofs [go_sem]
    exact Fin.bool (by simp [he]) hokH (by simp) (by simp)
theorem SameSec13_cc (H : Hp) (V : List Nat) (t1 t2 : Tk) (x y : List Sec) (hl : x.length ≤ 1000000000) : CC Tryz.prog 34 [.sl t1 8 (x.map secC), .sl t2 8 (y.map secC)] H V (Pu (.v (.bool (decide (x = y)))) H V) := by
  refine CC.of_swp Tryz.func34 rfl (by kernel_rfl) (by rw [Tryz.ntmps34]; exact len_le _ _ rfl) fun hok hokH => ?_
  clear hok
  refine SWp.seq (Wp.s ?_)
  simp -implicitDefEqProofs [go_sem, args0]
  refine SWp.seq (SWp.seq (Wp.s ?_))
  by_cases hlen : x.length = y.length
  case neg =>
    have hlen' : ¬ (x.length : Int) = (y.length : Int) := by omega
    simp -implicitDefEqProofs [go_sem, hlen']
    refine Wp.s ?_
    simp -implicitDefEqProofs [go_sem, hlen, hlen']
    exact Fin.bool (by simp [show x ≠ y from fun e => hlen (by rw [e])]) hokH (by simp) (by simp)
  simp -implicitDefEqProofs [go_sem, hlen]
  refine Wp.s ?_
  simp -implicitDefEqProofs [go_sem, hlen]
  refine SWp.join (α := Unit) (fun _ => ([], H, V)) (fun _ => x = y) ?_ ?_
  · refine SWp.seq (Wp.s ?_)
    simp -implicitDefEqProofs [go_sem]
    refine SWp.block ?_
    refine SWp.loop (α := Nat) (fun i => ([(0, .sl t1 8 (x.map secC)), (1, .sl t2 8 (y.map secC)), (5, ci i)], H, V)) (fun i => i ≤ x.length ∧ x.take i = y.take i) (fun i => x.length - i) 0 ⟨Nat.zero_le _, rfl⟩ (Sh.forget (by simp [go_sem]) rfl rfl) ?_
    rintro i ⟨hi, hp⟩
    dsimp only
    refine SWp.seq (SWp.seq (Wp.s ?_))
    simp -implicitDefEqProofs [go_sem]
    refine Wp.s ?_
    simp -implicitDefEqProofs [go_sem]
    refine ⟨fun h => ?_, fun h => ⟨eq_of_take hlen h hp, Sh.forget (by simp [go_sem]) rfl rfl⟩⟩
    have h2 : i < y.length := by omega
    refine SWp.seq (SWp.block (SWp.seq (SWp.drawnT [] [] (.s 0 .pl <| .s 1 .pl <| .s 2 .pl <| .s 3 .pl <| .s 4 .pl <| .s 5 .pl <| .s 6 .pl <| .s 7 .pl <| .s 8 .pl <| .n) (by kernel_rfl) (by kernel_rfl) ?_)))
    simp -implicitDefEqProofs [go_sem, h, h2]
    refine ⟨_, flatSec, fits_secW _, fits_secW _, fun he => ?_, fun he => ?_⟩
    · refine Wp.s ?_
      simp -implicitDefEqProofs [go_sem]
      exact Fin.bool (by simp [ne_at h h2 (fun e => he (by rw [e]))]) hokH (by simp) (by simp)
    · refine Wp.s ?_
      simp -implicitDefEqProofs [go_sem]
      refine Wp.s ?_
      simp -implicitDefEqProofs [go_sem]
      refine ⟨i + 1, ⟨by omega, take_eq_succ h h2 hp (secC_inj he)⟩, by omega, Sh.forget ?_ rfl rfl⟩
      simp [go_sem, wrap_succ (show i ≤ 1000000000 by omega)]
  · rintro _ he
    dsimp only
    refine Wp.s ?_
    simp -implicitDefEqProofs [go_sem]
    exact Fin.bool (by simp [he]) hokH (by simp) (by simp)
theorem SameImg_cc (H : Hp) (V : List Nat) (t1 t2 : Tk) (x y : Img) (hl : x.length ≤ 1000000000) (hs : ∀ v ∈ x, v.length ≤ 1000000000) : CC Tryz.prog 27 [.sl t1 1 (x.map imE), .sl t2 1 (y.map imE)] H V (Pu (.v (.bool (decide (x = y)))) H V) := by
  refine CC.of_swp Tryz.func27 rfl (by kernel_rfl) (by rw [Tryz.ntmps27]; exact len_le _ _ rfl) fun hok hokH => ?_
  clear hok
  refine SWp.seq (Wp.s ?_)
  simp -implicitDefEqProofs [go_sem, args0]
  refine SWp.seq (SWp.seq (Wp.s ?_))
  by_cases hlen : x.length = y.length
  case neg =>
    have hlen' : ¬ (x.length : Int) = (y.length : Int) := by omega
    simp -implicitDefEqProofs [go_sem, hlen']
    refine Wp.s ?_
    simp -implicitDefEqProofs [go_sem, hlen, hlen']
    exact Fin.bool (by simp [show x ≠ y from fun e => hlen (by rw [e])]) hokH (by simp) (by simp)
  simp -implicitDefEqProofs [go_sem, hlen]
  refine Wp.s ?_
  simp -implicitDefEqProofs [go_sem, hlen]
  refine SWp.join (α := Unit) (fun _ => ([], H, V)) (fun _ => x = y) ?_ ?_
  · refine SWp.seq (Wp.s ?_)
    simp -implicitDefEqProofs [go_sem]
    refine SWp.block ?_
    refine SWp.loop (α := Nat) (fun i => ([(0, .sl t1 1 (x.map imE)), (1, .sl t2 1 (y.map imE)), (5, ci i)], H, V)) (fun i => i ≤ x.length ∧ x.take i = y.take i) (fun i => x.length - i) 0 ⟨Nat.zero_le _, rfl⟩ (Sh.forget (by simp [go_sem]) rfl rfl) ?_
    rintro i ⟨hi, hp⟩
    dsimp only
    refine SWp.seq (SWp.seq (Wp.s ?_))
    simp -implicitDefEqProofs [go_sem]
    refine Wp.s ?_
    simp -implicitDefEqProofs [go_sem]
    refine ⟨fun h => ?_, fun h => ⟨eq_of_take hlen h hp, Sh.forget (by simp [go_sem]) rfl rfl⟩⟩
    have h2 : i < y.length := by omega
    refine SWp.seq (SWp.block (SWp.seq (SWp.drawnT [] [] (.s 0 .pl <| .s 1 .pl <| .s 2 .pl <| .s 3 .pl <| .s 4 .pl <| .s 5 .pl <| .s 6 .pl <| .s 7 .pl <| .s 8 .pl <| .s 9 .pl <| .n) (by kernel_rfl) (by kernel_rfl) ?_)))
    simp -implicitDefEqProofs [go_sem, h, h2]
    refine CC.mono (SameVol_cc _ _ .sh .sh x[i] y[i] (hs _ (List.getElem_mem h))) ?_
    rintro _ _ _ ⟨rfl, rfl, rfl⟩
    by_cases he : x[i] = y[i]
    · simp -implicitDefEqProofs [go_sem, he]
      refine Wp.s ?_
      simp -implicitDefEqProofs [go_sem]
      refine Wp.s ?_
      simp -implicitDefEqProofs [go_sem]
      refine ⟨i + 1, ⟨by omega, take_eq_succ h h2 hp he⟩, by omega, Sh.forget ?_ rfl rfl⟩
      simp [go_sem, wrap_succ (show i ≤ 1000000000 by omega)]
    · simp -implicitDefEqProofs [go_sem, he]
      refine Wp.s ?_
      simp -implicitDefEqProofs [go_sem]
      exact Fin.bool (by simp [ne_at h h2 he]) hokH (by simp) (by simp)
  · rintro _ he
    dsimp only
    refine Wp.s ?_
    simp -implicitDefEqProofs [go_sem]
    exact Fin.bool (by simp [he]) hokH (by simp) (by simp)
end Go.Proofs.YtbnkggbpocaaiaaGreatDoor
namespace Go.Proofs.YtbnkggbpocaaiaaGreatDoor
open Go.Proofs
/-! ### The example of the chapter -/
def xS : Sec := ⟨[5, 6, 0, 0, 0, 0, 0, 0], rfl⟩
def aWb : Wr := ⟨1, 3, [xS]⟩
def aWg : Wr := ⟨1, 1, [xS]⟩
def vS0 : Sto := (fmtV [4, 2] 30).1
def vO0 : List Opn := (fmtV [4, 2] 30).2.1
def vD0 : Dk := (newR 36).1
def vD1 : Dk := (runR vD0 vO0).1
def vS1 : Sto := (writeV vS0 aWg).1
def vO1 : List Opn := (writeV vS0 aWg).2.2.1
def vD2 : Dk := (runR vD1 vO1).1
theorem vf0 : sizeV [4, 2] 30 = (36, 0) := by kernel_rfl
theorem vf1 : (fmtV [4, 2] 30).2.2 = 0 := by kernel_rfl
theorem vf2 : (newR 36).2 = 0 := by kernel_rfl
theorem vf3 : (runR vD0 vO0).2.2 = 0 := by kernel_rfl
theorem vf4 : (writeV vS0 aWb).2.2.2 = 2 := by kernel_rfl
theorem vf5 : (writeV vS0 aWg).2.2.2 = 0 := by kernel_rfl
theorem vf5n : (writeV vS0 aWg).2.1 = 1 := by kernel_rfl
theorem vf5s : vS1.jr.sizes = [5] := by kernel_rfl
theorem vf6 : (runR vD1 vO1).2.2 = 0 := by kernel_rfl
theorem vf7 : (flushV vD2 vS1).2.2 = 0 := by kernel_rfl
theorem vf7o : (flushV vD2 vS1).2.1 = opW 35 [xS] :: (flushV vD2 vS1).2.1.tail := by kernel_rfl
end Go.Proofs.YtbnkggbpocaaiaaGreatDoor
namespace Go.Proofs.YtbnkggbpocaaiaaGreatDoor
open Go.Proofs
def stSb (s : Sto) : Bool := Nat.ble s.sizes.length 1000 && Nat.ble s.jr.sizes.length 1000 && Nat.ble s.pend.length 1000 && s.pend.all (fun w => Nat.ble w.data.length 1000) && Nat.ble s.img.length 1000 && s.img.all (fun v => Nat.ble v.length 1000)
theorem stSb_S {s : Sto} (h : stSb s = true) : StS s := by
  simp only [stSb, Bool.and_eq_true, Nat.ble_eq, List.all_eq_true] at h
  obtain ⟨⟨⟨⟨⟨h1, h2⟩, h3⟩, h4⟩, h5⟩, h6⟩ := h
  exact ⟨by omega, by omega, by omega, fun w hw => by have := h4 w hw; omega, by omega, fun v hv => by have := h6 v hv; omega⟩
theorem vS0_S : StS vS0 := stSb_S (by kernel_rfl)
theorem vS1_S : StS vS1 := stSb_S (by kernel_rfl)
theorem vD0_l : vD0.stable.length ≤ 1000 := Nat.le_of_ble_eq_true (by kernel_rfl)
theorem vD0_c : vD0.cache.length + tot vO0 ≤ 1000 := Nat.le_of_ble_eq_true (by kernel_rfl)
theorem vO0_l : vO0.length ≤ 1000 := Nat.le_of_ble_eq_true (by kernel_rfl)
theorem vD1_l : vD1.stable.length ≤ 1000 := Nat.le_of_ble_eq_true (by kernel_rfl)
theorem vD1_c : vD1.cache.length + tot vO1 ≤ 1000 := Nat.le_of_ble_eq_true (by kernel_rfl)
theorem vO1_l : vO1.length ≤ 1000 := Nat.le_of_ble_eq_true (by kernel_rfl)
theorem vD2_l : vD2.stable.length ≤ 1000 := Nat.le_of_ble_eq_true (by kernel_rfl)
theorem vD2_c : vD2.cache.length ≤ 1000 := Nat.le_of_ble_eq_true (by kernel_rfl)
theorem stoC_6 (s : Sto) (h : 6 < (stoC s).length) : (stoC s)[6] = .sl .sh 1 (s.jr.sizes.map ic) := rfl
theorem xS_cells : [CV.v (.int .u8 5), .v (.int .u8 6), .v (.int .u8 0), .v (.int .u8 0), .v (.int .u8 0), .v (.int .u8 0), .v (.int .u8 0), .v (.int .u8 0)] = secC xS := rfl
set_option maxRecDepth 8000 in
set_option maxHeartbeats 1600000 in
theorem vawake_cc (H : Hp) (V : List Nat)  : CC Tryz.prog 11 [] H V (Pu (cb true) H V) := by
  refine CC.of_swp Tryz.func11 rfl (by kernel_rfl) (by rw [Tryz.ntmps11]; exact len_le _ _ rfl) fun hok hokH => ?_
  clear hok
  refine SWp.seq (Wp.s ?_)
  simp -implicitDefEqProofs [go_sem, args0]
  refine SWp.seq (Wp.s ?_)
  simp -implicitDefEqProofs [go_sem]
  refine CC.le (ys := [.sl .sh 1 (([4, 2] : List Int).map ic), ci 30]) (.cons (.sh _ _ _) (.cons (.refl _) .nil)) ?_
  refine CC.mono (vSize_cc _ _ .sh [4, 2] 30 (by decide)) ?_
  rintro _ _ _ ⟨rfl, rfl, rfl⟩
  rw [vf0]
  simp -implicitDefEqProofs [go_sem]
  refine SWp.seq (Wp.s ?_)
  simp -implicitDefEqProofs [go_sem]
  refine CC.le (ys := [.sl .sh 1 (([4, 2] : List Int).map ic), ci 30]) (.cons (.sh _ _ _) (.cons (.refl _) .nil)) ?_
  refine CC.mono (vFormat_cc _ _ [4, 2] 30 (by decide)) ?_
  rintro _ _ _ ⟨rfl, rfl, rfl⟩
  rw [show fmtV [4, 2] 30 = (vS0, vO0, 0) from Prod.ext rfl (Prod.ext rfl vf1)]
  simp -implicitDefEqProofs [go_sem, flV]
  refine SWp.seq (Wp.s ?_)
  simp -implicitDefEqProofs [go_sem]
  refine CC.mono (sNew_cc _ _ 36) ?_
  rintro _ _ _ ⟨rfl, rfl, rfl⟩
  rw [show newR 36 = (vD0, 0) from Prod.ext rfl vf2]
  simp -implicitDefEqProofs [go_sem]
  refine SWp.seq (Wp.s ?_)
  simp -implicitDefEqProofs [go_sem]
  refine CC.mono (sRun_cc _ _ vD0 vO0 (by have := vD0_l; omega) (by have := vD0_c; omega) (by have := vO0_l; omega)) ?_
  rintro _ _ _ ⟨rfl, rfl, rfl⟩
  rw [show runR vD0 vO0 = (vD1, (runR vD0 vO0).2.1, 0) from Prod.ext rfl (Prod.ext rfl vf3)]
  simp -implicitDefEqProofs [go_sem, runV]
  refine SWp.seq (SWp.seq (Wp.s ?_))
  have w0 : IntKind.i64.wrap 0 = 0 := rfl
  simp -implicitDefEqProofs [go_sem, w0]
  refine Wp.s ?_
  simp -implicitDefEqProofs [go_sem]
  refine SWp.seq (Wp.s ?_)
  simp -implicitDefEqProofs [go_sem, xS_cells]
  refine SWp.seq (Wp.s ?_)
  simp -implicitDefEqProofs [go_sem]
  refine CC.le (ys := [.agg (stoC vS0), .agg (wrC aWb)]) (.cons (.refl _) (.cons (.agg (.cons (.refl _) (.cons (.refl _) (.cons (.sh _ _ _) .nil)))) .nil)) ?_
  refine CC.mono (vWrite_cc _ _ vS0 aWb vS0_S (by decide)) ?_
  rintro _ _ _ ⟨rfl, rfl, rfl⟩
  simp -implicitDefEqProofs [go_sem, wtV, vf4]
  refine SWp.seq (Wp.s ?_)
  simp -implicitDefEqProofs [go_sem]
  refine CC.le (ys := [.agg (stoC vS0), .agg (wrC aWg)]) (.cons (.refl _) (.cons (.agg (.cons (.refl _) (.cons (.refl _) (.cons (.sh _ _ _) .nil)))) .nil)) ?_
  refine CC.mono (vWrite_cc _ _ vS0 aWg vS0_S (by decide)) ?_
  rintro _ _ _ ⟨rfl, rfl, rfl⟩
  rw [show writeV vS0 aWg = (vS1, 1, vO1, 0) from Prod.ext rfl (Prod.ext vf5n (Prod.ext rfl vf5))]
  simp -implicitDefEqProofs [go_sem, wtV]
  refine SWp.seq (Wp.s ?_)
  simp -implicitDefEqProofs [go_sem]
  refine CC.mono (sRun_cc _ _ vD1 vO1 (by have := vD1_l; omega) (by have := vD1_c; omega) (by have := vO1_l; omega)) ?_
  rintro _ _ _ ⟨rfl, rfl, rfl⟩
  rw [show runR vD1 vO1 = (vD2, (runR vD1 vO1).2.1, 0) from Prod.ext rfl (Prod.ext rfl vf6)]
  simp -implicitDefEqProofs [go_sem, runV]
  refine SWp.seq (SWp.seq (Wp.s ?_))
  simp -implicitDefEqProofs [go_sem, stoC_6, vf5s]
  refine Wp.s ?_
  simp -implicitDefEqProofs [go_sem]
  refine SWp.seq (Wp.s ?_)
  simp -implicitDefEqProofs [go_sem]
  refine CC.mono (vFlush_cc _ _ vD2 vS1 ⟨by have := vD2_l; omega, by have := vD2_c; omega⟩ vS1_S) ?_
  rintro _ _ _ ⟨rfl, rfl, rfl⟩
  rw [show flushV vD2 vS1 = ((flushV vD2 vS1).1, opW 35 [xS] :: (flushV vD2 vS1).2.1.tail, 0) from Prod.ext rfl (Prod.ext vf7o vf7)]
  simp -implicitDefEqProofs [go_sem, flV]
  generalize (flushV vD2 vS1).2.1.tail = B
  have hlt : (0 : Int) < (B.length : Int) + 1 := by omega
  refine SWp.seq (SWp.drawnT [] [] (.s 0 .pl <| .s 1 .pl <| .s 2 .pl <| .s 3 .pl <| .s 4 .pl <| .s 5 .pl <| .s 6 .pl <| .s 7 .pl <| .s 8 .pl <| .s 9 .pl <| .s 10 .pl <| .s 11 .pl <| .s 12 .pl <| .s 13 .pl <| .s 14 .pl <| .s 15 .pl <| .s 16 .pl <| .s 17 .pl <| .s 18 .pl <| .s 19 .pl <| .s 20 .pl <| .s 21 .pl <| .s 22 .pl <| .s 23 .pl <| .n) (by kernel_rfl) (by kernel_rfl) ?_)
  simp -implicitDefEqProofs [go_sem, opW, hlt]
  refine CC.le (ys := [.sl .sh 8 ([xS].map secC), .sl .ti 8 ([xS].map secC)]) (.cons (.refl _) (.cons (.refl _) .nil)) ?_
  refine CC.mono (SameSec13_cc _ _ .sh .ti [xS] [xS] (by decide)) ?_
  rintro _ _ _ ⟨rfl, rfl, rfl⟩
  simp -implicitDefEqProofs [go_sem]
  refine Wp.s ?_
  simp -implicitDefEqProofs [go_sem]
  exact Fin.bool rfl hokH (by simp) (by simp)
end Go.Proofs.YtbnkggbpocaaiaaGreatDoor
namespace Go.Proofs.YtbnkggbpocaaiaaGreatDoor
open Go.Proofs
/-! ### Whether a store is small -/
/-! ### The reference's images -/
def szU (l : Img) (i : Nat) : List (List CV) := ((imgSz l).take i).map ic
@[go_sem] theorem szU_0 (l : Img) : szU l 0 = [] := rfl
end Go.Proofs.YtbnkggbpocaaiaaGreatDoor
namespace Go.Proofs.YtbnkggbpocaaiaaGreatDoor
open Go.Proofs
end Go.Proofs.YtbnkggbpocaaiaaGreatDoor
namespace Go.Proofs.YtbnkggbpocaaiaaGreatDoor
open Go.Proofs
theorem imgSz_at {a b : Img} (h : imgSz a = imgSz b) (i : Nat) (h1 : i < a.length) (h2 : i < b.length) : a[i].length = b[i].length := by
  have := congrArg (fun l : List Int => l[i]?) h
  simp only [imgSz, List.getElem?_map, List.getElem?_eq_getElem h1, List.getElem?_eq_getElem h2, Option.map_some] at this
  exact Int.ofNat.inj (Option.some.inj this)
theorem Sh.ge {n nb nv : Nat} {T T' : Tm} {H H' : Hp} {V V' : List Nat} (h : ∀ p ∈ T', Ge (tget T p.1) p.2) (hH : H = H') (hV : V = V') : Sh n nb nv T H V (T', H', V') := by
  subst hH hV
  exact Gst.ge h
end Go.Proofs.YtbnkggbpocaaiaaGreatDoor
namespace Go.Proofs.YtbnkggbpocaaiaaGreatDoor
open Go.Proofs
end Go.Proofs.YtbnkggbpocaaiaaGreatDoor
namespace Go.Proofs.YtbnkggbpocaaiaaGreatDoor
open Go.Proofs
end Go.Proofs.YtbnkggbpocaaiaaGreatDoor
namespace Go.Proofs.YtbnkggbpocaaiaaGreatDoor
open Go.Proofs
end Go.Proofs.YtbnkggbpocaaiaaGreatDoor
namespace Go.Proofs.YtbnkggbpocaaiaaGreatDoor
open Go.Proofs
end Go.Proofs.YtbnkggbpocaaiaaGreatDoor
namespace Go.Proofs.YtbnkggbpocaaiaaGreatDoor
open Go.Proofs
end Go.Proofs.YtbnkggbpocaaiaaGreatDoor
namespace Go.Proofs.YtbnkggbpocaaiaaGreatDoor
open Go.Proofs
end Go.Proofs.YtbnkggbpocaaiaaGreatDoor
namespace Go.Proofs.YtbnkggbpocaaiaaGreatDoor
open Go.Proofs
end Go.Proofs.YtbnkggbpocaaiaaGreatDoor
namespace Go.Proofs.YtbnkggbpocaaiaaGreatDoor
open Go.Proofs
/-! ### Reading of images -/
def readI (l : Img) (v : Int) (e : Ext2) : List Sec × Nat :=
  if sizesE (imgSz l) ≠ 0 then ([], sizesE (imgSz l)) else if v < 0 ∨ (l.length : Int) ≤ v then ([], 7)
  else
    let u := l.getD v.toNat []
    if e.start < 0 ∨ e.count < 0 ∨ (u.length : Int) < e.start ∨ (u.length : Int) - e.start < e.count then ([], 2)
    else ((u.drop e.start.toNat).take e.count.toNat, 0)
theorem iRead_cc (H : Hp) (V : List Nat) (l : Img) (v : Int) (e : Ext2) (hl : l.length ≤ 1000000000) : CC Tryz.prog 93 [.sl .sh 1 (l.map imE), ci v, .agg (extC e)] H V (Pu (.tup [secsV (readI l v e).1, er (readI l v e).2]) H V) := by
  refine CC.of_swp Tryz.func93 rfl (by kernel_rfl) (by rw [Tryz.ntmps93]; exact len_le _ _ rfl) fun hok hokH => ?_
  clear hok
  have bad : ∀ (x : Nat) (H' : Hp) (V' : List Nat), readI l v e = ([], x) → H'.take H.length = H → V'.take V.length = V → Fin H.length V.length (Pu (.tup [secsV (readI l v e).1, er (readI l v e).2]) H V) (.tup [.v (.slice none 0 0), er x]) H' V' := fun x H' V' h1 h2 h3 => by
    rw [h1]
    exact Fin.pu (.tup (.cons (.nil 8 (by decide)) (.cons (.refl _) .nil))) (by simp [go_sem, okE, okL, okV]) hokH h2 h3
  refine SWp.seq (Wp.s ?_)
  simp -implicitDefEqProofs [go_sem, args0]
  refine SWp.seq (Wp.s ?_)
  simp -implicitDefEqProofs [go_sem]
  refine CC.mono (iCheck_cc _ _ .sh l hl) ?_
  rintro _ _ _ ⟨rfl, rfl, rfl⟩
  simp -implicitDefEqProofs [go_sem]
  refine ⟨fun h0 => bad _ _ _ (by rw [readI, if_pos h0]) (by simp) (by simp), fun h0 => ?_⟩
  obtain ⟨hl8, hvs⟩ := sizes_pos h0
  have hr : readI l v e = if v < 0 ∨ (l.length : Int) ≤ v then ([], 7) else
      if e.start < 0 ∨ e.count < 0 ∨ ((l.getD v.toNat []).length : Int) < e.start ∨ ((l.getD v.toNat []).length : Int) - e.start < e.count then ([], 2) else (((l.getD v.toNat []).drop e.start.toNat).take e.count.toNat, 0) := by
    rw [readI, if_neg (by simp [h0])]
  refine SWp.seq (SWp.seq (Wp.s ?_))
  by_cases h1 : v < 0
  · simp -implicitDefEqProofs [go_sem, h1]
    refine Wp.s ?_
    simp -implicitDefEqProofs [go_sem]
    exact bad _ _ _ (by rw [hr, if_pos (.inl h1)]) (by simp) (by simp)
  by_cases h2 : (l.length : Int) ≤ v
  · simp -implicitDefEqProofs [go_sem, h1, h2]
    refine Wp.s ?_
    simp -implicitDefEqProofs [go_sem]
    exact bad _ _ _ (by rw [hr, if_pos (.inr h2)]) (by simp) (by simp)
  rw [if_neg (by omega)] at hr
  simp -implicitDefEqProofs [go_sem, h1, h2]
  refine Wp.s ?_
  simp -implicitDefEqProofs [go_sem]
  obtain ⟨n, rfl⟩ := Int.eq_ofNat_of_zero_le (Int.not_lt.1 h1)
  have hnl : n < l.length := by omega
  have hg : l.getD ((n : Int)).toNat [] = l[n] := by rw [Int.toNat_natCast, List.getD_eq_getElem?_getD, List.getElem?_eq_getElem hnl, Option.getD_some]
  rw [hg] at hr
  have hvl := (hvs _ (List.getElem_mem hnl)).2
  refine SWp.seq (Wp.s ?_)
  simp -implicitDefEqProofs [go_sem, hnl]
  refine SWp.seq (SWp.seq (Wp.s ?_))
  by_cases d1 : e.start < 0
  · simp -implicitDefEqProofs [go_sem, extC, d1]
    refine Wp.s ?_
    simp -implicitDefEqProofs [go_sem]
    exact bad _ _ _ (by rw [hr, if_pos (.inl d1)]) (by simp) (by simp)
  by_cases d2 : e.count < 0
  · simp -implicitDefEqProofs [go_sem, extC, d1, d2]
    refine Wp.s ?_
    simp -implicitDefEqProofs [go_sem]
    exact bad _ _ _ (by rw [hr, if_pos (.inr (.inl d2))]) (by simp) (by simp)
  by_cases d3 : (l[n].length : Int) < e.start
  · simp -implicitDefEqProofs [go_sem, extC, d1, d2, d3]
    refine Wp.s ?_
    simp -implicitDefEqProofs [go_sem]
    exact bad _ _ _ (by rw [hr, if_pos (.inr (.inr (.inl d3)))]) (by simp) (by simp)
  have w1 : IntKind.i64.wrap ((l[n].length : Int) - e.start) = (l[n].length : Int) - e.start := IntWalk.i64_in _ ⟨by omega, by omega⟩
  by_cases d4 : (l[n].length : Int) - e.start < e.count
  · simp -implicitDefEqProofs [go_sem, extC, d1, d2, d3, w1, d4]
    refine Wp.s ?_
    simp -implicitDefEqProofs [go_sem]
    exact bad _ _ _ (by rw [hr, if_pos (.inr (.inr (.inr d4)))]) (by simp) (by simp)
  rw [if_neg (by omega)] at hr
  simp -implicitDefEqProofs [go_sem, extC, d1, d2, d3, w1, d4]
  refine Wp.s ?_
  simp -implicitDefEqProofs [go_sem]
  obtain ⟨a, ha⟩ := Int.eq_ofNat_of_zero_le (Int.not_lt.1 d1)
  obtain ⟨c, hc⟩ := Int.eq_ofNat_of_zero_le (Int.not_lt.1 d2)
  rw [ha, hc] at hr
  rw [Int.toNat_natCast, Int.toNat_natCast] at hr
  have w2 : IntKind.i64.wrap ((a : Int) + (c : Int)) = ((a + c : Nat) : Int) := by rw [IntWalk.i64_in _ ⟨by omega, by omega⟩]; omega
  refine SWp.seq (Wp.s ?_)
  simp -implicitDefEqProofs [go_sem, ha, hc, w2]
  have w3 : ((a : Int) + (c : Int)).toNat = a + c := by omega
  have hsl : List.drop a (List.take (a + c) (List.map secC l[n])) = ((l[n].drop a).take c).map secC := by
    rw [← List.map_take, ← List.map_drop, List.drop_take, Nat.add_sub_cancel_left]
  obtain ⟨X, hX⟩ : ∃ X, X = (l[n].drop a).take c := ⟨_, rfl⟩
  have hXl : X.length ≤ 4096 := by rw [hX, List.length_take, List.length_drop]; omega
  rw [← hX] at hsl hr
  rw [w3, hsl]
  refine ⟨by omega, by omega, by omega, ?_⟩
  refine CC.mono (vcloneSec_cc _ _ .sh X (by omega)) ?_
  rintro _ _ _ ⟨rfl, rfl, rfl⟩
  simp -implicitDefEqProofs [go_sem]
  refine Wp.s ?_
  simp -implicitDefEqProofs [go_sem]
  rw [hr]
  exact Fin.pu (.refl _) (by simp [go_sem, okE_secs, okL, okV]) hokH (by simp) (by simp)
theorem readV_eq (s : Sto) (v : Int) (e : Ext2) : readV s v e = if chkV s ≠ 0 then ([], chkV s) else readI s.img v e := by
  unfold readV
  split
  · rfl
  · rename_i q
    have hok := chkV_ok (s := s) (by simpa using q)
    unfold readI
    rw [if_neg (c := sizesE (imgSz s.img) ≠ 0) (by rw [hok.im]; simp [hok.sz])]
theorem vRead_cc (H : Hp) (V : List Nat) (s : Sto) (v : Int) (e : Ext2) (hs : StS s) : CC Tryz.prog 32 [.agg (stoC s), ci v, .agg (extC e)] H V (Pu (.tup [secsV (readV s v e).1, er (readV s v e).2]) H V) := by
  refine CC.of_swp Tryz.func32 rfl (by kernel_rfl) (by rw [Tryz.ntmps32]; exact len_le _ _ rfl) fun hok hokH => ?_
  clear hok
  have hE := readV_eq s v e
  refine SWp.seq (Wp.s ?_)
  simp -implicitDefEqProofs [go_sem, args0]
  refine SWp.seq (Wp.s ?_)
  simp -implicitDefEqProofs [go_sem]
  refine CC.mono (vCheck_cc _ _ s hs) ?_
  rintro _ _ _ ⟨rfl, rfl, rfl⟩
  simp -implicitDefEqProofs [go_sem]
  refine ⟨fun h0 => ?_, fun h0 => ?_⟩
  · rw [hE, if_pos h0]
    exact Fin.pu (.tup (.cons (.nil 8 (by decide)) (.cons (.refl _) .nil))) (by simp [go_sem, okE, okL, okV]) hokH (by simp) (by simp)
  rw [if_neg (by simp [h0])] at hE
  rw [hE]
  refine SWp.seq (Wp.s ?_)
  simp -implicitDefEqProofs [go_sem, stoC]
  refine CC.mono (iRead_cc _ _ s.img v e (by have := hs.il; omega)) ?_
  rintro _ _ _ ⟨rfl, rfl, rfl⟩
  simp -implicitDefEqProofs [go_sem]
  refine Wp.s ?_
  simp -implicitDefEqProofs [go_sem]
  exact Fin.pu (.refl _) (by simp [go_sem, okE_secs, okL, okV]) hokH (by simp) (by simp)
end Go.Proofs.YtbnkggbpocaaiaaGreatDoor
namespace Go.Proofs.YtbnkggbpocaaiaaGreatDoor
open Go.Proofs
end Go.Proofs.YtbnkggbpocaaiaaGreatDoor
namespace Go.Proofs.YtbnkggbpocaaiaaGreatDoor
open Go.Proofs
end Go.Proofs.YtbnkggbpocaaiaaGreatDoor
namespace Go.Proofs.YtbnkggbpocaaiaaGreatDoor
open Go.Proofs
/-! ### Steps of a run -/
structure Stq where
  v : UInt8
  s : UInt8
  c : UInt8
  f : UInt8
  fl : Bool
def stqC (x : Stq) : List CV := [.v (.int .u8 (x.v.toNat : Int)), .v (.int .u8 (x.s.toNat : Int)), .v (.int .u8 (x.c.toNat : Int)), .v (.int .u8 (x.f.toNat : Int)), .v (.bool x.fl)]
@[go_sem, simp] theorem stqC_len (x : Stq) : (stqC x).length = 5 := rfl
@[go_sem, simp] theorem stqC_take (x : Stq) : (stqC x).take 5 = stqC x := rfl
@[go_sem, simp] theorem stqC_drop (x : Stq) : (stqC x).drop 5 = [] := rfl
@[go_sem, simp] theorem stqC_all (x : Stq) : allOne (stqC x) = true := rfl
@[go_sem] theorem okL_stqC (i j : Nat) (x : Stq) : okL i j (stqC x) = True := by simp [stqC, go_sem, okL, okV]
@[go_sem] theorem okE_stqs (i j : Nat) (l : List Stq) : okE i j (l.map stqC) = True := eq_true (okE_map stqC l fun x => by rw [okL_stqC]; trivial)
def zqN (x : Stq) : Nat := if x.v.toNat % 2 = 0 then 6 else 3
def atN (x : Stq) : Nat := x.s.toNat % zqN x
def cntN (x : Stq) : Nat := x.c.toNat % (zqN x - atN x) + 1
def secN (x : Stq) (i : Nat) : Sec := ⟨[x.f, UInt8.ofNat i, 0, 0, 0, 0, 0, 0], rfl⟩
def dataQ (x : Stq) : Wr := ⟨((x.v.toNat % 2 : Nat) : Int), (atN x : Int), (List.range (cntN x)).map (secN x)⟩
theorem zqN_r (x : Stq) : 3 ≤ zqN x ∧ zqN x ≤ 6 := by unfold zqN; split <;> omega
theorem atN_lt (x : Stq) : atN x < zqN x := Nat.mod_lt _ (by have := (zqN_r x).1; omega)
theorem cntN_r (x : Stq) : 1 ≤ cntN x ∧ atN x + cntN x ≤ zqN x := by
  have h := atN_lt x
  have := Nat.mod_lt x.c.toNat (show 0 < zqN x - atN x by omega)
  unfold cntN; omega
def dqU (x : Stq) (i : Nat) : List Sec := (List.range i).map (secN x)
theorem dqU_len (x : Stq) (i : Nat) : (dqU x i).length = i := by simp [dqU]
theorem dqU_s (x : Stq) (i : Nat) : dqU x (i + 1) = dqU x i ++ [secN x i] := by rw [dqU, List.range_succ, List.map_append]; rfl
theorem sizesQ_cc (H : Hp) (V : List Nat)  : CC Tryz.prog 35 [] H V (Pu (.sl .sh 1 (([6, 3] : List Int).map ic)) H V) := by
  refine CC.of_swp Tryz.func35 rfl (by kernel_rfl) (by rw [Tryz.ntmps35]; exact len_le _ _ rfl) fun hok hokH => ?_
  clear hok
  refine SWp.seq (Wp.s ?_)
  simp -implicitDefEqProofs [go_sem, args0]
  refine SWp.seq (Wp.s ?_)
  simp -implicitDefEqProofs [go_sem]
  refine Wp.s ?_
  simp -implicitDefEqProofs [go_sem]
  exact Fin.pu (.sh _ _ _) (by simp [go_sem, okE, okL, okV, ic]) hokH (by simp) (by simp)
theorem dataQ_cc (H : Hp) (V : List Nat) (x : Stq) : CC Tryz.prog 36 [.agg (stqC x)] H V (Pu (.agg (wrC (dataQ x))) H V) := by
  refine CC.of_swp Tryz.func36 rfl (by kernel_rfl) (by rw [Tryz.ntmps36]; exact len_le _ _ rfl) fun hok hokH => ?_
  clear hok
  have hz := zqN_r x
  have ha := atN_lt x
  have hc := cntN_r x
  refine SWp.seq (Wp.s ?_)
  simp -implicitDefEqProofs [go_sem, args0]
  refine SWp.seq (SWp.drawnT [] [] (.s 1 .pl <| .s 2 .pl <| .s 3 .pl <| .s 0 .pl <| .s 4 .pl <| .s 5 .pl <| .s 6 .pl <| .n) (by kernel_rfl) (by kernel_rfl) ?_)
  obtain ⟨q, hq⟩ : ∃ q, q = x.v.toNat % 2 := ⟨_, rfl⟩
  have hq2 : q < 2 := by omega
  have hzq : zqN x = if q = 0 then 6 else 3 := by rw [hq]; rfl
  have hdq : dataQ x = ⟨(q : Int), (atN x : Int), dqU x (cntN x)⟩ := by rw [hq]; rfl
  obtain ⟨z, hz'⟩ : ∃ z, z = zqN x := ⟨_, rfl⟩
  obtain ⟨a, ha'⟩ : ∃ a, a = atN x := ⟨_, rfl⟩
  obtain ⟨k, hk'⟩ : ∃ k, k = cntN x - 1 := ⟨_, rfl⟩
  have m1 : (x.v.toNat : Int).tmod 2 = (q : Int) := by rw [Int.tmod_eq_emod_of_nonneg (by omega)]; omega
  have m1' : (x.v.toNat : Int) % 2 = (q : Int) := by omega
  have m2 : IntKind.u8.wrap (q : Int) = (q : Int) := by rw [IntKind.wrap_u8]; omega
  have m3 : IntKind.i64.wrap (q : Int) = (q : Int) := IntWalk.i64_in _ ⟨by omega, by omega⟩
  have m4' : (x.s.toNat : Int) % (z : Int) = (a : Int) := by rw [ha', hz']; unfold atN; omega
  have m4 : (x.s.toNat : Int).tmod (z : Int) = (a : Int) := by rw [Int.tmod_eq_emod_of_nonneg (by omega), m4']
  have m5 : IntKind.i64.wrap (x.s.toNat : Int) = (x.s.toNat : Int) := IntWalk.i64_in _ ⟨by omega, by have := x.s.toNat_lt; omega⟩
  have m6 : IntKind.i64.wrap (x.c.toNat : Int) = (x.c.toNat : Int) := IntWalk.i64_in _ ⟨by omega, by have := x.c.toNat_lt; omega⟩
  have m7 : IntKind.i64.wrap ((z : Int) - (a : Int)) = (z : Int) - (a : Int) := IntWalk.i64_in _ ⟨by omega, by omega⟩
  have m8' : (x.c.toNat : Int) % ((z : Int) - (a : Int)) = (k : Int) := by
    have : (z : Int) - (a : Int) = ((z - a : Nat) : Int) := by omega
    rw [this, hk', hz', ha']; unfold cntN; omega
  have m8 : (x.c.toNat : Int).tmod ((z : Int) - (a : Int)) = (k : Int) := by rw [Int.tmod_eq_emod_of_nonneg (by omega), m8']
  have mz : ¬ z = 0 := by omega
  have mza : ¬ (z : Int) - (a : Int) = 0 := by omega
  have mw4 : IntKind.i64.wrap (a : Int) = (a : Int) := IntWalk.i64_in _ ⟨by omega, by omega⟩
  have mwk : IntKind.i64.wrap (k : Int) = (k : Int) := IntWalk.i64_in _ ⟨by omega, by omega⟩
  have hg : ∀ (h : q < [ic 6, ic 3].length), [ic 6, ic 3][q] = ic (z : Int) := fun h => by
    rw [hz', hzq]
    match q, hq2 with
    | 0, _ => rfl
    | 1, _ => rfl
  simp -implicitDefEqProofs [go_sem, stqC, m1, m1', m2, m3]
  refine CC.mono (sizesQ_cc _ _) ?_
  rintro _ _ _ ⟨rfl, rfl, rfl⟩
  simp -implicitDefEqProofs [go_sem, m1, m2, m3, hg, hq2]
  refine SWp.seq (Wp.s ?_)
  simp -implicitDefEqProofs [go_sem, m1, m1', m2, m3, m4, m4', m5, mz, mw4]
  refine SWp.seq (Wp.s ?_)
  simp -implicitDefEqProofs [go_sem, m1, m1', m2, m3]
  have hk1 : k + 1 = cntN x := by omega
  refine SWp.join (α := Unit) (fun _ => ([(1, .ptr H.length 0), (2, .ptr (H.length + 1) 0), (5, .ptr (H.length + 2) 0)], H ++ [some (stqC x), some [ci 0, ci 0, .v (.slice none 0 0)], some [ci q, ci a, .sl (.own V.length (k + 1)) 8 ((dqU x (k + 1)).map secC)]], V ++ [k + 1])) (fun _ => True) ?_ ?_
  · refine SWp.seq (Wp.s ?_)
    simp -implicitDefEqProofs [go_sem]
    refine SWp.block ?_
    refine SWp.loop (α := Nat) (fun i => ([(1, .ptr H.length 0), (2, .ptr (H.length + 1) 0), (3, ci z), (4, ci a), (5, .ptr (H.length + 2) 0), (6, ci i)], H ++ [some (stqC x), some [ci 0, ci 0, .v (.slice none 0 0)], some [ci q, ci a, .sl (.own V.length i) 8 ((dqU x i).map secC)]], V ++ [i])) (fun i => i ≤ k + 1) (fun i => k + 1 - i) 0 (Nat.zero_le _) ?_ ?_
    · refine Sh.tokL (b := H.length + 2) (ds := [ci q, ci a, .sl (.own V.length 0) 8 []]) (by simp [go_sem]; rfl) (by simp [go_sem]) (by simp [CV.isObj]) (by simp [go_sem]) ?_ rfl
      simp [dqU, stqC]
    intro i hi
    dsimp only
    refine SWp.seq (SWp.seq (Wp.s ?_))
    simp -implicitDefEqProofs [go_sem, stqC, m6, m7, m8, m8', mwk, mza]
    refine Wp.s ?_
    simp -implicitDefEqProofs [go_sem]
    refine ⟨fun h => ?_, fun h => ?_⟩
    case refine_2 =>
      obtain rfl : i = k + 1 := by omega
      exact Sh.forget (by simp [go_sem]) rfl rfl
    have w5 : IntKind.i64.wrap ((i : Int) + 1) = (i : Int) + 1 := IntWalk.i64_in _ ⟨by omega, by omega⟩
    have w6 : IntKind.u8.wrap (i : Int) = (i : Int) := by rw [IntKind.wrap_u8]; omega
    have hsec : secC (secN x i) = [.v (.int .u8 (x.f.toNat : Int)), .v (.int .u8 (i : Int)), .v (.int .u8 0), .v (.int .u8 0), .v (.int .u8 0), .v (.int .u8 0), .v (.int .u8 0), .v (.int .u8 0)] := by
      have : ((UInt8.ofNat i).toNat : Int) = (i : Int) := by rw [UInt8.toNat_ofNat']; omega
      show [CV.v (.int .u8 (x.f.toNat : Int)), .v (.int .u8 ((UInt8.ofNat i).toNat : Int)), .v (.int .u8 0), .v (.int .u8 0), .v (.int .u8 0), .v (.int .u8 0), .v (.int .u8 0), .v (.int .u8 0)] = _
      rw [this]
    refine SWp.seq (SWp.block (Wp.s ?_))
    simp -implicitDefEqProofs [go_sem, w6, dqU_len]
    refine ⟨by omega, ?_⟩
    refine Wp.s ?_
    simp -implicitDefEqProofs [go_sem, w5]
    refine ⟨i + 1, by omega, by omega, Sh.forget (by simp [go_sem]) ?_ (by simp)⟩
    rw [dqU_s, List.map_append, List.map_singleton, hsec]
  rintro _ -
  dsimp only
  refine SWp.seq (Wp.s ?_)
  simp -implicitDefEqProofs [go_sem]
  refine Wp.s ?_
  simp -implicitDefEqProofs [go_sem]
  rw [hdq]
  rw [← hk1, ← ha']
  refine Fin.pu (.agg ?_) (by simp [go_sem, okL_wrC]) hokH (by simp) (by simp)
  exact .cons (.refl _) (.cons (.refl _) (.cons (.sh _ _ _) .nil))
end Go.Proofs.YtbnkggbpocaaiaaGreatDoor
namespace Go.Proofs.YtbnkggbpocaaiaaGreatDoor
open Go.Proofs
/-! ### Runs -/
def qS0 : Sto := (fmtV [6, 3] 40).1
def qO0 : List Opn := (fmtV [6, 3] 40).2.1
def qD0 : Dk := (newR 49).1
def qD1 : Dk := (runR qD0 qO0).1
def qI0 : Img := imOf [6, 3]
theorem qf1 : (fmtV [6, 3] 40).2.2 = 0 := by kernel_rfl
theorem qf2 : (newR 49).2 = 0 := by kernel_rfl
theorem qf3 : (runR qD0 qO0).2.2 = 0 := by kernel_rfl
theorem qf4 : sizesE [6, 3] = 0 := by kernel_rfl
theorem qD0_l : Nat.ble qD0.stable.length 1000 = true ∧ Nat.ble qD0.cache.length 1000 = true ∧ Nat.ble (tot qO0) 1000 = true ∧ Nat.ble qO0.length 1000 = true := ⟨by kernel_rfl, by kernel_rfl, by kernel_rfl, by kernel_rfl⟩
def bgV : CV := .tup [.agg (dkC qD1), .agg (stoC qS0), imV qI0, cb true]
theorem begin_cc (H : Hp) (V : List Nat)  : CC Tryz.prog 23 [] H V (Pu bgV H V) := by
  refine CC.of_swp Tryz.func23 rfl (by kernel_rfl) (by rw [Tryz.ntmps23]; exact len_le _ _ rfl) fun hok hokH => ?_
  clear hok
  obtain ⟨b1, b2, b3, b4⟩ := qD0_l
  have b1 := Nat.le_of_ble_eq_true b1
  have b2 := Nat.le_of_ble_eq_true b2
  have b3 := Nat.le_of_ble_eq_true b3
  have b4 := Nat.le_of_ble_eq_true b4
  refine SWp.seq (Wp.s ?_)
  simp -implicitDefEqProofs [go_sem, args0]
  refine SWp.seq (Wp.s ?_)
  simp -implicitDefEqProofs [go_sem]
  refine CC.mono (sizesQ_cc _ _) ?_
  rintro _ _ _ ⟨rfl, rfl, rfl⟩
  simp -implicitDefEqProofs [go_sem]
  refine CC.mono (vFormat_cc _ _ [6, 3] 40 (by decide)) ?_
  rintro _ _ _ ⟨rfl, rfl, rfl⟩
  rw [show fmtV [6, 3] 40 = (qS0, qO0, 0) from Prod.ext rfl (Prod.ext rfl qf1)]
  simp -implicitDefEqProofs [go_sem, flV]
  refine SWp.seq (Wp.s ?_)
  simp -implicitDefEqProofs [go_sem]
  refine CC.mono (sNew_cc _ _ 49) ?_
  rintro _ _ _ ⟨rfl, rfl, rfl⟩
  rw [show newR 49 = (qD0, 0) from Prod.ext rfl qf2]
  simp -implicitDefEqProofs [go_sem]
  refine SWp.seq (Wp.s ?_)
  simp -implicitDefEqProofs [go_sem]
  refine CC.mono (sRun_cc _ _ qD0 qO0 (by omega) (by omega) (by omega)) ?_
  rintro _ _ _ ⟨rfl, rfl, rfl⟩
  rw [show runR qD0 qO0 = (qD1, (runR qD0 qO0).2.1, 0) from Prod.ext rfl (Prod.ext rfl qf3)]
  simp -implicitDefEqProofs [go_sem, runV]
  refine SWp.seq (Wp.s ?_)
  simp -implicitDefEqProofs [go_sem]
  refine CC.mono (sizesQ_cc _ _) ?_
  rintro _ _ _ ⟨rfl, rfl, rfl⟩
  simp -implicitDefEqProofs [go_sem]
  refine CC.mono (New_cc _ _ .sh [6, 3] (by decide)) ?_
  rintro _ _ _ ⟨rfl, rfl, rfl⟩
  rw [show (if sizesE [6, 3] ≠ 0 then [] else imOf [6, 3]) = qI0 by rw [if_neg (by rw [qf4]; decide)]; rfl, qf4]
  simp -implicitDefEqProofs [go_sem]
  refine SWp.seq (SWp.drawnT [H.length + 2] [17, 18] (.s 0 .pl <| .s 1 .ld <| .s 2 .pl <| .s 3 .pl <| .s 4 .pl <| .s 5 .pl <| .s 6 .pl <| .s 7 .pl <| .s 8 .pl <| .s 9 .pl <| .s 10 .pl <| .s 11 .pl <| .s 12 .pl <| .s 13 .pl <| .s 14 .pl <| .s 15 .pl <| .s 16 .pl <| .s 17 .st <| .s 18 .st <| .s 19 .pl <| .s 20 .pl <| .n) (by kernel_rfl) (by kernel_rfl) ?_)
  simp -implicitDefEqProofs [go_sem]
  have hkp : ∀ (a b c d a' b' : Option (List CV)), Kp [H.length + 2] (H ++ [a, b, c, d]) (H ++ [a', b', c, d]) := fun a b c d a' b' => Kp.keep fun x hx => by
    obtain rfl : x = H.length + 2 := by simpa using hx
    rw [hget, hget]; rfl
  refine ⟨hkp _ _ _ _ _ _, hkp _ _ _ _ _ _, ?_⟩
  refine Wp.s ?_
  simp -implicitDefEqProofs [go_sem]
  exact Fin.pu (.refl _) (by simp [bgV, go_sem, okL, okV, okL_dkC, okL_stoC, okE_ims]) hokH (by simp) (by simp)
def nextQ (d : Dk) (s : Sto) (im : Img) (x : Stq) : Sto × List Opn × Img × Bool :=
  if x.fl = true then ((flushV d s).1, (flushV d s).2.1, im, decide ((flushV d s).2.2 = 0))
  else if (writeV s (dataQ x)).2.2.2 = 11 then (s, [], im, true)
  else ((writeV s (dataQ x)).1, (writeV s (dataQ x)).2.2.1, (apR im [dataQ x]).1, decide ((writeV s (dataQ x)).2.2.2 = 0) && decide ((apR im [dataQ x]).2.2 = 0))
def nxQV (r : Sto × List Opn × Img × Bool) : CV := .tup [.agg (stoC r.1), opsV r.2.1, imV r.2.2.1, cb r.2.2.2]
theorem okV_nxQ (i j : Nat) (r : Sto × List Opn × Img × Bool) : okV i j (nxQV r) := by
  simp [nxQV, go_sem, okL, okV, okL_stoC, okE_ims, okE_ops]
theorem dataQ_len (x : Stq) : (dataQ x).data.length ≤ 6 := by
  have := cntN_r x; have := zqN_r x
  simp [dataQ]; omega
@[go_sem, simp] theorem stqC_4 (x : Stq) (h : 4 < (stqC x).length) : (stqC x)[4] = CV.v (.bool x.fl) := rfl
set_option maxRecDepth 8000 in
theorem nextQ_cc (H : Hp) (V : List Nat) (d : Dk) (s : Sto) (im : Img) (x : Stq) (hd : DkS d) (hs : StS s) (hi : im.length ≤ 1000000000) : CC Tryz.prog 24 [.agg (dkC d), .agg (stoC s), imV im, .agg (stqC x)] H V (Pu (nxQV (nextQ d s im x)) H V) := by
  refine CC.of_swp Tryz.func24 rfl (by kernel_rfl) (by rw [Tryz.ntmps24]; exact len_le _ _ rfl) fun hok hokH => ?_
  clear hok
  have hdl := dataQ_len x
  refine SWp.seq (Wp.s ?_)
  simp -implicitDefEqProofs [go_sem, args0]
  refine SWp.seq (SWp.seq (Wp.s ?_))
  cases hfl : x.fl with
  | true =>
    simp -implicitDefEqProofs [go_sem, hfl]
    refine Wp.s ?_
    simp -implicitDefEqProofs [go_sem]
    refine CC.mono (vFlush_cc _ _ d s hd hs) ?_
    rintro _ _ _ ⟨rfl, rfl, rfl⟩
    have hn : nextQ d s im x = ((flushV d s).1, (flushV d s).2.1, im, decide ((flushV d s).2.2 = 0)) := by rw [nextQ, if_pos hfl]
    generalize flushV d s = r at hn ⊢
    obtain ⟨s', A, e⟩ := r
    dsimp only at hn ⊢
    simp -implicitDefEqProofs [go_sem, flV]
    rw [hn]
    exact Fin.pu (.refl _) (okV_nxQ _ _ (s', A, im, decide (e = 0))) hokH (by simp) (by simp)
  | false =>
    simp -implicitDefEqProofs [go_sem, hfl]
    refine Wp.s ?_
    simp -implicitDefEqProofs [go_sem]
    refine SWp.seq (SWp.drawnT [] [10] (.s 0 .pl <| .s 1 .pl <| .c 2 <| .c 3 <| .s 4 .pl <| .s 5 .pl <| .s 6 .pl <| .s 7 .pl <| .s 8 .pl <| .s 9 .pl <| .s 10 .st <| .s 11 .pl <| .s 12 .pl <| .s 13 .pl <| .n) (by kernel_rfl) (by kernel_rfl) ?_)
    simp -implicitDefEqProofs [go_sem]
    refine ⟨_, fun H V => dataQ_cc H V x, ?_⟩
    simp -implicitDefEqProofs [go_sem]
    refine ⟨_, fun H V => vWrite_cc H V s (dataQ x) hs (by omega), ?_⟩
    have hn : nextQ d s im x = if (writeV s (dataQ x)).2.2.2 = 11 then (s, [], im, true)
      else ((writeV s (dataQ x)).1, (writeV s (dataQ x)).2.2.1, (apR im [dataQ x]).1, decide ((writeV s (dataQ x)).2.2.2 = 0) && decide ((apR im [dataQ x]).2.2 = 0)) := by rw [nextQ, if_neg (by simp [hfl])]
    generalize writeV s (dataQ x) = r at hn ⊢
    obtain ⟨s', q, A, e⟩ := r
    dsimp only at hn ⊢
    simp -implicitDefEqProofs [go_sem, wtV]
    refine SWp.seq (SWp.seq (Wp.s ?_))
    by_cases h11 : e = 11
    · subst h11
      rw [if_pos rfl] at hn
      simp -implicitDefEqProofs [go_sem]
      refine Wp.s ?_
      simp -implicitDefEqProofs [go_sem]
      rw [hn]
      exact Fin.pu (.tup (.cons (.refl _) (.cons (.nil 3 (by decide)) (.cons (.refl _) (.cons (.refl _) .nil))))) (okV_nxQ _ _ (s, [], im, true)) hokH (by simp) (by simp)
    rw [if_neg h11] at hn
    have h11' : ¬ (e : Int) = 11 := by omega
    simp -implicitDefEqProofs [go_sem, h11, h11']
    refine Wp.s ?_
    simp -implicitDefEqProofs [go_sem]
    refine SWp.seq (Wp.s ?_)
    simp -implicitDefEqProofs [go_sem]
    refine CC.mono (dataQ_cc _ _ x) ?_
    rintro _ _ _ ⟨rfl, rfl, rfl⟩
    simp -implicitDefEqProofs [go_sem]
    refine CC.le (ys := [.sl .sh 1 (im.map imE), .sl .sh 3 ([dataQ x].map wrC)]) (.cons (.refl _) (.cons (.sh _ _ _) .nil)) ?_
    have hw1 : ∀ w ∈ [dataQ x], w.data.length ≤ 1000000000 := fun w hw => by
      rw [List.mem_singleton] at hw; subst hw; omega
    refine CC.mono (imApply_cc _ _ .sh im [dataQ x] hi (by simp) hw1) ?_
    rintro _ _ _ ⟨rfl, rfl, rfl⟩
    generalize apR im [dataQ x] = ar at hn ⊢
    obtain ⟨im', n', e'⟩ := ar
    dsimp only at hn ⊢
    simp -implicitDefEqProofs [go_sem, apV]
    refine SWp.seq (Wp.s ?_)
    by_cases he : e = 0
    · by_cases he' : e' = 0
      · simp -implicitDefEqProofs [go_sem, he, he']
        refine Wp.s ?_
        simp -implicitDefEqProofs [go_sem]
        rw [hn, decide_eq_true he, decide_eq_true he']
        exact Fin.pu (.refl _) (okV_nxQ _ _ (s', A, im', true)) hokH (by simp) (by simp)
      · have he'' : ¬ (e' : Int) = 0 := by omega
        simp -implicitDefEqProofs [go_sem, he, he', he'']
        refine Wp.s ?_
        simp -implicitDefEqProofs [go_sem]
        rw [hn, decide_eq_true he, decide_eq_false he']
        exact Fin.pu (.refl _) (okV_nxQ _ _ (s', A, im', false)) hokH (by simp) (by simp)
    · have he2 : ¬ (e : Int) = 0 := by omega
      simp -implicitDefEqProofs [go_sem, he, he2]
      refine Wp.s ?_
      simp -implicitDefEqProofs [go_sem]
      rw [hn, decide_eq_false he, Bool.false_and]
      exact Fin.pu (.refl _) (okV_nxQ _ _ (s', A, im', false)) hokH (by simp) (by simp)
end Go.Proofs.YtbnkggbpocaaiaaGreatDoor
