import Derived.Test.YtbnkggbpocaaiaaGreatDoorF3
import Derived.ChangeKeysEq
import Derived.Test.YtbnkggbpocaaiaaGreatDoorChecked
set_option linter.unusedSimpArgs false
set_option linter.unusedVariables false
set_option linter.unusedSectionVars false
namespace Go.Proofs.YtbnkggbpocaaiaaGreatDoor
abbrev er (e : Nat) : CV := .v (.int .i64 e)
section
variable {n nb nv : Nat} {T T' : Tm} {H : Hp} {V : List Nat}
theorem Gst.freezeY {b : Nat} {cs : List CV} (hb : H[b]? = some (some cs)) (h : ∀ p ∈ T', Fy b cs (tget T p.1) p.2) : Gst n nb nv T H V T' (H.set b none) V := fun D m w a m0 w0 V0 h1 h2 h3 hx hs => by
  cases hs.inv.live b cs hb with
  | row k c e g1 g2 g3 g4 g5 =>
    obtain ⟨hi', hx'⟩ := hs.inv.fix hb g1 g2 g3 g4
    refine ⟨_, ⟨hi', fun j => ?_, hs.size, hs.df⟩, hx.trans hx'⟩
    have ht := RelT.mono hx' hs.tm
    rcases tget_mem T' j with h1 | ⟨p, h1, rfl, h2⟩
    · rw [h1, RelV]; trivial
    · rw [h2]
      exact Fy.rel (m := { m with lim := fun j => if j = k then cs.length else m.lim j }) (k := k) g1 (by show cs.length ≤ if k = k then cs.length else m.lim k; rw [if_pos rfl]; exact Nat.le_refl _) (relC_box hx' rfl g5) (h p h1) (ht p.1)
  | obj k x g1 g2 g3 =>
    refine ⟨m, ⟨hs.inv.kill b, fun j => ?_, hs.size, hs.df⟩, hx⟩
    rcases tget_mem T' j with h1 | ⟨p, h1, rfl, h2⟩
    · rw [h1, RelV]; trivial
    · rw [h2]
      exact Fy.relO g1 g3.notRow (h p h1) (hs.tm p.1)
end
@[go_sem] theorem hbx_c0 (cs : List CV) (H : Hp) (K : List CV → Prop) : hbx (some cs :: H) 0 K = K cs := id rfl
@[go_sem] theorem hbx_c1 (c : Option (List CV)) (H : Hp) (b : Nat) (K : List CV → Prop) : hbx (c :: H) (b + 1) K = hbx H b K := id rfl
theorem Fin.er {H H' : Hp} {V V' : List Nat} {a b : Nat} (h : b = a) (hokH : ∀ (b : Nat) cs, H[b]? = some (some cs) → okL H.length V.length cs) (hH : H'.take H.length = H) (hV : V'.take V.length = V) : Fin H.length V.length (Pu (er b) H V) (er a) H' V' := by
  subst h; exact Fin.pu (.refl _) (by simp [go_sem]) hokH hH hV
theorem Fin.int {H H' : Hp} {V V' : List Nat} {k : IntKind} {a b : Int} (h : a = b) (hokH : ∀ (b : Nat) cs, H[b]? = some (some cs) → okL H.length V.length cs) (hH : H'.take H.length = H) (hV : V'.take V.length = V) : Fin H.length V.length (Pu (.v (.int k b)) H V) (.v (.int k a)) H' V' := by
  subst h; exact Fin.pu (.refl _) trivial hokH hH hV
theorem Fin.cut {nb nv : Nat} {R : CV → Hp → List Nat → Prop} {r r' : CV} {H' H'' : Hp} {V' V'' : List Nat} (i j : Nat) (hR : R r' H'' V'') (hi : nb ≤ i) (hj : nv ≤ j) (hH : H'.take i = H'') (hV : V'.take j = V'') (hle : Le r r') (hok : okV i j r')
    (hokH : ∀ (b : Nat) cs, H''[b]? = some (some cs) → okL i j cs) : Fin nb nv R r H' V' := by
  refine ⟨r', H'', V'', ?_, hR⟩
  refine Gst.trans (T' := [(0, r')]) (H' := H') (V' := V') (Gst.forget fun p hp => ?_) ?_
  · simp at hp; subst hp; exact hle
  · have := Gst.cut (n := 1) (nb := nb) (nv := nv) (T := [(0, r')]) (H := H') (V := V') i j hi hj (fun p hp => by simp at hp; subst hp; exact hok) (by rw [hH]; exact hokH)
    rwa [hH, hV] at this
theorem Fin.self {nb nv : Nat} {R : CV → Hp → List Nat → Prop} {r : CV} {H : Hp} {V : List Nat} (h : R r H V) : Fin nb nv R r H V := ⟨r, H, V, Gst.refl, h⟩
def Ix (b : Bool) (H : Hp) (V : List Nat) : CV → Hp → List Nat → Prop := fun r H' V' => ∃ k : Int, r = ci k ∧ decide (0 ≤ k) = b ∧ H = H' ∧ V = V'
theorem Fin.ix {k : Int} {b : Bool} {H H' : Hp} {V V' : List Nat} (h : decide (0 ≤ k) = b) (hokH : ∀ (b : Nat) cs, H[b]? = some (some cs) → okL H.length V.length cs) (hH : H'.take H.length = H) (hV : V'.take V.length = V) : Fin H.length V.length (Ix b H V) (ci k) H' V' :=
  Fin.pure ⟨k, rfl, h, rfl, rfl⟩ hH hV (.refl _) trivial hokH
theorem any_take {α : Type} {p : α → Bool} {l : List α} {i : Nat} (h : i < l.length) (h1 : (l.take i).any p = false) (h2 : p l[i] = false) : (l.take (i + 1)).any p = false := by
  rw [List.take_succ_eq_append_getElem h, List.any_append, h1]; simp [h2]
theorem any_at {α : Type} {p : α → Bool} {l : List α} {i : Nat} (h : i < l.length) (h2 : p l[i] = true) : l.any p = true := List.any_eq_true.2 ⟨_, List.getElem_mem h, h2⟩
def okH (i j : Nat) : Hp → Prop
  | [] => True
  | none :: L => okH i j L
  | some cs :: L => okL i j cs ∧ okH i j L
@[go_sem] theorem okH_nil (i j : Nat) : okH i j [] = True := rfl
@[go_sem] theorem okH_none (i j : Nat) (L : Hp) : okH i j (none :: L) = okH i j L := rfl
@[go_sem] theorem okH_some (i j : Nat) (cs : List CV) (L : Hp) : okH i j (some cs :: L) = (okL i j cs ∧ okH i j L) := rfl
theorem okH_get {i j : Nat} : ∀ {L : Hp}, okH i j L → ∀ (b : Nat) cs, L[b]? = some (some cs) → okL i j cs
  | none :: L, h, 0, cs, e => by simp at e
  | none :: L, h, b + 1, cs, e => okH_get (L := L) h b cs (by simpa using e)
  | some c :: L, h, 0, cs, e => by simp at e; exact e ▸ h.1
  | some c :: L, h, b + 1, cs, e => okH_get (L := L) h.2 b cs (by simpa using e)
theorem Sh.trim {n : Nat} {T T' : Tm} {H0 L H : Hp} {V0 V V' : List Nat} (h : TLe T T') (hT : TOk (H0.length + L.length) V'.length T') (hokH : ∀ (b : Nat) cs, H0[b]? = some (some cs) → okL H0.length V0.length cs)
    (hL : okH (H0.length + L.length) V'.length L) (hV0 : V0.length ≤ V'.length) (eH : H.take (H0.length + L.length) = H0 ++ L) (eV : V.take V'.length = V') : Sh n H0.length V0.length T H V (T', H0 ++ L, V') := by
  refine Sh.cut (H0.length + L.length) V'.length h (Nat.le_add_right _ _) hV0 (TOk.all hT) (fun b cs hb => ?_) eH eV
  rw [List.getElem?_append] at hb
  split at hb
  · exact okL_mono (Nat.le_add_right _ _) hV0 (hokH b cs hb)
  · exact okH_get hL _ _ hb
theorem Fin.froz {nb nv : Nat} {R : CV → Hp → List Nat → Prop} {r : CV} {H H' : Hp} {V V' : List Nat} {b o n sz : Nat} {cs : List CV} {xs : List (List CV)} (hR : R (.sl .sh sz xs) H V) (hle : Le r (.bsl b o n sz)) (hb : H'[b]? = some (some cs)) (hx : chunks sz n (cs.drop o) = xs) (hn : o + n * sz ≤ cs.length)
    (hb0 : nb ≤ b) (hok : okE nb nv xs) (hokH : ∀ (b : Nat) cs, H[b]? = some (some cs) → okL nb nv cs) (hH : H'.take nb = H) (hV : V'.take nv = V) : Fin nb nv R r H' V' := by
  subst hx
  refine ⟨_, H, V, ?_, hR⟩
  refine Gst.trans (T' := [(0, .bsl b o n sz)]) (H' := H') (V' := V') (Gst.forget fun p hp => ?_) ?_
  · simp at hp; subst hp; exact hle
  refine Gst.trans (T' := [(0, .sl .sh sz (chunks sz n (cs.drop o)))]) (H' := H'.set b none) (V' := V') (Gst.freeze hb fun p hp => ?_) ?_
  · simp at hp; subst hp; exact Fz.bsl o n sz hn
  · have hH' : (H'.set b none).take nb = H := by rw [List.take_set_of_le hb0]; exact hH
    have := Gst.cut (n := 1) (nb := nb) (nv := nv) (T := [(0, .sl .sh sz (chunks sz n (cs.drop o)))]) (H := H'.set b none) (V := V') nb nv (Nat.le_refl _) (Nat.le_refl _) (fun p hp => by simp at hp; subst hp; simpa only [go_sem] using hok) (by rw [hH']; exact hokH)
    rwa [hH', hV] at this
@[go_sem, simp] theorem take_add {α : Type} (H L : List α) (k : Nat) : (H ++ L).take (H.length + k) = H ++ L.take k := by rw [List.take_append, List.take_of_length_le (by omega), Nat.add_sub_cancel_left]
theorem foldl_take_succ {α β : Type} (f : β → α → β) (z : β) (l : List α) (i : Nat) (h : i < l.length) : (l.take (i + 1)).foldl f z = f ((l.take i).foldl f z) l[i] := by
  rw [List.take_succ_eq_append_getElem h, List.foldl_append]; rfl
theorem Fin.tup2 {H H' : Hp} {V V' : List Nat} {a b a' b' : CV} (h1 : Le a a') (h2 : Le b b') (o1 : okV H.length V.length a') (o2 : okV H.length V.length b') (hokH : ∀ (b : Nat) cs, H[b]? = some (some cs) → okL H.length V.length cs) (hH : H'.take H.length = H) (hV : V'.take V.length = V) : Fin H.length V.length (Pu (.tup [a', b']) H V) (.tup [a, b]) H' V' :=
  Fin.pu (.tup (.cons h1 (.cons h2 .nil))) (by rw [okV]; simp [go_sem, o1, o2]) hokH hH hV
theorem CC.le {P : Program} {f : FuncId} {xs ys : List CV} {H : Hp} {V : List Nat} {R : CV → Hp → List Nat → Prop} (h : LeL xs ys) (hc : CC P f ys H V R) : CC P f xs H V R :=
  ⟨hc.1, fun m w us hi hu => hc.2 m w us hi (h.rel hu)⟩
@[go_sem] theorem hbx_sa {H L : Hp} {X : Nat} {c : List CV} (h : X < H.length) (K : List CV → Prop) : hbx (H.set X (some c) ++ L) X K = K c := by
  unfold hbx; rw [List.getElem?_append_left (by simpa using h), List.getElem?_set_self h]
@[go_sem] theorem hbx_s {H : Hp} {X : Nat} {c : List CV} (h : X < H.length) (K : List CV → Prop) : hbx (H.set X (some c)) X K = K c := by
  unfold hbx; rw [List.getElem?_set_self h]
@[go_sem] theorem set_sa {H L : Hp} {X : Nat} {c c' : Option (List CV)} (h : X < H.length) : (H.set X c ++ L).set X c' = H.set X c' ++ L := by
  rw [List.set_append_left _ _ (by simpa using h), List.set_set]
@[go_sem] theorem hbx_ss {H L : Hp} {X k : Nat} {c : Option (List CV)} (K : List CV → Prop) : hbx (H.set X c ++ L) (H.length + k) K = hbx L k K := by
  unfold hbx; rw [List.getElem?_append_right (by simp)]; simp
@[go_sem] theorem hbx_ss0 {H L : Hp} {X : Nat} {c : Option (List CV)} (K : List CV → Prop) : hbx (H.set X c ++ L) H.length K = hbx L 0 K := hbx_ss (k := 0) K
@[go_sem] theorem set_ss {H L : Hp} {X k : Nat} {c y : Option (List CV)} : (H.set X c ++ L).set (H.length + k) y = H.set X c ++ L.set k y := by
  rw [List.set_append_right _ _ (by simp)]; simp
@[go_sem] theorem set_ss0 {H L : Hp} {X : Nat} {c y : Option (List CV)} : (H.set X c ++ L).set H.length y = H.set X c ++ L.set 0 y := set_ss (k := 0)
theorem Fin.frozG {nb nv : Nat} {R : CV → Hp → List Nat → Prop} {r r1 r2 : CV} {H H' : Hp} {V V' : List Nat} {b : Nat} {cs : List CV} (hR : R r2 H V) (hle : Le r r1) (hb : H'[b]? = some (some cs)) (hz : Fz b cs r1 r2)
    (hb0 : nb ≤ b) (hok : okV nb nv r2) (hokH : ∀ (b : Nat) cs, H[b]? = some (some cs) → okL nb nv cs) (hH : H'.take nb = H) (hV : V'.take nv = V) : Fin nb nv R r H' V' := by
  refine ⟨_, H, V, ?_, hR⟩
  refine Gst.trans (T' := [(0, r1)]) (H' := H') (V' := V') (Gst.forget fun p hp => ?_) ?_
  · simp at hp; subst hp; exact hle
  refine Gst.trans (T' := [(0, r2)]) (H' := H'.set b none) (V' := V') (Gst.freeze hb fun p hp => ?_) ?_
  · simp at hp; subst hp; exact hz
  · have hH' : (H'.set b none).take nb = H := by rw [List.take_set_of_le hb0]; exact hH
    have := Gst.cut (n := 1) (nb := nb) (nv := nv) (T := [(0, r2)]) (H := H'.set b none) (V := V') nb nv (Nat.le_refl _) (Nat.le_refl _) (fun p hp => by simp at hp; subst hp; exact hok) (by rw [hH']; exact hokH)
    rwa [hH', hV] at this
theorem Fin.frozY {nb nv : Nat} {R : CV → Hp → List Nat → Prop} {r r1 r2 : CV} {H H' : Hp} {V V' : List Nat} {b : Nat} {cs : List CV} (hR : R r2 H V) (hle : Le r r1) (hb : H'[b]? = some (some cs)) (hz : Fy b cs r1 r2)
    (hb0 : nb ≤ b) (hok : okV nb nv r2) (hokH : ∀ (b : Nat) cs, H[b]? = some (some cs) → okL nb nv cs) (hH : H'.take nb = H) (hV : V'.take nv = V) : Fin nb nv R r H' V' := by
  refine ⟨_, H, V, ?_, hR⟩
  refine Gst.trans (T' := [(0, r1)]) (H' := H') (V' := V') (Gst.forget fun p hp => ?_) ?_
  · simp at hp; subst hp; exact hle
  refine Gst.trans (T' := [(0, r2)]) (H' := H'.set b none) (V' := V') (Gst.freezeY hb fun p hp => ?_) ?_
  · simp at hp; subst hp; exact hz
  · have hH' : (H'.set b none).take nb = H := by rw [List.take_set_of_le hb0]; exact hH
    have := Gst.cut (n := 1) (nb := nb) (nv := nv) (T := [(0, r2)]) (H := H'.set b none) (V := V') nb nv (Nat.le_refl _) (Nat.le_refl _) (fun p hp => by simp at hp; subst hp; exact hok) (by rw [hH']; exact hokH)
    rwa [hH', hV] at this
theorem wrap_big {i : Nat} (h : i < 9223372036854775807) : IntKind.i64.wrap ((i : Int) + 1) = ((i + 1 : Nat) : Int) := by
  rw [IntWalk.i64_in _ ⟨by omega, by omega⟩]; rfl
@[go_sem] theorem okV_bm (i j f : Nat) (cs : List CV) : okV i j (.bm f cs) = okL i j cs := by rw [okV]
theorem Kp_ss {S : List Nat} {G : Hp} {X : Nat} {c c' : Option (List CV)} (h : X ∉ S) : Kp S (G.set X c) (G.set X c') := fun b hb cs h2 => by
  have : X ≠ b := fun e => h (e ▸ hb)
  rw [List.getElem?_set_ne this] at h2 ⊢; exact h2
theorem hget (H L : Hp) (k : Nat) : (H ++ L)[H.length + k]? = L[k]? := by rw [List.getElem?_append_right (by omega), Nat.add_sub_cancel_left]
theorem hbx_of {H : Hp} {b : Nat} {cs : List CV} (h : H[b]? = some (some cs)) (K : List CV → Prop) : hbx H b K = K cs := by
  unfold hbx; rw [h]
theorem okX_gen {H L : Hp} {X : Nat} {c0 c : List CV} {V V' : List Nat} (hX : X < H.length) (hok0 : ∀ (b : Nat) cs, (H.set X (some c0))[b]? = some (some cs) → okL H.length V.length cs) (h4 : V.length ≤ V'.length)
    (hc : okL (H.length + L.length) V'.length c) (hL : okH (H.length + L.length) V'.length L) : ∀ (b : Nat) cs, (H.set X (some c) ++ L)[b]? = some (some cs) → okL (H.length + L.length) V'.length cs := by
  intro b cs hb
  rw [List.getElem?_append] at hb
  split at hb
  · by_cases hbX : b = X
    · subst hbX
      rw [List.getElem?_set_self hX] at hb
      simp at hb; subst hb
      exact hc
    · refine okL_mono (Nat.le_add_right _ _) h4 (hok0 b cs ?_)
      rw [List.getElem?_set_ne (fun e => hbX e.symm)] at hb ⊢
      exact hb
  · exact okH_get hL _ _ hb
end Go.Proofs.YtbnkggbpocaaiaaGreatDoor
namespace Go.Proofs.YtbnkggbpocaaiaaGreatDoor
abbrev secsV (l : List Sec) : CV := .sl .sh 8 (l.map secC)
def secsF (l : List Sec) : List CV := (l.map secC).flatten
@[go_sem, simp] theorem secsF_len (l : List Sec) : (secsF l).length = 8 * l.length := by
  induction l with
  | nil => rfl
  | cons a l ih => rw [secsF, List.map_cons, List.flatten_cons, List.length_append, secC_len, List.length_cons]; rw [secsF] at ih; rw [ih]; omega
theorem secsF_cons (a : Sec) (l : List Sec) : secsF (a :: l) = secC a ++ secsF l := by rw [secsF, List.map_cons, List.flatten_cons]; rfl
theorem secsF_app (a b : List Sec) : secsF (a ++ b) = secsF a ++ secsF b := by simp [secsF]
theorem secsF_take : ∀ (l : List Sec) (i : Nat), (secsF l).take (i * 8) = secsF (l.take i)
  | [], i => by simp [secsF]
  | a :: l, 0 => by simp [secsF]
  | a :: l, i + 1 => by
    rw [secsF_cons, List.take_succ_cons, secsF_cons, List.take_append, secC_len, List.take_of_length_le (by rw [secC_len]; omega), show (i + 1) * 8 - 8 = i * 8 by omega, secsF_take l i]
theorem secsF_drop : ∀ (l : List Sec) (i : Nat), (secsF l).drop (i * 8) = secsF (l.drop i)
  | [], i => by simp [secsF]
  | a :: l, 0 => by simp
  | a :: l, i + 1 => by
    rw [secsF_cons, List.drop_succ_cons, List.drop_append, secC_len, List.drop_of_length_le (by rw [secC_len]; omega), show (i + 1) * 8 - 8 = i * 8 by omega, secsF_drop l i]; rfl
theorem secsF_set {l : List Sec} {i : Nat} (h : i < l.length) (s : Sec) : (secsF l).take (i * 8) ++ secC s ++ (secsF l).drop (i * 8 + 8) = secsF (l.set i s) := by
  rw [show i * 8 + 8 = (i + 1) * 8 by omega, secsF_take, secsF_drop, List.set_eq_take_append_cons_drop, if_pos h, secsF_app, secsF_cons, List.append_assoc]
theorem secsF_set' {l : List Sec} {i : Nat} (h : i < l.length) (s : Sec) : (secsF l).take (i * 8) ++ (secC s ++ (secsF l).drop (i * 8 + 8)) = secsF (l.set i s) := by
  rw [← List.append_assoc, secsF_set h]
theorem chunks_secs : ∀ l : List Sec, chunks 8 l.length (secsF l) = l.map secC
  | [] => rfl
  | a :: l => by
    rw [List.length_cons, secsF_cons, chunks, List.take_append_of_le_length (by rw [secC_len]; exact Nat.le_refl _), secC_take, List.drop_append_of_le_length (by rw [secC_len]; exact Nat.le_refl _), List.drop_of_length_le (by rw [secC_len]; exact Nat.le_refl _), List.nil_append, chunks_secs l]; rfl
@[go_sem, simp] theorem secsF_all (l : List Sec) : allOne (secsF l) = true := by
  induction l with
  | nil => rfl
  | cons a l ih => rw [secsF_cons, allOne, List.all_append, ← allOne, ← allOne, secC_all, ih]; rfl
@[go_sem] theorem okL_secsF (jb jv : Nat) (l : List Sec) : okL jb jv (secsF l) = True := by
  induction l with
  | nil => simp [secsF, okL]
  | cons a l ih =>
    refine eq_true (okL_iff.2 fun c hc => ?_)
    rw [secsF_cons] at hc
    rcases List.mem_append.1 hc with h | h
    · exact okL_iff.1 (by rw [okL_secC]; trivial) c h
    · exact okL_iff.1 (by rw [ih]; trivial) c h
def sec0 : Sec := ⟨List.replicate 8 0, rfl⟩
theorem zeros_secs : ∀ n : Nat, (List.replicate n (List.map CV.v [.int .u8 0, .int .u8 0, .int .u8 0, .int .u8 0, .int .u8 0, .int .u8 0, .int .u8 0, .int .u8 0])).flatten = secsF (List.replicate n sec0)
  | 0 => rfl
  | n + 1 => by rw [List.replicate_succ, List.flatten_cons, zeros_secs n, List.replicate_succ, secsF_cons]; rfl
theorem okV_secsV (i j : Nat) (l : List Sec) : okV i j (secsV l) := by rw [secsV, okV_sh, okE_secs]; trivial
def zer (n : Nat) : List Sec := List.replicate n sec0
@[go_sem, simp] theorem zer_len (n : Nat) : (zer n).length = n := List.length_replicate
end Go.Proofs.YtbnkggbpocaaiaaGreatDoor
namespace Go.Proofs.YtbnkggbpocaaiaaGreatDoor
section
variable {P : Program} {n nb nv id : Nat} {Q : Exit → Tm → Hp → List Nat → Prop} {T : Tm} {H : Hp} {V : List Nat}
theorem SWp.tassert {pre post : List Oper} {d : Option Tmp} {ty : TypeId} {pos : String} {after : Array Edge} {x : Operand} {t u : TypeId}
    (h : crunS P n ((pre ++ ⟨d, .typeAssert x t u true, ty, pos, after, none⟩ :: post).map (·.dst)) pre T H V fun T H V => dOk d n ∧
      ∃ c u' pv, evT T x = .v (.iface u' pv) ∧ (∀ m w V, RelV m w V c pv) ∧ (∀ (A : Act) (w : World), A.eval x = .iface u' pv → (execOp A.eval ⟨d, .typeAssert x t u true, ty, pos, after, none⟩).run P w = .ok (.value (.tuple #[pv, .bool true])) w) ∧
        contL P n ((pre ++ ⟨d, .typeAssert x t u true, ty, pos, after, none⟩ :: post).map (·.dst)) d post T (Q .normal) (.tup [c, .v (.bool true)]) H V) :
    SWp P n nb nv (.region id (pre ++ ⟨d, .typeAssert x t u true, ty, pos, after, none⟩ :: post).toArray false) Q T H V := by
  intro ro D m w a m0 w0 V0 h1 h2 h3 hx hs
  generalize hops : pre ++ ⟨d, .typeAssert x t u true, ty, pos, after, none⟩ :: post = ops at h ⊢
  rw [crunS, ← crun_lite] at h
  refine wpIn_region_list ?_
  have e : ops.toArray.toList = pre ++ (⟨d, .typeAssert x t u true, ty, pos, after, none⟩ :: post) := by rw [hops]
  rw [e]
  refine crun_soundR (P := P) (Q := fun e a' w' => ∃ T' H' V' m', Q e T' H' V' ∧ St D n m' w' a' T' H' V' ∧ Ext m0 w0 V0 m' w' V') pre hs h fun T1 H1 V1 a1 w1 m1 ⟨hd, c, u', pv, he, hr, hrun, hk⟩ s1 x1 => ?_
  unfold wpListIn
  rw [if_pos (by simp [Region.wanted])]
  have hev := ev_rel s1.tm x
  rw [he, RelV] at hev
  refine ⟨fun _ _ => trivial, ?_⟩
  rw [Oper.semAt_eq _ _ _ (by intro c e; cases e), hrun a1 w1 hev, Oper.uponIn_value]
  have q2 : crunL P n (ops.map (·.dst)) post (tput d (.tup [c, .v (.bool true)]) T1) H1 V1 (Q .normal) := hk
  rw [← crun_lite] at q2
  have hrel : RelV m1 w1 V1 (.tup [c, .v (.bool true)]) (.tuple #[pv, .bool true]) := by
    rw [RelV]; exact ⟨[pv, .bool true], rfl, by rw [RelL]; exact ⟨_, _, rfl, hr _ _ _, by rw [RelL]; exact ⟨_, _, rfl, by rw [RelV], by rw [RelL]⟩⟩⟩
  have hst : St D n m1 w1 (a1.put d (.tuple #[pv, .bool true])) (tput d (.tup [c, .v (.bool true)]) T1) H1 V1 := ⟨s1.inv, (s1.tm).put hrel (by rw [s1.size]; exact hd), by rw [put_size]; exact s1.size, by rw [put_defers]; exact s1.df⟩
  exact crun_sound (P := P) (Q := fun e a' w' => ∃ T' H' V' m', Q e T' H' V' ∧ St D n m' w' a' T' H' V' ∧ Ext m0 w0 V0 m' w' V') post hst q2 fun T' H' V' a' w' m' k1 k2 k3 => ⟨T', H', V', m', k1, k2, (hx.trans x1).trans k3⟩
end
def isCall (o : Oper) : Option (Operand × Array Operand) :=
  match o with
  | ⟨_, .call ⟨.value f, args, _⟩, _, _, _, none⟩ => some (f, args)
  | _ => none
section
variable {P : Program} {n nb nv id : Nat} {ops : List Oper} {Q : Exit → Tm → Hp → List Nat → Prop}
theorem isCall_eq {o : Oper} {f : Operand} {args : Array Operand} (h : isCall o = some (f, args)) : ∃ tys, o.op = .call ⟨.value f, args, tys⟩ ∧ o.guard = none := by
  unfold isCall at h
  split at h
  · cases h; exact ⟨_, rfl, rfl⟩
  · cases h
theorem crunX_one {D : Dl} {ro : Option Nat} {i : Nat} {f : Nat} {listed : Array Bool} {m0 : Gh} {w0 : World} {V0 : List Nat} {T : Tm} {H : Hp} {V : List Nat} {m : Gh} {w : World} {a : Act} {K : Tm → Hp → List Nat → Prop}
    (hs : St D n m w a T H V) (hx : Ext m0 w0 V0 m w V) (h : withO (ops[i]?) fun o => crunL P n (ops.map (·.dst)) [o] T H V K)
    (hk : ∀ T' H' V' m' w' a', K T' H' V' → St D n m' w' a' T' H' V' → Ext m0 w0 V0 m' w' V' → wpAnyIn (fen ro) 0 P .any ops.toArray (fun e a' w' => ∃ T' H' V' m', Q e T' H' V' ∧ St D n m' w' a' T' H' V' ∧ Ext m0 w0 V0 m' w' V') f (listed.setIfInBounds i true) a' w') :
    wpOpIn (fen ro) 0 P ops.toArray (fun e a' w' => ∃ T' H' V' m', Q e T' H' V' ∧ St D n m' w' a' T' H' V' ∧ Ext m0 w0 V0 m' w' V') i (wpAnyIn (fen ro) 0 P .any ops.toArray (fun e a' w' => ∃ T' H' V' m', Q e T' H' V' ∧ St D n m' w' a' T' H' V' ∧ Ext m0 w0 V0 m' w' V') f (listed.setIfInBounds i true)) a w := by
  cases hi : ops[i]? with
  | none => rw [hi] at h; exact (show False from h).elim
  | some o =>
    rw [hi, withO_some, ← crun_lite] at h
    refine cstepE_sound hi hs.inv hs.tm hs.size (crun_one h) fun E' H' V' a' m' w' k1 k2 k3 k4 k5 k6 => ?_
    obtain ⟨T', rfl, k1⟩ := k1
    exact hk T' H' V' m' w' a' k1 ⟨k2, k3, k4, by rw [k5]; exact hs.df.mono k6⟩ (hx.trans k6)
end
section
variable {P : Program} {n : Nat} {ops : List Oper} {N : Tm → Hp → List Nat → Prop} {E : List PanicEntry → Tm → Hp → List Nat → Prop} {T T' : Tm} {H H' : Hp} {V V' : List Nat}
end
end Go.Proofs.YtbnkggbpocaaiaaGreatDoor
namespace Go.Proofs.YtbnkggbpocaaiaaGreatDoor
section
variable {P : Program} {n : Nat} {ops : List Oper}
end
section
variable {P : Program} {n : Nat} {ds : List (Option Tmp)} {ls : List Oper} {S : List Nat} {T T' : Tm} {H H' : Hp} {V V' : List Nat} {K : Tm → Hp → List Nat → Prop}
end
end Go.Proofs.YtbnkggbpocaaiaaGreatDoor
namespace Go.Proofs.YtbnkggbpocaaiaaGreatDoor
theorem LeL.refl : ∀ (cs : List CV), LeL cs cs
  | [] => .nil
  | c :: cs => .cons (.refl c) (LeL.refl cs)
theorem LeL.app {cs ds xs ys : List CV} : LeL cs ds → LeL xs ys → LeL (cs ++ xs) (ds ++ ys)
  | .nil, h => h
  | .cons h t, h' => .cons h (LeL.app t h')
theorem LeL.take {cs ds : List CV} : ∀ (i : Nat), LeL cs ds → LeL (cs.take i) (ds.take i)
  | 0, _ => by rw [List.take_zero, List.take_zero]; exact .nil
  | i + 1, .nil => by rw [List.take_nil]; exact .nil
  | i + 1, .cons h t => by rw [List.take_succ_cons, List.take_succ_cons]; exact .cons h (LeL.take i t)
theorem LeL.drop {cs ds : List CV} : ∀ (i : Nat), LeL cs ds → LeL (cs.drop i) (ds.drop i)
  | 0, h => h
  | i + 1, .nil => by rw [List.drop_nil]; exact .nil
  | i + 1, .cons h t => by rw [List.drop_succ_cons, List.drop_succ_cons]; exact LeL.drop i t
theorem LeL.put {cs ds : List CV} {c d : CV} {i : Nat} (h : LeL cs ds) (hc : Le c d) (hi : i < cs.length) : LeL (cs.take i ++ c :: cs.drop (i + 1)) (ds.set i d) := by
  rw [List.set_eq_take_append_cons_drop, if_pos (by rw [← h.len]; exact hi)]
  exact LeL.app (h.take i) (.cons hc (h.drop (i + 1)))
end Go.Proofs.YtbnkggbpocaaiaaGreatDoor
namespace Go.Proofs.YtbnkggbpocaaiaaGreatDoor
def CV.isObj : CV → Bool
  | .objl .. => true
  | .objm .. => true
  | .obji .. => true
  | _ => false
theorem RelO.isObj {m : Gh} {w : World} {V : List Nat} {k : Nat} {x : CV} (h : RelO m w V k x) : x.isObj = true := by
  cases x <;> first | rfl | exact (show False from h).elim
theorem Inv.weak {m : Gh} {w : World} {H : Hp} {V : List Nat} {b : Nat} {cs ds : List CV} (hi : Inv m w H V) (hb : H[b]? = some (some cs)) (h : LeL cs ds) (hno : ∀ x ∈ cs, x.isObj = false) : Inv m w (H.set b (some ds)) V := by
  have hbl : b < H.length := (List.getElem?_eq_some_iff.1 hb).1
  refine ⟨by rw [List.length_set]; exact hi.boxlen, hi.tiplen, hi.limv, hi.tips, hi.boxes, fun b1 b2 k c1 c2 g1 g2 g3 g4 => ?_, fun b1 c1 g => ?_⟩
  · have old : ∀ (b1 : Nat) c1, (H.set b (some ds))[b1]? = some (some c1) → ∃ c0, H[b1]? = some (some c0) := fun b1 c1 g => by
      by_cases e : b = b1
      · subst e; exact ⟨_, hb⟩
      · rw [List.getElem?_set_ne e] at g; exact ⟨_, g⟩
    obtain ⟨_, o1⟩ := old _ _ g1
    obtain ⟨_, o2⟩ := old _ _ g2
    exact hi.uniq b1 b2 k _ _ o1 o2 g3 g4
  · by_cases e : b = b1
    · subst e
      rw [List.getElem?_set_self hbl] at g
      obtain rfl : ds = c1 := by simpa using g
      cases hi.live b cs hb with
      | row k c e h1 h2 h3 h4 h5 => exact .row k c e h1 h2 (by rw [← h.len]; exact h3) h4 (h.relC h5)
      | obj k x h1 h2 h3 =>
        have := hno x (by rw [h2]; simp)
        rw [h3.isObj] at this; cases this
    · rw [List.getElem?_set_ne e] at g
      exact hi.live b1 c1 g
theorem Gst.weak {n nb nv : Nat} {T : Tm} {H : Hp} {V : List Nat} {b : Nat} {cs ds : List CV} (hb : H[b]? = some (some cs)) (h : LeL cs ds) (hno : ∀ x ∈ cs, x.isObj = false) : Gst n nb nv T H V T (H.set b (some ds)) V := fun D m w a m0 w0 V0 h1 h2 h3 hx hs =>
  ⟨m, ⟨hs.inv.weak hb h hno, hs.tm, hs.size, hs.df⟩, hx⟩
theorem Sh.weak {n nb nv : Nat} {T : Tm} {H : Hp} {V : List Nat} {s : Tm × Hp × List Nat} {b : Nat} {cs ds : List CV} (hb : H[b]? = some (some cs)) (h : LeL cs ds) (hno : ∀ x ∈ cs, x.isObj = false) (k : Sh n nb nv T (H.set b (some ds)) V s) : Sh n nb nv T H V s :=
  Gst.trans (Gst.weak hb h hno) k
end Go.Proofs.YtbnkggbpocaaiaaGreatDoor
namespace Go.Proofs.YtbnkggbpocaaiaaGreatDoor
variable {P : Program}
theorem capnil {d : Option Tmp} {t ty : TypeId} {pos : String} {after : Array Edge} {x : Operand} {ev : Operand → CV} {H : Hp} {V : List Nat} (hx : ev x = .v (.slice none 0 0)) (ht : (slTy P t).isSome = true) :
    OpX P ⟨d, .call ⟨.builtin .cap, #[x], #[t]⟩, ty, pos, after, none⟩ ev H V (ci 0) H V := by
  intro m w a hi hev
  have hxr := hev x
  rw [hx, RelV] at hxr
  obtain ⟨e, sz, ht⟩ := sl1 ht
  obtain ⟨i, z, hu, hinf, hsz, hpos, hb0, hb1, hz, hzs⟩ := slTy_some ht
  refine ⟨.int .i64 0, w, m, ?_, hi, by rw [RelV], Ext.refl m w V⟩
  simp [execOp, resolve, invoke, builtin, hxr, Builtin.cap_, run_underlying hu, goInt]
  try rfl
theorem St.put {D : Dl} {n : Nat} {m m' : Gh} {w w' : World} {a : Act} {T : Tm} {H H' : Hp} {V V' : List Nat} {d : Option Tmp} {c : CV} {u : Value} (hs : St D n m w a T H V) (hd : dOk d n) (h2 : Inv m' w' H' V') (h3 : RelV m' w' V' c u) (h4 : Ext m w V m' w' V') :
    St D n m' w' (a.put d u) (tput d c T) H' V' :=
  ⟨h2, (RelT.mono h4 hs.tm).put h3 (by rw [hs.size]; exact hd), by rw [put_size]; exact hs.size, by rw [put_defers]; exact hs.df.mono h4⟩
def MW (P : Program) (n : Nat) (ops mid : List Oper) (T : Tm) (H : Hp) (V : List Nat) (K : Tm → Hp → List Nat → Prop) : Prop :=
  ∀ (ro : Option Nat) (Q : Exit → Act → World → Prop) (l2 : List Oper) (D : Dl) (a : Act) (m : Gh) (w : World), St D n m w a T H V →
    (∀ T' H' V' a' w' m', K T' H' V' → St D n m' w' a' T' H' V' → Ext m w V m' w' V' → wpListIn (fen ro) 0 P ops.toArray Q l2 a' w') → wpListIn (fen ro) 0 P ops.toArray Q (mid ++ l2) a w
section
variable {n nb nv id : Nat} {Q : Exit → Tm → Hp → List Nat → Prop} {T : Tm} {H : Hp} {V : List Nat} {ops mid mid2 : List Oper} {K : Tm → Hp → List Nat → Prop}
theorem MW.crun {l : List Oper} (h : crunS P n (ops.map (·.dst)) l T H V K) : MW P n ops l T H V K := by
  rw [crunS, ← crun_lite] at h
  exact fun ro Q l2 D a m w hs hK => crun_soundR l hs h hK
theorem MW.app (h : MW P n ops mid T H V fun T H V => MW P n ops mid2 T H V K) : MW P n ops (mid ++ mid2) T H V K := fun ro Q l2 D a m w hs hK => by
  rw [List.append_assoc]
  exact h ro Q (mid2 ++ l2) D a m w hs fun T' H' V' a' w' m' k s x => k ro Q l2 D a' m' w' s fun T2 H2 V2 a2 w2 m2 k2 s2 x2 => hK T2 H2 V2 a2 w2 m2 k2 s2 (x.trans x2)
theorem MW.opx {o : Oper} {c : CV} {H' : Hp} {V' : List Nat} (hg : o.guard = none) (hnd : ∀ c, o.op ≠ .defer c) (hd : dOk o.dst n) (h : OpX P o (evT T) H V c H' V') (hk : K (tput o.dst c T) H' V') : MW P n ops [o] T H V K := fun ro Q l2 D a m w hs hK => by
  obtain ⟨u, w', m', q1, q2, q3, q4⟩ := h m w a hs.inv (fun x => ev_rel hs.tm x)
  show wpListIn (fen ro) 0 P ops.toArray Q (o :: l2) a w
  unfold wpListIn
  rw [if_pos (by simp [Region.wanted, hg])]
  exact wp_val hnd q1 (hK _ _ _ _ _ _ hk (hs.put hd q2 q3 q4) q4)
theorem SWp.mw (h : MW P n ops ops T H V (Q .normal)) : SWp P n nb nv (.region id ops.toArray false) Q T H V := by
  intro ro D m w a m0 w0 V0 h1 h2 h3 hx hs
  refine wpIn_region_list ?_
  have := h ro (fun e a' w' => ∃ T' H' V' m', Q e T' H' V' ∧ St D n m' w' a' T' H' V' ∧ Ext m0 w0 V0 m' w' V') [] D a m w hs fun T' H' V' a' w' m' k s x => by
    unfold wpListIn
    exact ⟨T', H', V', m', k, s, hx.trans x⟩
  rwa [List.append_nil] at this
theorem put_tmp {a : Act} {i : Nat} {u : Value} (h : i < a.tmps.size) : (a.put (some i) u).tmps.getD i undef = u := by
  simp [Act.put, h]
theorem put_ne {a : Act} {i j : Nat} {u : Value} (h : i ≠ j) : (a.put (some i) u).tmps.getD j undef = a.tmps.getD j undef := by
  simp only [Act.put, Array.getD_eq_getD_getElem?]
  rw [Array.getElem?_setIfInBounds_ne h]
theorem MW.room {t tI e : TypeId} {sz : Nat} {zs : List Value} {i1 i2 i3 i4 k0 : Nat} {x y : Operand} {k : IntKind} {N : Int} {ty1 ty2 ty3 ty4 : TypeId} {p1 p2 p3 p4 : String} {f1 f2 f3 f4 : Array Edge}
    (ht : slTy P t = some (e, sz)) (hI : azTy P tI = true) (hz' : zcTy P e = some zs) (hx : evT T x = .v (.slice none 0 0)) (hy : evT T y = .v (.int k N)) (h0 : tget T k0 = .v (.slice none 0 0)) (hN : 1 ≤ N) (hN2 : N ≤ 1099511627776)
    (hn : i1 < n ∧ i2 < n ∧ i3 < n ∧ i4 < n) (hne : i1 ≠ i2 ∧ i1 ≠ i3 ∧ i2 ≠ i3 ∧ i1 ≠ k0) (hk : K ((i4, .sl (.own V.length 0) sz []) :: (i3, .any) :: (i2, .any) :: (i1, .any) :: T) H (V ++ [0])) :
    MW P n ops [⟨some i1, .call ⟨.builtin .append, #[x, y], #[t, tI]⟩, ty1, p1, f1, none⟩, ⟨some i2, .move (.tmp k0), ty2, p2, f2, none⟩, ⟨some i3, .call ⟨.builtin .len, #[.tmp i2], #[t]⟩, ty3, p3, f3, none⟩, ⟨some i4, .slice t (.tmp i1) none (some (.tmp i3)) none, ty4, p4, f4, none⟩] T H V K := fun ro Q l2 D a m w hs hK => by
  obtain ⟨n1, n2, n3, n4⟩ := hn
  obtain ⟨e12, e13, e23, e10⟩ := hne
  obtain ⟨i, z, hu, hinf, hsz, hpos, hb0, hb1, hz, hzs⟩ := slTy_some ht
  obtain ⟨i', z', q1, q2, q3, q4⟩ := zcTy_some' hz'
  rw [hinf] at q1; cases q1
  rw [hz] at q2; cases q2
  subst q3 hsz
  have vx := ev_rel hs.tm x
  rw [hx, RelV] at vx
  have vy := ev_rel hs.tm y
  rw [hy, RelV] at vy
  have v0 := hs.tm k0
  rw [h0, RelV] at v0
  have hsrc := SrcG.of_int (P := P) (t := t) (tx := tI) (ty := ty1) (w := w) (k := k) hu hinf hz hzs hpos hb0 hb1 hI q4 (show (0 : Int) ≤ N by omega) hN2
  have hgr := hsrc.grow none 0 0 [] (run_firstCells_none w.drew i.size 0 0 0) (by omega) (by omega) (by omega)
  obtain ⟨cells, hcells⟩ : ∃ cells : Array Value, cells = ([] ++ (List.replicate N.toNat z.cells.toList).flatten).toArray ++ Builtin.zeroCells z.cells (grownCap w (0 + N.toNat) 0 e - (0 + N.toNat)) := ⟨_, rfl⟩
  rw [← hcells] at hgr
  obtain ⟨cap, hcap⟩ : ∃ cap, cap = grownCap w (0 + N.toNat) 0 e := ⟨_, rfl⟩
  have hcapg : 0 + N.toNat ≤ cap := hcap ▸ grownCap_ge w (0 + N.toNat) 0 e
  have hcs : cap * i.size ≤ cells.size := by
    rw [hcells]
    simp only [Array.size_append, List.size_toArray, List.nil_append, size_zeroCells, hzs, hsrc.newsLen, ← Nat.add_mul]
    rw [← hcap]
    exact Nat.mul_le_mul_right _ (by omega)
  rw [← hcap] at hgr
  have hp := Pushed.drewAlloc w (.cells cells e)
  obtain ⟨s1, s2⟩ := step_fresh hs.inv hp 0 (Nat.zero_le _)
  show wpListIn (fen ro) 0 P ops.toArray Q (_ :: _ :: _ :: _ :: l2) a w
  have any : ∀ {m' : Gh} {w' : World} {V' : List Nat} {u : Value}, RelV m' w' V' .any u := by intros; rw [RelV]; trivial
  have st1 := hs.put (d := some i1) (c := .any) (u := .slice (some ⟨w.heap.size, 0, none⟩) (0 + N.toNat) cap) n1 s1 any s2
  have z1 : a.tmps.size = n := hs.size
  unfold wpListIn
  rw [if_pos (by simp [Region.wanted])]
  refine wp_val (u := .slice (some ⟨w.heap.size, 0, none⟩) (0 + N.toNat) cap) (w' := w.drew.alloc (.cells cells e)) (by intro c h; cases h) ?_ ?_
  · simp [execOp, resolve, invoke, builtin, vx, vy, hgr]
  have g1 := put_tmp (a := a) (i := i1) (u := .slice (some ⟨w.heap.size, 0, none⟩) (0 + N.toNat) cap) (by omega)
  have g0 := put_ne (a := a) (i := i1) (j := k0) (u := .slice (some ⟨w.heap.size, 0, none⟩) (0 + N.toNat) cap) e10
  rw [v0] at g0
  dsimp only at st1 ⊢
  generalize a.put (some i1) (.slice (some ⟨w.heap.size, 0, none⟩) (0 + N.toNat) cap) = a1 at st1 g1 g0 ⊢
  have st2 := st1.put (d := some i2) (c := .any) (u := .slice none 0 0) n2 s1 any (Ext.refl _ _ _)
  have z2 : a1.tmps.size = n := st1.size
  unfold wpListIn
  rw [if_pos (by simp [Region.wanted])]
  refine wp_val (u := .slice none 0 0) (w' := w.drew.alloc (.cells cells e)) (by intro c h; cases h) ?_ ?_
  · have : a1.eval (.tmp k0) = .slice none 0 0 := g0
    simp [execOp, this]
  have b1 := (put_ne (a := a1) (i := i2) (j := i1) (u := .slice none 0 0) (fun q => e12 q.symm)).trans g1
  have b2 := put_tmp (a := a1) (i := i2) (u := .slice none 0 0) (by omega)
  dsimp only at st2 ⊢
  generalize a1.put (some i2) (.slice none 0 0) = a2 at st2 b1 b2 ⊢
  have st3 := st2.put (d := some i3) (c := .any) (u := .int .i64 0) n3 s1 any (Ext.refl _ _ _)
  have z3 : a2.tmps.size = n := st2.size
  unfold wpListIn
  rw [if_pos (by simp [Region.wanted])]
  refine wp_val (u := .int .i64 0) (w' := w.drew.alloc (.cells cells e)) (by intro c h; cases h) ?_ ?_
  · have : a2.eval (.tmp i2) = .slice none 0 0 := b2
    simp [execOp, resolve, invoke, builtin, this, Builtin.len_, run_underlying hu, goInt]
    try rfl
  have c1 := (put_ne (a := a2) (i := i3) (j := i1) (u := .int .i64 0) (fun q => e13 q.symm)).trans b1
  have c3 := put_tmp (a := a2) (i := i3) (u := .int .i64 0) (by omega)
  dsimp only at st3 ⊢
  generalize a2.put (some i3) (.int .i64 0) = a3 at st3 c1 c3 ⊢
  have st4 := st3.put (d := some i4) (c := .sl (.own V.length 0) i.size []) (u := .slice (some ⟨w.heap.size, 0, none⟩) 0 cap) n4 s1 (by
    rw [RelV]
    refine ⟨_, _, rfl, Nat.zero_le _, ⟨0, by rw [List.getElem?_append_right (Nat.le_refl _), Nat.sub_self]; rfl, Nat.le_refl _, fun _ => .inr ⟨w.heap.size, 0, cells, e, rfl, ?_, ?_, hp.new, by omega⟩⟩, hpos, .inl rfl⟩
    · show (m.tip ++ [some w.heap.size])[V.length]? = _
      rw [← hs.inv.tiplen, List.getElem?_append_right (Nat.le_refl _), Nat.sub_self]; rfl
    · simp) (Ext.refl _ _ _)
  unfold wpListIn
  rw [if_pos (by simp [Region.wanted])]
  refine wp_val (u := .slice (some ⟨w.heap.size, 0, none⟩) 0 cap) (w' := w.drew.alloc (.cells cells e)) (by intro c h; cases h) ?_ (hK _ _ _ _ _ _ hk st4 s2)
  have r1 : a3.eval (.tmp i1) = .slice (some ⟨w.heap.size, 0, none⟩) (0 + N.toNat) cap := c1
  have r3 : a3.eval (.tmp i3) = .int .i64 0 := c3
  have hb := bounds_run (P := P) (m := m) (w := w.drew.alloc (.cells cells e)) (V := V) (lo := none) (hi := some (.tmp 0)) (mx := none) (ev := fun _ => ci 0) (ρ := fun _ => .int .i64 0) (fun _ => by rw [RelV]) trivial (Int.le_refl _) trivial true N.toNat cap (by omega) (Nat.le_refl _) (Nat.zero_le _) (by simp)
  simp only [Option.map_none, Option.map_some, bvl] at hb
  simp [execOp, r1, r3, Instr.sliceAt, Instr.slice, run_underlying hu, slSize_run ht, hb, addr_add]
end
end Go.Proofs.YtbnkggbpocaaiaaGreatDoor
namespace Go.Proofs.YtbnkggbpocaaiaaGreatDoor
def Ge (c d : CV) : Prop := ∀ (m : Gh) (w : World) (V : List Nat) (u : Value), RelV m w V c u → RelV m w V d u
theorem Ge.slk {tk : Tk} {sz : Nat} {xs ys : List (List CV)} (h : LeE xs ys) : Ge (.sl tk sz xs) (.sl tk sz ys) := fun m w V u hu => by
  rw [RelV] at hu ⊢
  obtain ⟨base, cap, h1, h2, h3, h4, h5⟩ := hu
  have e := h.len
  refine ⟨base, cap, by rw [← e]; exact h1, by rw [← e]; exact h2, by rw [← e]; exact h3, h4, ?_⟩
  rcases h5 with rfl | ⟨k, o, hb, hl, he⟩
  · refine .inl ?_
    cases h; rfl
  · exact .inr ⟨k, o, hb, by rw [← e]; exact hl, h.rel he⟩
theorem Ge.le {c d : CV} (h : Le c d) : Ge c d := fun m w V u hu => h.rel hu
theorem SWp.after {P : Program} {n nb nv : Nat} {c : Code} {Q : Exit → Tm → Hp → List Nat → Prop} {T : Tm} {H : Hp} {V : List Nat} {α : Type} (S : α → Tm × Hp × List Nat) (ok : α → Prop)
    (h1 : SWp P n nb nv c (thn (fun T H V => ∃ s, ok s ∧ Sh n nb nv T H V (S s)) Q) T H V) (h2 : ∀ s, ok s → Q .normal (S s).1 (S s).2.1 (S s).2.2) : SWp P n nb nv c Q T H V := by
  intro ro D m w a m0 w0 V0 g1 g2 g3 hx hs
  refine wpIn_mono (h1 ro D m w a m0 w0 V0 g1 g2 g3 hx hs) fun e a' w' ⟨T', H', V', m', k1, k2, k3⟩ => ?_
  cases e with
  | normal =>
    obtain ⟨s, q1, q2⟩ := k1
    obtain ⟨m2, r1, r2⟩ := q2 D m' w' a' m0 w0 V0 g1 g2 g3 k3 k2
    exact ⟨_, _, _, m2, h2 s q1, r1, r2⟩
  | _ => exact ⟨T', H', V', m', k1, k2, k3⟩
end Go.Proofs.YtbnkggbpocaaiaaGreatDoor
namespace Go.Proofs.YtbnkggbpocaaiaaGreatDoor
inductive TokLe (k : Nat) : CV → CV → Prop
  | le {c d : CV} (h : Le c d) : TokLe k c d
  | nil {sz : Nat} (h : 0 < sz) : TokLe k (.v (.slice none 0 0)) (.sl (.own k 0) sz [])
  | ti {sz : Nat} {xs : List (List CV)} : TokLe k (.sl .ti sz xs) (.sl (.own k 0) sz xs)
  | ge {c d e : CV} (h : Ge c d) (g : TokLe k d e) : TokLe k c e
theorem TokLe.rel {m : Gh} {w : World} {V : List Nat} {k : Nat} {c d : CV} {u : Value} (h : TokLe k c d) (hk : V[k]? = some 0) (hu : RelV m w V c u) : RelV m w V d u := by
  induction h with
  | ge h _ ih => exact ih (h m w V u hu)
  | le h => exact h.rel hu
  | nil h =>
    rw [RelV] at hu; rw [RelV]
    exact ⟨none, 0, hu, Nat.le_refl _, ⟨0, hk, Nat.le_refl _, fun _ => .inl rfl⟩, h, .inl rfl⟩
  | ti =>
    rw [RelV] at hu; rw [RelV]
    obtain ⟨base, cap, q1, q2, q3, q4, q5⟩ := hu
    exact ⟨base, cap, q1, q2, ⟨0, hk, Nat.le_refl _, fun _ => .inl q3⟩, q4, q5⟩
def TTok (k : Nat) (T : Tm) : Tm → Prop
  | [] => True
  | (i, c) :: r => TokLe k (tget T i) c ∧ TTok k T r
theorem TTok.get {k : Nat} {T : Tm} : ∀ {T' : Tm}, TTok k T T' → ∀ p ∈ T', TokLe k (tget T p.1) p.2
  | [], _, p, hp => by cases hp
  | (i, c) :: r, h, p, hp => by
    rcases List.mem_cons.1 hp with rfl | hp
    · exact h.1
    · exact TTok.get h.2 p hp
@[go_sem] theorem TTok_nil (k : Nat) (T : Tm) : TTok k T [] = True := rfl
@[go_sem] theorem TTok_cons (k : Nat) (T : Tm) (i : Nat) (c : CV) (r : Tm) : TTok k T ((i, c) :: r) = (TokLe k (tget T i) c ∧ TTok k T r) := rfl
@[go_sem] theorem TokLe_self (k : Nat) (c : CV) : TokLe k c c = True := eq_true (.le (.refl c))
@[go_sem] theorem TokLe_nil (k sz : Nat) : TokLe k (.v (.slice none 0 0)) (.sl (.own k 0) (sz + 1) []) = True := eq_true (.nil (Nat.succ_pos _))
@[go_sem] theorem TokLe_ti (k sz : Nat) (xs : List (List CV)) : TokLe k (.sl .ti sz xs) (.sl (.own k 0) sz xs) = True := eq_true .ti
theorem Gst.tokT {n nb nv : Nat} {T T' : Tm} {H : Hp} {V : List Nat} (h : TTok V.length T T') : Gst n nb nv T H V T' H (V ++ [0]) := by
  intro D m w a m0 w0 V0 h1 h2 h3 he hs
  obtain ⟨s1, s2⟩ := step_tok hs.inv
  refine ⟨_, ⟨s1, fun k => ?_, hs.size, hs.df⟩, he.trans s2⟩
  rcases tget_mem T' k with g1 | ⟨p, g1, rfl, g2⟩
  · rw [g1, RelV]; trivial
  · rw [g2]
    exact (h.get p g1).rel (by rw [at_len]; rfl) ((RelT.mono s2 hs.tm) p.1)
theorem Sh.tokT {n nb nv : Nat} {T T' : Tm} {H H' : Hp} {V V' : List Nat} (h : TTok V.length T T') (hH : H = H') (hV : V ++ [0] = V') : Sh n nb nv T H V (T', H', V') := by
  subst hH hV
  exact Gst.tokT h
theorem Gst.ge {n nb nv : Nat} {T T' : Tm} {H : Hp} {V : List Nat} (h : ∀ p ∈ T', Ge (tget T p.1) p.2) : Gst n nb nv T H V T' H V := fun D m w a m0 w0 V0 _ _ _ hx hs => by
  refine ⟨m, ⟨hs.inv, fun k => ?_, hs.size, hs.df⟩, hx⟩
  rcases tget_mem T' k with h1 | ⟨p, h1, rfl, h2⟩
  · rw [h1, RelV]; trivial
  · rw [h2]; exact h p h1 _ _ _ _ (hs.tm p.1)
theorem Fin.ge {nb nv : Nat} {R : CV → Hp → List Nat → Prop} {r r1 : CV} {H : Hp} {V : List Nat} (h : Ge r r1) (hf : Fin nb nv R r1 H V) : Fin nb nv R r H V := by
  obtain ⟨r', H', V', g, hR⟩ := hf
  exact ⟨r', H', V', Gst.trans (Gst.ge fun p hp => by simp at hp; subst hp; exact h) g, hR⟩
end Go.Proofs.YtbnkggbpocaaiaaGreatDoor
namespace Go.Proofs.YtbnkggbpocaaiaaGreatDoor
inductive OY where
  | n
  | s (i : Nat) (b : Bool) (t : OY)
  | f (i : Nat) (b : Bool) (s : OY) (j : Nat) (b' : Bool) (t : OY)
def ordY (ops : List Oper) : OY → Nat → Array Bool → Bool
  | .n, f, listed => f == 0 && (Region.ready .any ops.toArray listed).isEmpty
  | .s i _ t, f, listed => Region.ready .any ops.toArray listed == [i] && f != 0 && ordY ops t (f - 1) (listed.setIfInBounds i true)
  | .f i _ s j _ t, f, listed => Region.ready .any ops.toArray listed == [i, j] && f != 0 && ordY ops s (f - 1) (listed.setIfInBounds i true) && ordY ops t (f - 1) (listed.setIfInBounds j true)
def stepY (P : Program) (n : Nat) (ops : List Oper) (E : List PanicEntry → Tm → Hp → List Nat → Prop) (i : Nat) (b : Bool) (T : Tm) (H : Hp) (V : List Nat) (K : Tm → Hp → List Nat → Prop) : Prop :=
  withO (ops[i]?) fun o => match b with
    | false => crunL P n (ops.map (·.dst)) [o] T H V K
    | true => dOk o.dst n ∧ ∃ f args, isCall o = some (f, args) ∧ hcallx P H V (fun c H' V' => K (tput o.dst c T) H' V') (fun ch H' V' => E ch T H' V') (evT T f) (args.toList.map (evT T))
def crunY (P : Program) (n : Nat) (ops : List Oper) (N : Tm → Hp → List Nat → Prop) (E : List PanicEntry → Tm → Hp → List Nat → Prop) : OY → Tm → Hp → List Nat → Prop
  | .n, T, H, V => N T H V
  | .s i b t, T, H, V => stepY P n ops E i b T H V fun T' H' V' => crunY P n ops N E t T' H' V'
  | .f i b s j b' t, T, H, V => (stepY P n ops E i b T H V fun T' H' V' => crunY P n ops N E s T' H' V') ∧ stepY P n ops E j b' T H V fun T' H' V' => crunY P n ops N E t T' H' V'
section
variable {P : Program} {n nb nv id : Nat} {ops : List Oper} {Q : Exit → Tm → Hp → List Nat → Prop}
theorem stepY_one {D : Dl} {ro : Option Nat} {i : Nat} {b : Bool} {f : Nat} {listed : Array Bool} {m0 : Gh} {w0 : World} {V0 : List Nat} {T : Tm} {H : Hp} {V : List Nat} {m1 : Gh} {w1 : World} {a1 : Act} {K : Tm → Hp → List Nat → Prop}
    (s1 : St D n m1 w1 a1 T H V) (x1 : Ext m0 w0 V0 m1 w1 V) (h : stepY P n ops (fun ch => Q (.panic ch)) i b T H V K)
    (hk : ∀ T' H' V' m' w' a', K T' H' V' → St D n m' w' a' T' H' V' → Ext m0 w0 V0 m' w' V' → wpAnyIn (fen ro) 0 P .any ops.toArray (fun e a' w' => ∃ T' H' V' m', Q e T' H' V' ∧ St D n m' w' a' T' H' V' ∧ Ext m0 w0 V0 m' w' V') f (listed.setIfInBounds i true) a' w') :
    wpOpIn (fen ro) 0 P ops.toArray (fun e a' w' => ∃ T' H' V' m', Q e T' H' V' ∧ St D n m' w' a' T' H' V' ∧ Ext m0 w0 V0 m' w' V') i (wpAnyIn (fen ro) 0 P .any ops.toArray (fun e a' w' => ∃ T' H' V' m', Q e T' H' V' ∧ St D n m' w' a' T' H' V' ∧ Ext m0 w0 V0 m' w' V') f (listed.setIfInBounds i true)) a1 w1 := by
  cases b with
  | false => exact crunX_one s1 x1 h hk
  | true =>
    unfold stepY at h
    cases hi : ops[i]? with
    | none => rw [hi] at h; exact (show False from h).elim
    | some o =>
      rw [hi, withO_some] at h
      obtain ⟨hd, fo, args, hc, hk'⟩ := h
      obtain ⟨tys, hop, hg⟩ := isCall_eq hc
      unfold wpOpIn
      rw [List.getElem?_toArray, hi]
      dsimp only
      rw [if_pos (by simp [Region.wanted, hg])]
      have hev : ∀ x : Operand, RelV m1 w1 V (evT T x) (a1.eval x) := fun x => ev_rel s1.tm x
      unfold hcallx at hk'
      split at hk'
      · rename_i l g caps hf
        have ef := hev fo
        rw [hf, RelV] at ef
        obtain ⟨us, eu, hr⟩ := ef
        obtain ⟨⟨fn, f1, f2, f3⟩, hc⟩ := hk'
        have hargs := relL_append (relL_map hev args.toList) hr
        have hcall := hc m1 w1 _ s1.inv hargs
        have hrun : (execOp a1.eval o).run P w1 = .ok (.enter g (args.toList.map a1.eval ++ us).toArray) w1 := by
          have hb : ¬ fn.body = none := by cases hbb : fn.body <;> simp_all
          have f3' : ¬ fn.name = "runtime.NumGoroutine" := by simpa using f3
          have hfa : args.map a1.eval ++ us.toArray = (args.toList.map a1.eval ++ us).toArray := by
            rw [← Array.toList_map]; simp
          simp [execOp, hop, resolve, eu, Deferred.ofValue, invoke, callFunc, f1, f3', hb, hfa]
        refine ⟨fun _ _ => trivial, ?_⟩
        rw [Oper.semAt_eq _ _ _ (by intro c e; rw [hop] at e; cases e), hrun, Oper.uponIn_enter]
        refine ⟨(fun h => by cases h), callsIn_fen.2 (Calls.mono hcall fun e w' he => ?_)⟩
        rcases he with ⟨u, m', r, H', V', q1, q2, q3, q4, q5⟩ | ⟨ch, m', H', V', q1, q2, q3, q4⟩
        · subst q1
          exact hk _ H' V' m' w' _ q2 ⟨q3, (RelT.mono q5 s1.tm).put q4 (by rw [s1.size]; exact hd), by rw [put_size]; exact s1.size, by rw [put_defers]; exact s1.df.mono q5⟩ (x1.trans q5)
        · subst q1
          exact ⟨T, H', V', m', q2, ⟨q3, RelT.mono q4 s1.tm, s1.size, s1.df.mono q4⟩, x1.trans q4⟩
      · exact hk'.elim
theorem crunY_sound {D : Dl} {ro : Option Nat} {m0 : Gh} {w0 : World} {V0 : List Nat} : ∀ (l : OY) (f : Nat) (listed : Array Bool) (T : Tm) (H : Hp) (V : List Nat) (m : Gh) (w : World) (a : Act), ordY ops l f listed = true → crunY P n ops (Q .normal) (fun ch => Q (.panic ch)) l T H V → St D n m w a T H V → Ext m0 w0 V0 m w V →
    wpAnyIn (fen ro) 0 P .any ops.toArray (fun e a' w' => ∃ T' H' V' m', Q e T' H' V' ∧ St D n m' w' a' T' H' V' ∧ Ext m0 w0 V0 m' w' V') f listed a w
  | .n, f, listed, T, H, V, m, w, a, ho, h, hs, hx => by
    rw [ordY, Bool.and_eq_true] at ho
    obtain ⟨hf, ho⟩ := ho
    obtain rfl : f = 0 := by simpa using hf
    exact ⟨by simpa using ho, T, H, V, m, h, hs, hx⟩
  | .s i b t, f, listed, T, H, V, m, w, a, ho, h, hs, hx => by
    rw [ordY, Bool.and_eq_true, Bool.and_eq_true] at ho
    obtain ⟨⟨hr, hf⟩, ho⟩ := ho
    replace hr : Region.ready .any ops.toArray listed = [i] := by simpa using hr
    obtain ⟨f, rfl⟩ : ∃ g, f = g + 1 := ⟨f - 1, by have : f ≠ 0 := by simpa using hf
                                                   omega⟩
    rw [Nat.add_sub_cancel] at ho
    rw [crunY] at h
    refine ⟨fun e => (by rw [hr] at e; cases e), fun j hj => ?_⟩
    rw [hr] at hj
    obtain rfl : j = i := by simpa using hj
    exact stepY_one hs hx h fun T' H' V' m' w' a' k1 k2 k3 => crunY_sound t f _ T' H' V' m' w' a' ho k1 k2 k3
  | .f i b s j b' t, f, listed, T, H, V, m, w, a, ho, h, hs, hx => by
    rw [ordY, Bool.and_eq_true, Bool.and_eq_true, Bool.and_eq_true] at ho
    obtain ⟨⟨⟨hr, hf⟩, ho1⟩, ho2⟩ := ho
    replace hr : Region.ready .any ops.toArray listed = [i, j] := by simpa using hr
    obtain ⟨f, rfl⟩ : ∃ g, f = g + 1 := ⟨f - 1, by have : f ≠ 0 := by simpa using hf
                                                   omega⟩
    rw [Nat.add_sub_cancel] at ho1 ho2
    rw [crunY] at h
    refine ⟨fun e => (by rw [hr] at e; cases e), fun q hq => ?_⟩
    rw [hr] at hq
    simp only [List.mem_cons, List.not_mem_nil, or_false] at hq
    rcases hq with rfl | rfl
    · exact stepY_one hs hx h.1 fun T' H' V' m' w' a' k1 k2 k3 => crunY_sound s f _ T' H' V' m' w' a' ho1 k1 k2 k3
    · exact stepY_one hs hx h.2 fun T' H' V' m' w' a' k1 k2 k3 => crunY_sound t f _ T' H' V' m' w' a' ho2 k1 k2 k3
theorem SWp.drawnY {T : Tm} {H : Hp} {V : List Nat} (l : OY) (hm : P.follows .mixedOrders = true) (ho : ordY ops l ops.length (Array.replicate ops.length false) = true)
    (h : crunY P n ops (Q .normal) (fun ch => Q (.panic ch)) l T H V) : SWp P n nb nv (.region id ops.toArray true) Q T H V := by
  intro ro D m w a m0 w0 V0 h1 h2 h3 hx hs
  refine wpIn_region_any hm ?_
  have hd : Inv m { w with drawn := w.drawn + 1 } H V ∧ Ext m w V m { w with drawn := w.drawn + 1 } V := hs.inv.drew
  simp only [List.size_toArray]
  exact crunY_sound l ops.length _ T H V _ _ _ ho h ⟨hd.1, fun k => RelV.mono hd.2 _ _ (hs.tm k), hs.size, hs.df.mono hd.2⟩ (hx.trans hd.2)
end
section
variable {P : Program} {n : Nat} {ops : List Oper} {N : Tm → Hp → List Nat → Prop} {E : List PanicEntry → Tm → Hp → List Nat → Prop} {T T' : Tm} {H H' : Hp} {V V' : List Nat}
def contY (P : Program) (n : Nat) (ops : List Oper) (N : Tm → Hp → List Nat → Prop) (E : List PanicEntry → Tm → Hp → List Nat → Prop) (t : OY) : Tm → Hp → List Nat → Prop := fun T H V => crunY P n ops N E t T H V
@[go_sem ↓] theorem contY_eq (t : OY) : contY P n ops N E t T H V = crunY P n ops N E t T H V := id rfl
@[go_sem] theorem crunY_n : crunY P n ops N E .n T H V = N T H V := rfl
@[go_sem] theorem crunY_s (i : Nat) (b : Bool) (t : OY) : crunY P n ops N E (.s i b t) T H V = stepY P n ops E i b T H V (contY P n ops N E t) := rfl
@[go_sem] theorem crunY_f (i : Nat) (b : Bool) (s : OY) (j : Nat) (b' : Bool) (t : OY) : crunY P n ops N E (.f i b s j b' t) T H V = (stepY P n ops E i b T H V (contY P n ops N E s) ∧ stepY P n ops E j b' T H V (contY P n ops N E t)) := rfl
@[go_sem] theorem stepY_f (i : Nat) (K : Tm → Hp → List Nat → Prop) : stepY P n ops E i false T H V K = withO (ops[i]?) fun o => crunL P n (ops.map (·.dst)) [o] T H V K := rfl
@[congr] theorem crunY_congr {l : OY} (h1 : T = T') (h2 : H = H') (h3 : V = V') : crunY P n ops N E l T H V = crunY P n ops N E l T' H' V' := by subst h1 h2 h3; rfl
@[congr] theorem stepY_congr {i : Nat} {b : Bool} {K : Tm → Hp → List Nat → Prop} (h1 : T = T') (h2 : H = H') (h3 : V = V') : stepY P n ops E i b T H V K = stepY P n ops E i b T' H' V' K := by subst h1 h2 h3; rfl
end
theorem stepY_x {P : Program} {n : Nat} {ops : List Oper} {K : Tm → Hp → List Nat → Prop} {E : List PanicEntry → Tm → Hp → List Nat → Prop} {T : Tm} {H : Hp} {V : List Nat} {i : Nat} {o : Oper} {f : Operand} {args : Array Operand} (hi : ops[i]? = some o) (hc : isCall o = some (f, args)) (hd : dOk o.dst n)
    (h : hcallx P H V (fun c H' V' => K (tput o.dst c T) H' V') (fun ch H' V' => E ch T H' V') (evT T f) (args.toList.map (evT T))) : stepY P n ops E i true T H V K := by
  rw [stepY, hi, withO_some]; exact ⟨hd, f, args, hc, h⟩
end Go.Proofs.YtbnkggbpocaaiaaGreatDoor
namespace Go.Proofs.YtbnkggbpocaaiaaGreatDoor
inductive Fk (b : Nat) (cs : List CV) : CV → CV → Prop
  | y {c d : CV} (h : Fy b cs c d) : Fk b cs c d
  | slk (tk : Tk) (sz : Nat) {xs ys : List (List CV)} (h : FyE b cs xs ys) : Fk b cs (.sl tk sz xs) (.sl tk sz ys)
section
variable {m : Gh} {w : World} {V : List Nat} {b k : Nat} {cs : List CV}
theorem Fk.rel (hb : m.box[b]? = some k) (hl : cs.length ≤ m.lim k) (hc : RelC m w V k cs 0) {x y : CV} {u : Value} (h : Fk b cs x y) (hu : RelV m w V x u) : RelV m w V y u := by
  cases h with
  | y h => exact Fy.rel hb hl hc h hu
  | slk tk sz hq =>
    rw [RelV] at hu; rw [RelV]
    obtain ⟨base, cap, h1, h2, h3, h4, h5⟩ := hu
    have e := hq.len
    refine ⟨base, cap, by rw [← e]; exact h1, by rw [← e]; exact h2, by rw [← e]; exact h3, h4, ?_⟩
    rcases h5 with h5 | ⟨k', o, h6, h7, h8⟩
    · left
      subst h5
      exact List.eq_nil_of_length_eq_zero e.symm
    · exact .inr ⟨k', o, h6, by rw [← e]; exact h7, FyE.rel hb hl hc hq h8⟩
theorem Fk.relO (hb : m.box[b]? = some k) (hr0 : ¬ IsRow w k) {x y : CV} {u : Value} (h : Fk b cs x y) (hu : RelV m w V x u) : RelV m w V y u := by
  cases h with
  | y h => exact Fy.relO hb hr0 h hu
  | slk tk sz hq =>
    rw [RelV] at hu; rw [RelV]
    obtain ⟨base, cap, h1, h2, h3, h4, h5⟩ := hu
    have e := hq.len
    refine ⟨base, cap, by rw [← e]; exact h1, by rw [← e]; exact h2, by rw [← e]; exact h3, h4, ?_⟩
    rcases h5 with h5 | ⟨k', o, h6, h7, h8⟩
    · left
      subst h5
      exact List.eq_nil_of_length_eq_zero e.symm
    · exact .inr ⟨k', o, h6, by rw [← e]; exact h7, FyE.relO hb hr0 hq h8⟩
end
section
variable {n nb nv : Nat} {T T' : Tm} {H : Hp} {V : List Nat}
theorem Gst.freezeK {b : Nat} {cs : List CV} (hb : H[b]? = some (some cs)) (h : ∀ p ∈ T', Fk b cs (tget T p.1) p.2) : Gst n nb nv T H V T' (H.set b none) V := fun D m w a m0 w0 V0 h1 h2 h3 hx hs => by
  cases hs.inv.live b cs hb with
  | row k c e g1 g2 g3 g4 g5 =>
    obtain ⟨hi', hx'⟩ := hs.inv.fix hb g1 g2 g3 g4
    refine ⟨_, ⟨hi', fun j => ?_, hs.size, hs.df⟩, hx.trans hx'⟩
    have ht := RelT.mono hx' hs.tm
    rcases tget_mem T' j with h1 | ⟨p, h1, rfl, h2⟩
    · rw [h1, RelV]; trivial
    · rw [h2]
      exact Fk.rel (m := { m with lim := fun j => if j = k then cs.length else m.lim j }) (k := k) g1 (by show cs.length ≤ if k = k then cs.length else m.lim k; rw [if_pos rfl]; exact Nat.le_refl _) (relC_box hx' rfl g5) (h p h1) (ht p.1)
  | obj k x g1 g2 g3 =>
    refine ⟨m, ⟨hs.inv.kill b, fun j => ?_, hs.size, hs.df⟩, hx⟩
    rcases tget_mem T' j with h1 | ⟨p, h1, rfl, h2⟩
    · rw [h1, RelV]; trivial
    · rw [h2]
      exact Fk.relO g1 g3.notRow (h p h1) (hs.tm p.1)
def TFk (b : Nat) (cs : List CV) (T : Tm) : Tm → Prop
  | [] => True
  | (i, c) :: r => Fk b cs (tget T i) c ∧ TFk b cs T r
theorem TFk.get {b : Nat} {cs : List CV} {T : Tm} : ∀ {T' : Tm}, TFk b cs T T' → ∀ p ∈ T', Fk b cs (tget T p.1) p.2
  | [], _, p, hp => by cases hp
  | (i, c) :: r, h, p, hp => by
    rcases List.mem_cons.1 hp with rfl | hp
    · exact h.1
    · exact TFk.get h.2 p hp
@[go_sem] theorem TFk_nil (b : Nat) (cs : List CV) (T : Tm) : TFk b cs T [] = True := rfl
@[go_sem] theorem TFk_cons (b : Nat) (cs : List CV) (T : Tm) (i : Nat) (c : CV) (r : Tm) : TFk b cs T ((i, c) :: r) = (Fk b cs (tget T i) c ∧ TFk b cs T r) := rfl
@[go_sem] theorem Fk_self (b : Nat) (cs : List CV) (c : CV) : Fk b cs c c = True := eq_true (.y (.refl c))
end
end Go.Proofs.YtbnkggbpocaaiaaGreatDoor
namespace Go.Proofs.YtbnkggbpocaaiaaGreatDoor
def TokL (k : Nat) : List CV → List CV → Prop
  | [], [] => True
  | c :: cs, d :: ds => TokLe k c d ∧ TokL k cs ds
  | _, _ => False
@[go_sem] theorem TokL_nil (k : Nat) : TokL k [] [] = True := rfl
@[go_sem] theorem TokL_cons (k : Nat) (c d : CV) (cs ds : List CV) : TokL k (c :: cs) (d :: ds) = (TokLe k c d ∧ TokL k cs ds) := rfl
theorem TokL.len {k : Nat} : ∀ {cs ds : List CV}, TokL k cs ds → cs.length = ds.length
  | [], [], _ => rfl
  | _ :: _, _ :: _, h => by rw [List.length_cons, List.length_cons, h.2.len]
  | [], _ :: _, h => h.elim
  | _ :: _, [], h => h.elim
theorem TokL.relC {m : Gh} {w : World} {V : List Nat} {k kk : Nat} (hk : V[k]? = some 0) : ∀ {cs ds : List CV} {o : Nat}, TokL k cs ds → RelC m w V kk cs o → RelC m w V kk ds o
  | [], [], _, _, h => h
  | c :: cs, d :: ds, o, h, g => by
    rw [RelC] at g ⊢
    obtain ⟨⟨u, q1, q2, q3⟩, g⟩ := g
    exact ⟨⟨u, q1, h.1.rel hk q2, q3⟩, h.2.relC hk g⟩
  | [], _ :: _, _, h, _ => h.elim
  | _ :: _, [], _, h, _ => h.elim
theorem Inv.weakT {m : Gh} {w : World} {H : Hp} {V : List Nat} {b k : Nat} {cs ds : List CV} (hi : Inv m w H V) (hb : H[b]? = some (some cs)) (hk : V[k]? = some 0) (h : TokL k cs ds) (hno : ∀ x ∈ cs, x.isObj = false) : Inv m w (H.set b (some ds)) V := by
  have hbl : b < H.length := (List.getElem?_eq_some_iff.1 hb).1
  refine ⟨by rw [List.length_set]; exact hi.boxlen, hi.tiplen, hi.limv, hi.tips, hi.boxes, fun b1 b2 k c1 c2 g1 g2 g3 g4 => ?_, fun b1 c1 g => ?_⟩
  · have old : ∀ (b1 : Nat) c1, (H.set b (some ds))[b1]? = some (some c1) → ∃ c0, H[b1]? = some (some c0) := fun b1 c1 g => by
      by_cases e : b = b1
      · subst e; exact ⟨_, hb⟩
      · rw [List.getElem?_set_ne e] at g; exact ⟨_, g⟩
    obtain ⟨_, o1⟩ := old _ _ g1
    obtain ⟨_, o2⟩ := old _ _ g2
    exact hi.uniq b1 b2 k _ _ o1 o2 g3 g4
  · by_cases e : b = b1
    · subst e
      rw [List.getElem?_set_self hbl] at g
      obtain rfl : ds = c1 := by simpa using g
      cases hi.live b cs hb with
      | row k c e h1 h2 h3 h4 h5 => exact .row k c e h1 h2 (by rw [← h.len]; exact h3) h4 (h.relC hk h5)
      | obj k x h1 h2 h3 =>
        have := hno x (by rw [h2]; simp)
        rw [h3.isObj] at this; cases this
    · rw [List.getElem?_set_ne e] at g
      exact hi.live b1 c1 g
theorem Gst.tokL {n nb nv : Nat} {T : Tm} {H : Hp} {V : List Nat} {b : Nat} {cs ds : List CV} (hb : H[b]? = some (some cs)) (h : TokL V.length cs ds) (hno : ∀ x ∈ cs, x.isObj = false) : Gst n nb nv T H V T (H.set b (some ds)) (V ++ [0]) := by
  intro D m w a m0 w0 V0 h1 h2 h3 he hs
  obtain ⟨s1, s2⟩ := step_tok hs.inv
  exact ⟨_, ⟨s1.weakT hb (by rw [at_len]; rfl) h hno, RelT.mono s2 hs.tm, hs.size, hs.df⟩, he.trans s2⟩
theorem Sh.tokL {n nb nv : Nat} {T T' : Tm} {H H' : Hp} {V V' : List Nat} {b : Nat} {cs ds : List CV} (hb : H[b]? = some (some cs)) (h : TokL V.length cs ds) (hno : ∀ x ∈ cs, x.isObj = false) (hT : TLe T T') (hH : H.set b (some ds) = H') (hV : V ++ [0] = V') : Sh n nb nv T H V (T', H', V') := by
  subst hH hV
  exact Gst.trans (Gst.tokL hb h hno) (Gst.forget (TLe.get hT))
end Go.Proofs.YtbnkggbpocaaiaaGreatDoor
namespace Go.Proofs.YtbnkggbpocaaiaaGreatDoor
theorem nil_ti {m : Gh} {w : World} {V : List Nat} {sz : Nat} {u : Value} (hsz : 0 < sz) (h : RelV m w V (.v (.slice none 0 0)) u) : RelV m w V (.sl .ti sz []) u := by
  rw [RelV] at h
  subst h
  rw [RelV]
  exact ⟨none, 0, rfl, Nat.le_refl _, rfl, hsz, .inl rfl⟩
@[go_sem] theorem hbx_add (H L : Hp) (k : Nat) (K : List CV → Prop) : hbx (H ++ L) (H.length + k) K = hbx L k K := by rw [hbx_eq, hbx_eq, hget]
open Classical in
theorem appboxN {P : Program} {d : Option Tmp} {t tx ty : TypeId} {pos : String} {after : Array Edge} {x y : Operand} {ev : Operand → CV} {H : Hp} {V : List Nat} {sz szx : Nat} {e ex : TypeId} {tk : Tk} {ys : List (List CV)} (ht : slTy P t = some (e, sz)) (htx : slTy P tx = some (ex, szx))
    (hsz : 0 < sz) (hx : ev x = .v (.slice none 0 0)) (hy : ev y = .sl tk sz ys) (hn : ys ≠ []) (hl : ys.length ≤ 1099511627776) :
    OpX P ⟨d, .call ⟨.builtin .append, #[x, y], #[t, tx]⟩, ty, pos, after, none⟩ ev H V (.bsa H.length ys.length sz) (H ++ [some ys.flatten]) V := by
  intro m w a hi hev
  have hxy : y ≠ x := fun q => by rw [q, hx] at hy; cases hy
  refine appbox (tk := tk) (ys := ys) (sz := sz) (szx := szx) (ev := fun o => if o = x then .sl .ti sz [] else ev o) ht htx (by simp) (by simp [hxy, hy]) hn hl m w a hi fun o => ?_
  dsimp only
  split
  · rename_i q; subst q
    have := hev o
    rw [hx] at this
    exact nil_ti hsz this
  · exact hev o
theorem Ge.refl (c : CV) : Ge c c := fun _ _ _ _ h => h
@[go_sem] theorem Ge_self (c : CV) : Ge c c = True := eq_true (Ge.refl c)
end Go.Proofs.YtbnkggbpocaaiaaGreatDoor
namespace Go.Proofs.YtbnkggbpocaaiaaGreatDoor
abbrev Reg := BitVec 32
def poly : Reg := 0x82F63B78#32
def bit1 (r : Reg) : Reg := if r.getLsbD 0 then (r >>> 1) ^^^ poly else r >>> 1
def bits : Nat → Reg → Reg
  | 0, r => r
  | n + 1, r => bits n (bit1 r)
theorem bit1_xor (a b : Reg) : bit1 (a ^^^ b) = bit1 a ^^^ bit1 b := by
  unfold bit1
  rw [BitVec.getLsbD_xor, BitVec.ushiftRight_xor_distrib]
  cases a.getLsbD 0 <;> cases b.getLsbD 0 <;> simp
  · rw [BitVec.xor_assoc]
  · rw [BitVec.xor_assoc, BitVec.xor_assoc, BitVec.xor_comm poly]
  · rw [BitVec.xor_assoc, BitVec.xor_comm poly, BitVec.xor_assoc, BitVec.xor_self, BitVec.xor_zero]
theorem bits_xor : ∀ (n : Nat) (a b : Reg), bits n (a ^^^ b) = bits n a ^^^ bits n b
  | 0, _, _ => rfl
  | n + 1, a, b => by rw [bits, bits, bits, bit1_xor, bits_xor n]
theorem bits_low : ∀ (n : Nat) (a : Reg), (∀ i, i < n → a.getLsbD i = false) → bits n a = a >>> n
  | 0, a, _ => by rw [bits, BitVec.ushiftRight_zero]
  | n + 1, a, h => by
    have e : bit1 a = a >>> 1 := by unfold bit1; rw [h 0 (by omega)]; rfl
    rw [bits, e, bits_low n _ fun i hi => by rw [BitVec.getLsbD_ushiftRight]; exact h _ (by omega), ← BitVec.shiftRight_add, Nat.add_comm 1 n]
def regB (r : Reg) (b : UInt8) : Reg := bits 8 (r ^^^ BitVec.ofNat 32 b.toNat)
def tabE (i : Nat) : Reg := bits 8 (BitVec.ofNat 32 i)
theorem reg_table (r : Reg) (b : UInt8) : regB r b = (r >>> 8) ^^^ tabE ((r ^^^ BitVec.ofNat 32 b.toNat).toNat % 256) := by
  have hb := b.toNat_lt
  obtain ⟨x, hx⟩ : ∃ x, r ^^^ BitVec.ofNat 32 b.toNat = x := ⟨_, rfl⟩
  unfold regB tabE
  rw [hx]
  have h1 : x = (x &&& 0xFFFFFF00#32) ^^^ (x &&& 0xFF#32) := by
    apply BitVec.eq_of_getLsbD_eq
    intro i hi
    rw [BitVec.getLsbD_xor, BitVec.getLsbD_and, BitVec.getLsbD_and]
    have : ∀ j, j < 32 → ((0xFFFFFF00#32).getLsbD j = !((0xFF#32).getLsbD j)) := by decide
    rw [this i hi]
    cases x.getLsbD i <;> cases (0xFF#32).getLsbD i <;> rfl
  have h2 : x &&& 0xFF#32 = BitVec.ofNat 32 (x.toNat % 256) := by
    apply BitVec.eq_of_toNat_eq
    rw [BitVec.toNat_and, BitVec.toNat_ofNat, BitVec.toNat_ofNat]
    have : (255 % 2 ^ 32 : Nat) = 2 ^ 8 - 1 := by decide
    rw [this, Nat.and_two_pow_sub_one_eq_mod]
    have := Nat.mod_lt x.toNat (show 0 < 256 by omega)
    omega
  have h3 : bits 8 (x &&& 0xFFFFFF00#32) = r >>> 8 := by
    rw [bits_low 8 _ fun i hi => by
      rw [BitVec.getLsbD_and]
      have : ∀ j, j < 8 → (0xFFFFFF00#32).getLsbD j = false := by decide
      rw [this i hi, Bool.and_false]]
    apply BitVec.eq_of_getLsbD_eq
    intro i hi
    rw [BitVec.getLsbD_ushiftRight, BitVec.getLsbD_ushiftRight, BitVec.getLsbD_and, ← hx, BitVec.getLsbD_xor]
    by_cases h : 8 + i < 32
    · have h4 : ∀ j, j < 24 → (0xFFFFFF00#32).getLsbD (8 + j) = true := by decide
      rw [h4 _ (by omega), Bool.and_true]
      have h5 : (BitVec.ofNat 32 b.toNat).getLsbD (8 + i) = false := by
        rw [BitVec.getLsbD_ofNat, Nat.testBit_lt_two_pow (Nat.lt_of_lt_of_le hb (Nat.pow_le_pow_right (by omega) (show 8 ≤ 8 + i by omega)))]
        simp
      rw [h5, Bool.xor_false]
    · rw [BitVec.getLsbD_of_ge _ _ (by omega), BitVec.getLsbD_of_ge _ _ (by omega)]
      simp
  conv => lhs; rw [h1, bits_xor, h3, h2]
def crcR (r : Reg) (l : List UInt8) : Reg := l.foldl regB r
def crc (l : List UInt8) : Reg := ~~~(crcR (~~~ (0#32)) l)
def rn (r : Reg) : Int := (r.toNat : Int)
abbrev c32 (r : Reg) : CV := .v (.int .u32 (rn r))
theorem wrap32 {n : Nat} (h : n < 4294967296) : IntKind.u32.wrap (n : Int) = (n : Int) := by
  rw [IntKind.wrap_u32]; omega
theorem ofInt32 (a : Reg) : BitVec.ofInt 32 (a.toNat : Int) = a := by
  rw [BitVec.ofInt_natCast, BitVec.ofNat_toNat, BitVec.setWidth_eq]
theorem xor32 (a b : Reg) : bitop .xor .u32 (a.toNat : Int) (b.toNat : Int) = ((a ^^^ b).toNat : Int) := by
  show IntKind.u32.wrap ((BitVec.ofInt 32 (a.toNat : Int) ^^^ BitVec.ofInt 32 (b.toNat : Int)).toNat : Int) = _
  rw [ofInt32, ofInt32]
  exact wrap32 (BitVec.isLt _)
theorem and32 (a b : Reg) : bitop .and .u32 (a.toNat : Int) (b.toNat : Int) = ((a &&& b).toNat : Int) := by
  show IntKind.u32.wrap ((BitVec.ofInt 32 (a.toNat : Int) &&& BitVec.ofInt 32 (b.toNat : Int)).toNat : Int) = _
  rw [ofInt32, ofInt32]
  exact wrap32 (BitVec.isLt _)
theorem shr32 (a : Reg) (k : Nat) (hk : k ≤ 32) : shr .u32 (a.toNat : Int) (k : Int) = ((a >>> k).toNat : Int) := by
  unfold shr
  have : min ((k : Int)).toNat IntKind.u32.bits = k := by
    have : IntKind.u32.bits = 32 := rfl
    omega
  rw [this, Int.fdiv_eq_ediv_of_nonneg _ (Int.le_of_lt (Int.pow_pos (by decide))), BitVec.toNat_ushiftRight, Nat.shiftRight_eq_div_pow]
  push_cast
  rfl
theorem not32 (a : Reg) : bitop .xor .u32 4294967295 (a.toNat : Int) = ((~~~a).toNat : Int) := by
  have := xor32 (BitVec.allOnes 32) a
  rw [show ((BitVec.allOnes 32).toNat : Int) = 4294967295 from rfl] at this
  rw [this, BitVec.allOnes_xor]
theorem lsb_mod (a : Reg) : a.getLsbD 0 = decide (a.toNat % 2 = 1) := by
  rw [BitVec.getLsbD, Nat.testBit_zero]
theorem step_mul (r : Reg) : bitop .xor .u32 ((r >>> 1).toNat : Int) (IntKind.u32.wrap (2197175160 * ((r &&& 1#32).toNat : Int))) = ((bit1 r).toNat : Int) := by
  have h1 : (r &&& 1#32).toNat = r.toNat % 2 := by
    rw [BitVec.toNat_and]; exact Nat.and_one_is_mod _
  unfold bit1
  rw [lsb_mod, h1]
  rcases Nat.mod_two_eq_zero_or_one r.toNat with h | h
  · rw [h, if_neg (by simp)]
    have := xor32 (r >>> 1) 0#32
    rw [BitVec.xor_zero] at this
    exact this
  · rw [h, if_pos (by simp)]
    exact xor32 (r >>> 1) poly
theorem xorR (a b : Reg) : bitop .xor .u32 (rn a) (rn b) = rn (a ^^^ b) := xor32 a b
theorem and1R (r : Reg) : bitop .and .u32 (rn r) 1 = rn (r &&& 1#32) := and32 r 1#32
theorem shr1R (r : Reg) : shr .u32 (rn r) 1 = rn (r >>> 1) := shr32 r 1 (by decide)
theorem shr8R (r : Reg) : shr .u32 (rn r) 8 = rn (r >>> 8) := shr32 r 8 (by decide)
theorem stepR (r : Reg) : bitop .xor .u32 (rn (r >>> 1)) (IntKind.u32.wrap (2197175160 * rn (r &&& 1#32))) = rn (bit1 r) := step_mul r
theorem notR (r : Reg) : bitop .xor .u32 4294967295 (rn r) = rn (~~~r) := not32 r
theorem ofNatR {i : Nat} (h : i < 4294967296) : IntKind.u32.wrap (i : Int) = rn (BitVec.ofNat 32 i) := by
  rw [rn, BitVec.toNat_ofNat, Nat.mod_eq_of_lt (by omega)]; exact wrap32 h
theorem maxU32 : (if IntKind.u32.signed = true then (-1 : Int) else IntKind.u32.max) = 4294967295 := rfl
theorem xor8 (r : Reg) (b : UInt8) : bitop .xor .u8 (IntKind.u8.wrap (rn r)) (b.toNat : Int) = (((r ^^^ BitVec.ofNat 32 b.toNat).toNat % 256 : Nat) : Int) := by
  have hb := b.toNat_lt
  show IntKind.u8.wrap ((BitVec.ofInt 8 (IntKind.u8.wrap (rn r)) ^^^ BitVec.ofInt 8 (b.toNat : Int)).toNat : Int) = _
  have e : IntKind.u8.wrap (rn r) = ((r.toNat % 256 : Nat) : Int) := by rw [IntKind.wrap_u8, rn]; omega
  rw [e, BitVec.ofInt_natCast, BitVec.ofInt_natCast, BitVec.toNat_xor, BitVec.toNat_ofNat, BitVec.toNat_ofNat, BitVec.toNat_xor, BitVec.toNat_ofNat, Nat.mod_eq_of_lt (show b.toNat < 2 ^ 32 by omega), show (256 : Nat) = 2 ^ 8 from rfl, Nat.xor_mod_two_pow, Nat.mod_mod]
  have h1 := Nat.xor_lt_two_pow (Nat.mod_lt r.toNat (show 0 < 2 ^ 8 by decide)) (Nat.mod_lt b.toNat (show 0 < 2 ^ 8 by decide))
  rw [IntKind.wrap_u8]
  omega
theorem remR (r : Reg) : (rn r).tmod 2 = ((r.toNat % 2 : Nat) : Int) := by
  rw [rn, Int.tmod_eq_emod_of_nonneg (by omega)]; omega
theorem bit1_1 {r : Reg} (h : r.toNat % 2 = 1) : bit1 r = (r >>> 1) ^^^ poly := by
  unfold bit1; rw [lsb_mod, if_pos (by simp [h])]
theorem bit1_0 {r : Reg} (h : ¬ r.toNat % 2 = 1) : bit1 r = r >>> 1 := by
  unfold bit1; rw [lsb_mod, if_neg (by simp [h])]
theorem xorP (r : Reg) : bitop .xor .u32 (rn r) 2197175160 = rn (r ^^^ poly) := xorR r poly
end Go.Proofs.YtbnkggbpocaaiaaGreatDoor
namespace Go.Proofs.YtbnkggbpocaaiaaGreatDoor
def intsE (k : IntKind) (zs : List Int) : Array Value := (zs.map fun z => Value.int k z).toArray
theorem zip_rep (k : IntKind) : ∀ (n : Nat) (zs : List Int), zs.length = n → (((List.replicate n k).zip zs).map fun p => Value.int p.1 p.2) = zs.map fun z => Value.int k z
  | 0, [], _ => rfl
  | n + 1, z :: zs, h => by
    rw [List.replicate_succ, List.zip_cons_cons, List.map_cons, List.map_cons, zip_rep k n zs (by simpa using h)]
  | 0, _ :: _, h => by simp at h
  | n + 1, [], h => by simp at h
theorem all_range_int : ∀ (xs ys : List Int), xs.length = ys.length → ((List.range xs.length).all fun i => xs.getD i 0 == ys.getD i 0) = decide (xs = ys)
  | [], [], _ => rfl
  | x :: xs, y :: ys, h => by
    have ih := all_range_int xs ys (by simpa using h)
    rw [List.length_cons, List.range_succ_eq_map, List.all_cons, List.all_map]
    simp only [List.getD_cons_zero, Function.comp_def, List.getD_cons_succ, ih]
    by_cases hx : x = y <;> simp [hx]
  | [], _ :: _, h => by simp at h
  | _ :: _, [], h => by simp at h
section
variable {P : Program}
theorem run_eqItems_ints (w : World) (d : Nat) {e : TypeId} {k : IntKind} (he : P.underlying e = some (.int k)) (xs ys : List Int) : ∀ l : List Nat, (∀ i ∈ l, i < xs.length ∧ i < ys.length) →
    (Op.eqItems (d + 1) e 1 (intsE k xs) (intsE k ys) l).run P w = .ok (l.all fun i => xs.getD i 0 == ys.getD i 0) w
  | [], _ => by simp [Op.eqItems]
  | i :: l, h => by
    obtain ⟨h1, h2⟩ := h i (by simp)
    have px : (part e (intsE k xs) (i * 1)).run P w = .ok (.int k (xs.getD i 0)) w := by
      simp [intsE, part, isAgg, run_underlying he, List.getD, List.getElem?_eq_getElem h1]
    have py : (part e (intsE k ys) (i * 1)).run P w = .ok (.int k (ys.getD i 0)) w := by
      simp [intsE, part, isAgg, run_underlying he, List.getD, List.getElem?_eq_getElem h2]
    have pe : (Op.equalIn (d + 1) e (.int k (xs.getD i 0)) (.int k (ys.getD i 0))).run P w = .ok (xs.getD i 0 == ys.getD i 0) w := run_equalIn_int w d e k k _ _ he
    simp only [Op.eqItems, Sem.run_bind, px, py, pe, Result.andThen_ok, List.all_cons]
    cases hb : (xs.getD i 0 == ys.getD i 0)
    · simp
    · simp only [Bool.not_true, Bool.false_eq_true, if_false, Bool.true_and]
      exact run_eqItems_ints w d he xs ys l fun j hj => h j (List.mem_cons_of_mem _ hj)
theorem flatEq_array {t e : TypeId} {n : Nat} {k : IntKind} {i : TypeInfo} (hu : P.underlying t = some (.array n e)) (hi : P.info? e = some i) (he : P.underlying e = some (.int k)) (hc : P.cellsOf e = 1) (hg : P.eqGuardType P.depth t = false) : FlatEq P t (List.replicate n k) := by
  refine ⟨hg, fun w zs zs' h1 h2 => ?_⟩
  rw [List.length_replicate] at h1 h2
  rw [zip_rep k n zs h1, zip_rep k n zs' h2]
  show (Op.equalIn 10000 t (.agg (intsE k zs)) (.agg (intsE k zs'))).run P w = _
  rw [run_equalIn_array w 9999 _ _ hu hi, hc, run_eqItems_ints w 9998 he _ _ _ (fun i hi => by rw [List.mem_range] at hi; omega), ← h1, all_range_int _ _ (by omega)]
theorem flatEq_pair {t e : TypeId} {f g : Field} {k : IntKind} (hu : P.underlying t = some (.struct #[f, g])) (hf : f.type = e) (hg : g.type = e) (of : f.offset = 0) (og : g.offset = 1) (nf : f.name ≠ "_") (ng : g.name ≠ "_") (he : P.underlying e = some (.int k)) (hs : P.stoodInHeld t = false) (hq : P.eqGuardType P.depth t = false) : FlatEq P t [k, k] := by
  refine ⟨hq, fun w zs zs' h1 h2 => ?_⟩
  match zs, zs', h1, h2 with
  | [a, b], [c, d], _, _ =>
    show (Op.equalIn 10000 t (.agg (intsE k [a, b])) (.agg (intsE k [c, d]))).run P w = _
    have hF : P.fieldsOf t = #[f, g] := by unfold Program.fieldsOf; rw [hu]
    rw [run_equalIn_agg w 9999 _ _ _ (by rw [hF]; exact hu) hs, hF]
    have p1 : (part e (intsE k [a, b]) 0).run P w = .ok (.int k a) w := by simp [intsE, part, isAgg, run_underlying he]
    have p2 : (part e (intsE k [a, b]) 1).run P w = .ok (.int k b) w := by simp [intsE, part, isAgg, run_underlying he]
    have p3 : (part e (intsE k [c, d]) 0).run P w = .ok (.int k c) w := by simp [intsE, part, isAgg, run_underlying he]
    have p4 : (part e (intsE k [c, d]) 1).run P w = .ok (.int k d) w := by simp [intsE, part, isAgg, run_underlying he]
    have q1 : (Op.equalIn 9999 e (.int k a) (.int k c)).run P w = .ok (a == c) w := run_equalIn_int w 9998 e k k _ _ he
    have q2 : (Op.equalIn 9999 e (.int k b) (.int k d)).run P w = .ok (b == d) w := run_equalIn_int w 9998 e k k _ _ he
    simp only [Op.eqFields, hf, hg, of, og, nf, ng, ne_eq, not_false_eq_true, if_true, Sem.run_bind, p1, p3, q1, Result.andThen_ok]
    cases h1 : (a == c)
    · have : a ≠ c := by simpa using h1
      simp [this]
    · have h1 : a = c := by simpa using h1
      simp only [Bool.not_true, Bool.false_eq_true, if_false, Sem.run_bind, p2, p4, q2, Result.andThen_ok]
      cases h2 : (b == d)
      · have : b ≠ d := by simpa using h2
        simp [h1, this]
      · have h2 : b = d := by simpa using h2
        simp [h1, h2]
end
theorem fits_rep (k : IntKind) : ∀ zs : List Int, fits (List.replicate zs.length k) (zs.map fun z => CV.v (.int k z))
  | [] => by rw [List.length_nil, List.replicate_zero, fits]; rfl
  | z :: zs => by rw [List.length_cons, List.replicate_succ, fits]; exact ⟨z, _, rfl, fits_rep k zs⟩
end Go.Proofs.YtbnkggbpocaaiaaGreatDoor
namespace Go.Proofs.YtbnkggbpocaaiaaGreatDoor
abbrev Img := List (List Sec)
def imE (v : List Sec) : List CV := [secsV v]
@[go_sem, simp] theorem imE_len (v : List Sec) : (imE v).length = 1 := rfl
@[go_sem, simp] theorem imE_get (v : List Sec) (h : 0 < (imE v).length) : (imE v)[0] = secsV v := rfl
@[go_sem] theorem okL_imE (jb jv : Nat) (v : List Sec) : okL jb jv (imE v) = True := by simp [imE, okL, okV, okTk, okE_secs]
@[go_sem] theorem okE_ims (jb jv : Nat) (l : Img) : okE jb jv (l.map imE) = True := eq_true (okE_map imE l fun e => by rw [okL_imE]; trivial)
abbrev imV (l : Img) : CV := .sl .sh 1 (l.map imE)
def imgSz (l : Img) : List Int := l.map fun v => (v.length : Int)
def imOf (l : List Int) : Img := l.map fun n => zer n.toNat
@[go_sem, simp] theorem imgSz_len (l : Img) : (imgSz l).length = l.length := List.length_map ..
@[go_sem, simp] theorem imOf_len (l : List Int) : (imOf l).length = l.length := List.length_map ..
def badSz (n : Int) : Bool := decide (n < 1) || decide (4096 < n)
def sizesE (l : List Int) : Nat := if l.length < 1 ∨ 8 < l.length then 6 else if l.any badSz = true then 2 else 0
theorem sizesE_0 {l : List Int} (h : sizesE l = 0) : 1 ≤ l.length ∧ l.length ≤ 8 ∧ ∀ n ∈ l, 1 ≤ n ∧ n ≤ 4096 := by
  unfold sizesE at h
  split at h
  · cases h
  · split at h
    · cases h
    · rename_i h1 h2
      refine ⟨by omega, by omega, fun n hn => ?_⟩
      have : ¬ badSz n = true := fun hb => h2 (List.any_eq_true.2 ⟨n, hn, hb⟩)
      simp only [badSz, Bool.or_eq_true, decide_eq_true_eq] at this
      omega
theorem imgSz_of {l : List Int} (h : sizesE l = 0) : imgSz (imOf l) = l := by
  rw [imgSz, imOf, List.map_map]
  conv => rhs; rw [← List.map_id l]
  refine List.map_congr_left fun n hn => ?_
  have := (sizesE_0 h).2.2 n hn
  simp only [Function.comp, zer_len, id]
  omega
def fitsS (sizes : List Int) (w : Wr) : Nat :=
  if w.volume < 0 ∨ (sizes.length : Int) ≤ w.volume then 7 else if w.data.length = 0 then 1 else if w.start < 0 ∨ sizes.getD w.volume.toNat 0 - w.data.length < w.start then 2 else 0
def WrS (l : List Wr) : Prop := ∀ w ∈ l, w.data.length ≤ 1000000
end Go.Proofs.YtbnkggbpocaaiaaGreatDoor
namespace Go.Proofs.YtbnkggbpocaaiaaGreatDoor
open Go.Proofs
@[go_sem] theorem slTy22 : slTy Tryz.prog 22 = some (3, 1) := by kernel_rfl
@[go_sem] theorem slTy33 : slTy Tryz.prog 33 = some (48, 3) := by kernel_rfl
@[go_sem] theorem slTy34 : slTy Tryz.prog 34 = some (46, 1) := by kernel_rfl
@[go_sem] theorem slTy35 : slTy Tryz.prog 35 = some (46, 1) := by kernel_rfl
@[go_sem] theorem slTy38 : slTy Tryz.prog 38 = some (98, 3) := by kernel_rfl
@[go_sem] theorem slTy46 : slTy Tryz.prog 46 = some (85, 8) := by kernel_rfl
@[go_sem] theorem slTy57 : slTy Tryz.prog 57 = some (66, 5) := by kernel_rfl
@[go_sem] theorem slTy58 : slTy Tryz.prog 58 = some (205, 9) := by kernel_rfl
@[go_sem] theorem arTy85 : arTy Tryz.prog 85 = some (8, false, 1) := by kernel_rfl
@[go_sem] theorem slTy91 : slTy Tryz.prog 91 = some (5, 1) := by kernel_rfl
@[go_sem] theorem slTy130 : slTy Tryz.prog 130 = some (201, 1) := by kernel_rfl
@[go_sem] theorem slTy157 : slTy Tryz.prog 157 = some (169, 3) := by kernel_rfl
@[go_sem] theorem slTy179 : slTy Tryz.prog 179 = some (38, 1) := by kernel_rfl
@[go_sem] theorem slTy201 : slTy Tryz.prog 201 = some (74, 2) := by kernel_rfl
@[go_sem] theorem arTy209 : arTy Tryz.prog 209 = some (2, false, 1) := by kernel_rfl
@[go_sem] theorem arTy254 : arTy Tryz.prog 254 = some (2, true, 3) := by kernel_rfl
@[go_sem] theorem slTy266 : slTy Tryz.prog 266 = some (4, 1) := by kernel_rfl
@[go_sem] theorem arTy308 : arTy Tryz.prog 308 = some (256, false, 1) := by kernel_rfl
@[go_sem] theorem arTy334 : arTy Tryz.prog 334 = some (256, false, 1) := by kernel_rfl
@[go_sem] theorem arTy358 : arTy Tryz.prog 358 = some (256, false, 1) := by kernel_rfl
@[go_sem] theorem arTy361 : arTy Tryz.prog 361 = some (16, true, 2) := by kernel_rfl
@[go_sem] theorem ldTy3 : ldTy Tryz.prog 3 = some (false, 1) := by kernel_rfl
@[go_sem] theorem ldTy4 : ldTy Tryz.prog 4 = some (false, 1) := by kernel_rfl
@[go_sem] theorem ldTy5 : ldTy Tryz.prog 5 = some (false, 1) := by kernel_rfl
@[go_sem] theorem ldTy22 : ldTy Tryz.prog 22 = some (false, 1) := by kernel_rfl
@[go_sem] theorem ldTy24 : ldTy Tryz.prog 24 = some (false, 1) := by kernel_rfl
@[go_sem] theorem ldTy30 : ldTy Tryz.prog 30 = some (true, 2) := by kernel_rfl
@[go_sem] theorem ldTy32 : ldTy Tryz.prog 32 = some (true, 6) := by kernel_rfl
@[go_sem] theorem ldTy33 : ldTy Tryz.prog 33 = some (false, 1) := by kernel_rfl
@[go_sem] theorem ldTy35 : ldTy Tryz.prog 35 = some (false, 1) := by kernel_rfl
@[go_sem] theorem ldTy37 : ldTy Tryz.prog 37 = some (true, 11) := by kernel_rfl
@[go_sem] theorem ldTy38 : ldTy Tryz.prog 38 = some (false, 1) := by kernel_rfl
@[go_sem] theorem ldTy46 : ldTy Tryz.prog 46 = some (false, 1) := by kernel_rfl
@[go_sem] theorem ldTy48 : ldTy Tryz.prog 48 = some (true, 3) := by kernel_rfl
@[go_sem] theorem ldTy58 : ldTy Tryz.prog 58 = some (false, 1) := by kernel_rfl
@[go_sem] theorem ldTy60 : ldTy Tryz.prog 60 = some (true, 2) := by kernel_rfl
@[go_sem] theorem ldTy66 : ldTy Tryz.prog 66 = some (true, 5) := by kernel_rfl
@[go_sem] theorem ldTy74 : ldTy Tryz.prog 74 = some (true, 2) := by kernel_rfl
@[go_sem] theorem ldTy85 : ldTy Tryz.prog 85 = some (true, 8) := by kernel_rfl
@[go_sem] theorem ldTy91 : ldTy Tryz.prog 91 = some (false, 1) := by kernel_rfl
@[go_sem] theorem ldTy98 : ldTy Tryz.prog 98 = some (true, 3) := by kernel_rfl
@[go_sem] theorem ldTy144 : ldTy Tryz.prog 144 = some (true, 2) := by kernel_rfl
@[go_sem] theorem ldTy146 : ldTy Tryz.prog 146 = some (true, 9) := by kernel_rfl
@[go_sem] theorem ldTy157 : ldTy Tryz.prog 157 = some (false, 1) := by kernel_rfl
@[go_sem] theorem ldTy169 : ldTy Tryz.prog 169 = some (true, 3) := by kernel_rfl
@[go_sem] theorem ldTy205 : ldTy Tryz.prog 205 = some (true, 9) := by kernel_rfl
@[go_sem] theorem ldTy208 : ldTy Tryz.prog 208 = some (false, 1) := by kernel_rfl
@[go_sem] theorem ldTy209 : ldTy Tryz.prog 209 = some (true, 2) := by kernel_rfl
@[go_sem] theorem ldTy224 : ldTy Tryz.prog 224 = some (false, 1) := by kernel_rfl
@[go_sem] theorem ldTy230 : ldTy Tryz.prog 230 = some (false, 1) := by kernel_rfl
@[go_sem] theorem ldTy241 : ldTy Tryz.prog 241 = some (true, 3) := by kernel_rfl
@[go_sem] theorem ldTy254 : ldTy Tryz.prog 254 = some (true, 6) := by kernel_rfl
@[go_sem] theorem ldTy266 : ldTy Tryz.prog 266 = some (false, 1) := by kernel_rfl
@[go_sem] theorem ldTy289 : ldTy Tryz.prog 289 = some (true, 1) := by kernel_rfl
@[go_sem] theorem ldTy308 : ldTy Tryz.prog 308 = some (true, 256) := by kernel_rfl
@[go_sem] theorem ldTy334 : ldTy Tryz.prog 334 = some (true, 256) := by kernel_rfl
@[go_sem] theorem ldTy344 : ldTy Tryz.prog 344 = some (false, 1) := by kernel_rfl
@[go_sem] theorem ldTy360 : ldTy Tryz.prog 360 = some (true, 2) := by kernel_rfl
@[go_sem] theorem fdTy30_0 : fdTy Tryz.prog 30 0 = some (0, false, 1) := by kernel_rfl
@[go_sem] theorem fdTy30_1 : fdTy Tryz.prog 30 1 = some (1, false, 1) := by kernel_rfl
@[go_sem] theorem fdTy32_0 : fdTy Tryz.prog 32 0 = some (0, true, 2) := by kernel_rfl
@[go_sem] theorem fdTy32_1 : fdTy Tryz.prog 32 1 = some (2, false, 1) := by kernel_rfl
@[go_sem] theorem fdTy32_2 : fdTy Tryz.prog 32 2 = some (3, false, 1) := by kernel_rfl
@[go_sem] theorem fdTy32_3 : fdTy Tryz.prog 32 3 = some (4, false, 1) := by kernel_rfl
@[go_sem] theorem fdTy32_4 : fdTy Tryz.prog 32 4 = some (5, false, 1) := by kernel_rfl
@[go_sem] theorem fdTy37_0 : fdTy Tryz.prog 37 0 = some (0, false, 1) := by kernel_rfl
@[go_sem] theorem fdTy37_1 : fdTy Tryz.prog 37 1 = some (1, true, 6) := by kernel_rfl
@[go_sem] theorem fdTy37_2 : fdTy Tryz.prog 37 2 = some (7, false, 1) := by kernel_rfl
@[go_sem] theorem fdTy37_3 : fdTy Tryz.prog 37 3 = some (8, false, 1) := by kernel_rfl
@[go_sem] theorem fdTy37_4 : fdTy Tryz.prog 37 4 = some (9, false, 1) := by kernel_rfl
@[go_sem] theorem fdTy37_5 : fdTy Tryz.prog 37 5 = some (10, false, 1) := by kernel_rfl
@[go_sem] theorem fdTy48_0 : fdTy Tryz.prog 48 0 = some (0, false, 1) := by kernel_rfl
@[go_sem] theorem fdTy48_1 : fdTy Tryz.prog 48 1 = some (1, false, 1) := by kernel_rfl
@[go_sem] theorem fdTy48_2 : fdTy Tryz.prog 48 2 = some (2, false, 1) := by kernel_rfl
@[go_sem] theorem fdTy60_0 : fdTy Tryz.prog 60 0 = some (0, false, 1) := by kernel_rfl
@[go_sem] theorem fdTy60_1 : fdTy Tryz.prog 60 1 = some (1, false, 1) := by kernel_rfl
@[go_sem] theorem fdTy66_0 : fdTy Tryz.prog 66 0 = some (0, false, 1) := by kernel_rfl
@[go_sem] theorem fdTy66_1 : fdTy Tryz.prog 66 1 = some (1, false, 1) := by kernel_rfl
@[go_sem] theorem fdTy66_2 : fdTy Tryz.prog 66 2 = some (2, false, 1) := by kernel_rfl
@[go_sem] theorem fdTy66_3 : fdTy Tryz.prog 66 3 = some (3, false, 1) := by kernel_rfl
@[go_sem] theorem fdTy66_4 : fdTy Tryz.prog 66 4 = some (4, false, 1) := by kernel_rfl
@[go_sem] theorem fdTy74_0 : fdTy Tryz.prog 74 0 = some (0, false, 1) := by kernel_rfl
@[go_sem] theorem fdTy74_1 : fdTy Tryz.prog 74 1 = some (1, false, 1) := by kernel_rfl
@[go_sem] theorem fdTy98_0 : fdTy Tryz.prog 98 0 = some (0, false, 1) := by kernel_rfl
@[go_sem] theorem fdTy98_1 : fdTy Tryz.prog 98 1 = some (1, false, 1) := by kernel_rfl
@[go_sem] theorem fdTy98_2 : fdTy Tryz.prog 98 2 = some (2, false, 1) := by kernel_rfl
@[go_sem] theorem fdTy139_0 : fdTy Tryz.prog 139 0 = some (0, true, 2) := by kernel_rfl
@[go_sem] theorem fdTy144_0 : fdTy Tryz.prog 144 0 = some (0, true, 2) := by kernel_rfl
@[go_sem] theorem fdTy146_0 : fdTy Tryz.prog 146 0 = some (0, true, 2) := by kernel_rfl
@[go_sem] theorem fdTy146_1 : fdTy Tryz.prog 146 1 = some (2, true, 6) := by kernel_rfl
@[go_sem] theorem fdTy146_2 : fdTy Tryz.prog 146 2 = some (8, false, 1) := by kernel_rfl
@[go_sem] theorem fdTy169_0 : fdTy Tryz.prog 169 0 = some (0, false, 1) := by kernel_rfl
@[go_sem] theorem fdTy169_1 : fdTy Tryz.prog 169 1 = some (1, false, 1) := by kernel_rfl
@[go_sem] theorem fdTy169_2 : fdTy Tryz.prog 169 2 = some (2, false, 1) := by kernel_rfl
@[go_sem] theorem fdTy205_0 : fdTy Tryz.prog 205 0 = some (0, false, 1) := by kernel_rfl
@[go_sem] theorem fdTy205_1 : fdTy Tryz.prog 205 1 = some (1, true, 8) := by kernel_rfl
@[go_sem] theorem fdTy239_0 : fdTy Tryz.prog 239 0 = some (0, false, 1) := by kernel_rfl
@[go_sem] theorem fdTy239_1 : fdTy Tryz.prog 239 1 = some (1, false, 1) := by kernel_rfl
@[go_sem] theorem fdTy241_0 : fdTy Tryz.prog 241 0 = some (0, true, 2) := by kernel_rfl
@[go_sem] theorem fdTy241_1 : fdTy Tryz.prog 241 1 = some (2, false, 1) := by kernel_rfl
@[go_sem] theorem fdTy289_0 : fdTy Tryz.prog 289 0 = some (0, false, 1) := by kernel_rfl
@[go_sem] theorem fdTy293_0 : fdTy Tryz.prog 293 0 = some (0, false, 1) := by kernel_rfl
@[go_sem] theorem fdTy295_0 : fdTy Tryz.prog 295 0 = some (0, true, 1) := by kernel_rfl
@[go_sem] theorem fdTy295_1 : fdTy Tryz.prog 295 1 = some (1, false, 1) := by kernel_rfl
@[go_sem] theorem fdTy295_2 : fdTy Tryz.prog 295 2 = some (2, false, 1) := by kernel_rfl
@[go_sem] theorem fdTy313_0 : fdTy Tryz.prog 313 0 = some (0, false, 1) := by kernel_rfl
@[go_sem] theorem fdTy360_0 : fdTy Tryz.prog 360 0 = some (0, false, 1) := by kernel_rfl
@[go_sem] theorem fdTy360_1 : fdTy Tryz.prog 360 1 = some (1, false, 1) := by kernel_rfl
def z256 : List Value := List.replicate 256 (.int .u32 0)
@[go_sem] theorem zcTy3 : zcTy Tryz.prog 3 = some [.int .i64 0] := by kernel_rfl
@[go_sem] theorem zcTy4 : zcTy Tryz.prog 4 = some [.bool false] := by kernel_rfl
@[go_sem] theorem zcTy5 : zcTy Tryz.prog 5 = some [.int .u8 0] := by kernel_rfl
@[go_sem] theorem zcTy24 : zcTy Tryz.prog 24 = some [.int .i64 0] := by kernel_rfl
@[go_sem] theorem zcTy32 : zcTy Tryz.prog 32 = some [.int .i64 0, .int .i64 0, .int .i64 0, .int .i64 0, .int .i64 0, .slice none 0 0] := by kernel_rfl
@[go_sem] theorem zcTy37 : zcTy Tryz.prog 37 = some [.slice none 0 0, .int .i64 0, .int .i64 0, .int .i64 0, .int .i64 0, .int .i64 0, .slice none 0 0, .int .i64 0, .int .i64 0, .slice none 0 0, .slice none 0 0] := by kernel_rfl
@[go_sem] theorem zcTy38 : zcTy Tryz.prog 38 = some [.slice none 0 0] := by kernel_rfl
@[go_sem] theorem zcTy46 : zcTy Tryz.prog 46 = some [.slice none 0 0] := by kernel_rfl
@[go_sem] theorem zcTy48 : zcTy Tryz.prog 48 = some [.int .i64 0, .int .i64 0, .slice none 0 0] := by kernel_rfl
@[go_sem] theorem zcTy60 : zcTy Tryz.prog 60 = some [.slice none 0 0, .slice none 0 0] := by kernel_rfl
@[go_sem] theorem zcTy85 : zcTy Tryz.prog 85 = some [.int .u8 0, .int .u8 0, .int .u8 0, .int .u8 0, .int .u8 0, .int .u8 0, .int .u8 0, .int .u8 0] := by kernel_rfl
@[go_sem] theorem zcTy98 : zcTy Tryz.prog 98 = some [.int .i64 0, .int .i64 0, .slice none 0 0] := by kernel_rfl
@[go_sem] theorem zcTy144 : zcTy Tryz.prog 144 = some [.int .i64 0, .int .i64 0] := by kernel_rfl
@[go_sem] theorem zcTy146 : zcTy Tryz.prog 146 = some [.int .i64 0, .int .i64 0, .int .i64 0, .int .i64 0, .int .i64 0, .int .i64 0, .int .i64 0, .slice none 0 0, .int .i64 0] := by kernel_rfl
@[go_sem] theorem zcTy169 : zcTy Tryz.prog 169 = some [.int .i64 0, .int .i64 0, .slice none 0 0] := by kernel_rfl
@[go_sem] theorem zcTy205 : zcTy Tryz.prog 205 = some [.int .i64 0, .int .u8 0, .int .u8 0, .int .u8 0, .int .u8 0, .int .u8 0, .int .u8 0, .int .u8 0, .int .u8 0] := by kernel_rfl
@[go_sem] theorem zcTy209 : zcTy Tryz.prog 209 = some [.nilFunc, .nilFunc] := by kernel_rfl
@[go_sem] theorem zcTy241 : zcTy Tryz.prog 241 = some [.int .i64 0, .slice none 0 0, .slice none 0 0] := by kernel_rfl
@[go_sem] theorem zcTy254 : zcTy Tryz.prog 254 = some [.int .i64 0, .slice none 0 0, .slice none 0 0, .int .i64 0, .slice none 0 0, .slice none 0 0] := by kernel_rfl
@[go_sem] theorem zcTy266 : zcTy Tryz.prog 266 = some [.slice none 0 0] := by kernel_rfl
@[go_sem] theorem zcTy289 : zcTy Tryz.prog 289 = some [.int .i64 0] := by kernel_rfl
@[go_sem] theorem zcTy308 : zcTy Tryz.prog 308 = some z256 := by kernel_rfl
@[go_sem] theorem zcTy334 : zcTy Tryz.prog 334 = some [.bool false, .bool false, .bool false, .bool false, .bool false, .bool false, .bool false, .bool false, .bool false, .bool false, .bool false, .bool false, .bool false, .bool false, .bool false, .bool false, .bool false, .bool false, .bool false, .bool false, .bool false, .bool false, .bool false, .bool false, .bool false, .bool false, .bool false, .bool false, .bool false, .bool false, .bool false, .bool false, .bool false, .bool false, .bool false, .bool false, .bool false, .bool false, .bool false, .bool false, .bool false, .bool false, .bool false, .bool false, .bool false, .bool false, .bool false, .bool false, .bool false, .bool false, .bool false, .bool false, .bool false, .bool false, .bool false, .bool false, .bool false, .bool false, .bool false, .bool false, .bool false, .bool false, .bool false, .bool false, .bool false, .bool false, .bool false, .bool false, .bool false, .bool false, .bool false, .bool false, .bool false, .bool false, .bool false, .bool false, .bool false, .bool false, .bool false, .bool false, .bool false, .bool false, .bool false, .bool false, .bool false, .bool false, .bool false, .bool false, .bool false, .bool false, .bool false, .bool false, .bool false, .bool false, .bool false, .bool false, .bool false, .bool false, .bool false, .bool false, .bool false, .bool false, .bool false, .bool false, .bool false, .bool false, .bool false, .bool false, .bool false, .bool false, .bool false, .bool false, .bool false, .bool false, .bool false, .bool false, .bool false, .bool false, .bool false, .bool false, .bool false, .bool false, .bool false, .bool false, .bool false, .bool false, .bool false, .bool false, .bool false, .bool false, .bool false, .bool false, .bool false, .bool false, .bool false, .bool false, .bool false, .bool false, .bool false, .bool false, .bool false, .bool false, .bool false, .bool false, .bool false, .bool false, .bool false, .bool false, .bool false, .bool false, .bool false, .bool false, .bool false, .bool false, .bool false, .bool false, .bool false, .bool false, .bool false, .bool false, .bool false, .bool false, .bool false, .bool false, .bool false, .bool false, .bool false, .bool false, .bool false, .bool false, .bool false, .bool false, .bool false, .bool false, .bool false, .bool false, .bool false, .bool false, .bool false, .bool false, .bool false, .bool false, .bool false, .bool false, .bool false, .bool false, .bool false, .bool false, .bool false, .bool false, .bool false, .bool false, .bool false, .bool false, .bool false, .bool false, .bool false, .bool false, .bool false, .bool false, .bool false, .bool false, .bool false, .bool false, .bool false, .bool false, .bool false, .bool false, .bool false, .bool false, .bool false, .bool false, .bool false, .bool false, .bool false, .bool false, .bool false, .bool false, .bool false, .bool false, .bool false, .bool false, .bool false, .bool false, .bool false, .bool false, .bool false, .bool false, .bool false, .bool false, .bool false, .bool false, .bool false, .bool false, .bool false, .bool false, .bool false, .bool false, .bool false, .bool false, .bool false, .bool false, .bool false, .bool false, .bool false, .bool false, .bool false, .bool false, .bool false, .bool false, .bool false, .bool false, .bool false, .bool false, .bool false, .bool false] := by kernel_rfl
@[go_sem] theorem zcTy344 : zcTy Tryz.prog 344 = some [.int .u64 0] := by kernel_rfl
@[go_sem] theorem zcTy360 : zcTy Tryz.prog 360 = some [.int .u8 0, .int .u8 0] := by kernel_rfl
@[go_sem] theorem bdTy30 : bdTy Tryz.prog 30 = some ([(0, 1), (1, 1)], [.int .i64 0, .int .i64 0]) := by kernel_rfl
@[go_sem] theorem bdTy32 : bdTy Tryz.prog 32 = some ([(0, 2), (2, 1), (3, 1), (4, 1), (5, 1)], [.int .i64 0, .int .i64 0, .int .i64 0, .int .i64 0, .int .i64 0, .slice none 0 0]) := by kernel_rfl
@[go_sem] theorem bdTy37 : bdTy Tryz.prog 37 = some ([(0, 1), (1, 6), (7, 1), (8, 1), (9, 1), (10, 1)], [.slice none 0 0, .int .i64 0, .int .i64 0, .int .i64 0, .int .i64 0, .int .i64 0, .slice none 0 0, .int .i64 0, .int .i64 0, .slice none 0 0, .slice none 0 0]) := by kernel_rfl
@[go_sem] theorem bdTy48 : bdTy Tryz.prog 48 = some ([(0, 1), (1, 1), (2, 1)], [.int .i64 0, .int .i64 0, .slice none 0 0]) := by kernel_rfl
@[go_sem] theorem bdTy60 : bdTy Tryz.prog 60 = some ([(0, 1), (1, 1)], [.slice none 0 0, .slice none 0 0]) := by kernel_rfl
@[go_sem] theorem bdTy74 : bdTy Tryz.prog 74 = some ([(0, 1), (1, 1)], [.int .i64 0, .int .i64 0]) := by kernel_rfl
@[go_sem] theorem bdTy85 : bdTy Tryz.prog 85 = some ([(0, 1), (1, 1), (2, 1), (3, 1), (4, 1), (5, 1), (6, 1), (7, 1)], [.int .u8 0, .int .u8 0, .int .u8 0, .int .u8 0, .int .u8 0, .int .u8 0, .int .u8 0, .int .u8 0]) := by kernel_rfl
@[go_sem] theorem bdTy98 : bdTy Tryz.prog 98 = some ([(0, 1), (1, 1), (2, 1)], [.int .i64 0, .int .i64 0, .slice none 0 0]) := by kernel_rfl
@[go_sem] theorem bdTy139 : bdTy Tryz.prog 139 = some ([(0, 2)], [.slice none 0 0, .slice none 0 0]) := by kernel_rfl
@[go_sem] theorem bdTy144 : bdTy Tryz.prog 144 = some ([(0, 2)], [.int .i64 0, .int .i64 0]) := by kernel_rfl
@[go_sem] theorem bdTy146 : bdTy Tryz.prog 146 = some ([(0, 2), (2, 6), (8, 1)], [.int .i64 0, .int .i64 0, .int .i64 0, .int .i64 0, .int .i64 0, .int .i64 0, .int .i64 0, .slice none 0 0, .int .i64 0]) := by kernel_rfl
@[go_sem] theorem bdTy169 : bdTy Tryz.prog 169 = some ([(0, 1), (1, 1), (2, 1)], [.int .i64 0, .int .i64 0, .slice none 0 0]) := by kernel_rfl
@[go_sem] theorem bdTy205 : bdTy Tryz.prog 205 = some ([(0, 1), (1, 8)], [.int .i64 0, .int .u8 0, .int .u8 0, .int .u8 0, .int .u8 0, .int .u8 0, .int .u8 0, .int .u8 0, .int .u8 0]) := by kernel_rfl
@[go_sem] theorem bdTy209 : bdTy Tryz.prog 209 = some ([(0, 1), (1, 1)], [.nilFunc, .nilFunc]) := by kernel_rfl
@[go_sem] theorem bdTy239 : bdTy Tryz.prog 239 = some ([(0, 1), (1, 1)], [.int .i64 0, .slice none 0 0]) := by kernel_rfl
@[go_sem] theorem bdTy241 : bdTy Tryz.prog 241 = some ([(0, 2), (2, 1)], [.int .i64 0, .slice none 0 0, .slice none 0 0]) := by kernel_rfl
@[go_sem] theorem bdTy254 : bdTy Tryz.prog 254 = some ([(0, 3), (3, 3)], [.int .i64 0, .slice none 0 0, .slice none 0 0, .int .i64 0, .slice none 0 0, .slice none 0 0]) := by kernel_rfl
@[go_sem] theorem bdTy289 : bdTy Tryz.prog 289 = some ([(0, 1)], [.int .i64 0]) := by kernel_rfl
@[go_sem] theorem bdTy295 : bdTy Tryz.prog 295 = some ([(0, 1), (1, 1), (2, 1)], [.slice none 0 0, .int .i64 0, .int .i64 0]) := by kernel_rfl
@[go_sem] theorem bdTy313 : bdTy Tryz.prog 313 = some ([(0, 1)], [.slice none 0 0]) := by kernel_rfl
@[go_sem] theorem cvTy3_5 : cvTy Tryz.prog 3 5 = some (some .u8) := by kernel_rfl
@[go_sem] theorem cvTy3_224 : cvTy Tryz.prog 3 224 = some (some .u32) := by kernel_rfl
@[go_sem] theorem cvTy3_273 : cvTy Tryz.prog 3 273 = some (some .u64) := by kernel_rfl
@[go_sem] theorem cvTy3_344 : cvTy Tryz.prog 3 344 = some (some .u64) := by kernel_rfl
@[go_sem] theorem cvTy5_3 : cvTy Tryz.prog 5 3 = some (some .i64) := by kernel_rfl
@[go_sem] theorem cvTy5_21 : cvTy Tryz.prog 5 21 = some (some .i32) := by kernel_rfl
@[go_sem] theorem cvTy5_224 : cvTy Tryz.prog 5 224 = some (some .u32) := by kernel_rfl
@[go_sem] theorem cvTy224_3 : cvTy Tryz.prog 224 3 = some (some .i64) := by kernel_rfl
@[go_sem] theorem cvTy224_5 : cvTy Tryz.prog 224 5 = some (some .u8) := by kernel_rfl
@[go_sem] theorem cvTy273_3 : cvTy Tryz.prog 273 3 = some (some .i64) := by kernel_rfl
@[go_sem] theorem cvTy273_224 : cvTy Tryz.prog 273 224 = some (some .u32) := by kernel_rfl
@[go_sem] theorem cvTy331_5 : cvTy Tryz.prog 331 5 = some (some .u8) := by kernel_rfl
@[go_sem] theorem mpTy230 : mpTy Tryz.prog 230 = some (.slice none 0 0) := by kernel_rfl
@[go_sem] theorem strTy9 : Tryz.prog.underlying 9 = some .string := by kernel_rfl
@[go_sem] theorem boolTy4 : Tryz.prog.underlying 4 = some .bool := by kernel_rfl
end Go.Proofs.YtbnkggbpocaaiaaGreatDoor
namespace Go.Proofs.YtbnkggbpocaaiaaGreatDoor
open Go.Proofs
def nPc (len n : Nat) : Nat := (len + n - 1) / n
theorem nPc_lt {len n i : Nat} (hn : 1 ≤ n) : i < nPc len n ↔ n * i < len := by
  unfold nPc
  rw [Nat.lt_div_iff_mul_lt (by omega), Nat.mul_comm]
  omega
theorem nPc_le {len n : Nat} (hn : 1 ≤ n) : nPc len n ≤ len := by
  rcases Nat.lt_or_ge len (nPc len n) with h | h
  · have := (nPc_lt (len := len) hn).1 h
    have := Nat.le_mul_of_pos_left len hn
    omega
  · exact h
def pcOf (l : List UInt8) (n i : Nat) : List UInt8 := (l.drop (n * i)).take n
theorem Chunk_cc (H : Hp) (V : List Nat) (tk : Tk) (l : List UInt8) (n : Nat) (hn : 1 ≤ n) (hok : okTk V.length tk) : CC Tryz.prog 172 [.sl tk 1 (bs l), ci n] H V (fun r H' V' => r = .fn 200 [.ptr H.length 0, .ptr (H.length + 1) 0] ∧ H' = H ++ [some [.sl tk 1 (bs l)], some [ci n]] ∧ V = V') := by
  refine CC.of_swp Tryz.func172 rfl (by kernel_rfl) (by rw [Tryz.ntmps172]; exact len_le _ _ rfl) fun hok' hokH => ?_
  refine SWp.seq (Wp.s ?_)
  simp -implicitDefEqProofs [go_sem, args0]
  refine SWp.seq (SWp.seq (Wp.s ?_))
  simp -implicitDefEqProofs [go_sem, show ¬ (n : Int) < 1 by omega]
  refine Wp.s ?_
  simp -implicitDefEqProofs [go_sem]
  refine SWp.seq (Wp.s ?_)
  simp -implicitDefEqProofs [go_sem]
  refine Wp.s ?_
  simp -implicitDefEqProofs [go_sem]
  refine Fin.cut (H.length + 2) V.length ⟨rfl, rfl, rfl⟩ (by omega) (Nat.le_refl _) (List.take_of_length_le (by simp)) (List.take_of_length_le (Nat.le_refl _)) (.refl _) (by simp [go_sem]) ?_
  intro b cs hb
  rw [List.getElem?_append] at hb
  split at hb
  · exact okL_mono (by omega) (Nat.le_refl _) (hokH b cs hb)
  · exact okH_get (i := H.length + 2) (j := V.length) (L := [some [.sl tk 1 (bs l)], some [ci n]]) (by simp [go_sem, okV_slt, hok]) _ _ hb
theorem chunk1_cc (H : Hp) (V : List Nat) (L b2 b3 : Nat) (tk : Tk) (l : List UInt8) (n : Nat) (hn : 1 ≤ n) (hn2 : n ≤ 1000000) (hl : l.length ≤ 1000000000) (I : Nat → Hp → List Nat → Prop) (h0 : I 0 H V)
    (hI : ∀ i H V, I i H V → H[b2]? = some (some [.sl tk 1 (bs l)]) ∧ H[b3]? = some (some [ci n]))
    (hy : ∀ i, i < nPc l.length n → ∀ H V, I i H V → YC Tryz.prog L [.sl .ti 1 (bs (pcOf l n i))] H V (fun r H' V' => r = .v (.bool true) ∧ I (i + 1) H' V')) :
    CC Tryz.prog 200 [.yl L, .ptr b2 0, .ptr b3 0] H V (fun _ H' V' => I (nPc l.length n) H' V') := by
  refine CC.of_swp Tryz.func200 rfl (by kernel_rfl) (by rw [Tryz.ntmps200]; exact len_le _ _ rfl) fun hok hokH => ?_
  clear hok
  refine SWp.seq (Wp.s ?_)
  simp -implicitDefEqProofs [go_sem, args0]
  refine SWp.block ?_
  refine SWp.loop (α := Nat × Hp × List Nat) (fun x => ([(0, .yl L), (1, .ptr b2 0), (2, .ptr b3 0), (4, ci (n * x.1 : Nat))], x.2.1, x.2.2)) (fun x => x.1 ≤ nPc l.length n ∧ I x.1 x.2.1 x.2.2) (fun x => nPc l.length n - x.1) (0, H, V) ⟨by omega, h0⟩ (Sh.forget (by simp [go_sem]) rfl rfl) ?_
  rintro ⟨i, H1, V1⟩ ⟨hi, hi1⟩
  dsimp only at hi hi1 ⊢
  obtain ⟨g2, g3⟩ := hI _ _ _ hi1
  have hlt := nPc_lt (len := l.length) (i := i) hn
  obtain ⟨p, hp⟩ : ∃ p, p = n * i := ⟨_, rfl⟩
  rw [← hp] at hlt ⊢
  refine SWp.seq (SWp.seq (Wp.s ?_))
  simp -implicitDefEqProofs [go_sem, hbx_of g2, hbx_of g3]
  by_cases h : i < nPc l.length n
  case neg =>
    have hpl : ¬ p < l.length := fun q => h (hlt.2 q)
    refine Wp.s ?_
    simp -implicitDefEqProofs [go_sem, hpl]
    obtain rfl : i = nPc l.length n := by omega
    exact Fin.self hi1
  have hpl := hlt.1 h
  refine Wp.s ?_
  simp -implicitDefEqProofs [go_sem, hpl]
  obtain ⟨q, hq⟩ : ∃ q : Nat, q = min n (l.length - p) := ⟨_, rfl⟩
  have hqm : min (n : Int) ((l.length - p : Nat) : Int) = (q : Int) := by omega
  have hqp : p + q ≤ l.length := by omega
  have w1 : IntKind.i64.wrap ((p : Int) + (q : Int)) = ((p + q : Nat) : Int) := by rw [IntWalk.i64_in _ ⟨by omega, by omega⟩]; omega
  have w2 : IntKind.i64.wrap ((p : Int) + (n : Int)) = ((p + n : Nat) : Int) := by rw [IntWalk.i64_in _ ⟨by omega, by omega⟩]; omega
  have hpc : ((l.take ((p : Int) + (q : Int)).toNat).drop p) = pcOf l n i := by
    unfold pcOf
    rw [show ((p : Int) + (q : Int)).toNat = p + q by omega]
    rw [← hp, List.drop_take, Nat.add_sub_cancel_left, hq]
    rcases Nat.le_total n (l.length - p) with h1 | h1
    · rw [Nat.min_eq_left h1]
    · rw [Nat.min_eq_right h1, List.take_of_length_le (by simp), List.take_of_length_le (by simpa using h1)]
  refine SWp.seq (SWp.block (SWp.seq ?_))
  refine SWp.drawnT [] [] (.s 0 .pl <| .s 1 .pl <| .s 2 .pl <| .s 3 .pl <| .s 4 .pl <| .s 5 .pl <| .s 6 .pl <| .n) (by kernel_rfl) (by kernel_rfl) ?_
  simp -implicitDefEqProofs [go_sem, hbx_of g2, hbx_of g3, hqm, show p ≤ l.length by omega]
  refine SWp.seq (Wp.s ?_)
  simp -implicitDefEqProofs [go_sem, hbx_of g2, hbx_of g3, w1, hpc]
  refine ⟨by omega, by omega, by omega, ?_⟩
  refine YC.mono (hy i h _ _ hi1) ?_
  rintro _ H2 V2 ⟨rfl, hi2⟩
  obtain ⟨k2, k3⟩ := hI _ _ _ hi2
  simp -implicitDefEqProofs [go_sem]
  refine Wp.s ?_
  simp -implicitDefEqProofs [go_sem]
  refine Wp.s ?_
  simp -implicitDefEqProofs [go_sem, hbx_of k2, hbx_of k3, w2]
  refine ⟨i + 1, H2, V2, ⟨by omega, hi2⟩, by omega, Sh.forget ?_ rfl rfl⟩
  have e : (n : Int) * ((i : Int) + 1) = (p : Int) + (n : Int) := by rw [Int.mul_add, Int.mul_one]; omega
  simp [go_sem, e]
end Go.Proofs.YtbnkggbpocaaiaaGreatDoor
namespace Go.Proofs.YtbnkggbpocaaiaaGreatDoor
structure Cach where
  pos : Int
  data : Sec
def cachC (c : Cach) : List CV := .v (.int .i64 c.pos) :: secC c.data
@[go_sem, simp] theorem cachC_len (c : Cach) : (cachC c).length = 9 := by rw [cachC, List.length_cons, secC_len]
@[go_sem, simp] theorem cachC_0 (c : Cach) (h : 0 < (cachC c).length) : (cachC c)[0] = CV.v (.int .i64 c.pos) := rfl
@[go_sem, simp] theorem cachC_drop (c : Cach) : (cachC c).drop 1 = secC c.data := rfl
@[go_sem, simp] theorem cachC_take (c : Cach) : (cachC c).take 9 = cachC c := List.take_of_length_le (by simp)
@[go_sem, simp] theorem cachC_all (c : Cach) : allOne (cachC c) = true := by rw [cachC, allOne_cons, secC_all]; rfl
@[go_sem] theorem okL_cachC (jb jv : Nat) (c : Cach) : okL jb jv (cachC c) = True := by simp [cachC, okL, okV, okL_secC]
@[go_sem] theorem okE_cach (jb jv : Nat) (l : List Cach) : okE jb jv (l.map cachC) = True := eq_true (okE_map cachC l fun e => by rw [okL_cachC]; trivial)
structure Dk where
  stable : List Sec
  cache : List Cach
abbrev cachV (l : List Cach) : CV := .sl .sh 9 (l.map cachC)
def dkC (d : Dk) : List CV := [secsV d.stable, cachV d.cache]
@[go_sem, simp] theorem dkC_len (d : Dk) : (dkC d).length = 2 := by rw [dkC]; rfl
@[go_sem, simp] theorem dkC_take (d : Dk) : (dkC d).take 2 = dkC d := rfl
@[go_sem, simp] theorem dkC_all (d : Dk) : allOne (dkC d) = true := rfl
@[go_sem, simp] theorem dkC_0 (d : Dk) (h : 0 < (dkC d).length) : (dkC d)[0] = secsV d.stable := rfl
@[go_sem, simp] theorem dkC_1 (d : Dk) (h : 1 < (dkC d).length) : (dkC d)[1] = cachV d.cache := rfl
@[go_sem] theorem okL_dkC (jb jv : Nat) (d : Dk) : okL jb jv (dkC d) = True := by simp [dkC, okL, okV, okTk, okE_secs, okE_cach]
structure Opn where
  kind : Int
  pos : Int
  data : List Sec
def opC (x : Opn) : List CV := [.v (.int .i64 x.kind), .v (.int .i64 x.pos), secsV x.data]
@[go_sem, simp] theorem opC_len (x : Opn) : (opC x).length = 3 := by rw [opC]; rfl
@[go_sem, simp] theorem opC_take (x : Opn) : (opC x).take 3 = opC x := rfl
@[go_sem, simp] theorem opC_all (x : Opn) : allOne (opC x) = true := rfl
@[go_sem, simp] theorem opC_0 (x : Opn) (h : 0 < (opC x).length) : (opC x)[0] = CV.v (.int .i64 x.kind) := rfl
@[go_sem, simp] theorem opC_1 (x : Opn) (h : 1 < (opC x).length) : (opC x)[1] = CV.v (.int .i64 x.pos) := rfl
@[go_sem, simp] theorem opC_2 (x : Opn) (h : 2 < (opC x).length) : (opC x)[2] = secsV x.data := rfl
@[go_sem] theorem okL_opC (jb jv : Nat) (x : Opn) : okL jb jv (opC x) = True := by simp [opC, okL, okV, okTk, okE_secs]
@[go_sem] theorem okE_ops (jb jv : Nat) (l : List Opn) : okE jb jv (l.map opC) = True := eq_true (okE_map opC l fun e => by rw [okL_opC]; trivial)
abbrev opsV (l : List Opn) : CV := .sl .sh 3 (l.map opC)
def badAt (d : Dk) (c : Cach) : Bool := decide (c.pos < 0) || decide ((d.stable.length : Int) ≤ c.pos)
def checkD (d : Dk) : Nat := if 4096 < d.stable.length ∨ d.cache.any (badAt d) = true then 2 else 0
def setC (l : List Sec) (c : Cach) : List Sec := l.set c.pos.toNat c.data
def newestD (d : Dk) : List Sec := d.cache.foldl setC d.stable
theorem foldl_setC_len : ∀ (cs : List Cach) (l : List Sec), (cs.foldl setC l).length = l.length
  | [], l => rfl
  | c :: cs, l => by rw [List.foldl_cons, foldl_setC_len cs, setC, List.length_set]
theorem newestD_len (d : Dk) : (newestD d).length = d.stable.length := foldl_setC_len _ _
def insideB (d : Dk) (a n : Int) : Bool := decide (0 ≤ a) && decide (0 ≤ n) && decide (n ≤ (d.stable.length : Int)) && decide (a ≤ (d.stable.length : Int) - n)
def readD (d : Dk) (a n : Int) : List Sec × Nat :=
  if checkD d ≠ 0 then ([], checkD d) else if insideB d a n = false then ([], 2) else (((newestD d).drop a.toNat).take n.toNat, 0)
theorem checkD_0 {d : Dk} (h : checkD d = 0) : d.stable.length ≤ 4096 ∧ ∀ c ∈ d.cache, 0 ≤ c.pos ∧ c.pos.toNat < d.stable.length := by
  unfold checkD at h
  by_cases hc : 4096 < d.stable.length ∨ d.cache.any (badAt d) = true
  · rw [if_pos hc] at h; cases h
  · obtain ⟨h1, h2⟩ := not_or.1 hc
    refine ⟨by omega, fun c hm => ?_⟩
    have h3 : ¬ badAt d c = true := fun h3 => h2 (List.any_eq_true.2 ⟨c, hm, h3⟩)
    unfold badAt at h3
    rw [Bool.or_eq_true, decide_eq_true_eq, decide_eq_true_eq, not_or] at h3
    omega
def writeD (d : Dk) (a : Int) (l : List Sec) : Option Dk :=
  if insideB d a l.length = true then some ⟨d.stable, d.cache ++ (l.zipIdx.map fun p => ⟨a + p.2, p.1⟩)⟩ else none
def stepD (d : Dk) (o : Opn) : Except Nat Dk :=
  if o.kind < 0 ∨ 2 ≤ o.kind then .error 1 else if o.kind = 0 then (match writeD d o.pos o.data with | some d' => .ok d' | none => .error 2) else .ok ⟨newestD d, []⟩
def runD : Dk → List Opn → Nat → Except (Nat × Nat) (Dk × Nat)
  | d, [], i => .ok (d, i)
  | d, o :: os, i => match stepD d o with | .ok d' => runD d' os (i + 1) | .error e => .error (i, e)
end Go.Proofs.YtbnkggbpocaaiaaGreatDoor
namespace Go.Proofs.YtbnkggbpocaaiaaGreatDoor
open Go.Proofs
theorem bitop_or (k : IntKind) (x y : Nat) (hx : x < 2 ^ k.bits) (hy : y < 2 ^ k.bits) : bitop .or k (x : Int) (y : Int) = k.wrap ((x ||| y : Nat) : Int) := by
  unfold bitop
  have h1 : (BitVec.ofInt k.bits (x : Int)).toNat = x := by
    rw [BitVec.ofInt_natCast, BitVec.toNat_ofNat, Nat.mod_eq_of_lt hx]
  have h2 : (BitVec.ofInt k.bits (y : Int)).toNat = y := by
    rw [BitVec.ofInt_natCast, BitVec.toNat_ofNat, Nat.mod_eq_of_lt hy]
  simp only [BitVec.toNat_or, h1, h2]
def sb (s : Sec) (i : Nat) : Nat := (s.val.getD i 0).toNat
theorem sb_lt (s : Sec) (i : Nat) : sb s i < 256 := UInt8.toNat_lt _
theorem secC_get (s : Sec) (i : Nat) (h : i < (secC s).length) : (secC s)[i] = CV.v (.int .u8 (sb s i : Int)) := by
  have h8 : i < s.val.length := by simpa [secC] using h
  simp only [secC, List.getElem_map, sb, List.getD_eq_getElem?_getD, List.getElem?_eq_getElem h8, Option.getD_some]
def gi (s : Sec) : Nat → Nat
  | 0 => 0
  | i + 1 => gi s i * 256 + sb s (3 - i)
def gn (s : Sec) : Nat := gi s 4
theorem gi_lt (s : Sec) : ∀ i, gi s i < 256 ^ i
  | 0 => Nat.one_pos
  | i + 1 => by
    have := gi_lt s i
    have := sb_lt s (3 - i)
    rw [gi, Nat.pow_succ]; omega
theorem gn_lt (s : Sec) : gn s < 4294967296 := gi_lt s 4
theorem or_add (a b : Nat) (hb : b < 256) : a * 256 ||| b = a * 256 + b := by
  have := Nat.two_pow_add_eq_or_of_lt (i := 8) (b := b) hb a
  rw [Nat.mul_comm a 256]; exact this.symm
theorem gi_step (s : Sec) (i : Nat) (h : i < 4) : bitop .or .i64 (shl .i64 (gi s i : Int) 8) (sb s (3 - i) : Int) = ((gi s (i + 1) : Nat) : Int) := by
  have h1 := gi_lt s i
  have h2 := sb_lt s (3 - i)
  have h3 : gi s i < 16777216 := Nat.lt_of_lt_of_le h1 (by
    have := Nat.pow_le_pow_right (show 0 < 256 by decide) (show i ≤ 3 by omega)
    exact this)
  have e1 : shl .i64 (gi s i : Int) 8 = ((gi s i * 256 : Nat) : Int) := by
    unfold shl
    rw [show (2 : Int) ^ (min (8 : Int).toNat IntKind.i64.bits) = 256 by rfl, IntWalk.i64_in _ ⟨by omega, by omega⟩]
    omega
  rw [e1, bitop_or _ _ _ (by show _ < 2 ^ 64; omega) (by show _ < 2 ^ 64; omega), or_add _ _ h2, IntWalk.i64_in _ ⟨by omega, by omega⟩, gi]
theorem sgeneration_cc (H : Hp) (V : List Nat) (s : Sec) : CC Tryz.prog 181 [.agg (secC s)] H V (Pu (ci (gn s)) H V) := by
  refine CC.of_swp Tryz.func181 rfl (by kernel_rfl) (by rw [Tryz.ntmps181]; exact len_le _ _ rfl) fun hok hokH => ?_
  clear hok
  refine SWp.seq (Wp.s ?_)
  simp -implicitDefEqProofs [go_sem, args0]
  refine SWp.seq (Wp.s ?_)
  simp -implicitDefEqProofs [go_sem]
  refine SWp.join (α := Unit) (fun _ => ([(3, ci (gn s))], H ++ [some (secC s)], V)) (fun _ => True) ?_ ?_
  · refine SWp.seq (Wp.s ?_)
    simp -implicitDefEqProofs [go_sem]
    refine SWp.block ?_
    refine SWp.loop (α := Nat) (fun i => ([(1, .ptr H.length 0), (3, ci (gi s i)), (4, ci (3 - (i : Int)))], H ++ [some (secC s)], V)) (fun i => i ≤ 4) (fun i => 4 - i) 0 (by simp) (Sh.forget (by simp -implicitDefEqProofs [go_sem, gi]) rfl rfl) ?_
    intro i hi
    dsimp only
    refine SWp.seq (Wp.s ?_)
    simp -implicitDefEqProofs [go_sem]
    refine ⟨fun h => ?_, fun h => Sh.forget (by
      have h' : (3 : Int) < i := h
      obtain rfl : i = 4 := by omega
      simp -implicitDefEqProofs [go_sem, gn]) rfl rfl⟩
    have h4 : i < 4 := by omega
    have e1 : (3 - (i : Int)).toNat = 3 - i := by omega
    have u : IntKind.i64.wrap (sb s (3 - i) : Int) = (sb s (3 - i) : Int) := by have := sb_lt s (3 - i); exact IntWalk.i64_in _ ⟨by omega, by omega⟩
    refine SWp.seq (SWp.block ?_)
    refine Wp.s ?_
    simp -implicitDefEqProofs [go_sem, u, show (i : Int) ≤ 3 by omega, show (3 - (i : Int)) < 8 by omega, e1, secC_get, show 3 - i < 8 by omega, gi_step s i h4]
    refine Wp.s ?_
    simp -implicitDefEqProofs [go_sem, IntWalk.i64_in (3 - (i : Int) - 1) ⟨by omega, by omega⟩]
    exact ⟨i + 1, by omega, by omega, Sh.forget (by simp -implicitDefEqProofs [go_sem, show (3 - (i : Int) - 1) = 3 - ((i : Int) + 1) by omega]) rfl rfl⟩
  · rintro _ -
    dsimp only
    refine Wp.s ?_
    simp -implicitDefEqProofs [go_sem]
    exact Fin.int rfl hokH (by simp) (by simp)
theorem or_add' (a b i : Nat) (ha : a < 2 ^ i) : a ||| b * 2 ^ i = a + b * 2 ^ i := by
  have := Nat.two_pow_add_eq_or_of_lt (i := i) (b := a) ha b
  rw [Nat.or_comm, Nat.mul_comm b, ← this, Nat.add_comm]
theorem gi32 (s : Sec) : bitop .or .u32 (bitop .or .u32 (bitop .or .u32 (sb s 0 : Int) (shl .u32 (sb s 1 : Int) 8)) (shl .u32 (sb s 2 : Int) 16)) (shl .u32 (sb s 3 : Int) 24) = (gn s : Int) := by
  have h0 := sb_lt s 0
  have h1 := sb_lt s 1
  have h2 := sb_lt s 2
  have h3 := sb_lt s 3
  have u : ∀ x : Nat, x < 4294967296 → IntKind.u32.wrap (x : Int) = (x : Int) := fun x hx => by rw [IntKind.wrap_u32]; omega
  have e : ∀ (x k : Nat), x < 256 → k ≤ 24 → shl .u32 (x : Int) (k : Int) = ((x * 2 ^ k : Nat) : Int) := fun x k hx hk => by
    unfold shl
    rw [Int.toNat_natCast, Nat.min_eq_left (by show k ≤ 32; omega)]
    have e2 : (x : Int) * 2 ^ k = ((x * 2 ^ k : Nat) : Int) := by simp
    rw [e2]
    refine u _ ?_
    have := Nat.pow_le_pow_right (show 0 < 2 by decide) hk
    have := Nat.mul_le_mul (show x ≤ 255 by omega) this
    omega
  rw [show (8 : Int) = ((8 : Nat) : Int) from rfl, show (16 : Int) = ((16 : Nat) : Int) from rfl, show (24 : Int) = ((24 : Nat) : Int) from rfl, e _ _ h1 (by omega), e _ _ h2 (by omega), e _ _ h3 (by omega)]
  rw [bitop_or _ _ _ (by show _ < 2 ^ 32; omega) (by show _ < 2 ^ 32; omega), or_add' _ _ _ (by omega), u _ (by omega)]
  rw [bitop_or _ _ _ (by show _ < 2 ^ 32; omega) (by show _ < 2 ^ 32; omega), or_add' _ _ _ (by omega), u _ (by omega)]
  rw [bitop_or _ _ _ (by show _ < 2 ^ 32; omega) (by show _ < 2 ^ 32; omega), or_add' _ _ _ (by omega), u _ (by omega)]
  simp only [gn, gi, Nat.zero_mul, Nat.zero_add, Nat.sub_zero, Nat.sub_self, show 3 - 2 = 1 from rfl, show 3 - 1 = 2 from rfl]
  omega
theorem sGeneration_cc (H : Hp) (V : List Nat) (s : Sec) : CC Tryz.prog 154 [.agg (secC s)] H V (Pu (.v (.int .u32 (gn s))) H V) := by
  refine CC.of_swp Tryz.func154 rfl (by kernel_rfl) (by rw [Tryz.ntmps154]; exact len_le _ _ rfl) fun hok hokH => ?_
  clear hok
  refine SWp.seq (Wp.s ?_)
  simp -implicitDefEqProofs [go_sem, args0]
  refine SWp.seq (Wp.s ?_)
  have u : ∀ i, IntKind.u32.wrap (sb s i : Int) = (sb s i : Int) := fun i => by rw [IntKind.wrap_u32]; have := sb_lt s i; omega
  simp -implicitDefEqProofs [go_sem, secC_get, u, gi32]
  refine Wp.s ?_
  simp -implicitDefEqProofs [go_sem]
  exact Fin.int rfl hokH (by simp) (by simp)
theorem sinside_cc (H : Hp) (V : List Nat) (d : Dk) (a n : Int) (hl : d.stable.length ≤ 1000000000) : CC Tryz.prog 88 [.agg (dkC d), ci a, ci n] H V (Pu (cb (insideB d a n)) H V) := by
  refine CC.of_swp Tryz.func88 rfl (by kernel_rfl) (by rw [Tryz.ntmps88]; exact len_le _ _ rfl) fun hok hokH => ?_
  clear hok
  refine SWp.seq (Wp.s ?_)
  simp -implicitDefEqProofs [go_sem, args0]
  refine SWp.seq (Wp.s ?_)
  by_cases h1 : 0 ≤ a
  case neg =>
    simp -implicitDefEqProofs [go_sem, h1]
    refine Wp.s ?_
    simp -implicitDefEqProofs [go_sem]
    exact Fin.bool (by simp [insideB, h1]) hokH (by simp) (by simp)
  by_cases h2 : 0 ≤ n
  case neg =>
    simp -implicitDefEqProofs [go_sem, h1, h2]
    refine Wp.s ?_
    simp -implicitDefEqProofs [go_sem]
    exact Fin.bool (by simp [insideB, h1, h2]) hokH (by simp) (by simp)
  by_cases h3 : n ≤ (d.stable.length : Int)
  case neg =>
    simp -implicitDefEqProofs [go_sem, h1, h2, h3]
    refine Wp.s ?_
    simp -implicitDefEqProofs [go_sem]
    exact Fin.bool (by simp [insideB, h1, h2, h3]) hokH (by simp) (by simp)
  simp -implicitDefEqProofs [go_sem, h1, h2, h3, IntWalk.i64_in ((d.stable.length : Int) - n) ⟨by omega, by omega⟩]
  refine Wp.s ?_
  simp -implicitDefEqProofs [go_sem]
  exact Fin.bool (by simp [insideB, h1, h2, h3]) hokH (by simp) (by simp)
theorem sCheck1_cc (H : Hp) (V : List Nat) (d : Dk) (c : Cach) (b : Nat) (hb : H[b]? = some (some (dkC d))) : CC Tryz.prog 138 [.agg (cachC c), .ptr b 0] H V (Pu (cb (badAt d c)) H V) := by
  refine CC.of_swp Tryz.func138 rfl (by kernel_rfl) (by rw [Tryz.ntmps138]; exact len_le _ _ rfl) fun hok hokH => ?_
  clear hok
  have hb' : ∀ K, hbx (H ++ [some (cachC c)]) b K = K (dkC d) := fun K => by
    have : b < H.length := by
      rcases Nat.lt_or_ge b H.length with h | h
      · exact h
      · rw [List.getElem?_eq_none h] at hb; cases hb
    unfold hbx; rw [List.getElem?_append_left this, hb]
  refine SWp.seq (Wp.s ?_)
  simp -implicitDefEqProofs [go_sem, args0]
  refine SWp.seq (Wp.s ?_)
  by_cases h1 : c.pos < 0
  · simp -implicitDefEqProofs [go_sem, h1]
    refine Wp.s ?_
    simp -implicitDefEqProofs [go_sem]
    exact Fin.bool (by simp [badAt, h1]) hokH (by simp) (by simp)
  · simp -implicitDefEqProofs [go_sem, h1, hb']
    refine Wp.s ?_
    simp -implicitDefEqProofs [go_sem]
    exact Fin.bool (by simp [badAt, h1]) hokH (by simp) (by simp)
end Go.Proofs.YtbnkggbpocaaiaaGreatDoor
namespace Go.Proofs.YtbnkggbpocaaiaaGreatDoor
def le4 (n : Nat) : List UInt8 := [UInt8.ofNat (n % 256), UInt8.ofNat (n / 256 % 256), UInt8.ofNat (n / 65536 % 256), UInt8.ofNat (n / 16777216 % 256)]
theorem le4_len (n : Nat) : (le4 n).length = 4 := rfl
def mkSec (l : List UInt8) : Sec := if h : l.length = 8 then ⟨l, h⟩ else sec0
theorem mkSec_val {l : List UInt8} (h : l.length = 8) : (mkSec l).val = l := by rw [mkSec, dif_pos h]
def dataOf (p : List UInt8) : List UInt8 := UInt8.ofNat p.length :: p ++ List.replicate (31 - p.length) 0
theorem dataOf_len {p : List UInt8} (h : p.length ≤ 31) : (dataOf p).length = 32 := by simp [dataOf]; omega
def partOf (p : List UInt8) (i : Nat) : List UInt8 := ((dataOf p).drop (4 * i)).take 4
theorem partOf_len {p : List UInt8} (h : p.length ≤ 31) {i : Nat} (hi : i < 8) : (partOf p i).length = 4 := by
  rw [partOf, List.length_take, List.length_drop, dataOf_len h]; omega
def secOf (n : Nat) (p : List UInt8) (i : Nat) : Sec := mkSec (le4 n ++ partOf p i)
theorem secOf_val {p : List UInt8} (n : Nat) (h : p.length ≤ 31) {i : Nat} (hi : i < 8) : (secOf n p i).val = le4 n ++ partOf p i := mkSec_val (by rw [List.length_append, le4_len, partOf_len h hi])
def copyS (n : Nat) (p : List UInt8) : List Sec := (List.range 8).map (secOf n p)
def dataS (l : List Sec) : List UInt8 := l.flatMap fun s => s.val.drop 4
theorem dataS_len (l : List Sec) : (dataS l).length = 4 * l.length := by
  induction l with
  | nil => rfl
  | cons a l ih =>
    have := a.len
    rw [dataS, List.flatMap_cons, List.length_append, List.length_drop, List.length_cons, this]
    rw [dataS] at ih
    omega
def okData (l : List UInt8) : Bool := decide ((l.getD 0 0).toNat ≤ 31) && (l.drop ((l.getD 0 0).toNat + 1)).all (· == 0)
def g0 (l : List Sec) : Nat := gn (l.getD 0 sec0)
def valid (l : List Sec) : Bool := l.all (fun s => gn s == g0 l) && okData (dataS l)
def pay (l : List Sec) : List UInt8 := ((dataS l).drop 1).take ((dataS l).getD 0 0).toNat
def parseS (l : List Sec) : Nat × List UInt8 := if valid l = true then (g0 l, pay l) else (0, [])
def findE (d : Dk) (a : Int) : Nat := (readD d a 16).2
def findL (d : Dk) (a : Int) : List Sec := (readD d a 16).1
def cA (l : List Sec) : Nat × List UInt8 := parseS (l.take 8)
def cB (l : List Sec) : Nat × List UInt8 := parseS (l.drop 8)
def new1 (l : List Sec) : Nat := if (cA l).1 < (cB l).1 then 1 else 0
def best (l : List Sec) : Nat × List UInt8 := if (cA l).1 < (cB l).1 then cB l else cA l
def loadS (d : Dk) (a : Int) : List UInt8 × Nat × Nat :=
  if findE d a ≠ 0 then ([], 0, findE d a) else if (best (findL d a)).1 = 0 then ([], 0, 9) else ((best (findL d a)).2, (best (findL d a)).1, 0)
def topS (l : List Sec) : Nat := l.foldl (fun m s => max m (gn s)) 0
def opW (a : Int) (l : List Sec) : Opn := ⟨0, a, l⟩
def opS : Opn := ⟨1, 0, []⟩
def storeS (d : Dk) (a : Int) (p : List UInt8) : List Opn × Nat :=
  if findE d a ≠ 0 then ([], findE d a) else if (best (findL d a)).1 = 0 then ([], 9) else if 31 < p.length then ([], 5) else if topS (findL d a) = 4294967295 then ([], 11)
  else ([opW (a + 8 - 8 * (new1 (findL d a) : Int)) (copyS (topS (findL d a) + 1) p), opS], 0)
def formatS (a : Int) (p : List UInt8) : List Opn × Nat :=
  if a < 0 ∨ 4080 < a then ([], 2) else if 31 < p.length then ([], 5) else ([opW a (List.replicate 16 sec0), opS, opW a (copyS 1 p), opS], 0)
end Go.Proofs.YtbnkggbpocaaiaaGreatDoor
namespace Go.Proofs.YtbnkggbpocaaiaaGreatDoor
instance : DecidableEq Sec := fun a b => decidable_of_iff (a.val = b.val) ⟨fun h => by obtain ⟨x, hx⟩ := a; obtain ⟨y, hy⟩ := b; dsimp only at h; subst h; rfl, fun h => by rw [h]⟩
deriving instance DecidableEq for Wr
end Go.Proofs.YtbnkggbpocaaiaaGreatDoor
namespace Go.Proofs.YtbnkggbpocaaiaaGreatDoor
open Go.Proofs
theorem indexInt_cc (H : Hp) (V : List Nat) (tk : Tk) (l : List Int) (g : Nat) (p : Int → Bool) (hg : ∀ (H : Hp) (V : List Nat) (a : Int), CC Tryz.prog g [ci a] H V (Pu (cb (p a)) H V)) (hl : l.length ≤ 9223372036854775807) :
    CC Tryz.prog 196 [.sl tk 1 (l.map ic), .fn g []] H V (Ix (l.any p) H V) := by
  refine CC.of_swp Tryz.func196 rfl (by kernel_rfl) (by rw [Tryz.ntmps196]; exact len_le _ _ rfl) fun hok hokH => ?_
  clear hok
  refine SWp.seq (Wp.s ?_)
  simp -implicitDefEqProofs [go_sem, args0]
  refine SWp.join (α := Unit) (fun _ => ([], H, V)) (fun _ => l.any p = false) ?_ ?_
  · refine SWp.seq (Wp.s ?_)
    simp -implicitDefEqProofs [go_sem]
    refine SWp.block ?_
    refine SWp.loop (α := Nat) (fun i => ([(0, .sl tk 1 (l.map ic)), (1, .fn g []), (7, ci l.length), (8, ci i)], H, V)) (fun i => i ≤ l.length ∧ (l.take i).any p = false) (fun i => l.length - i) 0 ⟨Nat.zero_le _, rfl⟩
      (Sh.forget (by simp [go_sem]) rfl rfl) ?_
    rintro i ⟨hi, hp⟩
    dsimp only
    refine Wp.s ?_
    simp -implicitDefEqProofs [go_sem]
    refine ⟨fun h => ⟨h, ?_⟩, fun h => ⟨?_, Sh.forget (by simp [go_sem]) rfl rfl⟩⟩
    · refine CC.mono (hg _ _ _) ?_
      rintro _ _ _ ⟨rfl, rfl, rfl⟩
      rcases hq : p l[i] with - | -
      · simp -implicitDefEqProofs [go_sem]
        refine ⟨i + 1, ⟨by omega, by simpa using any_take h hp hq⟩, by omega, Sh.forget ?_ rfl rfl⟩
        simp [go_sem, wrap_big (show i < 9223372036854775807 by omega)]
      · simp -implicitDefEqProofs [go_sem]
        exact Fin.ix (by rw [any_at h hq]; simp) hokH (by simp) (by simp)
    · rw [List.take_of_length_le h] at hp; simpa using hp
  · rintro _ hp
    dsimp only
    refine Wp.s ?_
    simp -implicitDefEqProofs [go_sem]
    exact Fin.ix (by rw [hp]; rfl) hokH (by simp) (by simp)
theorem containsInt_cc (H : Hp) (V : List Nat) (tk : Tk) (l : List Int) (g : Nat) (p : Int → Bool) (hg : ∀ (H : Hp) (V : List Nat) (a : Int), CC Tryz.prog g [ci a] H V (Pu (cb (p a)) H V)) (hl : l.length ≤ 9223372036854775807) :
    CC Tryz.prog 162 [.sl tk 1 (l.map ic), .fn g []] H V (Pu (cb (l.any p)) H V) := by
  refine CC.of_swp Tryz.func162 rfl (by kernel_rfl) (by rw [Tryz.ntmps162]; exact len_le _ _ rfl) fun hok hokH => Wp.s ?_
  simp -implicitDefEqProofs [go_sem, args0]
  refine CC.mono (indexInt_cc _ _ _ _ _ _ hg hl) ?_
  rintro _ _ _ ⟨k, rfl, hk, rfl, rfl⟩
  simp -implicitDefEqProofs [go_sem]
  exact Fin.bool hk hokH (by simp) (by simp)
theorem size1_cc (H : Hp) (V : List Nat) (a : Int) : CC Tryz.prog 163 [ci a] H V (Pu (cb (badSz a)) H V) := by
  refine CC.of_swp Tryz.func163 rfl (by kernel_rfl) (by rw [Tryz.ntmps163]; exact len_le _ _ rfl) fun hok hokH => ?_
  clear hok
  refine SWp.seq (Wp.s ?_)
  simp -implicitDefEqProofs [go_sem, args0]
  by_cases h : a < 1
  · refine Wp.s ?_
    simp -implicitDefEqProofs [go_sem, h]
    exact Fin.bool (by simp [badSz, h]) hokH (by simp) (by simp)
  · refine Wp.s ?_
    simp -implicitDefEqProofs [go_sem, h]
    exact Fin.bool (by simp [badSz, h]) hokH (by simp) (by simp)
theorem checkSizes_cc (H : Hp) (V : List Nat) (tk : Tk) (l : List Int) (hl : l.length ≤ 9223372036854775807) : CC Tryz.prog 102 [.sl tk 1 (l.map ic)] H V (Pu (er (sizesE l)) H V) := by
  refine CC.of_swp Tryz.func102 rfl (by kernel_rfl) (by rw [Tryz.ntmps102]; exact len_le _ _ rfl) fun hok hokH => ?_
  clear hok
  refine SWp.seq (Wp.s ?_)
  simp -implicitDefEqProofs [go_sem, args0]
  refine SWp.seq (Wp.s ?_)
  by_cases h1 : l.length < 1
  · simp -implicitDefEqProofs [go_sem, h1, show (l.length : Int) < 1 by omega]
    exact Fin.er (by rw [sizesE, if_pos (.inl h1)]) hokH (by simp) (by simp)
  by_cases h2 : 8 < l.length
  · simp -implicitDefEqProofs [go_sem, h1, show ¬ (l.length : Int) < 1 by omega, show (8 : Int) < l.length by omega]
    exact Fin.er (by rw [sizesE, if_pos (.inr h2)]) hokH (by simp) (by simp)
  simp -implicitDefEqProofs [go_sem, h1, show ¬ (l.length : Int) < 1 by omega, show ¬ (8 : Int) < l.length by omega]
  refine SWp.seq (Wp.s ?_)
  simp -implicitDefEqProofs [go_sem]
  refine CC.mono (containsInt_cc _ _ tk l _ badSz (fun H V a => size1_cc H V a) hl) ?_
  rintro _ _ _ ⟨rfl, rfl, rfl⟩
  rcases h3 : l.any badSz with - | -
  · simp -implicitDefEqProofs [go_sem]
    refine Wp.s ?_
    simp -implicitDefEqProofs [go_sem]
    exact Fin.er (by rw [sizesE, if_neg (by omega), if_neg (by simp [h3])]) hokH (by simp) (by simp)
  · simp -implicitDefEqProofs [go_sem]
    exact Fin.er (by rw [sizesE, if_neg (by omega), if_pos h3]) hokH (by simp) (by simp)
end Go.Proofs.YtbnkggbpocaaiaaGreatDoor
namespace Go.Proofs.YtbnkggbpocaaiaaGreatDoor
open Go.Proofs
end Go.Proofs.YtbnkggbpocaaiaaGreatDoor
namespace Go.Proofs.YtbnkggbpocaaiaaGreatDoor
open Go.Proofs
theorem new1_cc (H : Hp) (V : List Nat) (n : Int) (h0 : 0 ≤ n) (h1 : n ≤ 1000000) : CC Tryz.prog 104 [ci n] H V (Pu (secsV (zer n.toNat)) H V) := by
  refine CC.of_swp Tryz.func104 rfl (by kernel_rfl) (by rw [Tryz.ntmps104]; exact len_le _ _ rfl) fun hok hokH => ?_
  clear hok
  have hz : (List.replicate n.toNat [CV.v (.int .u8 0), CV.v (.int .u8 0), CV.v (.int .u8 0), CV.v (.int .u8 0), CV.v (.int .u8 0), CV.v (.int .u8 0), CV.v (.int .u8 0), CV.v (.int .u8 0)]).flatten = secsF (zer n.toNat) := zeros_secs n.toNat
  refine SWp.seq (Wp.s ?_)
  simp -implicitDefEqProofs [go_sem, args0]
  refine Wp.s ?_
  simp -implicitDefEqProofs [go_sem]
  refine ⟨h0, by omega, ?_⟩
  rw [hz]
  exact Fin.froz (b := H.length) (cs := secsF (zer n.toNat)) ⟨rfl, rfl, rfl⟩ (.refl _) (by simp) (xs := (zer n.toNat).map secC) (by have := chunks_secs (zer n.toNat); rw [zer_len] at this; rw [List.drop_zero, this]) (by simp; omega) (by omega) (by simp [go_sem]) hokH (by simp) (by simp)
theorem mapNew_cc (H : Hp) (V : List Nat) (tk : Tk) (l : List Int) (hl : l.length ≤ 1000000) (hn : ∀ n ∈ l, 0 ≤ n ∧ n ≤ 1000000) : CC Tryz.prog 103 [.sl tk 1 (l.map ic), .fn 104 []] H V (Fr 1 ((imOf l).map imE) H V) := by
  refine CC.of_swp Tryz.func103 rfl (by kernel_rfl) (by rw [Tryz.ntmps103]; exact len_le _ _ rfl) fun hok hokH => ?_
  clear hok
  refine SWp.seq (Wp.s ?_)
  simp -implicitDefEqProofs [go_sem, args0]
  refine SWp.seq (Wp.s ?_)
  simp -implicitDefEqProofs [go_sem]
  refine ⟨by omega, ?_⟩
  refine SWp.join (α := Unit) (fun _ => ([(5, .sl (.own V.length l.length) 1 ((imOf l).map imE))], H, V ++ [l.length])) (fun _ => True) ?_ ?_
  · refine SWp.seq (Wp.s ?_)
    simp -implicitDefEqProofs [go_sem]
    refine SWp.block ?_
    refine SWp.loop (α := Nat) (fun i => ([(1, .fn 104 []), (5, .sl (.own V.length i) 1 ((imOf (l.take i)).map imE)), (11, .sl tk 1 (l.map ic)), (12, ci l.length), (13, ci i)], H, V ++ [i])) (fun i => i ≤ l.length) (fun i => l.length - i) 0 (Nat.zero_le _) (Sh.forget (by simp [go_sem, imOf]) rfl rfl) ?_
    intro i hi
    dsimp only
    refine Wp.s ?_
    simp -implicitDefEqProofs [go_sem]
    refine ⟨fun h => ⟨h, ?_⟩, fun h => Sh.forget (by simp [go_sem]; rw [List.take_of_length_le h]; exact .of_eq (by rw [show i = l.length by omega])) rfl (by rw [show i = l.length by omega])⟩
    obtain ⟨n1, n2⟩ := hn l[i] (List.getElem_mem h)
    refine CC.mono (new1_cc _ _ l[i] n1 n2) ?_
    rintro _ _ _ ⟨rfl, rfl, rfl⟩
    simp -implicitDefEqProofs [go_sem]
    refine ⟨by omega, i + 1, by omega, by omega, Sh.forget ?_ rfl rfl⟩
    have : (imOf (l.take (i + 1))).map imE = (imOf (l.take i)).map imE ++ [imE (zer l[i].toNat)] := by
      rw [List.take_succ_eq_append_getElem h, imOf, List.map_append, List.map_append]; rfl
    rw [this]
    simp [go_sem, wrap_succ (show i ≤ 1000000000 by omega)]
    exact .refl _
  · rintro _ -
    dsimp only
    refine Wp.s ?_
    simp -implicitDefEqProofs [go_sem]
    exact Fin.fr (by simp [go_sem]) hokH (by simp)
theorem New_cc (H : Hp) (V : List Nat) (tk : Tk) (l : List Int) (hl : l.length ≤ 9223372036854775807) : CC Tryz.prog 41 [.sl tk 1 (l.map ic)] H V (Pu (.tup [imV (if sizesE l ≠ 0 then [] else imOf l), er (sizesE l)]) H V) := by
  refine CC.of_swp Tryz.func41 rfl (by kernel_rfl) (by rw [Tryz.ntmps41]; exact len_le _ _ rfl) fun hok hokH => ?_
  clear hok
  refine SWp.seq (Wp.s ?_)
  simp -implicitDefEqProofs [go_sem, args0]
  refine SWp.seq (Wp.s ?_)
  simp -implicitDefEqProofs [go_sem]
  refine CC.mono (checkSizes_cc _ _ tk l hl) ?_
  rintro _ _ _ ⟨rfl, rfl, rfl⟩
  by_cases he : sizesE l = 0
  · simp -implicitDefEqProofs [go_sem, he]
    refine Wp.s ?_
    simp -implicitDefEqProofs [go_sem]
    obtain ⟨s1, s2, s3⟩ := sizesE_0 he
    refine CC.mono (mapNew_cc _ _ tk l (by omega) (fun n hn => by have := s3 n hn; omega)) ?_
    rintro _ _ _ ⟨v, rfl, rfl, rfl⟩
    simp -implicitDefEqProofs [go_sem]
    exact Fin.tup2 (.sh _ _ _) (.refl _) (by simp [go_sem]) (by simp [go_sem]) hokH (by simp) (by simp)
  · simp -implicitDefEqProofs [go_sem, he]
    exact Fin.tup2 (.nil 1 (by decide)) (.refl _) (by simp [go_sem]) (by simp [go_sem]) hokH (by simp) (by simp)
theorem sizes1_cc (H : Hp) (V : List Nat) (v : List Sec) : CC Tryz.prog 198 [secsV v] H V (Pu (ci v.length) H V) := by
  refine CC.of_swp Tryz.func198 rfl (by kernel_rfl) (by rw [Tryz.ntmps198]; exact len_le _ _ rfl) fun hok hokH => ?_
  clear hok
  refine SWp.seq (Wp.s ?_)
  simp -implicitDefEqProofs [go_sem, args0]
  refine Wp.s ?_
  simp -implicitDefEqProofs [go_sem]
  exact Fin.int rfl hokH (by simp) (by simp)
theorem mapSz_cc (H : Hp) (V : List Nat) (tk : Tk) (l : Img) (hl : l.length ≤ 1000000000) : CC Tryz.prog 197 [.sl tk 1 (l.map imE), .fn 198 []] H V (Fr 1 ((imgSz l).map ic) H V) := by
  refine CC.of_swp Tryz.func197 rfl (by kernel_rfl) (by rw [Tryz.ntmps197]; exact len_le _ _ rfl) fun hok hokH => ?_
  clear hok
  refine SWp.seq (Wp.s ?_)
  simp -implicitDefEqProofs [go_sem, args0]
  refine SWp.seq (Wp.s ?_)
  simp -implicitDefEqProofs [go_sem]
  refine ⟨by omega, ?_⟩
  refine SWp.join (α := Unit) (fun _ => ([(5, .sl (.own V.length l.length) 1 ((imgSz l).map ic))], H, V ++ [l.length])) (fun _ => True) ?_ ?_
  · refine SWp.seq (Wp.s ?_)
    simp -implicitDefEqProofs [go_sem]
    refine SWp.block ?_
    refine SWp.loop (α := Nat) (fun i => ([(1, .fn 198 []), (5, .sl (.own V.length i) 1 ((imgSz (l.take i)).map ic)), (11, .sl tk 1 (l.map imE)), (12, ci l.length), (13, ci i)], H, V ++ [i])) (fun i => i ≤ l.length) (fun i => l.length - i) 0 (Nat.zero_le _) (Sh.forget (by simp [go_sem, imgSz]) rfl rfl) ?_
    intro i hi
    dsimp only
    refine Wp.s ?_
    simp -implicitDefEqProofs [go_sem]
    refine ⟨fun h => ⟨h, ?_⟩, fun h => Sh.forget (by simp [go_sem]; rw [List.take_of_length_le h]; exact .of_eq (by rw [show i = l.length by omega])) rfl (by rw [show i = l.length by omega])⟩
    refine CC.mono (sizes1_cc _ _ l[i]) ?_
    rintro _ _ _ ⟨rfl, rfl, rfl⟩
    simp -implicitDefEqProofs [go_sem]
    refine ⟨by omega, i + 1, by omega, by omega, Sh.forget ?_ rfl rfl⟩
    have : (imgSz (l.take (i + 1))).map ic = (imgSz (l.take i)).map ic ++ [[ci l[i].length]] := by
      rw [List.take_succ_eq_append_getElem h, imgSz, List.map_append, List.map_append]; rfl
    rw [this]
    simp [go_sem, wrap_succ (show i ≤ 1000000000 by omega)]
  · rintro _ -
    dsimp only
    refine Wp.s ?_
    simp -implicitDefEqProofs [go_sem]
    exact Fin.fr (by simp [go_sem, okE_ints]) hokH (by simp)
theorem sizes_cc (H : Hp) (V : List Nat) (tk : Tk) (l : Img) (hl : l.length ≤ 1000000000) : CC Tryz.prog 169 [.sl tk 1 (l.map imE)] H V (Fr 1 ((imgSz l).map ic) H V) := by
  refine CC.of_swp Tryz.func169 rfl (by kernel_rfl) (by rw [Tryz.ntmps169]; exact len_le _ _ rfl) fun hok hokH => ?_
  clear hok
  refine SWp.seq (Wp.s ?_)
  simp -implicitDefEqProofs [go_sem, args0]
  refine Wp.s ?_
  simp -implicitDefEqProofs [go_sem]
  refine CC.mono (mapSz_cc _ _ tk l hl) ?_
  rintro _ _ _ ⟨v, rfl, rfl, rfl⟩
  simp -implicitDefEqProofs [go_sem]
  exact Fin.fr (by simp [go_sem, okE_ints]) hokH (by simp)
theorem iCheck_cc (H : Hp) (V : List Nat) (tk : Tk) (l : Img) (hl : l.length ≤ 1000000000) : CC Tryz.prog 114 [.sl tk 1 (l.map imE)] H V (Pu (er (sizesE (imgSz l))) H V) := by
  refine CC.of_swp Tryz.func114 rfl (by kernel_rfl) (by rw [Tryz.ntmps114]; exact len_le _ _ rfl) fun hok hokH => ?_
  clear hok
  refine SWp.seq (Wp.s ?_)
  simp -implicitDefEqProofs [go_sem, args0]
  refine Wp.s ?_
  simp -implicitDefEqProofs [go_sem]
  refine CC.mono (sizes_cc _ _ tk l hl) ?_
  rintro _ _ _ ⟨v, rfl, rfl, rfl⟩
  simp -implicitDefEqProofs [go_sem]
  refine CC.mono (checkSizes_cc _ _ _ (imgSz l) (by simp; omega)) ?_
  rintro _ _ _ ⟨rfl, rfl, rfl⟩
  simp -implicitDefEqProofs [go_sem]
  exact Fin.er rfl hokH (by simp) (by simp)
end Go.Proofs.YtbnkggbpocaaiaaGreatDoor
namespace Go.Proofs.YtbnkggbpocaaiaaGreatDoor
open Go.Proofs
theorem imgSz_getD (l : Img) (n : Nat) (h : n < l.length) : (imgSz l).getD n 0 = ((l[n]).length : Int) := by
  rw [List.getD_eq_getElem?_getD, imgSz, List.getElem?_map, List.getElem?_eq_getElem h]; rfl
theorem fits_cc (H : Hp) (V : List Nat) (tk : Tk) (l : Img) (w : Wr) (hl : l.length ≤ 1000000000) (hs : ∀ v ∈ l, v.length ≤ 1000000000) (hw : w.data.length ≤ 1000000000) : CC Tryz.prog 115 [.sl tk 1 (l.map imE), .agg (wrC w)] H V (Pu (er (fitsS (imgSz l) w)) H V) := by
  refine CC.of_swp Tryz.func115 rfl (by kernel_rfl) (by rw [Tryz.ntmps115]; exact len_le _ _ rfl) fun hok hokH => ?_
  clear hok
  refine SWp.seq (Wp.s ?_)
  simp -implicitDefEqProofs [go_sem, args0]
  refine SWp.seq (SWp.block (SWp.seq (Wp.s ?_)))
  by_cases h1 : w.volume < 0
  · simp -implicitDefEqProofs [go_sem, h1]
    refine Wp.s ?_
    simp -implicitDefEqProofs [go_sem]
    exact Fin.er (by rw [fitsS, if_pos (.inl h1)]) hokH (by simp) (by simp)
  by_cases h2 : (l.length : Int) ≤ w.volume
  · simp -implicitDefEqProofs [go_sem, h1, h2]
    refine Wp.s ?_
    simp -implicitDefEqProofs [go_sem]
    exact Fin.er (by rw [fitsS, if_pos (.inr (by simpa using h2))]) hokH (by simp) (by simp)
  simp -implicitDefEqProofs [go_sem, h1, h2]
  refine Wp.s ?_
  obtain ⟨n, hn⟩ := Int.eq_ofNat_of_zero_le (Int.not_lt.1 h1)
  have hnl : n < l.length := by omega
  have hvl := hs l[n] (List.getElem_mem hnl)
  by_cases h3 : w.data.length = 0
  · simp -implicitDefEqProofs [go_sem, h1, h2, h3]
    exact Fin.er (by rw [fitsS, if_neg (by simp; omega), if_pos h3]) hokH (by simp) (by simp)
  simp -implicitDefEqProofs [go_sem, h1, h2, h3]
  refine SWp.drawnT [] [] (.s 0 .pl <| .s 1 .pl <| .s 2 .pl <| .s 3 .pl <| .s 4 .pl <| .s 5 .pl <| .s 6 .pl <| .s 7 .pl <| .s 8 .pl <| .s 9 .pl <| .s 10 .pl <| .s 11 .pl <| .s 12 .pl <| .s 13 .pl <| .s 14 .pl <| .s 15 .pl <| .s 16 .pl <| .s 17 .pl <| .s 18 .pl <| .n) (by kernel_rfl) (by kernel_rfl) ?_
  have hg : (imgSz l).getD w.volume.toNat 0 = (l[n].length : Int) := by rw [hn]; exact imgSz_getD l n hnl
  have hwr : IntKind.i64.wrap ((l[n].length : Int) - (w.data.length : Int)) = (l[n].length : Int) - (w.data.length : Int) := IntWalk.i64_in _ ⟨by omega, by omega⟩
  have hfit : fitsS (imgSz l) w = if w.start < 0 ∨ (l[n].length : Int) - (w.data.length : Int) < w.start then 2 else 0 := by
    rw [fitsS, if_neg (by simp; omega), if_neg h3, hg]
  rw [hfit]
  by_cases h4 : w.start < 0
  · simp -implicitDefEqProofs [go_sem, h4]
    exact Fin.er rfl hokH (by simp) (by simp)
  · simp -implicitDefEqProofs [go_sem, h4, hn, hnl, hwr]
    refine ⟨fun h5 => Fin.er (by rw [if_pos h5]) hokH (by simp) (by simp), fun h5 => ?_⟩
    refine Wp.s ?_
    simp -implicitDefEqProofs [go_sem]
    exact Fin.er (by rw [if_neg (by omega)]) hokH (by simp) (by simp)
def fitsI (l : Img) (w : Wr) : Nat := if sizesE (imgSz l) ≠ 0 then sizesE (imgSz l) else fitsS (imgSz l) w
theorem Fits_cc (H : Hp) (V : List Nat) (tk : Tk) (l : Img) (w : Wr) (hl : l.length ≤ 1000000000) (hs : ∀ v ∈ l, v.length ≤ 1000000000) (hw : w.data.length ≤ 1000000000) : CC Tryz.prog 58 [.sl tk 1 (l.map imE), .agg (wrC w)] H V (Pu (er (fitsI l w)) H V) := by
  refine CC.of_swp Tryz.func58 rfl (by kernel_rfl) (by rw [Tryz.ntmps58]; exact len_le _ _ rfl) fun hok hokH => ?_
  clear hok
  refine SWp.seq (Wp.s ?_)
  simp -implicitDefEqProofs [go_sem, args0]
  refine SWp.seq (Wp.s ?_)
  simp -implicitDefEqProofs [go_sem]
  refine CC.mono (iCheck_cc _ _ _ l hl) ?_
  rintro _ _ _ ⟨rfl, rfl, rfl⟩
  by_cases he : sizesE (imgSz l) = 0
  · simp -implicitDefEqProofs [go_sem, he]
    refine Wp.s ?_
    simp -implicitDefEqProofs [go_sem]
    refine CC.mono (fits_cc _ _ _ l w hl hs hw) ?_
    rintro _ _ _ ⟨rfl, rfl, rfl⟩
    simp -implicitDefEqProofs [go_sem]
    exact Fin.er (by rw [fitsI, if_neg (by simp [he])]) hokH (by simp) (by simp)
  · simp -implicitDefEqProofs [go_sem, he]
    exact Fin.er (by rw [fitsI, if_pos he]) hokH (by simp) (by simp)
end Go.Proofs.YtbnkggbpocaaiaaGreatDoor
namespace Go.Proofs.YtbnkggbpocaaiaaGreatDoor
open Go.Proofs
theorem refSizes_cc (H : Hp) (V : List Nat) (tk : Tk) (l : List Int) (hl : l.length ≤ 9223372036854775807) : CC Tryz.prog 43 [.sl tk 1 (l.map ic)] H V (Pu (er (sizesE l)) H V) := by
  refine CC.of_swp Tryz.func43 rfl (by kernel_rfl) (by rw [Tryz.ntmps43]; exact len_le _ _ rfl) fun hok hokH => ?_
  clear hok
  refine SWp.seq (Wp.s ?_)
  simp -implicitDefEqProofs [go_sem, args0]
  refine SWp.seq (SWp.seq (Wp.s ?_))
  by_cases h1 : l.length < 1
  · simp -implicitDefEqProofs [go_sem, h1, show (l.length : Int) < 1 by omega]
    refine Wp.s ?_
    simp -implicitDefEqProofs [go_sem]
    exact Fin.er (by rw [sizesE, if_pos (.inl h1)]) hokH (by simp) (by simp)
  by_cases h2 : 8 < l.length
  · simp -implicitDefEqProofs [go_sem, h1, show ¬ (l.length : Int) < 1 by omega, show (8 : Int) < l.length by omega]
    refine Wp.s ?_
    simp -implicitDefEqProofs [go_sem]
    exact Fin.er (by rw [sizesE, if_pos (.inr h2)]) hokH (by simp) (by simp)
  simp -implicitDefEqProofs [go_sem, h1, show ¬ (l.length : Int) < 1 by omega, show ¬ (8 : Int) < l.length by omega]
  refine Wp.s ?_
  simp -implicitDefEqProofs [go_sem]
  refine SWp.join (α := Unit) (fun _ => ([], H, V)) (fun _ => sizesE l = 0) ?_ ?_
  · refine SWp.seq (Wp.s ?_)
    simp -implicitDefEqProofs [go_sem]
    refine SWp.block ?_
    refine SWp.loop (α := Nat) (fun i => ([(0, .sl tk 1 (l.map ic)), (3, ci i)], H, V)) (fun i => i ≤ l.length ∧ (l.take i).any badSz = false) (fun i => l.length - i) 0 ⟨Nat.zero_le _, rfl⟩ (Sh.forget (by simp [go_sem]) rfl rfl) ?_
    rintro i ⟨hi, hp⟩
    dsimp only
    refine SWp.seq (SWp.seq (Wp.s ?_))
    simp -implicitDefEqProofs [go_sem]
    refine Wp.s ?_
    simp -implicitDefEqProofs [go_sem]
    refine ⟨fun h => ?_, fun h => ⟨?_, Sh.forget (by simp [go_sem]) rfl rfl⟩⟩
    · refine SWp.seq (SWp.block (SWp.seq (Wp.s ?_)))
      have bad : l[i] < 1 ∨ 4096 < l[i] → sizesE l = 2 := fun q => by rw [sizesE, if_neg (by omega), if_pos (any_at h (by simpa [badSz] using q))]
      by_cases b1 : l[i] < 1
      · simp -implicitDefEqProofs [go_sem, h, b1]
        refine Wp.s ?_
        simp -implicitDefEqProofs [go_sem]
        exact Fin.er (bad (.inl b1)) hokH (by simp) (by simp)
      by_cases b2 : 4096 < l[i]
      · simp -implicitDefEqProofs [go_sem, h, b1, b2]
        refine Wp.s ?_
        simp -implicitDefEqProofs [go_sem]
        exact Fin.er (bad (.inr b2)) hokH (by simp) (by simp)
      simp -implicitDefEqProofs [go_sem, h, b1, b2]
      refine Wp.s ?_
      simp -implicitDefEqProofs [go_sem]
      refine Wp.s ?_
      simp -implicitDefEqProofs [go_sem]
      refine ⟨i + 1, ⟨by omega, by simpa using any_take h hp (by simp only [badSz, b1, b2, decide_false, Bool.or_false])⟩, by omega, Sh.forget ?_ rfl rfl⟩
      simp [go_sem, wrap_big (show i < 9223372036854775807 by omega)]
    · rw [List.take_of_length_le h] at hp
      rw [sizesE, if_neg (by omega), if_neg (by rw [hp]; decide)]
  · rintro _ hp
    dsimp only
    refine SWp.seq (Wp.s ?_)
    simp -implicitDefEqProofs [go_sem]
    refine Wp.s ?_
    simp -implicitDefEqProofs [go_sem]
    exact Fin.er hp hokH (by simp) (by simp)
theorem fitsS_7 {l : List Int} {w : Wr} (h : w.volume < 0 ∨ (l.length : Int) ≤ w.volume) : fitsS l w = 7 := by rw [fitsS, if_pos h]
set_option maxRecDepth 8000 in
theorem refFits_cc (H : Hp) (V : List Nat) (tk : Tk) (l : List Int) (w : Wr) (hl : l.length ≤ 1000000000) (hs : ∀ n ∈ l, 1 ≤ n ∧ n ≤ 4096) (hw : w.data.length ≤ 1000000000) : CC Tryz.prog 65 [.sl tk 1 (l.map ic), .agg (wrC w)] H V (Pu (er (fitsS l w)) H V) := by
  refine CC.of_swp Tryz.func65 rfl (by kernel_rfl) (by rw [Tryz.ntmps65]; exact len_le _ _ rfl) fun hok hokH => ?_
  clear hok
  refine SWp.seq (Wp.s ?_)
  simp -implicitDefEqProofs [go_sem, args0]
  refine SWp.seq (SWp.seq (Wp.s ?_))
  by_cases h1 : w.volume < 0
  · simp -implicitDefEqProofs [go_sem, h1]
    refine Wp.s ?_
    simp -implicitDefEqProofs [go_sem]
    exact Fin.er (fitsS_7 (.inl h1)) hokH (by simp) (by simp)
  by_cases h2 : (l.length : Int) ≤ w.volume
  · simp -implicitDefEqProofs [go_sem, h1, h2]
    refine Wp.s ?_
    simp -implicitDefEqProofs [go_sem]
    exact Fin.er (fitsS_7 (.inr h2)) hokH (by simp) (by simp)
  simp -implicitDefEqProofs [go_sem, h1, h2]
  refine Wp.s ?_
  simp -implicitDefEqProofs [go_sem]
  refine SWp.seq (SWp.seq (Wp.s ?_))
  by_cases h3 : w.data.length = 0
  · have h3' : w.data = [] := List.length_eq_zero_iff.1 h3
    simp -implicitDefEqProofs [go_sem, h3']
    refine Wp.s ?_
    simp -implicitDefEqProofs [go_sem]
    exact Fin.er (by rw [fitsS, if_neg (by omega), if_pos h3]) hokH (by simp) (by simp)
  have h3' : ¬ w.data = [] := fun q => h3 (by rw [q]; rfl)
  simp -implicitDefEqProofs [go_sem, h3']
  refine Wp.s ?_
  simp -implicitDefEqProofs [go_sem]
  obtain ⟨k, hk⟩ := Int.eq_ofNat_of_zero_le (show 0 ≤ w.volume by omega)
  have hkl : k < l.length := by omega
  have hlk := hs _ (List.getElem_mem hkl)
  have e0 : fitsS l w = if w.start < 0 ∨ l[k] - w.data.length < w.start then 2 else 0 := by
    rw [fitsS, if_neg (by omega), if_neg h3, hk, Int.toNat_natCast, List.getD_eq_getElem?_getD, List.getElem?_eq_getElem hkl]; rfl
  refine SWp.seq (SWp.seq (SWp.drawnT [] [] (.s 0 .pl <| .s 1 .pl <| .s 2 .pl <| .s 3 .pl <| .s 4 .pl <| .s 5 .pl <| .s 6 .pl <| .s 7 .pl <| .s 8 .pl <| .s 9 .pl <| .s 10 .pl <| .s 11 .pl <| .s 12 .pl <| .s 13 .pl <| .s 14 .pl <| .s 15 .pl <| .s 16 .pl <| .s 17 .pl <| .s 18 .pl <| .s 19 .pl <| .s 20 .pl <| .s 21 .pl <| .s 22 .pl <| .s 23 .pl <| .s 24 .pl <| .s 25 .pl <| .s 26 .pl <| .n) (by kernel_rfl) (by kernel_rfl) ?_))
  by_cases b1 : w.start < 0
  · simp -implicitDefEqProofs [go_sem, b1]
    refine Wp.s ?_
    simp -implicitDefEqProofs [go_sem]
    exact Fin.er (by rw [e0, if_pos (.inl b1)]) hokH (by simp) (by simp)
  by_cases b2 : l[k] ≤ w.start
  · simp -implicitDefEqProofs [go_sem, b1, hk, hkl, b2]
    refine Wp.s ?_
    simp -implicitDefEqProofs [go_sem]
    exact Fin.er (by rw [e0, if_pos (.inr (by omega))]) hokH (by simp) (by simp)
  have w1 : IntKind.i64.wrap (l[k] - w.start) = l[k] - w.start := IntWalk.i64_in _ ⟨by omega, by omega⟩
  by_cases b3 : l[k] - w.start < (w.data.length : Int)
  · simp -implicitDefEqProofs [go_sem, b1, hk, hkl, b2, w1, b3]
    refine Wp.s ?_
    simp -implicitDefEqProofs [go_sem]
    exact Fin.er (by rw [e0, if_pos (.inr (by omega))]) hokH (by simp) (by simp)
  · simp -implicitDefEqProofs [go_sem, b1, hk, hkl, b2, w1, b3]
    refine Wp.s ?_
    simp -implicitDefEqProofs [go_sem]
    refine SWp.seq (Wp.s ?_)
    simp -implicitDefEqProofs [go_sem]
    refine Wp.s ?_
    simp -implicitDefEqProofs [go_sem]
    exact Fin.er (by rw [e0, if_neg (by omega)]) hokH (by simp) (by simp)
end Go.Proofs.YtbnkggbpocaaiaaGreatDoor
namespace Go.Proofs.YtbnkggbpocaaiaaGreatDoor
open Go.Proofs
theorem eq_of_take {α : Type} {x y : List α} (hl : x.length = y.length) {i : Nat} (hi : x.length ≤ i) (h : x.take i = y.take i) : x = y := by
  rwa [List.take_of_length_le hi, List.take_of_length_le (by omega)] at h
theorem take_eq_succ {α : Type} {x y : List α} {i : Nat} (h1 : i < x.length) (h2 : i < y.length) (h : x.take i = y.take i) (he : x[i] = y[i]) : x.take (i + 1) = y.take (i + 1) := by
  rw [List.take_succ_eq_append_getElem h1, List.take_succ_eq_append_getElem h2, h, he]
theorem ne_at {α : Type} {x y : List α} {i : Nat} (h1 : i < x.length) (h2 : i < y.length) (he : x[i] ≠ y[i]) : x ≠ y := fun e => he (by subst e; rfl)
end Go.Proofs.YtbnkggbpocaaiaaGreatDoor
namespace Go.Proofs.YtbnkggbpocaaiaaGreatDoor
open Go.Proofs
theorem flatSec : FlatEq Tryz.prog 85 (List.replicate 8 .u8) := by
  obtain ⟨i, hi⟩ := Option.isSome_iff_exists.1 (show (Tryz.prog.info? 5).isSome = true by kernel_rfl)
  exact flatEq_array Tryz.underlying85 hi Tryz.underlying5 (by kernel_rfl) (by kernel_rfl)
theorem fits_secW (s : Sec) : fits (List.replicate 8 .u8) (secC s) := by
  have := fits_rep .u8 (s.val.map fun b => (b.toNat : Int))
  rw [List.length_map, s.len, List.map_map] at this
  exact this
theorem secC_inj {a b : Sec} (h : secC a = secC b) : a = b := by
  obtain ⟨x, hx⟩ := a
  obtain ⟨y, hy⟩ := b
  simp only [secC] at h
  have hm : ∀ (u v : List UInt8), (u.map fun b => CV.v (.int .u8 (b.toNat : Int))) = (v.map fun b => CV.v (.int .u8 (b.toNat : Int))) → u = v := by
    intro u
    induction u with
    | nil => intro v hv; cases v; rfl; simp at hv
    | cons c u ih =>
      intro v hv
      cases v with
      | nil => simp at hv
      | cons d v =>
        simp only [List.map_cons, List.cons.injEq, CV.v.injEq, Value.int.injEq, true_and, Int.natCast_inj] at hv
        obtain ⟨h1, h2⟩ := hv
        rw [UInt8.toNat_inj.1 h1, ih v h2]
  obtain rfl := hm x y h
  rfl
theorem SameSecs_cc (H : Hp) (V : List Nat) (t1 t2 : Tk) (x y : List Sec) (hl : x.length ≤ 1000000000) : CC Tryz.prog 55 [.sl t1 8 (x.map secC), .sl t2 8 (y.map secC)] H V (Pu (.v (.bool (decide (x = y)))) H V) := by
  refine CC.of_swp Tryz.func55 rfl (by kernel_rfl) (by rw [Tryz.ntmps55]; exact len_le _ _ rfl) fun hok hokH => ?_
  clear hok
  refine SWp.seq (Wp.s ?_)
  simp -implicitDefEqProofs [go_sem, args0]
  refine SWp.seq (SWp.seq (Wp.s ?_))
  by_cases hlen : x.length = y.length
  case neg =>
    have hlen' : ¬ (x.length : Int) = (y.length : Int) := by omega
    simp -implicitDefEqProofs [go_sem, hlen']
    refine Wp.s ?_
    simp -implicitDefEqProofs [go_sem, hlen, hlen']
    exact Fin.bool (by simp [show x ≠ y from fun e => hlen (by rw [e])]) hokH (by simp) (by simp)
  simp -implicitDefEqProofs [go_sem, hlen]
  refine Wp.s ?_
  simp -implicitDefEqProofs [go_sem, hlen]
  refine SWp.join (α := Unit) (fun _ => ([], H, V)) (fun _ => x = y) ?_ ?_
  · refine SWp.seq (Wp.s ?_)
    simp -implicitDefEqProofs [go_sem]
    refine SWp.block ?_
    refine SWp.loop (α := Nat) (fun i => ([(0, .sl t1 8 (x.map secC)), (1, .sl t2 8 (y.map secC)), (5, ci i)], H, V)) (fun i => i ≤ x.length ∧ x.take i = y.take i) (fun i => x.length - i) 0 ⟨Nat.zero_le _, rfl⟩ (Sh.forget (by simp [go_sem]) rfl rfl) ?_
    rintro i ⟨hi, hp⟩
    dsimp only
    refine SWp.seq (SWp.seq (Wp.s ?_))
    simp -implicitDefEqProofs [go_sem]
    refine Wp.s ?_
    simp -implicitDefEqProofs [go_sem]
    refine ⟨fun h => ?_, fun h => ⟨eq_of_take hlen h hp, Sh.forget (by simp [go_sem]) rfl rfl⟩⟩
    have h2 : i < y.length := by omega
    refine SWp.seq (SWp.block (SWp.seq (SWp.drawnT [] [] (.s 0 .pl <| .s 1 .pl <| .s 2 .pl <| .s 3 .pl <| .s 4 .pl <| .s 5 .pl <| .s 6 .pl <| .s 7 .pl <| .s 8 .pl <| .n) (by kernel_rfl) (by kernel_rfl) ?_)))
    simp -implicitDefEqProofs [go_sem, h, h2]
    refine ⟨_, flatSec, fits_secW _, fits_secW _, fun he => ?_, fun he => ?_⟩
    · refine Wp.s ?_
      simp -implicitDefEqProofs [go_sem]
      exact Fin.bool (by simp [ne_at h h2 (fun e => he (by rw [e]))]) hokH (by simp) (by simp)
    · refine Wp.s ?_
      simp -implicitDefEqProofs [go_sem]
      refine Wp.s ?_
      simp -implicitDefEqProofs [go_sem]
      refine ⟨i + 1, ⟨by omega, take_eq_succ h h2 hp (secC_inj he)⟩, by omega, Sh.forget ?_ rfl rfl⟩
      simp [go_sem, wrap_succ (show i ≤ 1000000000 by omega)]
  · rintro _ he
    dsimp only
    refine Wp.s ?_
    simp -implicitDefEqProofs [go_sem]
    exact Fin.bool (by simp [he]) hokH (by simp) (by simp)
end Go.Proofs.YtbnkggbpocaaiaaGreatDoor
namespace Go.Proofs.YtbnkggbpocaaiaaGreatDoor
open Go.Proofs
theorem wr_ext {a b : Wr} (h1 : a.volume = b.volume) (h2 : a.start = b.start) (h3 : a.data = b.data) : a = b := by
  obtain ⟨p, q, r⟩ := a
  obtain ⟨p', q', r'⟩ := b
  simp_all
set_option maxRecDepth 20000 in
theorem SameWrs_cc (H : Hp) (V : List Nat) (t1 t2 : Tk) (x y : List Wr) (hl : x.length ≤ 1000000000) (hw : WrS x) : CC Tryz.prog 54 [.sl t1 3 (x.map wrC), .sl t2 3 (y.map wrC)] H V (Pu (.v (.bool (decide (x = y)))) H V) := by
  refine CC.of_swp Tryz.func54 rfl (by kernel_rfl) (by rw [Tryz.ntmps54]; exact len_le _ _ rfl) fun hok hokH => ?_
  clear hok
  refine SWp.seq (Wp.s ?_)
  simp -implicitDefEqProofs [go_sem, args0]
  refine SWp.seq (SWp.seq (Wp.s ?_))
  by_cases hlen : x.length = y.length
  case neg =>
    have hlen' : ¬ (x.length : Int) = (y.length : Int) := by omega
    simp -implicitDefEqProofs [go_sem, hlen']
    refine Wp.s ?_
    simp -implicitDefEqProofs [go_sem, hlen, hlen']
    exact Fin.bool (by simp [show x ≠ y from fun e => hlen (by rw [e])]) hokH (by simp) (by simp)
  simp -implicitDefEqProofs [go_sem, hlen]
  refine Wp.s ?_
  simp -implicitDefEqProofs [go_sem, hlen]
  refine SWp.join (α := Unit) (fun _ => ([], H, V)) (fun _ => x = y) ?_ ?_
  · refine SWp.seq (Wp.s ?_)
    simp -implicitDefEqProofs [go_sem]
    refine SWp.block ?_
    refine SWp.loop (α := Nat) (fun i => ([(0, .sl t1 3 (x.map wrC)), (1, .sl t2 3 (y.map wrC)), (5, ci i)], H, V)) (fun i => i ≤ x.length ∧ x.take i = y.take i) (fun i => x.length - i) 0 ⟨Nat.zero_le _, rfl⟩ (Sh.forget (by simp [go_sem]) rfl rfl) ?_
    rintro i ⟨hi, hp⟩
    dsimp only
    refine SWp.seq (SWp.seq (Wp.s ?_))
    simp -implicitDefEqProofs [go_sem]
    refine Wp.s ?_
    simp -implicitDefEqProofs [go_sem]
    refine ⟨fun h => ?_, fun h => ⟨eq_of_take hlen h hp, Sh.forget (by simp [go_sem]) rfl rfl⟩⟩
    have h2 : i < y.length := by omega
    have hwx := hw _ (List.getElem_mem h)
    refine SWp.seq (SWp.block (SWp.seq (SWp.drawnT [] [] (.s 0 .pl <| .s 1 .pl <| .s 2 .pl <| .s 3 .pl <| .s 4 .pl <| .s 5 .pl <| .s 6 .pl <| .s 7 .pl <| .s 8 .pl <| .s 9 .pl <| .s 10 .pl <| .s 11 .pl <| .s 12 .pl <| .s 13 .pl <| .s 14 .pl <| .s 15 .pl <| .s 16 .pl <| .s 17 .pl <| .s 18 .pl <| .s 19 .pl <| .s 20 .pl <| .s 21 .pl <| .s 22 .pl <| .s 23 .pl <| .s 24 .pl <| .s 25 .pl <| .s 26 .pl <| .s 27 .pl <| .s 28 .pl <| .s 29 .pl <| .s 30 .pl <| .s 31 .pl <| .s 32 .pl <| .s 33 .pl <| .s 34 .pl <| .s 35 .pl <| .s 36 .pl <| .s 37 .pl <| .n) (by kernel_rfl) (by kernel_rfl) ?_)))
    by_cases e1 : x[i].volume = y[i].volume
    case neg =>
      simp -implicitDefEqProofs [go_sem, h, h2, e1]
      refine Wp.s ?_
      simp -implicitDefEqProofs [go_sem]
      exact Fin.bool (by simp [ne_at h h2 (fun e => e1 (by rw [e]))]) hokH (by simp) (by simp)
    by_cases e2 : x[i].start = y[i].start
    case neg =>
      simp -implicitDefEqProofs [go_sem, h, h2, e1, e2]
      refine Wp.s ?_
      simp -implicitDefEqProofs [go_sem]
      exact Fin.bool (by simp [ne_at h h2 (fun e => e2 (by rw [e]))]) hokH (by simp) (by simp)
    simp -implicitDefEqProofs [go_sem, h, h2, e1, e2]
    refine CC.mono (SameSecs_cc _ _ _ _ x[i].data y[i].data (by omega)) ?_
    rintro _ _ _ ⟨rfl, rfl, rfl⟩
    by_cases e3 : x[i].data = y[i].data
    · simp -implicitDefEqProofs [go_sem, h, h2, e1, e2, e3]
      refine Wp.s ?_
      simp -implicitDefEqProofs [go_sem]
      refine Wp.s ?_
      simp -implicitDefEqProofs [go_sem]
      refine ⟨i + 1, ⟨by omega, take_eq_succ h h2 hp (wr_ext e1 e2 e3)⟩, by omega, Sh.forget ?_ rfl rfl⟩
      simp [go_sem, wrap_succ (show i ≤ 1000000000 by omega)]
    · simp -implicitDefEqProofs [go_sem, h, h2, e1, e2, e3]
      refine Wp.s ?_
      simp -implicitDefEqProofs [go_sem]
      exact Fin.bool (by simp [ne_at h h2 (fun e => e3 (by rw [e]))]) hokH (by simp) (by simp)
  · rintro _ he
    dsimp only
    refine Wp.s ?_
    simp -implicitDefEqProofs [go_sem]
    exact Fin.bool (by simp [he]) hokH (by simp) (by simp)
end Go.Proofs.YtbnkggbpocaaiaaGreatDoor
namespace Go.Proofs.YtbnkggbpocaaiaaGreatDoor
open Go.Proofs
theorem eqSec_cc (H : Hp) (V : List Nat) (t1 t2 : Tk) (x y : List Sec) (hl : x.length ≤ 1000000000) : CC Tryz.prog 130 [.sl t1 8 (x.map secC), .sl t2 8 (y.map secC)] H V (Pu (.v (.bool (decide (x = y)))) H V) := by
  refine CC.of_swp Tryz.func130 rfl (by kernel_rfl) (by rw [Tryz.ntmps130]; exact len_le _ _ rfl) fun hok hokH => ?_
  clear hok
  refine SWp.seq (Wp.s ?_)
  simp -implicitDefEqProofs [go_sem, args0]
  refine SWp.seq (SWp.seq (Wp.s ?_))
  by_cases hlen : x.length = y.length
  case neg =>
    have hlen' : ¬ (x.length : Int) = (y.length : Int) := by omega
    simp -implicitDefEqProofs [go_sem, hlen']
    refine Wp.s ?_
    simp -implicitDefEqProofs [go_sem, hlen, hlen']
    exact Fin.bool (by simp [show x ≠ y from fun e => hlen (by rw [e])]) hokH (by simp) (by simp)
  simp -implicitDefEqProofs [go_sem, hlen]
  refine Wp.s ?_
  simp -implicitDefEqProofs [go_sem, hlen]
  refine SWp.join (α := Unit) (fun _ => ([], H, V)) (fun _ => x = y) ?_ ?_
  · refine SWp.seq (Wp.s ?_)
    simp -implicitDefEqProofs [go_sem]
    refine SWp.block ?_
    refine SWp.loop (α := Nat) (fun i => ([(0, .sl t1 8 (x.map secC)), (1, .sl t2 8 (y.map secC)), (12, ci x.length), (13, ci i)], H, V)) (fun i => i ≤ x.length ∧ x.take i = y.take i) (fun i => x.length - i) 0 ⟨Nat.zero_le _, rfl⟩ (Sh.forget (by simp [go_sem, hlen]) rfl rfl) ?_
    rintro i ⟨hi, hp⟩
    dsimp only
    refine SWp.seq (Wp.s ?_)
    simp -implicitDefEqProofs [go_sem]
    refine SWp.seq (Wp.s ?_)
    simp -implicitDefEqProofs [go_sem]
    refine ⟨fun h => ?_, fun h => ⟨eq_of_take hlen h hp, Sh.forget (by simp [go_sem]) rfl rfl⟩⟩
    have h2 : i < y.length := by omega
    refine SWp.seq (SWp.block (SWp.seq (Wp.s ?_)))
    simp -implicitDefEqProofs [go_sem]
    refine SWp.seq (SWp.drawnT [] [] (.s 0 .pl <| .s 1 .pl <| .s 2 .pl <| .s 3 .pl <| .s 4 .pl <| .s 5 .pl <| .s 6 .pl <| .s 7 .pl <| .s 8 .pl <| .n) (by kernel_rfl) (by kernel_rfl) ?_)
    simp -implicitDefEqProofs [go_sem, h, h2]
    refine ⟨_, flatSec, fits_secW _, fits_secW _, fun he => ?_, fun he => ?_⟩
    · refine Wp.s ?_
      simp -implicitDefEqProofs [go_sem]
      exact Fin.bool (by simp [ne_at h h2 (fun e => he (by rw [e]))]) hokH (by simp) (by simp)
    · refine Wp.s ?_
      simp -implicitDefEqProofs [go_sem]
      refine Wp.s ?_
      simp -implicitDefEqProofs [go_sem]
      refine ⟨i + 1, ⟨by omega, take_eq_succ h h2 hp (secC_inj he)⟩, by omega, Sh.forget ?_ rfl rfl⟩
      simp [go_sem, wrap_succ (show i ≤ 1000000000 by omega)]
  · rintro _ he
    dsimp only
    refine Wp.s ?_
    simp -implicitDefEqProofs [go_sem]
    exact Fin.bool (by simp [he]) hokH (by simp) (by simp)
theorem eqImg_cc (H : Hp) (V : List Nat) (t1 t2 : Tk) (x y : Img) (hl : x.length ≤ 1000000000) (hs : ∀ v ∈ x, v.length ≤ 1000000000) : CC Tryz.prog 129 [.sl t1 1 (x.map imE), .sl t2 1 (y.map imE), .fn 130 []] H V (Pu (.v (.bool (decide (x = y)))) H V) := by
  refine CC.of_swp Tryz.func129 rfl (by kernel_rfl) (by rw [Tryz.ntmps129]; exact len_le _ _ rfl) fun hok hokH => ?_
  clear hok
  refine SWp.seq (Wp.s ?_)
  simp -implicitDefEqProofs [go_sem, args0]
  refine SWp.seq (SWp.seq (Wp.s ?_))
  by_cases hlen : x.length = y.length
  case neg =>
    have hlen' : ¬ (x.length : Int) = (y.length : Int) := by omega
    simp -implicitDefEqProofs [go_sem, hlen']
    refine Wp.s ?_
    simp -implicitDefEqProofs [go_sem, hlen, hlen']
    exact Fin.bool (by simp [show x ≠ y from fun e => hlen (by rw [e])]) hokH (by simp) (by simp)
  simp -implicitDefEqProofs [go_sem, hlen]
  refine Wp.s ?_
  simp -implicitDefEqProofs [go_sem, hlen]
  refine SWp.join (α := Unit) (fun _ => ([], H, V)) (fun _ => x = y) ?_ ?_
  · refine SWp.seq (Wp.s ?_)
    simp -implicitDefEqProofs [go_sem]
    refine SWp.block ?_
    refine SWp.loop (α := Nat) (fun i => ([(1, .sl t2 1 (y.map imE)), (2, .fn 130 []), (15, .sl t1 1 (x.map imE)), (16, ci x.length), (17, ci i)], H, V)) (fun i => i ≤ x.length ∧ x.take i = y.take i) (fun i => x.length - i) 0 ⟨Nat.zero_le _, rfl⟩ (Sh.forget (by simp [go_sem, hlen]) rfl rfl) ?_
    rintro i ⟨hi, hp⟩
    dsimp only
    refine SWp.seq (Wp.s ?_)
    simp -implicitDefEqProofs [go_sem]
    refine SWp.seq (Wp.s ?_)
    simp -implicitDefEqProofs [go_sem]
    refine ⟨fun h => ?_, fun h => ⟨eq_of_take hlen h hp, Sh.forget (by simp [go_sem]) rfl rfl⟩⟩
    have h2 : i < y.length := by omega
    refine SWp.seq (SWp.block (SWp.seq (Wp.s ?_)))
    simp -implicitDefEqProofs [go_sem, h]
    refine SWp.seq (Wp.s ?_)
    simp -implicitDefEqProofs [go_sem, h2]
    refine SWp.seq (Wp.s ?_)
    simp -implicitDefEqProofs [go_sem]
    refine CC.mono (eqSec_cc _ _ .sh .sh x[i] y[i] (hs _ (List.getElem_mem h))) ?_
    rintro _ _ _ ⟨rfl, rfl, rfl⟩
    by_cases he : x[i] = y[i]
    · simp -implicitDefEqProofs [go_sem, he]
      refine Wp.s ?_
      simp -implicitDefEqProofs [go_sem]
      refine Wp.s ?_
      simp -implicitDefEqProofs [go_sem]
      refine ⟨i + 1, ⟨by omega, take_eq_succ h h2 hp he⟩, by omega, Sh.forget ?_ rfl rfl⟩
      simp [go_sem, wrap_succ (show i ≤ 1000000000 by omega)]
    · simp -implicitDefEqProofs [go_sem, he]
      refine Wp.s ?_
      simp -implicitDefEqProofs [go_sem]
      exact Fin.bool (by simp [ne_at h h2 he]) hokH (by simp) (by simp)
  · rintro _ he
    dsimp only
    refine Wp.s ?_
    simp -implicitDefEqProofs [go_sem]
    exact Fin.bool (by simp [he]) hokH (by simp) (by simp)
theorem imSame_cc (H : Hp) (V : List Nat) (t1 t2 : Tk) (x y : Img) (hl : x.length ≤ 1000000000) (hs : ∀ v ∈ x, v.length ≤ 1000000000) : CC Tryz.prog 75 [.sl t1 1 (x.map imE), .sl t2 1 (y.map imE)] H V (Pu (.v (.bool (decide (x = y)))) H V) := by
  refine CC.of_swp Tryz.func75 rfl (by kernel_rfl) (by rw [Tryz.ntmps75]; exact len_le _ _ rfl) fun hok hokH => ?_
  clear hok
  refine SWp.seq (Wp.s ?_)
  simp -implicitDefEqProofs [go_sem, args0]
  refine SWp.seq (Wp.s ?_)
  simp -implicitDefEqProofs [go_sem]
  refine CC.mono (eqImg_cc _ _ t1 t2 x y hl hs) ?_
  rintro _ _ _ ⟨rfl, rfl, rfl⟩
  simp -implicitDefEqProofs [go_sem]
  refine Wp.s ?_
  simp -implicitDefEqProofs [go_sem]
  exact Fin.bool rfl hokH (by simp) (by simp)
end Go.Proofs.YtbnkggbpocaaiaaGreatDoor
namespace Go.Proofs.YtbnkggbpocaaiaaGreatDoor
open Go.Proofs
def bxs : Nat → Img → List (List CV)
  | _, [] => []
  | n, v :: l => [.bsl n 0 v.length 8] :: bxs (n + 1) l
@[go_sem, simp] theorem bxs_len : ∀ (n : Nat) (l : Img), (bxs n l).length = l.length
  | _, [] => rfl
  | n, v :: l => by rw [bxs, List.length_cons, List.length_cons, bxs_len (n + 1) l]
@[go_sem, simp] theorem bxs_get : ∀ (n : Nat) (l : Img) (i : Nat) (h : i < (bxs n l).length), (bxs n l)[i] = [.bsl (n + i) 0 (l[i]'(by simpa using h)).length 8]
  | n, v :: l, 0, h => rfl
  | n, v :: l, i + 1, h => by
    have hi : i < (bxs (n + 1) l).length := by rw [bxs_len]; have := h; rw [bxs_len, List.length_cons] at this; omega
    have := bxs_get (n + 1) l i hi
    show (bxs (n + 1) l)[i]'hi = _
    rw [this, show n + 1 + i = n + (i + 1) by omega]
    rfl
  | n, [], i, h => absurd h (Nat.not_lt_zero _)
theorem bxs_snoc : ∀ (n : Nat) (l : Img) (v : List Sec), bxs n (l ++ [v]) = bxs n l ++ [[.bsl (n + l.length) 0 v.length 8]]
  | n, [], v => rfl
  | n, u :: l, v => by
    rw [List.cons_append, bxs, bxs, bxs_snoc (n + 1) l v, List.cons_append, List.length_cons, show n + 1 + l.length = n + (l.length + 1) by omega]
theorem bxs_eq : ∀ (n : Nat) {l k : Img}, l.map List.length = k.map List.length → bxs n l = bxs n k
  | _, [], [], _ => rfl
  | n, u :: l, v :: k, h => by
    rw [List.map_cons, List.map_cons, List.cons.injEq] at h
    rw [bxs, bxs, h.1, bxs_eq (n + 1) h.2]
  | _, [], _ :: _, h => by cases h
  | _, _ :: _, [], h => by cases h
def imH (l : Img) : Hp := l.map fun v => some (secsF v)
@[go_sem, simp] theorem imH_len (l : Img) : (imH l).length = l.length := List.length_map ..
theorem okE_bxs (jb jv : Nat) : ∀ (n : Nat) (l : Img), n + l.length ≤ jb → okE jb jv (bxs n l)
  | _, [], _ => trivial
  | n, v :: l, h => by
    rw [List.length_cons] at h
    rw [bxs, okE]
    exact ⟨⟨by rw [okV]; omega, trivial⟩, okE_bxs jb jv (n + 1) l (by omega)⟩
theorem cloneSecB_cc (H : Hp) (V : List Nat) (tk : Tk) (l : List Sec) (h0 : l ≠ []) (hx : l.length ≤ 1000000000) : CC Tryz.prog 122 [.sl tk 8 (l.map secC)] H V (fun r H' V' => r = .bsl H.length 0 l.length 8 ∧ H' = H ++ [some (secsF l)] ∧ V = V') := by
  refine CC.of_swp Tryz.func122 rfl (by kernel_rfl) (by rw [Tryz.ntmps122]; exact len_le _ _ rfl) fun hok hokH => ?_
  clear hok
  have hne : l.map secC ≠ [] := by simpa using h0
  refine SWp.seq (Wp.s ?_)
  simp -implicitDefEqProofs [go_sem, args0]
  refine SWp.seq (SWp.seq (Wp.s ?_))
  simp -implicitDefEqProofs [go_sem, h0]
  refine Wp.s ?_
  simp -implicitDefEqProofs [go_sem, h0]
  refine SWp.seq (SWp.opx (pre := [_, _]) (post := [_]) rfl (by intro c e; cases e) ?_)
  simp -implicitDefEqProofs [go_sem]
  refine ⟨_, _, _, appbox (sz := 8) (tk := tk) (ys := l.map secC) slTy46 slTy46 rfl rfl hne (by rw [List.length_map]; omega), ?_⟩
  simp -implicitDefEqProofs [go_sem]
  refine Wp.s ?_
  simp -implicitDefEqProofs [go_sem]
  rw [show (List.map secC l).flatten = secsF l from rfl]
  refine Fin.cut (H.length + 1) V.length ⟨rfl, rfl, rfl⟩ (Nat.le_succ _) (Nat.le_refl _) (List.take_of_length_le (by simp)) (List.take_of_length_le (Nat.le_refl _)) (.bsa _ _ _) (by simp [go_sem]) ?_
  intro b cs hb
  rw [List.getElem?_append] at hb
  split at hb
  · exact okL_mono (Nat.le_succ _) (Nat.le_refl _) (hokH b cs hb)
  · exact okH_get (i := H.length + 1) (j := V.length) (L := [some (secsF l)]) (by simp [go_sem]) _ _ hb
theorem mapCl_cc (H : Hp) (V : List Nat) (tk : Tk) (l : Img) (hl : l.length ≤ 1000000) (hn : ∀ v ∈ l, v ≠ [] ∧ v.length ≤ 1000000) : CC Tryz.prog 178 [.sl tk 1 (l.map imE), .fn 122 []] H V (fun r H' V' => r = .sl (.own V.length l.length) 1 (bxs H.length l) ∧ H' = H ++ imH l ∧ V' = V ++ [l.length]) := by
  refine CC.of_swp Tryz.func178 rfl (by kernel_rfl) (by rw [Tryz.ntmps178]; exact len_le _ _ rfl) fun hok hokH => ?_
  clear hok
  refine SWp.seq (Wp.s ?_)
  simp -implicitDefEqProofs [go_sem, args0]
  refine SWp.seq (Wp.s ?_)
  simp -implicitDefEqProofs [go_sem]
  refine ⟨by omega, ?_⟩
  refine SWp.join (α := Unit) (fun _ => ([(5, .sl (.own V.length l.length) 1 (bxs H.length l))], H ++ imH l, V ++ [l.length])) (fun _ => True) ?_ ?_
  · refine SWp.seq (Wp.s ?_)
    simp -implicitDefEqProofs [go_sem]
    refine SWp.block ?_
    refine SWp.loop (α := Nat) (fun i => ([(1, .fn 122 []), (5, .sl (.own V.length i) 1 (bxs H.length (l.take i))), (11, .sl tk 1 (l.map imE)), (12, ci l.length), (13, ci i)], H ++ imH (l.take i), V ++ [i])) (fun i => i ≤ l.length) (fun i => l.length - i) 0 (Nat.zero_le _) (Sh.forget (by simp [go_sem, bxs]) (by simp [imH]) rfl) ?_
    intro i hi
    dsimp only
    refine Wp.s ?_
    simp -implicitDefEqProofs [go_sem]
    refine ⟨fun h => ⟨h, ?_⟩, fun h => Sh.forget (by simp [go_sem]; rw [List.take_of_length_le h]; exact .of_eq (by rw [show i = l.length by omega])) (by rw [List.take_of_length_le h]) (by rw [show i = l.length by omega])⟩
    obtain ⟨n1, n2⟩ := hn l[i] (List.getElem_mem h)
    refine CC.mono (cloneSecB_cc _ _ .sh l[i] n1 (by omega)) ?_
    rintro _ _ _ ⟨rfl, rfl, rfl⟩
    simp -implicitDefEqProofs [go_sem]
    refine ⟨by omega, i + 1, by omega, by omega, Sh.forget ?_ ?_ rfl⟩
    · rw [List.take_succ_eq_append_getElem h, bxs_snoc, List.length_take, Nat.min_eq_left (by omega)]
      simp [go_sem, wrap_succ (show i ≤ 1000000000 by omega), Nat.min_eq_left hi]
    · rw [List.take_succ_eq_append_getElem h, imH, imH, List.map_append]
      rfl
  · rintro _ -
    dsimp only
    refine Wp.s ?_
    simp -implicitDefEqProofs [go_sem]
    refine Fin.cut (H.length + l.length) (V.length + 1) ⟨rfl, rfl, rfl⟩ (by omega) (by omega) (List.take_of_length_le (by simp)) (List.take_of_length_le (by simp)) (.refl _) ?_ ?_
    · rw [okV]
      exact ⟨Nat.lt_succ_self _, okE_bxs _ _ _ _ (Nat.le_refl _)⟩
    intro b cs hb
    rw [List.getElem?_append] at hb
    split at hb
    · exact okL_mono (by omega) (Nat.le_succ _) (hokH b cs hb)
    · obtain ⟨v, -, hv⟩ := List.mem_map.1 (List.mem_of_getElem? hb)
      obtain rfl := Option.some.inj hv
      rw [okL_secsF]; trivial
theorem imCopied_cc (H : Hp) (V : List Nat) (tk : Tk) (l : Img) (hl : l.length ≤ 1000000) (hn : ∀ v ∈ l, v ≠ [] ∧ v.length ≤ 1000000) : CC Tryz.prog 136 [.sl tk 1 (l.map imE)] H V (fun r H' V' => r = .sl (.own V.length l.length) 1 (bxs H.length l) ∧ H' = H ++ imH l ∧ V' = V ++ [l.length]) := by
  refine CC.of_swp Tryz.func136 rfl (by kernel_rfl) (by rw [Tryz.ntmps136]; exact len_le _ _ rfl) fun hok hokH => ?_
  clear hok
  refine SWp.seq (Wp.s ?_)
  simp -implicitDefEqProofs [go_sem, args0]
  refine SWp.seq (Wp.s ?_)
  simp -implicitDefEqProofs [go_sem]
  refine CC.mono (mapCl_cc _ _ tk l hl hn) ?_
  rintro _ _ _ ⟨rfl, rfl, rfl⟩
  simp -implicitDefEqProofs [go_sem]
  refine Wp.s ?_
  simp -implicitDefEqProofs [go_sem]
  refine Fin.cut (H.length + l.length) (V.length + 1) ⟨rfl, rfl, rfl⟩ (by omega) (by omega) (List.take_of_length_le (by simp)) (List.take_of_length_le (by simp)) (.refl _) ?_ ?_
  · rw [okV]
    exact ⟨Nat.lt_succ_self _, okE_bxs _ _ _ _ (Nat.le_refl _)⟩
  intro b cs hb
  rw [List.getElem?_append] at hb
  split at hb
  · exact okL_mono (by omega) (Nat.le_succ _) (hokH b cs hb)
  · obtain ⟨v, -, hv⟩ := List.mem_map.1 (List.mem_of_getElem? hb)
    obtain rfl := Option.some.inj hv
    rw [okL_secsF]; trivial
theorem fitsB_cc (H : Hp) (V : List Nat) (tk : Tk) (b : Nat) (l : Img) (w : Wr) (hl : l.length ≤ 1000000000) (hs : ∀ v ∈ l, v.length ≤ 1000000000) (hw : w.data.length ≤ 1000000000) (hb : b + l.length ≤ H.length) : CC Tryz.prog 115 [.sl tk 1 (bxs b l), .agg (wrC w)] H V (Pu (er (fitsS (imgSz l) w)) H V) := by
  refine CC.of_swp Tryz.func115 rfl (by kernel_rfl) (by rw [Tryz.ntmps115]; exact len_le _ _ rfl) fun hok hokH => ?_
  clear hok
  refine SWp.seq (Wp.s ?_)
  simp -implicitDefEqProofs [go_sem, args0]
  refine SWp.seq (SWp.block (SWp.seq (Wp.s ?_)))
  by_cases h1 : w.volume < 0
  · simp -implicitDefEqProofs [go_sem, h1]
    refine Wp.s ?_
    simp -implicitDefEqProofs [go_sem]
    exact Fin.er (by rw [fitsS, if_pos (.inl h1)]) hokH (by simp) (by simp)
  by_cases h2 : (l.length : Int) ≤ w.volume
  · simp -implicitDefEqProofs [go_sem, h1, h2]
    refine Wp.s ?_
    simp -implicitDefEqProofs [go_sem]
    exact Fin.er (by rw [fitsS, if_pos (.inr (by simpa using h2))]) hokH (by simp) (by simp)
  simp -implicitDefEqProofs [go_sem, h1, h2]
  refine Wp.s ?_
  obtain ⟨n, hn⟩ := Int.eq_ofNat_of_zero_le (Int.not_lt.1 h1)
  have hnl : n < l.length := by omega
  have hvl := hs l[n] (List.getElem_mem hnl)
  by_cases h3 : w.data.length = 0
  · simp -implicitDefEqProofs [go_sem, h1, h2, h3]
    exact Fin.er (by rw [fitsS, if_neg (by simp; omega), if_pos h3]) hokH (by simp) (by simp)
  simp -implicitDefEqProofs [go_sem, h1, h2, h3]
  refine SWp.drawnT [] [] (.s 0 .pl <| .s 1 .pl <| .s 2 .pl <| .s 3 .pl <| .s 4 .pl <| .s 5 .pl <| .s 6 .pl <| .s 7 .pl <| .s 8 .pl <| .s 9 .pl <| .s 10 .pl <| .s 11 .pl <| .s 12 .pl <| .s 13 .pl <| .s 14 .pl <| .s 15 .pl <| .s 16 .pl <| .s 17 .pl <| .s 18 .pl <| .n) (by kernel_rfl) (by kernel_rfl) ?_
  have hg : (imgSz l).getD w.volume.toNat 0 = (l[n].length : Int) := by rw [hn]; exact imgSz_getD l n hnl
  have hwr : IntKind.i64.wrap ((l[n].length : Int) - (w.data.length : Int)) = (l[n].length : Int) - (w.data.length : Int) := IntWalk.i64_in _ ⟨by omega, by omega⟩
  have hfit : fitsS (imgSz l) w = if w.start < 0 ∨ (l[n].length : Int) - (w.data.length : Int) < w.start then 2 else 0 := by
    rw [fitsS, if_neg (by simp; omega), if_neg h3, hg]
  rw [hfit]
  by_cases h4 : w.start < 0
  · simp -implicitDefEqProofs [go_sem, h4]
    exact Fin.er rfl hokH (by simp) (by simp)
  · simp -implicitDefEqProofs [go_sem, h4, hn, hnl, hwr]
    refine ⟨fun h5 => Fin.er (by rw [if_pos h5]) hokH (by simp) (by simp), fun h5 => ?_⟩
    refine Wp.s ?_
    simp -implicitDefEqProofs [go_sem]
    exact Fin.er (by rw [if_neg (by omega)]) hokH (by simp) (by simp)
def putV (v : List Sec) (p : Nat) (d : List Sec) : List Sec := v.take p ++ d ++ v.drop (p + d.length)
def ap1 (l : Img) (w : Wr) : Img := l.set w.volume.toNat (putV (l.getD w.volume.toNat []) w.start.toNat w.data)
def apI : Img → List Wr → Nat → Img × Nat × Nat
  | l, [], _ => (l, 0, 0)
  | l, w :: ws, i => if fitsS (imgSz l) w ≠ 0 then ([], i, fitsS (imgSz l) w) else apI (ap1 l w) ws (i + 1)
theorem putV_len {v : List Sec} {p : Nat} {d : List Sec} (h : p + d.length ≤ v.length) : (putV v p d).length = v.length := by
  rw [putV, List.length_append, List.length_append, List.length_take, List.length_drop]; omega
end Go.Proofs.YtbnkggbpocaaiaaGreatDoor
