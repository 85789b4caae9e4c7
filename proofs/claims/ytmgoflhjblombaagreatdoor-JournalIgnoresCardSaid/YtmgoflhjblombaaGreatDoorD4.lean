import Derived.Test.YtmgoflhjblombaaGreatDoorD3
import Derived.ChangeKeysEq
import Derived.Test.YtmgoflhjblombaaGreatDoorChecked
set_option linter.unusedSimpArgs false
set_option linter.unusedVariables false
set_option linter.unusedSectionVars false
namespace Go.Proofs.YtmgoflhjblombaaGreatDoor
abbrev er (e : Nat) : CV := .v (.int .i64 e)
section
variable {n nb nv : Nat} {T T' : Tm} {H : Hp} {V : List Nat}
theorem Gst.freezeY {b : Nat} {cs : List CV} (hb : H[b]? = some (some cs)) (h : ∀ p ∈ T', Fy b cs (tget T p.1) p.2) : Gst n nb nv T H V T' (H.set b none) V := fun D m w a m0 w0 V0 h1 h2 h3 hx hs => by
  cases hs.inv.live b cs hb with
  | row k c e g1 g2 g3 g4 g5 =>
    obtain ⟨hi', hx'⟩ := hs.inv.fix hb g1 g2 g3 g4
    refine ⟨_, ⟨hi', fun j => ?_, hs.size, hs.df⟩, hx.trans hx'⟩
    have ht := RelT.mono hx' hs.tm
    rcases tget_mem T' j with h1 | ⟨p, h1, rfl, h2⟩
    · rw [h1, RelV]; trivial
    · rw [h2]
      exact Fy.rel (m := { m with lim := fun j => if j = k then cs.length else m.lim j }) (k := k) g1 (by show cs.length ≤ if k = k then cs.length else m.lim k; rw [if_pos rfl]; exact Nat.le_refl _) (relC_box hx' rfl g5) (h p h1) (ht p.1)
  | obj k x g1 g2 g3 =>
    refine ⟨m, ⟨hs.inv.kill b, fun j => ?_, hs.size, hs.df⟩, hx⟩
    rcases tget_mem T' j with h1 | ⟨p, h1, rfl, h2⟩
    · rw [h1, RelV]; trivial
    · rw [h2]
      exact Fy.relO g1 g3.notRow (h p h1) (hs.tm p.1)
end
@[go_sem] theorem hbx_c0 (cs : List CV) (H : Hp) (K : List CV → Prop) : hbx (some cs :: H) 0 K = K cs := id rfl
@[go_sem] theorem hbx_c1 (c : Option (List CV)) (H : Hp) (b : Nat) (K : List CV → Prop) : hbx (c :: H) (b + 1) K = hbx H b K := id rfl
theorem Fin.er {H H' : Hp} {V V' : List Nat} {a b : Nat} (h : b = a) (hokH : ∀ (b : Nat) cs, H[b]? = some (some cs) → okL H.length V.length cs) (hH : H'.take H.length = H) (hV : V'.take V.length = V) : Fin H.length V.length (Pu (er b) H V) (er a) H' V' := by
  subst h; exact Fin.pu (.refl _) (by simp [go_sem]) hokH hH hV
theorem Fin.int {H H' : Hp} {V V' : List Nat} {k : IntKind} {a b : Int} (h : a = b) (hokH : ∀ (b : Nat) cs, H[b]? = some (some cs) → okL H.length V.length cs) (hH : H'.take H.length = H) (hV : V'.take V.length = V) : Fin H.length V.length (Pu (.v (.int k b)) H V) (.v (.int k a)) H' V' := by
  subst h; exact Fin.pu (.refl _) trivial hokH hH hV
theorem Fin.cut {nb nv : Nat} {R : CV → Hp → List Nat → Prop} {r r' : CV} {H' H'' : Hp} {V' V'' : List Nat} (i j : Nat) (hR : R r' H'' V'') (hi : nb ≤ i) (hj : nv ≤ j) (hH : H'.take i = H'') (hV : V'.take j = V'') (hle : Le r r') (hok : okV i j r')
    (hokH : ∀ (b : Nat) cs, H''[b]? = some (some cs) → okL i j cs) : Fin nb nv R r H' V' := by
  refine ⟨r', H'', V'', ?_, hR⟩
  refine Gst.trans (T' := [(0, r')]) (H' := H') (V' := V') (Gst.forget fun p hp => ?_) ?_
  · simp at hp; subst hp; exact hle
  · have := Gst.cut (n := 1) (nb := nb) (nv := nv) (T := [(0, r')]) (H := H') (V := V') i j hi hj (fun p hp => by simp at hp; subst hp; exact hok) (by rw [hH]; exact hokH)
    rwa [hH, hV] at this
theorem Fin.self {nb nv : Nat} {R : CV → Hp → List Nat → Prop} {r : CV} {H : Hp} {V : List Nat} (h : R r H V) : Fin nb nv R r H V := ⟨r, H, V, Gst.refl, h⟩
def Ix (b : Bool) (H : Hp) (V : List Nat) : CV → Hp → List Nat → Prop := fun r H' V' => ∃ k : Int, r = ci k ∧ decide (0 ≤ k) = b ∧ H = H' ∧ V = V'
theorem Fin.ix {k : Int} {b : Bool} {H H' : Hp} {V V' : List Nat} (h : decide (0 ≤ k) = b) (hokH : ∀ (b : Nat) cs, H[b]? = some (some cs) → okL H.length V.length cs) (hH : H'.take H.length = H) (hV : V'.take V.length = V) : Fin H.length V.length (Ix b H V) (ci k) H' V' :=
  Fin.pure ⟨k, rfl, h, rfl, rfl⟩ hH hV (.refl _) trivial hokH
theorem any_take {α : Type} {p : α → Bool} {l : List α} {i : Nat} (h : i < l.length) (h1 : (l.take i).any p = false) (h2 : p l[i] = false) : (l.take (i + 1)).any p = false := by
  rw [List.take_succ_eq_append_getElem h, List.any_append, h1]; simp [h2]
theorem any_at {α : Type} {p : α → Bool} {l : List α} {i : Nat} (h : i < l.length) (h2 : p l[i] = true) : l.any p = true := List.any_eq_true.2 ⟨_, List.getElem_mem h, h2⟩
def okH (i j : Nat) : Hp → Prop
  | [] => True
  | none :: L => okH i j L
  | some cs :: L => okL i j cs ∧ okH i j L
@[go_sem] theorem okH_nil (i j : Nat) : okH i j [] = True := rfl
@[go_sem] theorem okH_none (i j : Nat) (L : Hp) : okH i j (none :: L) = okH i j L := rfl
@[go_sem] theorem okH_some (i j : Nat) (cs : List CV) (L : Hp) : okH i j (some cs :: L) = (okL i j cs ∧ okH i j L) := rfl
theorem okH_get {i j : Nat} : ∀ {L : Hp}, okH i j L → ∀ (b : Nat) cs, L[b]? = some (some cs) → okL i j cs
  | none :: L, h, 0, cs, e => by simp at e
  | none :: L, h, b + 1, cs, e => okH_get (L := L) h b cs (by simpa using e)
  | some c :: L, h, 0, cs, e => by simp at e; exact e ▸ h.1
  | some c :: L, h, b + 1, cs, e => okH_get (L := L) h.2 b cs (by simpa using e)
theorem Sh.trim {n : Nat} {T T' : Tm} {H0 L H : Hp} {V0 V V' : List Nat} (h : TLe T T') (hT : TOk (H0.length + L.length) V'.length T') (hokH : ∀ (b : Nat) cs, H0[b]? = some (some cs) → okL H0.length V0.length cs)
    (hL : okH (H0.length + L.length) V'.length L) (hV0 : V0.length ≤ V'.length) (eH : H.take (H0.length + L.length) = H0 ++ L) (eV : V.take V'.length = V') : Sh n H0.length V0.length T H V (T', H0 ++ L, V') := by
  refine Sh.cut (H0.length + L.length) V'.length h (Nat.le_add_right _ _) hV0 (TOk.all hT) (fun b cs hb => ?_) eH eV
  rw [List.getElem?_append] at hb
  split at hb
  · exact okL_mono (Nat.le_add_right _ _) hV0 (hokH b cs hb)
  · exact okH_get hL _ _ hb
theorem Fin.froz {nb nv : Nat} {R : CV → Hp → List Nat → Prop} {r : CV} {H H' : Hp} {V V' : List Nat} {b o n sz : Nat} {cs : List CV} {xs : List (List CV)} (hR : R (.sl .sh sz xs) H V) (hle : Le r (.bsl b o n sz)) (hb : H'[b]? = some (some cs)) (hx : chunks sz n (cs.drop o) = xs) (hn : o + n * sz ≤ cs.length)
    (hb0 : nb ≤ b) (hok : okE nb nv xs) (hokH : ∀ (b : Nat) cs, H[b]? = some (some cs) → okL nb nv cs) (hH : H'.take nb = H) (hV : V'.take nv = V) : Fin nb nv R r H' V' := by
  subst hx
  refine ⟨_, H, V, ?_, hR⟩
  refine Gst.trans (T' := [(0, .bsl b o n sz)]) (H' := H') (V' := V') (Gst.forget fun p hp => ?_) ?_
  · simp at hp; subst hp; exact hle
  refine Gst.trans (T' := [(0, .sl .sh sz (chunks sz n (cs.drop o)))]) (H' := H'.set b none) (V' := V') (Gst.freeze hb fun p hp => ?_) ?_
  · simp at hp; subst hp; exact Fz.bsl o n sz hn
  · have hH' : (H'.set b none).take nb = H := by rw [List.take_set_of_le hb0]; exact hH
    have := Gst.cut (n := 1) (nb := nb) (nv := nv) (T := [(0, .sl .sh sz (chunks sz n (cs.drop o)))]) (H := H'.set b none) (V := V') nb nv (Nat.le_refl _) (Nat.le_refl _) (fun p hp => by simp at hp; subst hp; simpa only [go_sem] using hok) (by rw [hH']; exact hokH)
    rwa [hH', hV] at this
@[go_sem, simp] theorem take_add {α : Type} (H L : List α) (k : Nat) : (H ++ L).take (H.length + k) = H ++ L.take k := by rw [List.take_append, List.take_of_length_le (by omega), Nat.add_sub_cancel_left]
theorem foldl_take_succ {α β : Type} (f : β → α → β) (z : β) (l : List α) (i : Nat) (h : i < l.length) : (l.take (i + 1)).foldl f z = f ((l.take i).foldl f z) l[i] := by
  rw [List.take_succ_eq_append_getElem h, List.foldl_append]; rfl
theorem Fin.tup2 {H H' : Hp} {V V' : List Nat} {a b a' b' : CV} (h1 : Le a a') (h2 : Le b b') (o1 : okV H.length V.length a') (o2 : okV H.length V.length b') (hokH : ∀ (b : Nat) cs, H[b]? = some (some cs) → okL H.length V.length cs) (hH : H'.take H.length = H) (hV : V'.take V.length = V) : Fin H.length V.length (Pu (.tup [a', b']) H V) (.tup [a, b]) H' V' :=
  Fin.pu (.tup (.cons h1 (.cons h2 .nil))) (by rw [okV]; simp [go_sem, o1, o2]) hokH hH hV
theorem CC.le {P : Program} {f : FuncId} {xs ys : List CV} {H : Hp} {V : List Nat} {R : CV → Hp → List Nat → Prop} (h : LeL xs ys) (hc : CC P f ys H V R) : CC P f xs H V R :=
  ⟨hc.1, fun m w us hi hu => hc.2 m w us hi (h.rel hu)⟩
@[go_sem] theorem hbx_sa {H L : Hp} {X : Nat} {c : List CV} (h : X < H.length) (K : List CV → Prop) : hbx (H.set X (some c) ++ L) X K = K c := by
  unfold hbx; rw [List.getElem?_append_left (by simpa using h), List.getElem?_set_self h]
@[go_sem] theorem hbx_s {H : Hp} {X : Nat} {c : List CV} (h : X < H.length) (K : List CV → Prop) : hbx (H.set X (some c)) X K = K c := by
  unfold hbx; rw [List.getElem?_set_self h]
@[go_sem] theorem set_sa {H L : Hp} {X : Nat} {c c' : Option (List CV)} (h : X < H.length) : (H.set X c ++ L).set X c' = H.set X c' ++ L := by
  rw [List.set_append_left _ _ (by simpa using h), List.set_set]
@[go_sem] theorem hbx_ss {H L : Hp} {X k : Nat} {c : Option (List CV)} (K : List CV → Prop) : hbx (H.set X c ++ L) (H.length + k) K = hbx L k K := by
  unfold hbx; rw [List.getElem?_append_right (by simp)]; simp
@[go_sem] theorem hbx_ss0 {H L : Hp} {X : Nat} {c : Option (List CV)} (K : List CV → Prop) : hbx (H.set X c ++ L) H.length K = hbx L 0 K := hbx_ss (k := 0) K
@[go_sem] theorem set_ss {H L : Hp} {X k : Nat} {c y : Option (List CV)} : (H.set X c ++ L).set (H.length + k) y = H.set X c ++ L.set k y := by
  rw [List.set_append_right _ _ (by simp)]; simp
@[go_sem] theorem set_ss0 {H L : Hp} {X : Nat} {c y : Option (List CV)} : (H.set X c ++ L).set H.length y = H.set X c ++ L.set 0 y := set_ss (k := 0)
theorem Fin.frozG {nb nv : Nat} {R : CV → Hp → List Nat → Prop} {r r1 r2 : CV} {H H' : Hp} {V V' : List Nat} {b : Nat} {cs : List CV} (hR : R r2 H V) (hle : Le r r1) (hb : H'[b]? = some (some cs)) (hz : Fz b cs r1 r2)
    (hb0 : nb ≤ b) (hok : okV nb nv r2) (hokH : ∀ (b : Nat) cs, H[b]? = some (some cs) → okL nb nv cs) (hH : H'.take nb = H) (hV : V'.take nv = V) : Fin nb nv R r H' V' := by
  refine ⟨_, H, V, ?_, hR⟩
  refine Gst.trans (T' := [(0, r1)]) (H' := H') (V' := V') (Gst.forget fun p hp => ?_) ?_
  · simp at hp; subst hp; exact hle
  refine Gst.trans (T' := [(0, r2)]) (H' := H'.set b none) (V' := V') (Gst.freeze hb fun p hp => ?_) ?_
  · simp at hp; subst hp; exact hz
  · have hH' : (H'.set b none).take nb = H := by rw [List.take_set_of_le hb0]; exact hH
    have := Gst.cut (n := 1) (nb := nb) (nv := nv) (T := [(0, r2)]) (H := H'.set b none) (V := V') nb nv (Nat.le_refl _) (Nat.le_refl _) (fun p hp => by simp at hp; subst hp; exact hok) (by rw [hH']; exact hokH)
    rwa [hH', hV] at this
theorem Fin.frozY {nb nv : Nat} {R : CV → Hp → List Nat → Prop} {r r1 r2 : CV} {H H' : Hp} {V V' : List Nat} {b : Nat} {cs : List CV} (hR : R r2 H V) (hle : Le r r1) (hb : H'[b]? = some (some cs)) (hz : Fy b cs r1 r2)
    (hb0 : nb ≤ b) (hok : okV nb nv r2) (hokH : ∀ (b : Nat) cs, H[b]? = some (some cs) → okL nb nv cs) (hH : H'.take nb = H) (hV : V'.take nv = V) : Fin nb nv R r H' V' := by
  refine ⟨_, H, V, ?_, hR⟩
  refine Gst.trans (T' := [(0, r1)]) (H' := H') (V' := V') (Gst.forget fun p hp => ?_) ?_
  · simp at hp; subst hp; exact hle
  refine Gst.trans (T' := [(0, r2)]) (H' := H'.set b none) (V' := V') (Gst.freezeY hb fun p hp => ?_) ?_
  · simp at hp; subst hp; exact hz
  · have hH' : (H'.set b none).take nb = H := by rw [List.take_set_of_le hb0]; exact hH
    have := Gst.cut (n := 1) (nb := nb) (nv := nv) (T := [(0, r2)]) (H := H'.set b none) (V := V') nb nv (Nat.le_refl _) (Nat.le_refl _) (fun p hp => by simp at hp; subst hp; exact hok) (by rw [hH']; exact hokH)
    rwa [hH', hV] at this
theorem wrap_big {i : Nat} (h : i < 9223372036854775807) : IntKind.i64.wrap ((i : Int) + 1) = ((i + 1 : Nat) : Int) := by
  rw [IntWalk.i64_in _ ⟨by omega, by omega⟩]; rfl
@[go_sem] theorem okV_bm (i j f : Nat) (cs : List CV) : okV i j (.bm f cs) = okL i j cs := by rw [okV]
theorem Kp_ss {S : List Nat} {G : Hp} {X : Nat} {c c' : Option (List CV)} (h : X ∉ S) : Kp S (G.set X c) (G.set X c') := fun b hb cs h2 => by
  have : X ≠ b := fun e => h (e ▸ hb)
  rw [List.getElem?_set_ne this] at h2 ⊢; exact h2
theorem hget (H L : Hp) (k : Nat) : (H ++ L)[H.length + k]? = L[k]? := by rw [List.getElem?_append_right (by omega), Nat.add_sub_cancel_left]
theorem hbx_of {H : Hp} {b : Nat} {cs : List CV} (h : H[b]? = some (some cs)) (K : List CV → Prop) : hbx H b K = K cs := by
  unfold hbx; rw [h]
theorem okX_gen {H L : Hp} {X : Nat} {c0 c : List CV} {V V' : List Nat} (hX : X < H.length) (hok0 : ∀ (b : Nat) cs, (H.set X (some c0))[b]? = some (some cs) → okL H.length V.length cs) (h4 : V.length ≤ V'.length)
    (hc : okL (H.length + L.length) V'.length c) (hL : okH (H.length + L.length) V'.length L) : ∀ (b : Nat) cs, (H.set X (some c) ++ L)[b]? = some (some cs) → okL (H.length + L.length) V'.length cs := by
  intro b cs hb
  rw [List.getElem?_append] at hb
  split at hb
  · by_cases hbX : b = X
    · subst hbX
      rw [List.getElem?_set_self hX] at hb
      simp at hb; subst hb
      exact hc
    · refine okL_mono (Nat.le_add_right _ _) h4 (hok0 b cs ?_)
      rw [List.getElem?_set_ne (fun e => hbX e.symm)] at hb ⊢
      exact hb
  · exact okH_get hL _ _ hb
theorem exMap {α : Type} {f : α → List CV} : ∀ {xs : List (List CV)}, (∀ x ∈ xs, ∃ a, x = f a) → ∃ ys : List α, xs = ys.map f
  | [], _ => ⟨[], rfl⟩
  | x :: xs, h => by
    obtain ⟨a, rfl⟩ := h x (by simp)
    obtain ⟨ys, rfl⟩ := exMap fun y hy => h y (List.mem_cons_of_mem _ hy)
    exact ⟨a :: ys, rfl⟩
end Go.Proofs.YtmgoflhjblombaaGreatDoor
namespace Go.Proofs.YtmgoflhjblombaaGreatDoor
abbrev secsV (l : List Sec) : CV := .sl .sh 8 (l.map secC)
def secsF (l : List Sec) : List CV := (l.map secC).flatten
@[go_sem, simp] theorem secsF_len (l : List Sec) : (secsF l).length = 8 * l.length := by
  induction l with
  | nil => rfl
  | cons a l ih => rw [secsF, List.map_cons, List.flatten_cons, List.length_append, secC_len, List.length_cons]; rw [secsF] at ih; rw [ih]; omega
theorem secsF_cons (a : Sec) (l : List Sec) : secsF (a :: l) = secC a ++ secsF l := by rw [secsF, List.map_cons, List.flatten_cons]; rfl
theorem secsF_app (a b : List Sec) : secsF (a ++ b) = secsF a ++ secsF b := by simp [secsF]
theorem secsF_take : ∀ (l : List Sec) (i : Nat), (secsF l).take (i * 8) = secsF (l.take i)
  | [], i => by simp [secsF]
  | a :: l, 0 => by simp [secsF]
  | a :: l, i + 1 => by
    rw [secsF_cons, List.take_succ_cons, secsF_cons, List.take_append, secC_len, List.take_of_length_le (by rw [secC_len]; omega), show (i + 1) * 8 - 8 = i * 8 by omega, secsF_take l i]
theorem secsF_drop : ∀ (l : List Sec) (i : Nat), (secsF l).drop (i * 8) = secsF (l.drop i)
  | [], i => by simp [secsF]
  | a :: l, 0 => by simp
  | a :: l, i + 1 => by
    rw [secsF_cons, List.drop_succ_cons, List.drop_append, secC_len, List.drop_of_length_le (by rw [secC_len]; omega), show (i + 1) * 8 - 8 = i * 8 by omega, secsF_drop l i]; rfl
theorem secsF_set {l : List Sec} {i : Nat} (h : i < l.length) (s : Sec) : (secsF l).take (i * 8) ++ secC s ++ (secsF l).drop (i * 8 + 8) = secsF (l.set i s) := by
  rw [show i * 8 + 8 = (i + 1) * 8 by omega, secsF_take, secsF_drop, List.set_eq_take_append_cons_drop, if_pos h, secsF_app, secsF_cons, List.append_assoc]
theorem secsF_set' {l : List Sec} {i : Nat} (h : i < l.length) (s : Sec) : (secsF l).take (i * 8) ++ (secC s ++ (secsF l).drop (i * 8 + 8)) = secsF (l.set i s) := by
  rw [← List.append_assoc, secsF_set h]
theorem chunks_secs : ∀ l : List Sec, chunks 8 l.length (secsF l) = l.map secC
  | [] => rfl
  | a :: l => by
    rw [List.length_cons, secsF_cons, chunks, List.take_append_of_le_length (by rw [secC_len]; exact Nat.le_refl _), secC_take, List.drop_append_of_le_length (by rw [secC_len]; exact Nat.le_refl _), List.drop_of_length_le (by rw [secC_len]; exact Nat.le_refl _), List.nil_append, chunks_secs l]; rfl
@[go_sem, simp] theorem secsF_all (l : List Sec) : allOne (secsF l) = true := by
  induction l with
  | nil => rfl
  | cons a l ih => rw [secsF_cons, allOne, List.all_append, ← allOne, ← allOne, secC_all, ih]; rfl
@[go_sem] theorem okL_secsF (jb jv : Nat) (l : List Sec) : okL jb jv (secsF l) = True := by
  induction l with
  | nil => simp [secsF, okL]
  | cons a l ih =>
    refine eq_true (okL_iff.2 fun c hc => ?_)
    rw [secsF_cons] at hc
    rcases List.mem_append.1 hc with h | h
    · exact okL_iff.1 (by rw [okL_secC]; trivial) c h
    · exact okL_iff.1 (by rw [ih]; trivial) c h
def sec0 : Sec := ⟨List.replicate 8 0, rfl⟩
theorem zeros_secs : ∀ n : Nat, (List.replicate n (List.map CV.v [.int .u8 0, .int .u8 0, .int .u8 0, .int .u8 0, .int .u8 0, .int .u8 0, .int .u8 0, .int .u8 0])).flatten = secsF (List.replicate n sec0)
  | 0 => rfl
  | n + 1 => by rw [List.replicate_succ, List.flatten_cons, zeros_secs n, List.replicate_succ, secsF_cons]; rfl
theorem okV_secsV (i j : Nat) (l : List Sec) : okV i j (secsV l) := by rw [secsV, okV_sh, okE_secs]; trivial
end Go.Proofs.YtmgoflhjblombaaGreatDoor
namespace Go.Proofs.YtmgoflhjblombaaGreatDoor
section
variable {P : Program} {n nb nv id : Nat} {Q : Exit → Tm → Hp → List Nat → Prop} {T : Tm} {H : Hp} {V : List Nat}
theorem SWp.tassert {pre post : List Oper} {d : Option Tmp} {ty : TypeId} {pos : String} {after : Array Edge} {x : Operand} {t u : TypeId}
    (h : crunS P n ((pre ++ ⟨d, .typeAssert x t u true, ty, pos, after, none⟩ :: post).map (·.dst)) pre T H V fun T H V => dOk d n ∧
      ∃ c u' pv, evT T x = .v (.iface u' pv) ∧ (∀ m w V, RelV m w V c pv) ∧ (∀ (A : Act) (w : World), A.eval x = .iface u' pv → (execOp A.eval ⟨d, .typeAssert x t u true, ty, pos, after, none⟩).run P w = .ok (.value (.tuple #[pv, .bool true])) w) ∧
        contL P n ((pre ++ ⟨d, .typeAssert x t u true, ty, pos, after, none⟩ :: post).map (·.dst)) d post T (Q .normal) (.tup [c, .v (.bool true)]) H V) :
    SWp P n nb nv (.region id (pre ++ ⟨d, .typeAssert x t u true, ty, pos, after, none⟩ :: post).toArray false) Q T H V := by
  intro ro D m w a m0 w0 V0 h1 h2 h3 hx hs
  generalize hops : pre ++ ⟨d, .typeAssert x t u true, ty, pos, after, none⟩ :: post = ops at h ⊢
  rw [crunS, ← crun_lite] at h
  refine wpIn_region_list ?_
  have e : ops.toArray.toList = pre ++ (⟨d, .typeAssert x t u true, ty, pos, after, none⟩ :: post) := by rw [hops]
  rw [e]
  refine crun_soundR (P := P) (Q := fun e a' w' => ∃ T' H' V' m', Q e T' H' V' ∧ St D n m' w' a' T' H' V' ∧ Ext m0 w0 V0 m' w' V') pre hs h fun T1 H1 V1 a1 w1 m1 ⟨hd, c, u', pv, he, hr, hrun, hk⟩ s1 x1 => ?_
  unfold wpListIn
  rw [if_pos (by simp [Region.wanted])]
  have hev := ev_rel s1.tm x
  rw [he, RelV] at hev
  refine ⟨fun _ _ => trivial, ?_⟩
  rw [Oper.semAt_eq _ _ _ (by intro c e; cases e), hrun a1 w1 hev, Oper.uponIn_value]
  have q2 : crunL P n (ops.map (·.dst)) post (tput d (.tup [c, .v (.bool true)]) T1) H1 V1 (Q .normal) := hk
  rw [← crun_lite] at q2
  have hrel : RelV m1 w1 V1 (.tup [c, .v (.bool true)]) (.tuple #[pv, .bool true]) := by
    rw [RelV]; exact ⟨[pv, .bool true], rfl, by rw [RelL]; exact ⟨_, _, rfl, hr _ _ _, by rw [RelL]; exact ⟨_, _, rfl, by rw [RelV], by rw [RelL]⟩⟩⟩
  have hst : St D n m1 w1 (a1.put d (.tuple #[pv, .bool true])) (tput d (.tup [c, .v (.bool true)]) T1) H1 V1 := ⟨s1.inv, (s1.tm).put hrel (by rw [s1.size]; exact hd), by rw [put_size]; exact s1.size, by rw [put_defers]; exact s1.df⟩
  exact crun_sound (P := P) (Q := fun e a' w' => ∃ T' H' V' m', Q e T' H' V' ∧ St D n m' w' a' T' H' V' ∧ Ext m0 w0 V0 m' w' V') post hst q2 fun T' H' V' a' w' m' k1 k2 k3 => ⟨T', H', V', m', k1, k2, (hx.trans x1).trans k3⟩
end
def isCall (o : Oper) : Option (Operand × Array Operand) :=
  match o with
  | ⟨_, .call ⟨.value f, args, _⟩, _, _, _, none⟩ => some (f, args)
  | _ => none
section
variable {P : Program} {n nb nv id : Nat} {ops : List Oper} {Q : Exit → Tm → Hp → List Nat → Prop}
theorem isCall_eq {o : Oper} {f : Operand} {args : Array Operand} (h : isCall o = some (f, args)) : ∃ tys, o.op = .call ⟨.value f, args, tys⟩ ∧ o.guard = none := by
  unfold isCall at h
  split at h
  · cases h; exact ⟨_, rfl, rfl⟩
  · cases h
theorem crunX_one {D : Dl} {ro : Option Nat} {i : Nat} {f : Nat} {listed : Array Bool} {m0 : Gh} {w0 : World} {V0 : List Nat} {T : Tm} {H : Hp} {V : List Nat} {m : Gh} {w : World} {a : Act} {K : Tm → Hp → List Nat → Prop}
    (hs : St D n m w a T H V) (hx : Ext m0 w0 V0 m w V) (h : withO (ops[i]?) fun o => crunL P n (ops.map (·.dst)) [o] T H V K)
    (hk : ∀ T' H' V' m' w' a', K T' H' V' → St D n m' w' a' T' H' V' → Ext m0 w0 V0 m' w' V' → wpAnyIn (fen ro) 0 P .any ops.toArray (fun e a' w' => ∃ T' H' V' m', Q e T' H' V' ∧ St D n m' w' a' T' H' V' ∧ Ext m0 w0 V0 m' w' V') f (listed.setIfInBounds i true) a' w') :
    wpOpIn (fen ro) 0 P ops.toArray (fun e a' w' => ∃ T' H' V' m', Q e T' H' V' ∧ St D n m' w' a' T' H' V' ∧ Ext m0 w0 V0 m' w' V') i (wpAnyIn (fen ro) 0 P .any ops.toArray (fun e a' w' => ∃ T' H' V' m', Q e T' H' V' ∧ St D n m' w' a' T' H' V' ∧ Ext m0 w0 V0 m' w' V') f (listed.setIfInBounds i true)) a w := by
  cases hi : ops[i]? with
  | none => rw [hi] at h; exact (show False from h).elim
  | some o =>
    rw [hi, withO_some, ← crun_lite] at h
    refine cstepE_sound hi hs.inv hs.tm hs.size (crun_one h) fun E' H' V' a' m' w' k1 k2 k3 k4 k5 k6 => ?_
    obtain ⟨T', rfl, k1⟩ := k1
    exact hk T' H' V' m' w' a' k1 ⟨k2, k3, k4, by rw [k5]; exact hs.df.mono k6⟩ (hx.trans k6)
end
section
variable {P : Program} {n : Nat} {ops : List Oper} {N : Tm → Hp → List Nat → Prop} {E : List PanicEntry → Tm → Hp → List Nat → Prop} {T T' : Tm} {H H' : Hp} {V V' : List Nat}
end
end Go.Proofs.YtmgoflhjblombaaGreatDoor
namespace Go.Proofs.YtmgoflhjblombaaGreatDoor
section
variable {P : Program} {n : Nat} {ops : List Oper}
end
section
variable {P : Program} {n : Nat} {ds : List (Option Tmp)} {ls : List Oper} {S : List Nat} {T T' : Tm} {H H' : Hp} {V V' : List Nat} {K : Tm → Hp → List Nat → Prop}
end
end Go.Proofs.YtmgoflhjblombaaGreatDoor
namespace Go.Proofs.YtmgoflhjblombaaGreatDoor
theorem LeL.refl : ∀ (cs : List CV), LeL cs cs
  | [] => .nil
  | c :: cs => .cons (.refl c) (LeL.refl cs)
theorem LeL.app {cs ds xs ys : List CV} : LeL cs ds → LeL xs ys → LeL (cs ++ xs) (ds ++ ys)
  | .nil, h => h
  | .cons h t, h' => .cons h (LeL.app t h')
theorem LeL.take {cs ds : List CV} : ∀ (i : Nat), LeL cs ds → LeL (cs.take i) (ds.take i)
  | 0, _ => by rw [List.take_zero, List.take_zero]; exact .nil
  | i + 1, .nil => by rw [List.take_nil]; exact .nil
  | i + 1, .cons h t => by rw [List.take_succ_cons, List.take_succ_cons]; exact .cons h (LeL.take i t)
theorem LeL.drop {cs ds : List CV} : ∀ (i : Nat), LeL cs ds → LeL (cs.drop i) (ds.drop i)
  | 0, h => h
  | i + 1, .nil => by rw [List.drop_nil]; exact .nil
  | i + 1, .cons h t => by rw [List.drop_succ_cons, List.drop_succ_cons]; exact LeL.drop i t
theorem LeL.put {cs ds : List CV} {c d : CV} {i : Nat} (h : LeL cs ds) (hc : Le c d) (hi : i < cs.length) : LeL (cs.take i ++ c :: cs.drop (i + 1)) (ds.set i d) := by
  rw [List.set_eq_take_append_cons_drop, if_pos (by rw [← h.len]; exact hi)]
  exact LeL.app (h.take i) (.cons hc (h.drop (i + 1)))
end Go.Proofs.YtmgoflhjblombaaGreatDoor
namespace Go.Proofs.YtmgoflhjblombaaGreatDoor
def CV.isObj : CV → Bool
  | .objl .. => true
  | .objm .. => true
  | .obji .. => true
  | _ => false
theorem RelO.isObj {m : Gh} {w : World} {V : List Nat} {k : Nat} {x : CV} (h : RelO m w V k x) : x.isObj = true := by
  cases x <;> first | rfl | exact (show False from h).elim
theorem Inv.weak {m : Gh} {w : World} {H : Hp} {V : List Nat} {b : Nat} {cs ds : List CV} (hi : Inv m w H V) (hb : H[b]? = some (some cs)) (h : LeL cs ds) (hno : ∀ x ∈ cs, x.isObj = false) : Inv m w (H.set b (some ds)) V := by
  have hbl : b < H.length := (List.getElem?_eq_some_iff.1 hb).1
  refine ⟨by rw [List.length_set]; exact hi.boxlen, hi.tiplen, hi.limv, hi.tips, hi.boxes, fun b1 b2 k c1 c2 g1 g2 g3 g4 => ?_, fun b1 c1 g => ?_⟩
  · have old : ∀ (b1 : Nat) c1, (H.set b (some ds))[b1]? = some (some c1) → ∃ c0, H[b1]? = some (some c0) := fun b1 c1 g => by
      by_cases e : b = b1
      · subst e; exact ⟨_, hb⟩
      · rw [List.getElem?_set_ne e] at g; exact ⟨_, g⟩
    obtain ⟨_, o1⟩ := old _ _ g1
    obtain ⟨_, o2⟩ := old _ _ g2
    exact hi.uniq b1 b2 k _ _ o1 o2 g3 g4
  · by_cases e : b = b1
    · subst e
      rw [List.getElem?_set_self hbl] at g
      obtain rfl : ds = c1 := by simpa using g
      cases hi.live b cs hb with
      | row k c e h1 h2 h3 h4 h5 => exact .row k c e h1 h2 (by rw [← h.len]; exact h3) h4 (h.relC h5)
      | obj k x h1 h2 h3 =>
        have := hno x (by rw [h2]; simp)
        rw [h3.isObj] at this; cases this
    · rw [List.getElem?_set_ne e] at g
      exact hi.live b1 c1 g
theorem Gst.weak {n nb nv : Nat} {T : Tm} {H : Hp} {V : List Nat} {b : Nat} {cs ds : List CV} (hb : H[b]? = some (some cs)) (h : LeL cs ds) (hno : ∀ x ∈ cs, x.isObj = false) : Gst n nb nv T H V T (H.set b (some ds)) V := fun D m w a m0 w0 V0 h1 h2 h3 hx hs =>
  ⟨m, ⟨hs.inv.weak hb h hno, hs.tm, hs.size, hs.df⟩, hx⟩
theorem Sh.weak {n nb nv : Nat} {T : Tm} {H : Hp} {V : List Nat} {s : Tm × Hp × List Nat} {b : Nat} {cs ds : List CV} (hb : H[b]? = some (some cs)) (h : LeL cs ds) (hno : ∀ x ∈ cs, x.isObj = false) (k : Sh n nb nv T (H.set b (some ds)) V s) : Sh n nb nv T H V s :=
  Gst.trans (Gst.weak hb h hno) k
end Go.Proofs.YtmgoflhjblombaaGreatDoor
namespace Go.Proofs.YtmgoflhjblombaaGreatDoor
variable {P : Program}
theorem St.put {D : Dl} {n : Nat} {m m' : Gh} {w w' : World} {a : Act} {T : Tm} {H H' : Hp} {V V' : List Nat} {d : Option Tmp} {c : CV} {u : Value} (hs : St D n m w a T H V) (hd : dOk d n) (h2 : Inv m' w' H' V') (h3 : RelV m' w' V' c u) (h4 : Ext m w V m' w' V') :
    St D n m' w' (a.put d u) (tput d c T) H' V' :=
  ⟨h2, (RelT.mono h4 hs.tm).put h3 (by rw [hs.size]; exact hd), by rw [put_size]; exact hs.size, by rw [put_defers]; exact hs.df.mono h4⟩
section
variable {n nb nv id : Nat} {Q : Exit → Tm → Hp → List Nat → Prop} {T : Tm} {H : Hp} {V : List Nat} {ops mid mid2 : List Oper} {K : Tm → Hp → List Nat → Prop}
end
end Go.Proofs.YtmgoflhjblombaaGreatDoor
namespace Go.Proofs.YtmgoflhjblombaaGreatDoor
def Ge (c d : CV) : Prop := ∀ (m : Gh) (w : World) (V : List Nat) (u : Value), RelV m w V c u → RelV m w V d u
theorem Ge.slk {tk : Tk} {sz : Nat} {xs ys : List (List CV)} (h : LeE xs ys) : Ge (.sl tk sz xs) (.sl tk sz ys) := fun m w V u hu => by
  rw [RelV] at hu ⊢
  obtain ⟨base, cap, h1, h2, h3, h4, h5⟩ := hu
  have e := h.len
  refine ⟨base, cap, by rw [← e]; exact h1, by rw [← e]; exact h2, by rw [← e]; exact h3, h4, ?_⟩
  rcases h5 with rfl | ⟨k, o, hb, hl, he⟩
  · refine .inl ?_
    cases h; rfl
  · exact .inr ⟨k, o, hb, by rw [← e]; exact hl, h.rel he⟩
theorem Ge.le {c d : CV} (h : Le c d) : Ge c d := fun m w V u hu => h.rel hu
theorem SWp.after {P : Program} {n nb nv : Nat} {c : Code} {Q : Exit → Tm → Hp → List Nat → Prop} {T : Tm} {H : Hp} {V : List Nat} {α : Type} (S : α → Tm × Hp × List Nat) (ok : α → Prop)
    (h1 : SWp P n nb nv c (thn (fun T H V => ∃ s, ok s ∧ Sh n nb nv T H V (S s)) Q) T H V) (h2 : ∀ s, ok s → Q .normal (S s).1 (S s).2.1 (S s).2.2) : SWp P n nb nv c Q T H V := by
  intro ro D m w a m0 w0 V0 g1 g2 g3 hx hs
  refine wpIn_mono (h1 ro D m w a m0 w0 V0 g1 g2 g3 hx hs) fun e a' w' ⟨T', H', V', m', k1, k2, k3⟩ => ?_
  cases e with
  | normal =>
    obtain ⟨s, q1, q2⟩ := k1
    obtain ⟨m2, r1, r2⟩ := q2 D m' w' a' m0 w0 V0 g1 g2 g3 k3 k2
    exact ⟨_, _, _, m2, h2 s q1, r1, r2⟩
  | _ => exact ⟨T', H', V', m', k1, k2, k3⟩
end Go.Proofs.YtmgoflhjblombaaGreatDoor
namespace Go.Proofs.YtmgoflhjblombaaGreatDoor
inductive TokLe (k : Nat) : CV → CV → Prop
  | le {c d : CV} (h : Le c d) : TokLe k c d
  | nil {sz : Nat} (h : 0 < sz) : TokLe k (.v (.slice none 0 0)) (.sl (.own k 0) sz [])
  | ti {sz : Nat} {xs : List (List CV)} : TokLe k (.sl .ti sz xs) (.sl (.own k 0) sz xs)
  | ge {c d e : CV} (h : Ge c d) (g : TokLe k d e) : TokLe k c e
theorem TokLe.rel {m : Gh} {w : World} {V : List Nat} {k : Nat} {c d : CV} {u : Value} (h : TokLe k c d) (hk : V[k]? = some 0) (hu : RelV m w V c u) : RelV m w V d u := by
  induction h with
  | ge h _ ih => exact ih (h m w V u hu)
  | le h => exact h.rel hu
  | nil h =>
    rw [RelV] at hu; rw [RelV]
    exact ⟨none, 0, hu, Nat.le_refl _, ⟨0, hk, Nat.le_refl _, fun _ => .inl rfl⟩, h, .inl rfl⟩
  | ti =>
    rw [RelV] at hu; rw [RelV]
    obtain ⟨base, cap, q1, q2, q3, q4, q5⟩ := hu
    exact ⟨base, cap, q1, q2, ⟨0, hk, Nat.le_refl _, fun _ => .inl q3⟩, q4, q5⟩
def TTok (k : Nat) (T : Tm) : Tm → Prop
  | [] => True
  | (i, c) :: r => TokLe k (tget T i) c ∧ TTok k T r
theorem TTok.get {k : Nat} {T : Tm} : ∀ {T' : Tm}, TTok k T T' → ∀ p ∈ T', TokLe k (tget T p.1) p.2
  | [], _, p, hp => by cases hp
  | (i, c) :: r, h, p, hp => by
    rcases List.mem_cons.1 hp with rfl | hp
    · exact h.1
    · exact TTok.get h.2 p hp
@[go_sem] theorem TTok_nil (k : Nat) (T : Tm) : TTok k T [] = True := rfl
@[go_sem] theorem TTok_cons (k : Nat) (T : Tm) (i : Nat) (c : CV) (r : Tm) : TTok k T ((i, c) :: r) = (TokLe k (tget T i) c ∧ TTok k T r) := rfl
@[go_sem] theorem TokLe_self (k : Nat) (c : CV) : TokLe k c c = True := eq_true (.le (.refl c))
@[go_sem] theorem TokLe_nil (k sz : Nat) : TokLe k (.v (.slice none 0 0)) (.sl (.own k 0) (sz + 1) []) = True := eq_true (.nil (Nat.succ_pos _))
@[go_sem] theorem TokLe_ti (k sz : Nat) (xs : List (List CV)) : TokLe k (.sl .ti sz xs) (.sl (.own k 0) sz xs) = True := eq_true .ti
theorem Gst.tokT {n nb nv : Nat} {T T' : Tm} {H : Hp} {V : List Nat} (h : TTok V.length T T') : Gst n nb nv T H V T' H (V ++ [0]) := by
  intro D m w a m0 w0 V0 h1 h2 h3 he hs
  obtain ⟨s1, s2⟩ := step_tok hs.inv
  refine ⟨_, ⟨s1, fun k => ?_, hs.size, hs.df⟩, he.trans s2⟩
  rcases tget_mem T' k with g1 | ⟨p, g1, rfl, g2⟩
  · rw [g1, RelV]; trivial
  · rw [g2]
    exact (h.get p g1).rel (by rw [at_len]; rfl) ((RelT.mono s2 hs.tm) p.1)
theorem Sh.tokT {n nb nv : Nat} {T T' : Tm} {H H' : Hp} {V V' : List Nat} (h : TTok V.length T T') (hH : H = H') (hV : V ++ [0] = V') : Sh n nb nv T H V (T', H', V') := by
  subst hH hV
  exact Gst.tokT h
theorem Gst.ge {n nb nv : Nat} {T T' : Tm} {H : Hp} {V : List Nat} (h : ∀ p ∈ T', Ge (tget T p.1) p.2) : Gst n nb nv T H V T' H V := fun D m w a m0 w0 V0 _ _ _ hx hs => by
  refine ⟨m, ⟨hs.inv, fun k => ?_, hs.size, hs.df⟩, hx⟩
  rcases tget_mem T' k with h1 | ⟨p, h1, rfl, h2⟩
  · rw [h1, RelV]; trivial
  · rw [h2]; exact h p h1 _ _ _ _ (hs.tm p.1)
theorem Fin.ge {nb nv : Nat} {R : CV → Hp → List Nat → Prop} {r r1 : CV} {H : Hp} {V : List Nat} (h : Ge r r1) (hf : Fin nb nv R r1 H V) : Fin nb nv R r H V := by
  obtain ⟨r', H', V', g, hR⟩ := hf
  exact ⟨r', H', V', Gst.trans (Gst.ge fun p hp => by simp at hp; subst hp; exact h) g, hR⟩
end Go.Proofs.YtmgoflhjblombaaGreatDoor
namespace Go.Proofs.YtmgoflhjblombaaGreatDoor
inductive OY where
  | n
  | s (i : Nat) (b : Bool) (t : OY)
  | f (i : Nat) (b : Bool) (s : OY) (j : Nat) (b' : Bool) (t : OY)
def ordY (ops : List Oper) : OY → Nat → Array Bool → Bool
  | .n, f, listed => f == 0 && (Region.ready .any ops.toArray listed).isEmpty
  | .s i _ t, f, listed => Region.ready .any ops.toArray listed == [i] && f != 0 && ordY ops t (f - 1) (listed.setIfInBounds i true)
  | .f i _ s j _ t, f, listed => Region.ready .any ops.toArray listed == [i, j] && f != 0 && ordY ops s (f - 1) (listed.setIfInBounds i true) && ordY ops t (f - 1) (listed.setIfInBounds j true)
def stepY (P : Program) (n : Nat) (ops : List Oper) (E : List PanicEntry → Tm → Hp → List Nat → Prop) (i : Nat) (b : Bool) (T : Tm) (H : Hp) (V : List Nat) (K : Tm → Hp → List Nat → Prop) : Prop :=
  withO (ops[i]?) fun o => match b with
    | false => crunL P n (ops.map (·.dst)) [o] T H V K
    | true => dOk o.dst n ∧ ∃ f args, isCall o = some (f, args) ∧ hcallx P H V (fun c H' V' => K (tput o.dst c T) H' V') (fun ch H' V' => E ch T H' V') (evT T f) (args.toList.map (evT T))
def crunY (P : Program) (n : Nat) (ops : List Oper) (N : Tm → Hp → List Nat → Prop) (E : List PanicEntry → Tm → Hp → List Nat → Prop) : OY → Tm → Hp → List Nat → Prop
  | .n, T, H, V => N T H V
  | .s i b t, T, H, V => stepY P n ops E i b T H V fun T' H' V' => crunY P n ops N E t T' H' V'
  | .f i b s j b' t, T, H, V => (stepY P n ops E i b T H V fun T' H' V' => crunY P n ops N E s T' H' V') ∧ stepY P n ops E j b' T H V fun T' H' V' => crunY P n ops N E t T' H' V'
section
variable {P : Program} {n nb nv id : Nat} {ops : List Oper} {Q : Exit → Tm → Hp → List Nat → Prop}
theorem stepY_one {D : Dl} {ro : Option Nat} {i : Nat} {b : Bool} {f : Nat} {listed : Array Bool} {m0 : Gh} {w0 : World} {V0 : List Nat} {T : Tm} {H : Hp} {V : List Nat} {m1 : Gh} {w1 : World} {a1 : Act} {K : Tm → Hp → List Nat → Prop}
    (s1 : St D n m1 w1 a1 T H V) (x1 : Ext m0 w0 V0 m1 w1 V) (h : stepY P n ops (fun ch => Q (.panic ch)) i b T H V K)
    (hk : ∀ T' H' V' m' w' a', K T' H' V' → St D n m' w' a' T' H' V' → Ext m0 w0 V0 m' w' V' → wpAnyIn (fen ro) 0 P .any ops.toArray (fun e a' w' => ∃ T' H' V' m', Q e T' H' V' ∧ St D n m' w' a' T' H' V' ∧ Ext m0 w0 V0 m' w' V') f (listed.setIfInBounds i true) a' w') :
    wpOpIn (fen ro) 0 P ops.toArray (fun e a' w' => ∃ T' H' V' m', Q e T' H' V' ∧ St D n m' w' a' T' H' V' ∧ Ext m0 w0 V0 m' w' V') i (wpAnyIn (fen ro) 0 P .any ops.toArray (fun e a' w' => ∃ T' H' V' m', Q e T' H' V' ∧ St D n m' w' a' T' H' V' ∧ Ext m0 w0 V0 m' w' V') f (listed.setIfInBounds i true)) a1 w1 := by
  cases b with
  | false => exact crunX_one s1 x1 h hk
  | true =>
    unfold stepY at h
    cases hi : ops[i]? with
    | none => rw [hi] at h; exact (show False from h).elim
    | some o =>
      rw [hi, withO_some] at h
      obtain ⟨hd, fo, args, hc, hk'⟩ := h
      obtain ⟨tys, hop, hg⟩ := isCall_eq hc
      unfold wpOpIn
      rw [List.getElem?_toArray, hi]
      dsimp only
      rw [if_pos (by simp [Region.wanted, hg])]
      have hev : ∀ x : Operand, RelV m1 w1 V (evT T x) (a1.eval x) := fun x => ev_rel s1.tm x
      unfold hcallx at hk'
      split at hk'
      · rename_i l g caps hf
        have ef := hev fo
        rw [hf, RelV] at ef
        obtain ⟨us, eu, hr⟩ := ef
        obtain ⟨⟨fn, f1, f2, f3⟩, hc⟩ := hk'
        have hargs := relL_append (relL_map hev args.toList) hr
        have hcall := hc m1 w1 _ s1.inv hargs
        have hrun : (execOp a1.eval o).run P w1 = .ok (.enter g (args.toList.map a1.eval ++ us).toArray) w1 := by
          have hb : ¬ fn.body = none := by cases hbb : fn.body <;> simp_all
          have f3' : ¬ fn.name = "runtime.NumGoroutine" := by simpa using f3
          have hfa : args.map a1.eval ++ us.toArray = (args.toList.map a1.eval ++ us).toArray := by
            rw [← Array.toList_map]; simp
          simp [execOp, hop, resolve, eu, Deferred.ofValue, invoke, callFunc, f1, f3', hb, hfa]
        refine ⟨fun _ _ => trivial, ?_⟩
        rw [Oper.semAt_eq _ _ _ (by intro c e; rw [hop] at e; cases e), hrun, Oper.uponIn_enter]
        refine ⟨(fun h => by cases h), callsIn_fen.2 (Calls.mono hcall fun e w' he => ?_)⟩
        rcases he with ⟨u, m', r, H', V', q1, q2, q3, q4, q5⟩ | ⟨ch, m', H', V', q1, q2, q3, q4⟩
        · subst q1
          exact hk _ H' V' m' w' _ q2 ⟨q3, (RelT.mono q5 s1.tm).put q4 (by rw [s1.size]; exact hd), by rw [put_size]; exact s1.size, by rw [put_defers]; exact s1.df.mono q5⟩ (x1.trans q5)
        · subst q1
          exact ⟨T, H', V', m', q2, ⟨q3, RelT.mono q4 s1.tm, s1.size, s1.df.mono q4⟩, x1.trans q4⟩
      · exact hk'.elim
theorem crunY_sound {D : Dl} {ro : Option Nat} {m0 : Gh} {w0 : World} {V0 : List Nat} : ∀ (l : OY) (f : Nat) (listed : Array Bool) (T : Tm) (H : Hp) (V : List Nat) (m : Gh) (w : World) (a : Act), ordY ops l f listed = true → crunY P n ops (Q .normal) (fun ch => Q (.panic ch)) l T H V → St D n m w a T H V → Ext m0 w0 V0 m w V →
    wpAnyIn (fen ro) 0 P .any ops.toArray (fun e a' w' => ∃ T' H' V' m', Q e T' H' V' ∧ St D n m' w' a' T' H' V' ∧ Ext m0 w0 V0 m' w' V') f listed a w
  | .n, f, listed, T, H, V, m, w, a, ho, h, hs, hx => by
    rw [ordY, Bool.and_eq_true] at ho
    obtain ⟨hf, ho⟩ := ho
    obtain rfl : f = 0 := by simpa using hf
    exact ⟨by simpa using ho, T, H, V, m, h, hs, hx⟩
  | .s i b t, f, listed, T, H, V, m, w, a, ho, h, hs, hx => by
    rw [ordY, Bool.and_eq_true, Bool.and_eq_true] at ho
    obtain ⟨⟨hr, hf⟩, ho⟩ := ho
    replace hr : Region.ready .any ops.toArray listed = [i] := by simpa using hr
    obtain ⟨f, rfl⟩ : ∃ g, f = g + 1 := ⟨f - 1, by have : f ≠ 0 := by simpa using hf
                                                   omega⟩
    rw [Nat.add_sub_cancel] at ho
    rw [crunY] at h
    refine ⟨fun e => (by rw [hr] at e; cases e), fun j hj => ?_⟩
    rw [hr] at hj
    obtain rfl : j = i := by simpa using hj
    exact stepY_one hs hx h fun T' H' V' m' w' a' k1 k2 k3 => crunY_sound t f _ T' H' V' m' w' a' ho k1 k2 k3
  | .f i b s j b' t, f, listed, T, H, V, m, w, a, ho, h, hs, hx => by
    rw [ordY, Bool.and_eq_true, Bool.and_eq_true, Bool.and_eq_true] at ho
    obtain ⟨⟨⟨hr, hf⟩, ho1⟩, ho2⟩ := ho
    replace hr : Region.ready .any ops.toArray listed = [i, j] := by simpa using hr
    obtain ⟨f, rfl⟩ : ∃ g, f = g + 1 := ⟨f - 1, by have : f ≠ 0 := by simpa using hf
                                                   omega⟩
    rw [Nat.add_sub_cancel] at ho1 ho2
    rw [crunY] at h
    refine ⟨fun e => (by rw [hr] at e; cases e), fun q hq => ?_⟩
    rw [hr] at hq
    simp only [List.mem_cons, List.not_mem_nil, or_false] at hq
    rcases hq with rfl | rfl
    · exact stepY_one hs hx h.1 fun T' H' V' m' w' a' k1 k2 k3 => crunY_sound s f _ T' H' V' m' w' a' ho1 k1 k2 k3
    · exact stepY_one hs hx h.2 fun T' H' V' m' w' a' k1 k2 k3 => crunY_sound t f _ T' H' V' m' w' a' ho2 k1 k2 k3
theorem SWp.drawnY {T : Tm} {H : Hp} {V : List Nat} (l : OY) (hm : P.follows .mixedOrders = true) (ho : ordY ops l ops.length (Array.replicate ops.length false) = true)
    (h : crunY P n ops (Q .normal) (fun ch => Q (.panic ch)) l T H V) : SWp P n nb nv (.region id ops.toArray true) Q T H V := by
  intro ro D m w a m0 w0 V0 h1 h2 h3 hx hs
  refine wpIn_region_any hm ?_
  have hd : Inv m { w with drawn := w.drawn + 1 } H V ∧ Ext m w V m { w with drawn := w.drawn + 1 } V := hs.inv.drew
  simp only [List.size_toArray]
  exact crunY_sound l ops.length _ T H V _ _ _ ho h ⟨hd.1, fun k => RelV.mono hd.2 _ _ (hs.tm k), hs.size, hs.df.mono hd.2⟩ (hx.trans hd.2)
end
section
variable {P : Program} {n : Nat} {ops : List Oper} {N : Tm → Hp → List Nat → Prop} {E : List PanicEntry → Tm → Hp → List Nat → Prop} {T T' : Tm} {H H' : Hp} {V V' : List Nat}
def contY (P : Program) (n : Nat) (ops : List Oper) (N : Tm → Hp → List Nat → Prop) (E : List PanicEntry → Tm → Hp → List Nat → Prop) (t : OY) : Tm → Hp → List Nat → Prop := fun T H V => crunY P n ops N E t T H V
@[go_sem ↓] theorem contY_eq (t : OY) : contY P n ops N E t T H V = crunY P n ops N E t T H V := id rfl
@[go_sem] theorem crunY_n : crunY P n ops N E .n T H V = N T H V := rfl
@[go_sem] theorem crunY_s (i : Nat) (b : Bool) (t : OY) : crunY P n ops N E (.s i b t) T H V = stepY P n ops E i b T H V (contY P n ops N E t) := rfl
@[go_sem] theorem crunY_f (i : Nat) (b : Bool) (s : OY) (j : Nat) (b' : Bool) (t : OY) : crunY P n ops N E (.f i b s j b' t) T H V = (stepY P n ops E i b T H V (contY P n ops N E s) ∧ stepY P n ops E j b' T H V (contY P n ops N E t)) := rfl
@[go_sem] theorem stepY_f (i : Nat) (K : Tm → Hp → List Nat → Prop) : stepY P n ops E i false T H V K = withO (ops[i]?) fun o => crunL P n (ops.map (·.dst)) [o] T H V K := rfl
@[congr] theorem crunY_congr {l : OY} (h1 : T = T') (h2 : H = H') (h3 : V = V') : crunY P n ops N E l T H V = crunY P n ops N E l T' H' V' := by subst h1 h2 h3; rfl
@[congr] theorem stepY_congr {i : Nat} {b : Bool} {K : Tm → Hp → List Nat → Prop} (h1 : T = T') (h2 : H = H') (h3 : V = V') : stepY P n ops E i b T H V K = stepY P n ops E i b T' H' V' K := by subst h1 h2 h3; rfl
end
theorem stepY_x {P : Program} {n : Nat} {ops : List Oper} {K : Tm → Hp → List Nat → Prop} {E : List PanicEntry → Tm → Hp → List Nat → Prop} {T : Tm} {H : Hp} {V : List Nat} {i : Nat} {o : Oper} {f : Operand} {args : Array Operand} (hi : ops[i]? = some o) (hc : isCall o = some (f, args)) (hd : dOk o.dst n)
    (h : hcallx P H V (fun c H' V' => K (tput o.dst c T) H' V') (fun ch H' V' => E ch T H' V') (evT T f) (args.toList.map (evT T))) : stepY P n ops E i true T H V K := by
  rw [stepY, hi, withO_some]; exact ⟨hd, f, args, hc, h⟩
end Go.Proofs.YtmgoflhjblombaaGreatDoor
namespace Go.Proofs.YtmgoflhjblombaaGreatDoor
inductive Fk (b : Nat) (cs : List CV) : CV → CV → Prop
  | y {c d : CV} (h : Fy b cs c d) : Fk b cs c d
  | slk (tk : Tk) (sz : Nat) {xs ys : List (List CV)} (h : FyE b cs xs ys) : Fk b cs (.sl tk sz xs) (.sl tk sz ys)
section
variable {m : Gh} {w : World} {V : List Nat} {b k : Nat} {cs : List CV}
theorem Fk.rel (hb : m.box[b]? = some k) (hl : cs.length ≤ m.lim k) (hc : RelC m w V k cs 0) {x y : CV} {u : Value} (h : Fk b cs x y) (hu : RelV m w V x u) : RelV m w V y u := by
  cases h with
  | y h => exact Fy.rel hb hl hc h hu
  | slk tk sz hq =>
    rw [RelV] at hu; rw [RelV]
    obtain ⟨base, cap, h1, h2, h3, h4, h5⟩ := hu
    have e := hq.len
    refine ⟨base, cap, by rw [← e]; exact h1, by rw [← e]; exact h2, by rw [← e]; exact h3, h4, ?_⟩
    rcases h5 with h5 | ⟨k', o, h6, h7, h8⟩
    · left
      subst h5
      exact List.eq_nil_of_length_eq_zero e.symm
    · exact .inr ⟨k', o, h6, by rw [← e]; exact h7, FyE.rel hb hl hc hq h8⟩
theorem Fk.relO (hb : m.box[b]? = some k) (hr0 : ¬ IsRow w k) {x y : CV} {u : Value} (h : Fk b cs x y) (hu : RelV m w V x u) : RelV m w V y u := by
  cases h with
  | y h => exact Fy.relO hb hr0 h hu
  | slk tk sz hq =>
    rw [RelV] at hu; rw [RelV]
    obtain ⟨base, cap, h1, h2, h3, h4, h5⟩ := hu
    have e := hq.len
    refine ⟨base, cap, by rw [← e]; exact h1, by rw [← e]; exact h2, by rw [← e]; exact h3, h4, ?_⟩
    rcases h5 with h5 | ⟨k', o, h6, h7, h8⟩
    · left
      subst h5
      exact List.eq_nil_of_length_eq_zero e.symm
    · exact .inr ⟨k', o, h6, by rw [← e]; exact h7, FyE.relO hb hr0 hq h8⟩
end
section
variable {n nb nv : Nat} {T T' : Tm} {H : Hp} {V : List Nat}
theorem Gst.freezeK {b : Nat} {cs : List CV} (hb : H[b]? = some (some cs)) (h : ∀ p ∈ T', Fk b cs (tget T p.1) p.2) : Gst n nb nv T H V T' (H.set b none) V := fun D m w a m0 w0 V0 h1 h2 h3 hx hs => by
  cases hs.inv.live b cs hb with
  | row k c e g1 g2 g3 g4 g5 =>
    obtain ⟨hi', hx'⟩ := hs.inv.fix hb g1 g2 g3 g4
    refine ⟨_, ⟨hi', fun j => ?_, hs.size, hs.df⟩, hx.trans hx'⟩
    have ht := RelT.mono hx' hs.tm
    rcases tget_mem T' j with h1 | ⟨p, h1, rfl, h2⟩
    · rw [h1, RelV]; trivial
    · rw [h2]
      exact Fk.rel (m := { m with lim := fun j => if j = k then cs.length else m.lim j }) (k := k) g1 (by show cs.length ≤ if k = k then cs.length else m.lim k; rw [if_pos rfl]; exact Nat.le_refl _) (relC_box hx' rfl g5) (h p h1) (ht p.1)
  | obj k x g1 g2 g3 =>
    refine ⟨m, ⟨hs.inv.kill b, fun j => ?_, hs.size, hs.df⟩, hx⟩
    rcases tget_mem T' j with h1 | ⟨p, h1, rfl, h2⟩
    · rw [h1, RelV]; trivial
    · rw [h2]
      exact Fk.relO g1 g3.notRow (h p h1) (hs.tm p.1)
def TFk (b : Nat) (cs : List CV) (T : Tm) : Tm → Prop
  | [] => True
  | (i, c) :: r => Fk b cs (tget T i) c ∧ TFk b cs T r
theorem TFk.get {b : Nat} {cs : List CV} {T : Tm} : ∀ {T' : Tm}, TFk b cs T T' → ∀ p ∈ T', Fk b cs (tget T p.1) p.2
  | [], _, p, hp => by cases hp
  | (i, c) :: r, h, p, hp => by
    rcases List.mem_cons.1 hp with rfl | hp
    · exact h.1
    · exact TFk.get h.2 p hp
@[go_sem] theorem TFk_nil (b : Nat) (cs : List CV) (T : Tm) : TFk b cs T [] = True := rfl
@[go_sem] theorem TFk_cons (b : Nat) (cs : List CV) (T : Tm) (i : Nat) (c : CV) (r : Tm) : TFk b cs T ((i, c) :: r) = (Fk b cs (tget T i) c ∧ TFk b cs T r) := rfl
@[go_sem] theorem Fk_self (b : Nat) (cs : List CV) (c : CV) : Fk b cs c c = True := eq_true (.y (.refl c))
end
end Go.Proofs.YtmgoflhjblombaaGreatDoor
namespace Go.Proofs.YtmgoflhjblombaaGreatDoor
end Go.Proofs.YtmgoflhjblombaaGreatDoor
namespace Go.Proofs.YtmgoflhjblombaaGreatDoor
@[go_sem] theorem hbx_add (H L : Hp) (k : Nat) (K : List CV → Prop) : hbx (H ++ L) (H.length + k) K = hbx L k K := by rw [hbx_eq, hbx_eq, hget]
open Classical in
theorem Ge.refl (c : CV) : Ge c c := fun _ _ _ _ h => h
@[go_sem] theorem Ge_self (c : CV) : Ge c c = True := eq_true (Ge.refl c)
end Go.Proofs.YtmgoflhjblombaaGreatDoor
namespace Go.Proofs.YtmgoflhjblombaaGreatDoor
abbrev Reg := BitVec 32
def poly : Reg := 0x82F63B78#32
def bit1 (r : Reg) : Reg := if r.getLsbD 0 then (r >>> 1) ^^^ poly else r >>> 1
def bits : Nat → Reg → Reg
  | 0, r => r
  | n + 1, r => bits n (bit1 r)
theorem bit1_xor (a b : Reg) : bit1 (a ^^^ b) = bit1 a ^^^ bit1 b := by
  unfold bit1
  rw [BitVec.getLsbD_xor, BitVec.ushiftRight_xor_distrib]
  cases a.getLsbD 0 <;> cases b.getLsbD 0 <;> simp
  · rw [BitVec.xor_assoc]
  · rw [BitVec.xor_assoc, BitVec.xor_assoc, BitVec.xor_comm poly]
  · rw [BitVec.xor_assoc, BitVec.xor_comm poly, BitVec.xor_assoc, BitVec.xor_self, BitVec.xor_zero]
theorem bits_xor : ∀ (n : Nat) (a b : Reg), bits n (a ^^^ b) = bits n a ^^^ bits n b
  | 0, _, _ => rfl
  | n + 1, a, b => by rw [bits, bits, bits, bit1_xor, bits_xor n]
theorem bits_low : ∀ (n : Nat) (a : Reg), (∀ i, i < n → a.getLsbD i = false) → bits n a = a >>> n
  | 0, a, _ => by rw [bits, BitVec.ushiftRight_zero]
  | n + 1, a, h => by
    have e : bit1 a = a >>> 1 := by unfold bit1; rw [h 0 (by omega)]; rfl
    rw [bits, e, bits_low n _ fun i hi => by rw [BitVec.getLsbD_ushiftRight]; exact h _ (by omega), ← BitVec.shiftRight_add, Nat.add_comm 1 n]
def regB (r : Reg) (b : UInt8) : Reg := bits 8 (r ^^^ BitVec.ofNat 32 b.toNat)
def tabE (i : Nat) : Reg := bits 8 (BitVec.ofNat 32 i)
theorem reg_table (r : Reg) (b : UInt8) : regB r b = (r >>> 8) ^^^ tabE ((r ^^^ BitVec.ofNat 32 b.toNat).toNat % 256) := by
  have hb := b.toNat_lt
  obtain ⟨x, hx⟩ : ∃ x, r ^^^ BitVec.ofNat 32 b.toNat = x := ⟨_, rfl⟩
  unfold regB tabE
  rw [hx]
  have h1 : x = (x &&& 0xFFFFFF00#32) ^^^ (x &&& 0xFF#32) := by
    apply BitVec.eq_of_getLsbD_eq
    intro i hi
    rw [BitVec.getLsbD_xor, BitVec.getLsbD_and, BitVec.getLsbD_and]
    have : ∀ j, j < 32 → ((0xFFFFFF00#32).getLsbD j = !((0xFF#32).getLsbD j)) := by decide
    rw [this i hi]
    cases x.getLsbD i <;> cases (0xFF#32).getLsbD i <;> rfl
  have h2 : x &&& 0xFF#32 = BitVec.ofNat 32 (x.toNat % 256) := by
    apply BitVec.eq_of_toNat_eq
    rw [BitVec.toNat_and, BitVec.toNat_ofNat, BitVec.toNat_ofNat]
    have : (255 % 2 ^ 32 : Nat) = 2 ^ 8 - 1 := by decide
    rw [this, Nat.and_two_pow_sub_one_eq_mod]
    have := Nat.mod_lt x.toNat (show 0 < 256 by omega)
    omega
  have h3 : bits 8 (x &&& 0xFFFFFF00#32) = r >>> 8 := by
    rw [bits_low 8 _ fun i hi => by
      rw [BitVec.getLsbD_and]
      have : ∀ j, j < 8 → (0xFFFFFF00#32).getLsbD j = false := by decide
      rw [this i hi, Bool.and_false]]
    apply BitVec.eq_of_getLsbD_eq
    intro i hi
    rw [BitVec.getLsbD_ushiftRight, BitVec.getLsbD_ushiftRight, BitVec.getLsbD_and, ← hx, BitVec.getLsbD_xor]
    by_cases h : 8 + i < 32
    · have h4 : ∀ j, j < 24 → (0xFFFFFF00#32).getLsbD (8 + j) = true := by decide
      rw [h4 _ (by omega), Bool.and_true]
      have h5 : (BitVec.ofNat 32 b.toNat).getLsbD (8 + i) = false := by
        rw [BitVec.getLsbD_ofNat, Nat.testBit_lt_two_pow (Nat.lt_of_lt_of_le hb (Nat.pow_le_pow_right (by omega) (show 8 ≤ 8 + i by omega)))]
        simp
      rw [h5, Bool.xor_false]
    · rw [BitVec.getLsbD_of_ge _ _ (by omega), BitVec.getLsbD_of_ge _ _ (by omega)]
      simp
  conv => lhs; rw [h1, bits_xor, h3, h2]
def crcR (r : Reg) (l : List UInt8) : Reg := l.foldl regB r
def crc (l : List UInt8) : Reg := ~~~(crcR (~~~ (0#32)) l)
def rn (r : Reg) : Int := (r.toNat : Int)
abbrev c32 (r : Reg) : CV := .v (.int .u32 (rn r))
theorem wrap32 {n : Nat} (h : n < 4294967296) : IntKind.u32.wrap (n : Int) = (n : Int) := by
  rw [IntKind.wrap_u32]; omega
theorem ofInt32 (a : Reg) : BitVec.ofInt 32 (a.toNat : Int) = a := by
  rw [BitVec.ofInt_natCast, BitVec.ofNat_toNat, BitVec.setWidth_eq]
theorem xor32 (a b : Reg) : bitop .xor .u32 (a.toNat : Int) (b.toNat : Int) = ((a ^^^ b).toNat : Int) := by
  show IntKind.u32.wrap ((BitVec.ofInt 32 (a.toNat : Int) ^^^ BitVec.ofInt 32 (b.toNat : Int)).toNat : Int) = _
  rw [ofInt32, ofInt32]
  exact wrap32 (BitVec.isLt _)
theorem and32 (a b : Reg) : bitop .and .u32 (a.toNat : Int) (b.toNat : Int) = ((a &&& b).toNat : Int) := by
  show IntKind.u32.wrap ((BitVec.ofInt 32 (a.toNat : Int) &&& BitVec.ofInt 32 (b.toNat : Int)).toNat : Int) = _
  rw [ofInt32, ofInt32]
  exact wrap32 (BitVec.isLt _)
theorem shr32 (a : Reg) (k : Nat) (hk : k ≤ 32) : shr .u32 (a.toNat : Int) (k : Int) = ((a >>> k).toNat : Int) := by
  unfold shr
  have : min ((k : Int)).toNat IntKind.u32.bits = k := by
    have : IntKind.u32.bits = 32 := rfl
    omega
  rw [this, Int.fdiv_eq_ediv_of_nonneg _ (Int.le_of_lt (Int.pow_pos (by decide))), BitVec.toNat_ushiftRight, Nat.shiftRight_eq_div_pow]
  push_cast
  rfl
theorem not32 (a : Reg) : bitop .xor .u32 4294967295 (a.toNat : Int) = ((~~~a).toNat : Int) := by
  have := xor32 (BitVec.allOnes 32) a
  rw [show ((BitVec.allOnes 32).toNat : Int) = 4294967295 from rfl] at this
  rw [this, BitVec.allOnes_xor]
theorem lsb_mod (a : Reg) : a.getLsbD 0 = decide (a.toNat % 2 = 1) := by
  rw [BitVec.getLsbD, Nat.testBit_zero]
theorem step_mul (r : Reg) : bitop .xor .u32 ((r >>> 1).toNat : Int) (IntKind.u32.wrap (2197175160 * ((r &&& 1#32).toNat : Int))) = ((bit1 r).toNat : Int) := by
  have h1 : (r &&& 1#32).toNat = r.toNat % 2 := by
    rw [BitVec.toNat_and]; exact Nat.and_one_is_mod _
  unfold bit1
  rw [lsb_mod, h1]
  rcases Nat.mod_two_eq_zero_or_one r.toNat with h | h
  · rw [h, if_neg (by simp)]
    have := xor32 (r >>> 1) 0#32
    rw [BitVec.xor_zero] at this
    exact this
  · rw [h, if_pos (by simp)]
    exact xor32 (r >>> 1) poly
theorem xorR (a b : Reg) : bitop .xor .u32 (rn a) (rn b) = rn (a ^^^ b) := xor32 a b
theorem and1R (r : Reg) : bitop .and .u32 (rn r) 1 = rn (r &&& 1#32) := and32 r 1#32
theorem shr1R (r : Reg) : shr .u32 (rn r) 1 = rn (r >>> 1) := shr32 r 1 (by decide)
theorem shr8R (r : Reg) : shr .u32 (rn r) 8 = rn (r >>> 8) := shr32 r 8 (by decide)
theorem stepR (r : Reg) : bitop .xor .u32 (rn (r >>> 1)) (IntKind.u32.wrap (2197175160 * rn (r &&& 1#32))) = rn (bit1 r) := step_mul r
theorem notR (r : Reg) : bitop .xor .u32 4294967295 (rn r) = rn (~~~r) := not32 r
theorem ofNatR {i : Nat} (h : i < 4294967296) : IntKind.u32.wrap (i : Int) = rn (BitVec.ofNat 32 i) := by
  rw [rn, BitVec.toNat_ofNat, Nat.mod_eq_of_lt (by omega)]; exact wrap32 h
theorem maxU32 : (if IntKind.u32.signed = true then (-1 : Int) else IntKind.u32.max) = 4294967295 := rfl
theorem xor8 (r : Reg) (b : UInt8) : bitop .xor .u8 (IntKind.u8.wrap (rn r)) (b.toNat : Int) = (((r ^^^ BitVec.ofNat 32 b.toNat).toNat % 256 : Nat) : Int) := by
  have hb := b.toNat_lt
  show IntKind.u8.wrap ((BitVec.ofInt 8 (IntKind.u8.wrap (rn r)) ^^^ BitVec.ofInt 8 (b.toNat : Int)).toNat : Int) = _
  have e : IntKind.u8.wrap (rn r) = ((r.toNat % 256 : Nat) : Int) := by rw [IntKind.wrap_u8, rn]; omega
  rw [e, BitVec.ofInt_natCast, BitVec.ofInt_natCast, BitVec.toNat_xor, BitVec.toNat_ofNat, BitVec.toNat_ofNat, BitVec.toNat_xor, BitVec.toNat_ofNat, Nat.mod_eq_of_lt (show b.toNat < 2 ^ 32 by omega), show (256 : Nat) = 2 ^ 8 from rfl, Nat.xor_mod_two_pow, Nat.mod_mod]
  have h1 := Nat.xor_lt_two_pow (Nat.mod_lt r.toNat (show 0 < 2 ^ 8 by decide)) (Nat.mod_lt b.toNat (show 0 < 2 ^ 8 by decide))
  rw [IntKind.wrap_u8]
  omega
end Go.Proofs.YtmgoflhjblombaaGreatDoor
namespace Go.Proofs.YtmgoflhjblombaaGreatDoor
def intsE (k : IntKind) (zs : List Int) : Array Value := (zs.map fun z => Value.int k z).toArray
section
variable {P : Program}
theorem flatEq_pair {t e : TypeId} {f g : Field} {k : IntKind} (hu : P.underlying t = some (.struct #[f, g])) (hf : f.type = e) (hg : g.type = e) (of : f.offset = 0) (og : g.offset = 1) (nf : f.name ≠ "_") (ng : g.name ≠ "_") (he : P.underlying e = some (.int k)) (hs : P.stoodInHeld t = false) (hq : P.eqGuardType P.depth t = false) : FlatEq P t [k, k] := by
  refine ⟨hq, fun w zs zs' h1 h2 => ?_⟩
  match zs, zs', h1, h2 with
  | [a, b], [c, d], _, _ =>
    show (Op.equalIn 10000 t (.agg (intsE k [a, b])) (.agg (intsE k [c, d]))).run P w = _
    have hF : P.fieldsOf t = #[f, g] := by unfold Program.fieldsOf; rw [hu]
    rw [run_equalIn_agg w 9999 _ _ _ (by rw [hF]; exact hu) hs, hF]
    have p1 : (part e (intsE k [a, b]) 0).run P w = .ok (.int k a) w := by simp [intsE, part, isAgg, run_underlying he]
    have p2 : (part e (intsE k [a, b]) 1).run P w = .ok (.int k b) w := by simp [intsE, part, isAgg, run_underlying he]
    have p3 : (part e (intsE k [c, d]) 0).run P w = .ok (.int k c) w := by simp [intsE, part, isAgg, run_underlying he]
    have p4 : (part e (intsE k [c, d]) 1).run P w = .ok (.int k d) w := by simp [intsE, part, isAgg, run_underlying he]
    have q1 : (Op.equalIn 9999 e (.int k a) (.int k c)).run P w = .ok (a == c) w := run_equalIn_int w 9998 e k k _ _ he
    have q2 : (Op.equalIn 9999 e (.int k b) (.int k d)).run P w = .ok (b == d) w := run_equalIn_int w 9998 e k k _ _ he
    simp only [Op.eqFields, hf, hg, of, og, nf, ng, ne_eq, not_false_eq_true, if_true, Sem.run_bind, p1, p3, q1, Result.andThen_ok]
    cases h1 : (a == c)
    · have : a ≠ c := by simpa using h1
      simp [this]
    · have h1 : a = c := by simpa using h1
      simp only [Bool.not_true, Bool.false_eq_true, if_false, Sem.run_bind, p2, p4, q2, Result.andThen_ok]
      cases h2 : (b == d)
      · have : b ≠ d := by simpa using h2
        simp [h1, this]
      · have h2 : b = d := by simpa using h2
        simp [h1, h2]
end
theorem fits_rep (k : IntKind) : ∀ zs : List Int, fits (List.replicate zs.length k) (zs.map fun z => CV.v (.int k z))
  | [] => by rw [List.length_nil, List.replicate_zero, fits]; rfl
  | z :: zs => by rw [List.length_cons, List.replicate_succ, fits]; exact ⟨z, _, rfl, fits_rep k zs⟩
end Go.Proofs.YtmgoflhjblombaaGreatDoor
namespace Go.Proofs.YtmgoflhjblombaaGreatDoor
end Go.Proofs.YtmgoflhjblombaaGreatDoor
namespace Go.Proofs.YtmgoflhjblombaaGreatDoor
open Go.Proofs
@[go_sem] theorem slTy22 : slTy Tryz.prog 22 = some (57, 8) := by kernel_rfl
@[go_sem] theorem slTy23 : slTy Tryz.prog 23 = some (115, 9) := by kernel_rfl
@[go_sem] theorem slTy29 : slTy Tryz.prog 29 = some (3, 1) := by kernel_rfl
@[go_sem] theorem slTy33 : slTy Tryz.prog 33 = some (69, 3) := by kernel_rfl
@[go_sem] theorem slTy34 : slTy Tryz.prog 34 = some (98, 3) := by kernel_rfl
@[go_sem] theorem slTy44 : slTy Tryz.prog 44 = some (53, 5) := by kernel_rfl
@[go_sem] theorem slTy46 : slTy Tryz.prog 46 = some (51, 1) := by kernel_rfl
@[go_sem] theorem slTy51 : slTy Tryz.prog 51 = some (5, 1) := by kernel_rfl
@[go_sem] theorem arTy57 : arTy Tryz.prog 57 = some (8, false, 1) := by kernel_rfl
@[go_sem] theorem slTy126 : slTy Tryz.prog 126 = some (4, 1) := by kernel_rfl
@[go_sem] theorem arTy151 : arTy Tryz.prog 151 = some (2, false, 1) := by kernel_rfl
@[go_sem] theorem arTy157 : arTy Tryz.prog 157 = some (2, true, 3) := by kernel_rfl
@[go_sem] theorem arTy203 : arTy Tryz.prog 203 = some (256, false, 1) := by kernel_rfl
@[go_sem] theorem arTy212 : arTy Tryz.prog 212 = some (256, false, 1) := by kernel_rfl
@[go_sem] theorem arTy244 : arTy Tryz.prog 244 = some (256, false, 1) := by kernel_rfl
@[go_sem] theorem arTy247 : arTy Tryz.prog 247 = some (16, true, 2) := by kernel_rfl
@[go_sem] theorem ldTy3 : ldTy Tryz.prog 3 = some (false, 1) := by kernel_rfl
@[go_sem] theorem ldTy4 : ldTy Tryz.prog 4 = some (false, 1) := by kernel_rfl
@[go_sem] theorem ldTy5 : ldTy Tryz.prog 5 = some (false, 1) := by kernel_rfl
@[go_sem] theorem ldTy22 : ldTy Tryz.prog 22 = some (false, 1) := by kernel_rfl
@[go_sem] theorem ldTy23 : ldTy Tryz.prog 23 = some (false, 1) := by kernel_rfl
@[go_sem] theorem ldTy25 : ldTy Tryz.prog 25 = some (true, 2) := by kernel_rfl
@[go_sem] theorem ldTy27 : ldTy Tryz.prog 27 = some (true, 2) := by kernel_rfl
@[go_sem] theorem ldTy29 : ldTy Tryz.prog 29 = some (false, 1) := by kernel_rfl
@[go_sem] theorem ldTy31 : ldTy Tryz.prog 31 = some (true, 6) := by kernel_rfl
@[go_sem] theorem ldTy35 : ldTy Tryz.prog 35 = some (false, 1) := by kernel_rfl
@[go_sem] theorem ldTy46 : ldTy Tryz.prog 46 = some (false, 1) := by kernel_rfl
@[go_sem] theorem ldTy48 : ldTy Tryz.prog 48 = some (true, 10) := by kernel_rfl
@[go_sem] theorem ldTy51 : ldTy Tryz.prog 51 = some (false, 1) := by kernel_rfl
@[go_sem] theorem ldTy53 : ldTy Tryz.prog 53 = some (true, 5) := by kernel_rfl
@[go_sem] theorem ldTy57 : ldTy Tryz.prog 57 = some (true, 8) := by kernel_rfl
@[go_sem] theorem ldTy69 : ldTy Tryz.prog 69 = some (true, 3) := by kernel_rfl
@[go_sem] theorem ldTy72 : ldTy Tryz.prog 72 = some (true, 2) := by kernel_rfl
@[go_sem] theorem ldTy85 : ldTy Tryz.prog 85 = some (true, 9) := by kernel_rfl
@[go_sem] theorem ldTy95 : ldTy Tryz.prog 95 = some (false, 1) := by kernel_rfl
@[go_sem] theorem ldTy98 : ldTy Tryz.prog 98 = some (true, 3) := by kernel_rfl
@[go_sem] theorem ldTy115 : ldTy Tryz.prog 115 = some (true, 9) := by kernel_rfl
@[go_sem] theorem ldTy126 : ldTy Tryz.prog 126 = some (false, 1) := by kernel_rfl
@[go_sem] theorem ldTy150 : ldTy Tryz.prog 150 = some (false, 1) := by kernel_rfl
@[go_sem] theorem ldTy151 : ldTy Tryz.prog 151 = some (true, 2) := by kernel_rfl
@[go_sem] theorem ldTy156 : ldTy Tryz.prog 156 = some (true, 3) := by kernel_rfl
@[go_sem] theorem ldTy157 : ldTy Tryz.prog 157 = some (true, 6) := by kernel_rfl
@[go_sem] theorem ldTy166 : ldTy Tryz.prog 166 = some (true, 1) := by kernel_rfl
@[go_sem] theorem ldTy196 : ldTy Tryz.prog 196 = some (false, 1) := by kernel_rfl
@[go_sem] theorem ldTy203 : ldTy Tryz.prog 203 = some (true, 256) := by kernel_rfl
@[go_sem] theorem ldTy212 : ldTy Tryz.prog 212 = some (true, 256) := by kernel_rfl
@[go_sem] theorem ldTy235 : ldTy Tryz.prog 235 = some (false, 1) := by kernel_rfl
@[go_sem] theorem ldTy246 : ldTy Tryz.prog 246 = some (true, 2) := by kernel_rfl
@[go_sem] theorem fdTy25_0 : fdTy Tryz.prog 25 0 = some (0, false, 1) := by kernel_rfl
@[go_sem] theorem fdTy25_1 : fdTy Tryz.prog 25 1 = some (1, false, 1) := by kernel_rfl
@[go_sem] theorem fdTy27_0 : fdTy Tryz.prog 27 0 = some (0, false, 1) := by kernel_rfl
@[go_sem] theorem fdTy27_1 : fdTy Tryz.prog 27 1 = some (1, false, 1) := by kernel_rfl
@[go_sem] theorem fdTy31_0 : fdTy Tryz.prog 31 0 = some (0, true, 2) := by kernel_rfl
@[go_sem] theorem fdTy31_1 : fdTy Tryz.prog 31 1 = some (2, false, 1) := by kernel_rfl
@[go_sem] theorem fdTy31_2 : fdTy Tryz.prog 31 2 = some (3, false, 1) := by kernel_rfl
@[go_sem] theorem fdTy31_3 : fdTy Tryz.prog 31 3 = some (4, false, 1) := by kernel_rfl
@[go_sem] theorem fdTy31_4 : fdTy Tryz.prog 31 4 = some (5, false, 1) := by kernel_rfl
@[go_sem] theorem fdTy48_0 : fdTy Tryz.prog 48 0 = some (0, true, 2) := by kernel_rfl
@[go_sem] theorem fdTy48_1 : fdTy Tryz.prog 48 1 = some (2, true, 6) := by kernel_rfl
@[go_sem] theorem fdTy48_2 : fdTy Tryz.prog 48 2 = some (8, false, 1) := by kernel_rfl
@[go_sem] theorem fdTy48_3 : fdTy Tryz.prog 48 3 = some (9, false, 1) := by kernel_rfl
@[go_sem] theorem fdTy53_0 : fdTy Tryz.prog 53 0 = some (0, false, 1) := by kernel_rfl
@[go_sem] theorem fdTy53_1 : fdTy Tryz.prog 53 1 = some (1, false, 1) := by kernel_rfl
@[go_sem] theorem fdTy53_2 : fdTy Tryz.prog 53 2 = some (2, false, 1) := by kernel_rfl
@[go_sem] theorem fdTy53_3 : fdTy Tryz.prog 53 3 = some (3, false, 1) := by kernel_rfl
@[go_sem] theorem fdTy53_4 : fdTy Tryz.prog 53 4 = some (4, false, 1) := by kernel_rfl
@[go_sem] theorem fdTy69_0 : fdTy Tryz.prog 69 0 = some (0, false, 1) := by kernel_rfl
@[go_sem] theorem fdTy69_1 : fdTy Tryz.prog 69 1 = some (1, false, 1) := by kernel_rfl
@[go_sem] theorem fdTy69_2 : fdTy Tryz.prog 69 2 = some (2, false, 1) := by kernel_rfl
@[go_sem] theorem fdTy72_0 : fdTy Tryz.prog 72 0 = some (0, true, 2) := by kernel_rfl
@[go_sem] theorem fdTy79_0 : fdTy Tryz.prog 79 0 = some (0, false, 1) := by kernel_rfl
@[go_sem] theorem fdTy79_1 : fdTy Tryz.prog 79 1 = some (1, false, 1) := by kernel_rfl
@[go_sem] theorem fdTy85_0 : fdTy Tryz.prog 85 0 = some (0, true, 2) := by kernel_rfl
@[go_sem] theorem fdTy85_1 : fdTy Tryz.prog 85 1 = some (2, true, 6) := by kernel_rfl
@[go_sem] theorem fdTy85_2 : fdTy Tryz.prog 85 2 = some (8, false, 1) := by kernel_rfl
@[go_sem] theorem fdTy98_0 : fdTy Tryz.prog 98 0 = some (0, false, 1) := by kernel_rfl
@[go_sem] theorem fdTy98_1 : fdTy Tryz.prog 98 1 = some (1, false, 1) := by kernel_rfl
@[go_sem] theorem fdTy98_2 : fdTy Tryz.prog 98 2 = some (2, false, 1) := by kernel_rfl
@[go_sem] theorem fdTy110_0 : fdTy Tryz.prog 110 0 = some (0, true, 2) := by kernel_rfl
@[go_sem] theorem fdTy115_0 : fdTy Tryz.prog 115 0 = some (0, false, 1) := by kernel_rfl
@[go_sem] theorem fdTy115_1 : fdTy Tryz.prog 115 1 = some (1, true, 8) := by kernel_rfl
@[go_sem] theorem fdTy154_0 : fdTy Tryz.prog 154 0 = some (0, false, 1) := by kernel_rfl
@[go_sem] theorem fdTy154_1 : fdTy Tryz.prog 154 1 = some (1, false, 1) := by kernel_rfl
@[go_sem] theorem fdTy156_0 : fdTy Tryz.prog 156 0 = some (0, true, 2) := by kernel_rfl
@[go_sem] theorem fdTy156_1 : fdTy Tryz.prog 156 1 = some (2, false, 1) := by kernel_rfl
@[go_sem] theorem fdTy166_0 : fdTy Tryz.prog 166 0 = some (0, false, 1) := by kernel_rfl
@[go_sem] theorem fdTy170_0 : fdTy Tryz.prog 170 0 = some (0, false, 1) := by kernel_rfl
@[go_sem] theorem fdTy172_0 : fdTy Tryz.prog 172 0 = some (0, true, 1) := by kernel_rfl
@[go_sem] theorem fdTy172_1 : fdTy Tryz.prog 172 1 = some (1, false, 1) := by kernel_rfl
@[go_sem] theorem fdTy172_2 : fdTy Tryz.prog 172 2 = some (2, false, 1) := by kernel_rfl
@[go_sem] theorem fdTy188_0 : fdTy Tryz.prog 188 0 = some (0, false, 1) := by kernel_rfl
@[go_sem] theorem fdTy246_0 : fdTy Tryz.prog 246 0 = some (0, false, 1) := by kernel_rfl
@[go_sem] theorem fdTy246_1 : fdTy Tryz.prog 246 1 = some (1, false, 1) := by kernel_rfl
def z256 : List Value := List.replicate 256 (.int .u32 0)
@[go_sem] theorem zcTy3 : zcTy Tryz.prog 3 = some [.int .i64 0] := by kernel_rfl
@[go_sem] theorem zcTy4 : zcTy Tryz.prog 4 = some [.bool false] := by kernel_rfl
@[go_sem] theorem zcTy5 : zcTy Tryz.prog 5 = some [.int .u8 0] := by kernel_rfl
@[go_sem] theorem zcTy22 : zcTy Tryz.prog 22 = some [.slice none 0 0] := by kernel_rfl
@[go_sem] theorem zcTy25 : zcTy Tryz.prog 25 = some [.slice none 0 0, .slice none 0 0] := by kernel_rfl
@[go_sem] theorem zcTy27 : zcTy Tryz.prog 27 = some [.int .i64 0, .int .i64 0] := by kernel_rfl
@[go_sem] theorem zcTy31 : zcTy Tryz.prog 31 = some [.int .i64 0, .int .i64 0, .int .i64 0, .int .i64 0, .int .i64 0, .slice none 0 0] := by kernel_rfl
@[go_sem] theorem zcTy35 : zcTy Tryz.prog 35 = some [.int .i64 0] := by kernel_rfl
@[go_sem] theorem zcTy48 : zcTy Tryz.prog 48 = some [.slice none 0 0, .slice none 0 0, .int .i64 0, .int .i64 0, .int .i64 0, .int .i64 0, .int .i64 0, .slice none 0 0, .slice none 0 0, .bool false] := by kernel_rfl
@[go_sem] theorem zcTy53 : zcTy Tryz.prog 53 = some [.int .u8 0, .slice none 0 0, .int .u8 0, .int .u8 0, .slice none 0 0] := by kernel_rfl
@[go_sem] theorem zcTy57 : zcTy Tryz.prog 57 = some [.int .u8 0, .int .u8 0, .int .u8 0, .int .u8 0, .int .u8 0, .int .u8 0, .int .u8 0, .int .u8 0] := by kernel_rfl
@[go_sem] theorem zcTy69 : zcTy Tryz.prog 69 = some [.int .i64 0, .int .i64 0, .slice none 0 0] := by kernel_rfl
@[go_sem] theorem zcTy72 : zcTy Tryz.prog 72 = some [.int .i64 0, .int .i64 0] := by kernel_rfl
@[go_sem] theorem zcTy85 : zcTy Tryz.prog 85 = some [.int .i64 0, .int .i64 0, .int .i64 0, .int .i64 0, .int .i64 0, .int .i64 0, .int .i64 0, .slice none 0 0, .int .i64 0] := by kernel_rfl
@[go_sem] theorem zcTy98 : zcTy Tryz.prog 98 = some [.int .i64 0, .int .i64 0, .slice none 0 0] := by kernel_rfl
@[go_sem] theorem zcTy115 : zcTy Tryz.prog 115 = some [.int .i64 0, .int .u8 0, .int .u8 0, .int .u8 0, .int .u8 0, .int .u8 0, .int .u8 0, .int .u8 0, .int .u8 0] := by kernel_rfl
@[go_sem] theorem zcTy126 : zcTy Tryz.prog 126 = some [.slice none 0 0] := by kernel_rfl
@[go_sem] theorem zcTy151 : zcTy Tryz.prog 151 = some [.nilFunc, .nilFunc] := by kernel_rfl
@[go_sem] theorem zcTy156 : zcTy Tryz.prog 156 = some [.int .i64 0, .slice none 0 0, .slice none 0 0] := by kernel_rfl
@[go_sem] theorem zcTy157 : zcTy Tryz.prog 157 = some [.int .i64 0, .slice none 0 0, .slice none 0 0, .int .i64 0, .slice none 0 0, .slice none 0 0] := by kernel_rfl
@[go_sem] theorem zcTy166 : zcTy Tryz.prog 166 = some [.int .i64 0] := by kernel_rfl
@[go_sem] theorem zcTy203 : zcTy Tryz.prog 203 = some z256 := by kernel_rfl
@[go_sem] theorem zcTy212 : zcTy Tryz.prog 212 = some [.bool false, .bool false, .bool false, .bool false, .bool false, .bool false, .bool false, .bool false, .bool false, .bool false, .bool false, .bool false, .bool false, .bool false, .bool false, .bool false, .bool false, .bool false, .bool false, .bool false, .bool false, .bool false, .bool false, .bool false, .bool false, .bool false, .bool false, .bool false, .bool false, .bool false, .bool false, .bool false, .bool false, .bool false, .bool false, .bool false, .bool false, .bool false, .bool false, .bool false, .bool false, .bool false, .bool false, .bool false, .bool false, .bool false, .bool false, .bool false, .bool false, .bool false, .bool false, .bool false, .bool false, .bool false, .bool false, .bool false, .bool false, .bool false, .bool false, .bool false, .bool false, .bool false, .bool false, .bool false, .bool false, .bool false, .bool false, .bool false, .bool false, .bool false, .bool false, .bool false, .bool false, .bool false, .bool false, .bool false, .bool false, .bool false, .bool false, .bool false, .bool false, .bool false, .bool false, .bool false, .bool false, .bool false, .bool false, .bool false, .bool false, .bool false, .bool false, .bool false, .bool false, .bool false, .bool false, .bool false, .bool false, .bool false, .bool false, .bool false, .bool false, .bool false, .bool false, .bool false, .bool false, .bool false, .bool false, .bool false, .bool false, .bool false, .bool false, .bool false, .bool false, .bool false, .bool false, .bool false, .bool false, .bool false, .bool false, .bool false, .bool false, .bool false, .bool false, .bool false, .bool false, .bool false, .bool false, .bool false, .bool false, .bool false, .bool false, .bool false, .bool false, .bool false, .bool false, .bool false, .bool false, .bool false, .bool false, .bool false, .bool false, .bool false, .bool false, .bool false, .bool false, .bool false, .bool false, .bool false, .bool false, .bool false, .bool false, .bool false, .bool false, .bool false, .bool false, .bool false, .bool false, .bool false, .bool false, .bool false, .bool false, .bool false, .bool false, .bool false, .bool false, .bool false, .bool false, .bool false, .bool false, .bool false, .bool false, .bool false, .bool false, .bool false, .bool false, .bool false, .bool false, .bool false, .bool false, .bool false, .bool false, .bool false, .bool false, .bool false, .bool false, .bool false, .bool false, .bool false, .bool false, .bool false, .bool false, .bool false, .bool false, .bool false, .bool false, .bool false, .bool false, .bool false, .bool false, .bool false, .bool false, .bool false, .bool false, .bool false, .bool false, .bool false, .bool false, .bool false, .bool false, .bool false, .bool false, .bool false, .bool false, .bool false, .bool false, .bool false, .bool false, .bool false, .bool false, .bool false, .bool false, .bool false, .bool false, .bool false, .bool false, .bool false, .bool false, .bool false, .bool false, .bool false, .bool false, .bool false, .bool false, .bool false, .bool false, .bool false, .bool false, .bool false, .bool false, .bool false, .bool false, .bool false, .bool false, .bool false, .bool false, .bool false, .bool false, .bool false, .bool false, .bool false, .bool false, .bool false, .bool false, .bool false, .bool false, .bool false] := by kernel_rfl
@[go_sem] theorem zcTy235 : zcTy Tryz.prog 235 = some [.int .u64 0] := by kernel_rfl
@[go_sem] theorem zcTy246 : zcTy Tryz.prog 246 = some [.int .u8 0, .int .u8 0] := by kernel_rfl
@[go_sem] theorem bdTy25 : bdTy Tryz.prog 25 = some ([(0, 1), (1, 1)], [.slice none 0 0, .slice none 0 0]) := by kernel_rfl
@[go_sem] theorem bdTy27 : bdTy Tryz.prog 27 = some ([(0, 1), (1, 1)], [.int .i64 0, .int .i64 0]) := by kernel_rfl
@[go_sem] theorem bdTy31 : bdTy Tryz.prog 31 = some ([(0, 2), (2, 1), (3, 1), (4, 1), (5, 1)], [.int .i64 0, .int .i64 0, .int .i64 0, .int .i64 0, .int .i64 0, .slice none 0 0]) := by kernel_rfl
@[go_sem] theorem bdTy48 : bdTy Tryz.prog 48 = some ([(0, 2), (2, 6), (8, 1), (9, 1)], [.slice none 0 0, .slice none 0 0, .int .i64 0, .int .i64 0, .int .i64 0, .int .i64 0, .int .i64 0, .slice none 0 0, .slice none 0 0, .bool false]) := by kernel_rfl
@[go_sem] theorem bdTy57 : bdTy Tryz.prog 57 = some ([(0, 1), (1, 1), (2, 1), (3, 1), (4, 1), (5, 1), (6, 1), (7, 1)], [.int .u8 0, .int .u8 0, .int .u8 0, .int .u8 0, .int .u8 0, .int .u8 0, .int .u8 0, .int .u8 0]) := by kernel_rfl
@[go_sem] theorem bdTy69 : bdTy Tryz.prog 69 = some ([(0, 1), (1, 1), (2, 1)], [.int .i64 0, .int .i64 0, .slice none 0 0]) := by kernel_rfl
@[go_sem] theorem bdTy72 : bdTy Tryz.prog 72 = some ([(0, 2)], [.int .i64 0, .int .i64 0]) := by kernel_rfl
@[go_sem] theorem bdTy79 : bdTy Tryz.prog 79 = some ([(0, 1), (1, 1)], [.int .i64 0, .int .i64 0]) := by kernel_rfl
@[go_sem] theorem bdTy85 : bdTy Tryz.prog 85 = some ([(0, 2), (2, 6), (8, 1)], [.int .i64 0, .int .i64 0, .int .i64 0, .int .i64 0, .int .i64 0, .int .i64 0, .int .i64 0, .slice none 0 0, .int .i64 0]) := by kernel_rfl
@[go_sem] theorem bdTy98 : bdTy Tryz.prog 98 = some ([(0, 1), (1, 1), (2, 1)], [.int .i64 0, .int .i64 0, .slice none 0 0]) := by kernel_rfl
@[go_sem] theorem bdTy110 : bdTy Tryz.prog 110 = some ([(0, 2)], [.slice none 0 0, .slice none 0 0]) := by kernel_rfl
@[go_sem] theorem bdTy115 : bdTy Tryz.prog 115 = some ([(0, 1), (1, 8)], [.int .i64 0, .int .u8 0, .int .u8 0, .int .u8 0, .int .u8 0, .int .u8 0, .int .u8 0, .int .u8 0, .int .u8 0]) := by kernel_rfl
@[go_sem] theorem bdTy151 : bdTy Tryz.prog 151 = some ([(0, 1), (1, 1)], [.nilFunc, .nilFunc]) := by kernel_rfl
@[go_sem] theorem bdTy154 : bdTy Tryz.prog 154 = some ([(0, 1), (1, 1)], [.int .i64 0, .slice none 0 0]) := by kernel_rfl
@[go_sem] theorem bdTy156 : bdTy Tryz.prog 156 = some ([(0, 2), (2, 1)], [.int .i64 0, .slice none 0 0, .slice none 0 0]) := by kernel_rfl
@[go_sem] theorem bdTy157 : bdTy Tryz.prog 157 = some ([(0, 3), (3, 3)], [.int .i64 0, .slice none 0 0, .slice none 0 0, .int .i64 0, .slice none 0 0, .slice none 0 0]) := by kernel_rfl
@[go_sem] theorem bdTy166 : bdTy Tryz.prog 166 = some ([(0, 1)], [.int .i64 0]) := by kernel_rfl
@[go_sem] theorem bdTy172 : bdTy Tryz.prog 172 = some ([(0, 1), (1, 1), (2, 1)], [.slice none 0 0, .int .i64 0, .int .i64 0]) := by kernel_rfl
@[go_sem] theorem bdTy188 : bdTy Tryz.prog 188 = some ([(0, 1)], [.slice none 0 0]) := by kernel_rfl
@[go_sem] theorem cvTy3_5 : cvTy Tryz.prog 3 5 = some (some .u8) := by kernel_rfl
@[go_sem] theorem cvTy3_95 : cvTy Tryz.prog 3 95 = some (some .u32) := by kernel_rfl
@[go_sem] theorem cvTy3_136 : cvTy Tryz.prog 3 136 = some (some .u64) := by kernel_rfl
@[go_sem] theorem cvTy3_235 : cvTy Tryz.prog 3 235 = some (some .u64) := by kernel_rfl
@[go_sem] theorem cvTy5_3 : cvTy Tryz.prog 5 3 = some (some .i64) := by kernel_rfl
@[go_sem] theorem cvTy5_21 : cvTy Tryz.prog 5 21 = some (some .i32) := by kernel_rfl
@[go_sem] theorem cvTy5_95 : cvTy Tryz.prog 5 95 = some (some .u32) := by kernel_rfl
@[go_sem] theorem cvTy51_9 : cvTy Tryz.prog 51 9 = some none := by kernel_rfl
@[go_sem] theorem cvTy95_3 : cvTy Tryz.prog 95 3 = some (some .i64) := by kernel_rfl
@[go_sem] theorem cvTy95_5 : cvTy Tryz.prog 95 5 = some (some .u8) := by kernel_rfl
@[go_sem] theorem cvTy136_3 : cvTy Tryz.prog 136 3 = some (some .i64) := by kernel_rfl
@[go_sem] theorem cvTy136_95 : cvTy Tryz.prog 136 95 = some (some .u32) := by kernel_rfl
@[go_sem] theorem cvTy234_5 : cvTy Tryz.prog 234 5 = some (some .u8) := by kernel_rfl
@[go_sem] theorem mpTy196 : mpTy Tryz.prog 196 = some (.slice none 0 0) := by kernel_rfl
@[go_sem] theorem strTy9 : Tryz.prog.underlying 9 = some .string := by kernel_rfl
@[go_sem] theorem boolTy4 : Tryz.prog.underlying 4 = some .bool := by kernel_rfl
end Go.Proofs.YtmgoflhjblombaaGreatDoor
namespace Go.Proofs.YtmgoflhjblombaaGreatDoor
open Go.Proofs
def nPc (len n : Nat) : Nat := (len + n - 1) / n
theorem nPc_lt {len n i : Nat} (hn : 1 ≤ n) : i < nPc len n ↔ n * i < len := by
  unfold nPc
  rw [Nat.lt_div_iff_mul_lt (by omega), Nat.mul_comm]
  omega
theorem nPc_le {len n : Nat} (hn : 1 ≤ n) : nPc len n ≤ len := by
  rcases Nat.lt_or_ge len (nPc len n) with h | h
  · have := (nPc_lt (len := len) hn).1 h
    have := Nat.le_mul_of_pos_left len hn
    omega
  · exact h
def pcOf (l : List UInt8) (n i : Nat) : List UInt8 := (l.drop (n * i)).take n
theorem Chunk_cc (H : Hp) (V : List Nat) (tk : Tk) (l : List UInt8) (n : Nat) (hn : 1 ≤ n) (hok : okTk V.length tk) : CC Tryz.prog 76 [.sl tk 1 (bs l), ci n] H V (fun r H' V' => r = .fn 100 [.ptr H.length 0, .ptr (H.length + 1) 0] ∧ H' = H ++ [some [.sl tk 1 (bs l)], some [ci n]] ∧ V = V') := by
  refine CC.of_swp Tryz.func76 rfl (by kernel_rfl) (by rw [Tryz.ntmps76]; exact len_le _ _ rfl) fun hok' hokH => ?_
  refine SWp.seq (Wp.s ?_)
  simp -implicitDefEqProofs [go_sem, args0]
  refine SWp.seq (SWp.seq (Wp.s ?_))
  simp -implicitDefEqProofs [go_sem, show ¬ (n : Int) < 1 by omega]
  refine Wp.s ?_
  simp -implicitDefEqProofs [go_sem]
  refine SWp.seq (Wp.s ?_)
  simp -implicitDefEqProofs [go_sem]
  refine Wp.s ?_
  simp -implicitDefEqProofs [go_sem]
  refine Fin.cut (H.length + 2) V.length ⟨rfl, rfl, rfl⟩ (by omega) (Nat.le_refl _) (List.take_of_length_le (by simp)) (List.take_of_length_le (Nat.le_refl _)) (.refl _) (by simp [go_sem]) ?_
  intro b cs hb
  rw [List.getElem?_append] at hb
  split at hb
  · exact okL_mono (by omega) (Nat.le_refl _) (hokH b cs hb)
  · exact okH_get (i := H.length + 2) (j := V.length) (L := [some [.sl tk 1 (bs l)], some [ci n]]) (by simp [go_sem, okV_slt, hok]) _ _ hb
theorem chunk1_cc (H : Hp) (V : List Nat) (L b2 b3 : Nat) (tk : Tk) (l : List UInt8) (n : Nat) (hn : 1 ≤ n) (hn2 : n ≤ 1000000) (hl : l.length ≤ 1000000000) (I : Nat → Hp → List Nat → Prop) (h0 : I 0 H V)
    (hI : ∀ i H V, I i H V → H[b2]? = some (some [.sl tk 1 (bs l)]) ∧ H[b3]? = some (some [ci n]))
    (hy : ∀ i, i < nPc l.length n → ∀ H V, I i H V → YC Tryz.prog L [.sl .ti 1 (bs (pcOf l n i))] H V (fun r H' V' => r = .v (.bool true) ∧ I (i + 1) H' V')) :
    CC Tryz.prog 100 [.yl L, .ptr b2 0, .ptr b3 0] H V (fun _ H' V' => I (nPc l.length n) H' V') := by
  refine CC.of_swp Tryz.func100 rfl (by kernel_rfl) (by rw [Tryz.ntmps100]; exact len_le _ _ rfl) fun hok hokH => ?_
  clear hok
  refine SWp.seq (Wp.s ?_)
  simp -implicitDefEqProofs [go_sem, args0]
  refine SWp.block ?_
  refine SWp.loop (α := Nat × Hp × List Nat) (fun x => ([(0, .yl L), (1, .ptr b2 0), (2, .ptr b3 0), (4, ci (n * x.1 : Nat))], x.2.1, x.2.2)) (fun x => x.1 ≤ nPc l.length n ∧ I x.1 x.2.1 x.2.2) (fun x => nPc l.length n - x.1) (0, H, V) ⟨by omega, h0⟩ (Sh.forget (by simp [go_sem]) rfl rfl) ?_
  rintro ⟨i, H1, V1⟩ ⟨hi, hi1⟩
  dsimp only at hi hi1 ⊢
  obtain ⟨g2, g3⟩ := hI _ _ _ hi1
  have hlt := nPc_lt (len := l.length) (i := i) hn
  obtain ⟨p, hp⟩ : ∃ p, p = n * i := ⟨_, rfl⟩
  rw [← hp] at hlt ⊢
  refine SWp.seq (SWp.seq (Wp.s ?_))
  simp -implicitDefEqProofs [go_sem, hbx_of g2, hbx_of g3]
  by_cases h : i < nPc l.length n
  case neg =>
    have hpl : ¬ p < l.length := fun q => h (hlt.2 q)
    refine Wp.s ?_
    simp -implicitDefEqProofs [go_sem, hpl]
    obtain rfl : i = nPc l.length n := by omega
    exact Fin.self hi1
  have hpl := hlt.1 h
  refine Wp.s ?_
  simp -implicitDefEqProofs [go_sem, hpl]
  obtain ⟨q, hq⟩ : ∃ q : Nat, q = min n (l.length - p) := ⟨_, rfl⟩
  have hqm : min (n : Int) ((l.length - p : Nat) : Int) = (q : Int) := by omega
  have hqp : p + q ≤ l.length := by omega
  have w1 : IntKind.i64.wrap ((p : Int) + (q : Int)) = ((p + q : Nat) : Int) := by rw [IntWalk.i64_in _ ⟨by omega, by omega⟩]; omega
  have w2 : IntKind.i64.wrap ((p : Int) + (n : Int)) = ((p + n : Nat) : Int) := by rw [IntWalk.i64_in _ ⟨by omega, by omega⟩]; omega
  have hpc : ((l.take ((p : Int) + (q : Int)).toNat).drop p) = pcOf l n i := by
    unfold pcOf
    rw [show ((p : Int) + (q : Int)).toNat = p + q by omega]
    rw [← hp, List.drop_take, Nat.add_sub_cancel_left, hq]
    rcases Nat.le_total n (l.length - p) with h1 | h1
    · rw [Nat.min_eq_left h1]
    · rw [Nat.min_eq_right h1, List.take_of_length_le (by simp), List.take_of_length_le (by simpa using h1)]
  refine SWp.seq (SWp.block (SWp.seq ?_))
  refine SWp.drawnT [] [] (.s 0 .pl <| .s 1 .pl <| .s 2 .pl <| .s 3 .pl <| .s 4 .pl <| .s 5 .pl <| .s 6 .pl <| .n) (by kernel_rfl) (by kernel_rfl) ?_
  simp -implicitDefEqProofs [go_sem, hbx_of g2, hbx_of g3, hqm, show p ≤ l.length by omega]
  refine SWp.seq (Wp.s ?_)
  simp -implicitDefEqProofs [go_sem, hbx_of g2, hbx_of g3, w1, hpc]
  refine ⟨by omega, by omega, by omega, ?_⟩
  refine YC.mono (hy i h _ _ hi1) ?_
  rintro _ H2 V2 ⟨rfl, hi2⟩
  obtain ⟨k2, k3⟩ := hI _ _ _ hi2
  simp -implicitDefEqProofs [go_sem]
  refine Wp.s ?_
  simp -implicitDefEqProofs [go_sem]
  refine Wp.s ?_
  simp -implicitDefEqProofs [go_sem, hbx_of k2, hbx_of k3, w2]
  refine ⟨i + 1, H2, V2, ⟨by omega, hi2⟩, by omega, Sh.forget ?_ rfl rfl⟩
  have e : (n : Int) * ((i : Int) + 1) = (p : Int) + (n : Int) := by rw [Int.mul_add, Int.mul_one]; omega
  simp [go_sem, e]
end Go.Proofs.YtmgoflhjblombaaGreatDoor
namespace Go.Proofs.YtmgoflhjblombaaGreatDoor
structure Cach where
  pos : Int
  data : Sec
def cachC (c : Cach) : List CV := .v (.int .i64 c.pos) :: secC c.data
@[go_sem, simp] theorem cachC_len (c : Cach) : (cachC c).length = 9 := by rw [cachC, List.length_cons, secC_len]
@[go_sem, simp] theorem cachC_0 (c : Cach) (h : 0 < (cachC c).length) : (cachC c)[0] = CV.v (.int .i64 c.pos) := rfl
@[go_sem, simp] theorem cachC_drop (c : Cach) : (cachC c).drop 1 = secC c.data := rfl
@[go_sem, simp] theorem cachC_take (c : Cach) : (cachC c).take 9 = cachC c := List.take_of_length_le (by simp)
@[go_sem, simp] theorem cachC_all (c : Cach) : allOne (cachC c) = true := by rw [cachC, allOne_cons, secC_all]; rfl
@[go_sem] theorem okL_cachC (jb jv : Nat) (c : Cach) : okL jb jv (cachC c) = True := by simp [cachC, okL, okV, okL_secC]
@[go_sem] theorem okE_cach (jb jv : Nat) (l : List Cach) : okE jb jv (l.map cachC) = True := eq_true (okE_map cachC l fun e => by rw [okL_cachC]; trivial)
structure Dk where
  stable : List Sec
  cache : List Cach
abbrev cachV (l : List Cach) : CV := .sl .sh 9 (l.map cachC)
def dkC (d : Dk) : List CV := [secsV d.stable, cachV d.cache]
@[go_sem, simp] theorem dkC_len (d : Dk) : (dkC d).length = 2 := by rw [dkC]; rfl
@[go_sem, simp] theorem dkC_take (d : Dk) : (dkC d).take 2 = dkC d := rfl
@[go_sem, simp] theorem dkC_all (d : Dk) : allOne (dkC d) = true := rfl
@[go_sem, simp] theorem dkC_0 (d : Dk) (h : 0 < (dkC d).length) : (dkC d)[0] = secsV d.stable := rfl
@[go_sem, simp] theorem dkC_1 (d : Dk) (h : 1 < (dkC d).length) : (dkC d)[1] = cachV d.cache := rfl
@[go_sem] theorem okL_dkC (jb jv : Nat) (d : Dk) : okL jb jv (dkC d) = True := by simp [dkC, okL, okV, okTk, okE_secs, okE_cach]
structure Opn where
  kind : Int
  pos : Int
  data : List Sec
def opC (x : Opn) : List CV := [.v (.int .i64 x.kind), .v (.int .i64 x.pos), secsV x.data]
@[go_sem, simp] theorem opC_len (x : Opn) : (opC x).length = 3 := by rw [opC]; rfl
@[go_sem, simp] theorem opC_take (x : Opn) : (opC x).take 3 = opC x := rfl
@[go_sem, simp] theorem opC_all (x : Opn) : allOne (opC x) = true := rfl
@[go_sem, simp] theorem opC_0 (x : Opn) (h : 0 < (opC x).length) : (opC x)[0] = CV.v (.int .i64 x.kind) := rfl
@[go_sem, simp] theorem opC_1 (x : Opn) (h : 1 < (opC x).length) : (opC x)[1] = CV.v (.int .i64 x.pos) := rfl
@[go_sem, simp] theorem opC_2 (x : Opn) (h : 2 < (opC x).length) : (opC x)[2] = secsV x.data := rfl
@[go_sem] theorem okL_opC (jb jv : Nat) (x : Opn) : okL jb jv (opC x) = True := by simp [opC, okL, okV, okTk, okE_secs]
@[go_sem] theorem okE_ops (jb jv : Nat) (l : List Opn) : okE jb jv (l.map opC) = True := eq_true (okE_map opC l fun e => by rw [okL_opC]; trivial)
abbrev opsV (l : List Opn) : CV := .sl .sh 3 (l.map opC)
def badAt (d : Dk) (c : Cach) : Bool := decide (c.pos < 0) || decide ((d.stable.length : Int) ≤ c.pos)
def checkD (d : Dk) : Nat := if 4096 < d.stable.length ∨ d.cache.any (badAt d) = true then 2 else 0
def setC (l : List Sec) (c : Cach) : List Sec := l.set c.pos.toNat c.data
def newestD (d : Dk) : List Sec := d.cache.foldl setC d.stable
theorem foldl_setC_len : ∀ (cs : List Cach) (l : List Sec), (cs.foldl setC l).length = l.length
  | [], l => rfl
  | c :: cs, l => by rw [List.foldl_cons, foldl_setC_len cs, setC, List.length_set]
theorem newestD_len (d : Dk) : (newestD d).length = d.stable.length := foldl_setC_len _ _
def insideB (d : Dk) (a n : Int) : Bool := decide (0 ≤ a) && decide (0 ≤ n) && decide (n ≤ (d.stable.length : Int)) && decide (a ≤ (d.stable.length : Int) - n)
def readD (d : Dk) (a n : Int) : List Sec × Nat :=
  if checkD d ≠ 0 then ([], checkD d) else if insideB d a n = false then ([], 2) else (((newestD d).drop a.toNat).take n.toNat, 0)
theorem checkD_0 {d : Dk} (h : checkD d = 0) : d.stable.length ≤ 4096 ∧ ∀ c ∈ d.cache, 0 ≤ c.pos ∧ c.pos.toNat < d.stable.length := by
  unfold checkD at h
  by_cases hc : 4096 < d.stable.length ∨ d.cache.any (badAt d) = true
  · rw [if_pos hc] at h; cases h
  · obtain ⟨h1, h2⟩ := not_or.1 hc
    refine ⟨by omega, fun c hm => ?_⟩
    have h3 : ¬ badAt d c = true := fun h3 => h2 (List.any_eq_true.2 ⟨c, hm, h3⟩)
    unfold badAt at h3
    rw [Bool.or_eq_true, decide_eq_true_eq, decide_eq_true_eq, not_or] at h3
    omega
def writeD (d : Dk) (a : Int) (l : List Sec) : Option Dk :=
  if insideB d a l.length = true then some ⟨d.stable, d.cache ++ (l.zipIdx.map fun p => ⟨a + p.2, p.1⟩)⟩ else none
def stepD (d : Dk) (o : Opn) : Except Nat Dk :=
  if o.kind < 0 ∨ 2 ≤ o.kind then .error 1 else if o.kind = 0 then (match writeD d o.pos o.data with | some d' => .ok d' | none => .error 2) else .ok ⟨newestD d, []⟩
def runD : Dk → List Opn → Nat → Except (Nat × Nat) (Dk × Nat)
  | d, [], i => .ok (d, i)
  | d, o :: os, i => match stepD d o with | .ok d' => runD d' os (i + 1) | .error e => .error (i, e)
end Go.Proofs.YtmgoflhjblombaaGreatDoor
namespace Go.Proofs.YtmgoflhjblombaaGreatDoor
open Go.Proofs
theorem bitop_or (k : IntKind) (x y : Nat) (hx : x < 2 ^ k.bits) (hy : y < 2 ^ k.bits) : bitop .or k (x : Int) (y : Int) = k.wrap ((x ||| y : Nat) : Int) := by
  unfold bitop
  have h1 : (BitVec.ofInt k.bits (x : Int)).toNat = x := by
    rw [BitVec.ofInt_natCast, BitVec.toNat_ofNat, Nat.mod_eq_of_lt hx]
  have h2 : (BitVec.ofInt k.bits (y : Int)).toNat = y := by
    rw [BitVec.ofInt_natCast, BitVec.toNat_ofNat, Nat.mod_eq_of_lt hy]
  simp only [BitVec.toNat_or, h1, h2]
def sb (s : Sec) (i : Nat) : Nat := (s.val.getD i 0).toNat
theorem sb_lt (s : Sec) (i : Nat) : sb s i < 256 := UInt8.toNat_lt _
theorem secC_get (s : Sec) (i : Nat) (h : i < (secC s).length) : (secC s)[i] = CV.v (.int .u8 (sb s i : Int)) := by
  have h8 : i < s.val.length := by simpa [secC] using h
  simp only [secC, List.getElem_map, sb, List.getD_eq_getElem?_getD, List.getElem?_eq_getElem h8, Option.getD_some]
def gi (s : Sec) : Nat → Nat
  | 0 => 0
  | i + 1 => gi s i * 256 + sb s (3 - i)
def gn (s : Sec) : Nat := gi s 4
theorem gi_lt (s : Sec) : ∀ i, gi s i < 256 ^ i
  | 0 => Nat.one_pos
  | i + 1 => by
    have := gi_lt s i
    have := sb_lt s (3 - i)
    rw [gi, Nat.pow_succ]; omega
theorem gn_lt (s : Sec) : gn s < 4294967296 := gi_lt s 4
theorem or_add (a b : Nat) (hb : b < 256) : a * 256 ||| b = a * 256 + b := by
  have := Nat.two_pow_add_eq_or_of_lt (i := 8) (b := b) hb a
  rw [Nat.mul_comm a 256]; exact this.symm
theorem gi_step (s : Sec) (i : Nat) (h : i < 4) : bitop .or .i64 (shl .i64 (gi s i : Int) 8) (sb s (3 - i) : Int) = ((gi s (i + 1) : Nat) : Int) := by
  have h1 := gi_lt s i
  have h2 := sb_lt s (3 - i)
  have h3 : gi s i < 16777216 := Nat.lt_of_lt_of_le h1 (by
    have := Nat.pow_le_pow_right (show 0 < 256 by decide) (show i ≤ 3 by omega)
    exact this)
  have e1 : shl .i64 (gi s i : Int) 8 = ((gi s i * 256 : Nat) : Int) := by
    unfold shl
    rw [show (2 : Int) ^ (min (8 : Int).toNat IntKind.i64.bits) = 256 by rfl, IntWalk.i64_in _ ⟨by omega, by omega⟩]
    omega
  rw [e1, bitop_or _ _ _ (by show _ < 2 ^ 64; omega) (by show _ < 2 ^ 64; omega), or_add _ _ h2, IntWalk.i64_in _ ⟨by omega, by omega⟩, gi]
theorem sgeneration_cc (H : Hp) (V : List Nat) (s : Sec) : CC Tryz.prog 117 [.agg (secC s)] H V (Pu (ci (gn s)) H V) := by
  refine CC.of_swp Tryz.func117 rfl (by kernel_rfl) (by rw [Tryz.ntmps117]; exact len_le _ _ rfl) fun hok hokH => ?_
  clear hok
  refine SWp.seq (Wp.s ?_)
  simp -implicitDefEqProofs [go_sem, args0]
  refine SWp.seq (Wp.s ?_)
  simp -implicitDefEqProofs [go_sem]
  refine SWp.join (α := Unit) (fun _ => ([(3, ci (gn s))], H ++ [some (secC s)], V)) (fun _ => True) ?_ ?_
  · refine SWp.seq (Wp.s ?_)
    simp -implicitDefEqProofs [go_sem]
    refine SWp.block ?_
    refine SWp.loop (α := Nat) (fun i => ([(1, .ptr H.length 0), (3, ci (gi s i)), (4, ci (3 - (i : Int)))], H ++ [some (secC s)], V)) (fun i => i ≤ 4) (fun i => 4 - i) 0 (by simp) (Sh.forget (by simp -implicitDefEqProofs [go_sem, gi]) rfl rfl) ?_
    intro i hi
    dsimp only
    refine SWp.seq (Wp.s ?_)
    simp -implicitDefEqProofs [go_sem]
    refine ⟨fun h => ?_, fun h => Sh.forget (by
      have h' : (3 : Int) < i := h
      obtain rfl : i = 4 := by omega
      simp -implicitDefEqProofs [go_sem, gn]) rfl rfl⟩
    have h4 : i < 4 := by omega
    have e1 : (3 - (i : Int)).toNat = 3 - i := by omega
    have u : IntKind.i64.wrap (sb s (3 - i) : Int) = (sb s (3 - i) : Int) := by have := sb_lt s (3 - i); exact IntWalk.i64_in _ ⟨by omega, by omega⟩
    refine SWp.seq (SWp.block ?_)
    refine Wp.s ?_
    simp -implicitDefEqProofs [go_sem, u, show (i : Int) ≤ 3 by omega, show (3 - (i : Int)) < 8 by omega, e1, secC_get, show 3 - i < 8 by omega, gi_step s i h4]
    refine Wp.s ?_
    simp -implicitDefEqProofs [go_sem, IntWalk.i64_in (3 - (i : Int) - 1) ⟨by omega, by omega⟩]
    exact ⟨i + 1, by omega, by omega, Sh.forget (by simp -implicitDefEqProofs [go_sem, show (3 - (i : Int) - 1) = 3 - ((i : Int) + 1) by omega]) rfl rfl⟩
  · rintro _ -
    dsimp only
    refine Wp.s ?_
    simp -implicitDefEqProofs [go_sem]
    exact Fin.int rfl hokH (by simp) (by simp)
theorem or_add' (a b i : Nat) (ha : a < 2 ^ i) : a ||| b * 2 ^ i = a + b * 2 ^ i := by
  have := Nat.two_pow_add_eq_or_of_lt (i := i) (b := a) ha b
  rw [Nat.or_comm, Nat.mul_comm b, ← this, Nat.add_comm]
theorem sinside_cc (H : Hp) (V : List Nat) (d : Dk) (a n : Int) (hl : d.stable.length ≤ 1000000000) : CC Tryz.prog 59 [.agg (dkC d), ci a, ci n] H V (Pu (cb (insideB d a n)) H V) := by
  refine CC.of_swp Tryz.func59 rfl (by kernel_rfl) (by rw [Tryz.ntmps59]; exact len_le _ _ rfl) fun hok hokH => ?_
  clear hok
  refine SWp.seq (Wp.s ?_)
  simp -implicitDefEqProofs [go_sem, args0]
  refine SWp.seq (Wp.s ?_)
  by_cases h1 : 0 ≤ a
  case neg =>
    simp -implicitDefEqProofs [go_sem, h1]
    refine Wp.s ?_
    simp -implicitDefEqProofs [go_sem]
    exact Fin.bool (by simp [insideB, h1]) hokH (by simp) (by simp)
  by_cases h2 : 0 ≤ n
  case neg =>
    simp -implicitDefEqProofs [go_sem, h1, h2]
    refine Wp.s ?_
    simp -implicitDefEqProofs [go_sem]
    exact Fin.bool (by simp [insideB, h1, h2]) hokH (by simp) (by simp)
  by_cases h3 : n ≤ (d.stable.length : Int)
  case neg =>
    simp -implicitDefEqProofs [go_sem, h1, h2, h3]
    refine Wp.s ?_
    simp -implicitDefEqProofs [go_sem]
    exact Fin.bool (by simp [insideB, h1, h2, h3]) hokH (by simp) (by simp)
  simp -implicitDefEqProofs [go_sem, h1, h2, h3, IntWalk.i64_in ((d.stable.length : Int) - n) ⟨by omega, by omega⟩]
  refine Wp.s ?_
  simp -implicitDefEqProofs [go_sem]
  exact Fin.bool (by simp [insideB, h1, h2, h3]) hokH (by simp) (by simp)
theorem sCheck1_cc (H : Hp) (V : List Nat) (d : Dk) (c : Cach) (b : Nat) (hb : H[b]? = some (some (dkC d))) : CC Tryz.prog 56 [.agg (cachC c), .ptr b 0] H V (Pu (cb (badAt d c)) H V) := by
  refine CC.of_swp Tryz.func56 rfl (by kernel_rfl) (by rw [Tryz.ntmps56]; exact len_le _ _ rfl) fun hok hokH => ?_
  clear hok
  have hb' : ∀ K, hbx (H ++ [some (cachC c)]) b K = K (dkC d) := fun K => by
    have : b < H.length := by
      rcases Nat.lt_or_ge b H.length with h | h
      · exact h
      · rw [List.getElem?_eq_none h] at hb; cases hb
    unfold hbx; rw [List.getElem?_append_left this, hb]
  refine SWp.seq (Wp.s ?_)
  simp -implicitDefEqProofs [go_sem, args0]
  refine SWp.seq (Wp.s ?_)
  by_cases h1 : c.pos < 0
  · simp -implicitDefEqProofs [go_sem, h1]
    refine Wp.s ?_
    simp -implicitDefEqProofs [go_sem]
    exact Fin.bool (by simp [badAt, h1]) hokH (by simp) (by simp)
  · simp -implicitDefEqProofs [go_sem, h1, hb']
    refine Wp.s ?_
    simp -implicitDefEqProofs [go_sem]
    exact Fin.bool (by simp [badAt, h1]) hokH (by simp) (by simp)
end Go.Proofs.YtmgoflhjblombaaGreatDoor
namespace Go.Proofs.YtmgoflhjblombaaGreatDoor
def le4 (n : Nat) : List UInt8 := [UInt8.ofNat (n % 256), UInt8.ofNat (n / 256 % 256), UInt8.ofNat (n / 65536 % 256), UInt8.ofNat (n / 16777216 % 256)]
theorem le4_len (n : Nat) : (le4 n).length = 4 := rfl
def mkSec (l : List UInt8) : Sec := if h : l.length = 8 then ⟨l, h⟩ else sec0
theorem mkSec_val {l : List UInt8} (h : l.length = 8) : (mkSec l).val = l := by rw [mkSec, dif_pos h]
def dataOf (p : List UInt8) : List UInt8 := UInt8.ofNat p.length :: p ++ List.replicate (31 - p.length) 0
theorem dataOf_len {p : List UInt8} (h : p.length ≤ 31) : (dataOf p).length = 32 := by simp [dataOf]; omega
def partOf (p : List UInt8) (i : Nat) : List UInt8 := ((dataOf p).drop (4 * i)).take 4
theorem partOf_len {p : List UInt8} (h : p.length ≤ 31) {i : Nat} (hi : i < 8) : (partOf p i).length = 4 := by
  rw [partOf, List.length_take, List.length_drop, dataOf_len h]; omega
def secOf (n : Nat) (p : List UInt8) (i : Nat) : Sec := mkSec (le4 n ++ partOf p i)
theorem secOf_val {p : List UInt8} (n : Nat) (h : p.length ≤ 31) {i : Nat} (hi : i < 8) : (secOf n p i).val = le4 n ++ partOf p i := mkSec_val (by rw [List.length_append, le4_len, partOf_len h hi])
def copyS (n : Nat) (p : List UInt8) : List Sec := (List.range 8).map (secOf n p)
theorem copyS_len (n : Nat) (p : List UInt8) : (copyS n p).length = 8 := by simp [copyS]
def dataS (l : List Sec) : List UInt8 := l.flatMap fun s => s.val.drop 4
theorem dataS_len (l : List Sec) : (dataS l).length = 4 * l.length := by
  induction l with
  | nil => rfl
  | cons a l ih =>
    have := a.len
    rw [dataS, List.flatMap_cons, List.length_append, List.length_drop, List.length_cons, this]
    rw [dataS] at ih
    omega
def okData (l : List UInt8) : Bool := decide ((l.getD 0 0).toNat ≤ 31) && (l.drop ((l.getD 0 0).toNat + 1)).all (· == 0)
def g0 (l : List Sec) : Nat := gn (l.getD 0 sec0)
def valid (l : List Sec) : Bool := l.all (fun s => gn s == g0 l) && okData (dataS l)
def pay (l : List Sec) : List UInt8 := ((dataS l).drop 1).take ((dataS l).getD 0 0).toNat
def parseS (l : List Sec) : Nat × List UInt8 := if valid l = true then (g0 l, pay l) else (0, [])
def findE (d : Dk) (a : Int) : Nat := (readD d a 16).2
def findL (d : Dk) (a : Int) : List Sec := (readD d a 16).1
def cA (l : List Sec) : Nat × List UInt8 := parseS (l.take 8)
def cB (l : List Sec) : Nat × List UInt8 := parseS (l.drop 8)
def new1 (l : List Sec) : Nat := if (cA l).1 < (cB l).1 then 1 else 0
def best (l : List Sec) : Nat × List UInt8 := if (cA l).1 < (cB l).1 then cB l else cA l
def loadS (d : Dk) (a : Int) : List UInt8 × Nat × Nat :=
  if findE d a ≠ 0 then ([], 0, findE d a) else if (best (findL d a)).1 = 0 then ([], 0, 9) else ((best (findL d a)).2, (best (findL d a)).1, 0)
def topS (l : List Sec) : Nat := l.foldl (fun m s => max m (gn s)) 0
def opW (a : Int) (l : List Sec) : Opn := ⟨0, a, l⟩
def opS : Opn := ⟨1, 0, []⟩
def storeS (d : Dk) (a : Int) (p : List UInt8) : List Opn × Nat :=
  if findE d a ≠ 0 then ([], findE d a) else if (best (findL d a)).1 = 0 then ([], 9) else if 31 < p.length then ([], 5) else if topS (findL d a) = 4294967295 then ([], 11)
  else ([opW (a + 8 - 8 * (new1 (findL d a) : Int)) (copyS (topS (findL d a) + 1) p), opS], 0)
def formatS (a : Int) (p : List UInt8) : List Opn × Nat :=
  if a < 0 ∨ 4080 < a then ([], 2) else if 31 < p.length then ([], 5) else ([opW a (List.replicate 16 sec0), opS, opW a (copyS 1 p), opS], 0)
end Go.Proofs.YtmgoflhjblombaaGreatDoor
namespace Go.Proofs.YtmgoflhjblombaaGreatDoor
open Go.Proofs
structure Rcd where
  kind : Int
  sq : Int
  pay : List UInt8
def rcC (r : Rcd) : List CV := [.v (.int .i64 r.kind), .v (.int .i64 r.sq), .sl .sh 1 (bs r.pay)]
@[go_sem, simp] theorem rcC_len (r : Rcd) : (rcC r).length = 3 := by rw [rcC]; rfl
@[go_sem, simp] theorem rcC_take (r : Rcd) : (rcC r).take 3 = rcC r := rfl
@[go_sem, simp] theorem rcC_drop (r : Rcd) : (rcC r).drop 3 = [] := rfl
@[go_sem, simp] theorem rcC_all (r : Rcd) : allOne (rcC r) = true := rfl
@[go_sem, simp] theorem rcC_0 (r : Rcd) (h : 0 < (rcC r).length) : (rcC r)[0] = CV.v (.int .i64 r.kind) := rfl
@[go_sem, simp] theorem rcC_1 (r : Rcd) (h : 1 < (rcC r).length) : (rcC r)[1] = CV.v (.int .i64 r.sq) := rfl
@[go_sem, simp] theorem rcC_2 (r : Rcd) (h : 2 < (rcC r).length) : (rcC r)[2] = .sl .sh 1 (bs r.pay) := rfl
@[go_sem] theorem okL_rcC (i j : Nat) (r : Rcd) : okL i j (rcC r) = True := by simp [rcC, go_sem, okL, okV]
@[go_sem] theorem okE_rcs (i j : Nat) (l : List Rcd) : okE i j (l.map rcC) = True := eq_true (okE_map rcC l fun e => by rw [okL_rcC]; trivial)
def zrc : Rcd := ⟨0, 0, []⟩
def bodyR (kind : Int) (p : List UInt8) : List UInt8 := byt kind :: UInt8.ofNat (p.length % 256) :: UInt8.ofNat (p.length / 256 % 256) :: p
def strmR (kind : Int) (p : List UInt8) : List UInt8 := bodyR kind p ++ le4 (crc (bodyR kind p)).toNat
def quadR (st : List UInt8) (i : Nat) : List UInt8 := let q := (st.drop (4 * i)).take 4; q ++ List.replicate (4 - q.length) 0
def secR (sq : Nat) (st : List UInt8) (i : Nat) : Sec := mkSec (le4 sq ++ quadR st i)
def secsR (sq : Nat) (st : List UInt8) : List Sec := (List.range ((st.length + 3) / 4)).map (secR sq st)
def szR (n : Int) : Int := if n < 0 ∨ 4096 < n then 0 else (n + 10) / 4
def encR (r : Rcd) : Except Nat (List Sec) :=
  if r.kind < 1 ∨ 255 < r.kind ∨ r.sq < 1 ∨ 4294967295 < r.sq then .error 2 else if 4096 < r.pay.length then .error 5 else .ok (secsR r.sq.toNat (strmR r.kind r.pay))
def lenR (s : Sec) : Nat := (s.val.getD 5 0).toNat + 256 * (s.val.getD 6 0).toNat
structure Jrn where
  start : Int
  count : Int
  head : Int
  tail : Int
  first : Int
  sizes : List Int
def jrC (j : Jrn) : List CV := [.v (.int .i64 j.start), .v (.int .i64 j.count), .v (.int .i64 j.head), .v (.int .i64 j.tail), .v (.int .i64 j.first), .sl .sh 1 (j.sizes.map ic)]
@[go_sem, simp] theorem jrC_len (r : Jrn) : (jrC r).length = 6 := by rw [jrC]; rfl
@[go_sem, simp] theorem jrC_take (r : Jrn) : (jrC r).take 6 = jrC r := rfl
@[go_sem, simp] theorem jrC_drop (r : Jrn) : (jrC r).drop 6 = [] := rfl
@[go_sem, simp] theorem jrC_take2 (r : Jrn) : (jrC r).take 2 = [.v (.int .i64 r.start), .v (.int .i64 r.count)] := rfl
@[go_sem, simp] theorem jrC_all (r : Jrn) : allOne (jrC r) = true := rfl
@[go_sem, simp] theorem jrC_0 (r : Jrn) (h : 0 < (jrC r).length) : (jrC r)[0] = CV.v (.int .i64 r.start) := rfl
@[go_sem, simp] theorem jrC_1 (r : Jrn) (h : 1 < (jrC r).length) : (jrC r)[1] = CV.v (.int .i64 r.count) := rfl
@[go_sem, simp] theorem jrC_2 (r : Jrn) (h : 2 < (jrC r).length) : (jrC r)[2] = CV.v (.int .i64 r.head) := rfl
@[go_sem, simp] theorem jrC_3 (r : Jrn) (h : 3 < (jrC r).length) : (jrC r)[3] = CV.v (.int .i64 r.tail) := rfl
@[go_sem, simp] theorem jrC_4 (r : Jrn) (h : 4 < (jrC r).length) : (jrC r)[4] = CV.v (.int .i64 r.first) := rfl
@[go_sem, simp] theorem jrC_5 (r : Jrn) (h : 5 < (jrC r).length) : (jrC r)[5] = .sl .sh 1 (r.sizes.map ic) := rfl
@[go_sem] theorem okL_jrC (i j : Nat) (r : Jrn) : okL i j (jrC r) = True := by simp [jrC, go_sem, okL, okV, okE_ints]
def zjr : Jrn := ⟨0, 0, 0, 0, 0, []⟩
def validJ (s c : Int) : Bool := decide (0 ≤ s) && decide (20 ≤ c) && decide (s ≤ 4096) && decide (c ≤ 4096 - s)
def sumI (l : List Int) : Int := l.foldl (· + ·) 0
def okSz (n : Int) : Bool := decide (2 ≤ n) && decide (n ≤ 1026)
def chkJ (j : Jrn) : Bool :=
  validJ j.start j.count && decide (0 ≤ j.head) && decide (j.head < j.count - 16) && decide (1 ≤ j.first) && decide (j.first ≤ 1073741824) && j.sizes.all okSz && decide (sumI j.sizes ≤ j.count - 16) &&
    decide (j.tail = (j.head + sumI j.sizes) % (j.count - 16)) && decide (j.first + j.sizes.length ≤ 1073741824)
def freeJ (j : Jrn) : Int := j.count - 16 - sumI j.sizes
def nextJ (j : Jrn) : Int := j.first + j.sizes.length
def wrapW (s c p : Int) (l : List Sec) : List Opn :=
  let k := min l.length (c - 16 - p).toNat
  opW (s + 16 + p) (l.take k) :: (if k < l.length then [opW (s + 16) (l.drop k)] else [])
def superJ (h f : Int) : List UInt8 := enc h ++ enc f
def formatJ (s c : Int) : Jrn × List Opn × Nat :=
  if validJ s c = false then (zjr, [], 2) else
  if (formatS s (superJ 0 1)).2 ≠ 0 then (zjr, [], (formatS s (superJ 0 1)).2) else (⟨s, c, 0, 0, 1, []⟩, opW (s + 16) (List.replicate (c - 16).toNat sec0) :: opS :: (formatS s (superJ 0 1)).1, 0)
def appJ (j : Jrn) (kind : Int) (p : List UInt8) : Jrn × List Opn × Nat :=
  if chkJ j = false then (zjr, [], 3) else
  match encR ⟨kind, nextJ j, p⟩ with
  | .error e => (zjr, [], e)
  | .ok l =>
    if 1073741824 ≤ nextJ j then (zjr, [], 6) else if freeJ j < l.length then (zjr, [], 11)
    else (⟨j.start, j.count, j.head, (j.tail + l.length) % (j.count - 16), j.first, j.sizes ++ [(l.length : Int)]⟩, wrapW j.start j.count j.tail l ++ [opS], 0)
end Go.Proofs.YtmgoflhjblombaaGreatDoor
namespace Go.Proofs.YtmgoflhjblombaaGreatDoor
open Go.Proofs
theorem sindexC_cc (H : Hp) (V : List Nat) (tk : Tk) (l : List Cach) (d : Dk) (b : Nat) (hb : H[b]? = some (some (dkC d))) (hl : l.length ≤ 900000000) :
    CC Tryz.prog 81 [.sl tk 9 (l.map cachC), .fn 56 [.ptr b 0]] H V (Ix (l.any (badAt d)) H V) := by
  refine CC.of_swp Tryz.func81 rfl (by kernel_rfl) (by rw [Tryz.ntmps81]; exact len_le _ _ rfl) fun hok hokH => ?_
  clear hok
  refine SWp.seq (Wp.s ?_)
  simp -implicitDefEqProofs [go_sem, args0]
  refine SWp.join (α := Unit) (fun _ => ([], H, V)) (fun _ => l.any (badAt d) = false) ?_ ?_
  · refine SWp.seq (Wp.s ?_)
    simp -implicitDefEqProofs [go_sem]
    refine SWp.block ?_
    refine SWp.loop (α := Nat) (fun i => ([(0, .sl tk 9 (l.map cachC)), (1, .fn 56 [.ptr b 0]), (7, ci l.length), (8, ci i)], H, V)) (fun i => i ≤ l.length ∧ (l.take i).any (badAt d) = false) (fun i => l.length - i) 0 ⟨Nat.zero_le _, rfl⟩
      (Sh.forget (by simp -implicitDefEqProofs [go_sem]) rfl rfl) ?_
    rintro i ⟨hi, hp⟩
    dsimp only
    refine Wp.s ?_
    simp -implicitDefEqProofs [go_sem]
    refine ⟨fun h => ⟨h, ?_⟩, fun h => ⟨?_, Sh.forget (by simp -implicitDefEqProofs [go_sem]) rfl rfl⟩⟩
    · refine CC.mono (sCheck1_cc _ _ d _ _ hb) ?_
      rintro _ _ _ ⟨rfl, rfl, rfl⟩
      rcases hq : badAt d l[i] with - | -
      · simp -implicitDefEqProofs [go_sem]
        refine ⟨i + 1, ⟨by omega, by simpa using any_take h hp hq⟩, by omega, Sh.forget ?_ rfl rfl⟩
        simp -implicitDefEqProofs [go_sem, wrap_succ (show i ≤ 1000000000 by omega)]
      · simp -implicitDefEqProofs [go_sem]
        exact Fin.ix (by rw [any_at h hq]; simp) hokH (by simp) (by simp)
    · rw [List.take_of_length_le h] at hp; simpa using hp
  · rintro _ hp
    dsimp only
    refine Wp.s ?_
    simp -implicitDefEqProofs [go_sem]
    exact Fin.ix (by rw [hp]; rfl) hokH (by simp) (by simp)
theorem scontainsC_cc (H : Hp) (V : List Nat) (tk : Tk) (l : List Cach) (d : Dk) (b : Nat) (hb : H[b]? = some (some (dkC d))) (hl : l.length ≤ 900000000) :
    CC Tryz.prog 55 [.sl tk 9 (l.map cachC), .fn 56 [.ptr b 0]] H V (Pu (cb (l.any (badAt d))) H V) := by
  refine CC.of_swp Tryz.func55 rfl (by kernel_rfl) (by rw [Tryz.ntmps55]; exact len_le _ _ rfl) fun hok hokH => Wp.s ?_
  simp -implicitDefEqProofs [go_sem, args0]
  refine CC.mono (sindexC_cc _ _ _ _ d _ hb hl) ?_
  rintro _ _ _ ⟨k, rfl, hk, rfl, rfl⟩
  simp -implicitDefEqProofs [go_sem]
  exact Fin.bool hk hokH (by simp) (by simp)
def DkS (d : Dk) : Prop := d.stable.length ≤ 1000000 ∧ d.cache.length ≤ 1000000
theorem sCheck_cc (H : Hp) (V : List Nat) (d : Dk) (hl : DkS d) : CC Tryz.prog 26 [.agg (dkC d)] H V (Pu (er (checkD d)) H V) := by
  refine CC.of_swp Tryz.func26 rfl (by kernel_rfl) (by rw [Tryz.ntmps26]; exact len_le _ _ rfl) fun hok hokH => ?_
  clear hok
  refine SWp.seq (Wp.s ?_)
  simp -implicitDefEqProofs [go_sem, args0]
  refine Wp.s ?_
  by_cases h1 : 4096 < d.stable.length
  · simp -implicitDefEqProofs [go_sem, show (4096 : Int) < d.stable.length by omega]
    exact Fin.er (by rw [checkD, if_pos (.inl h1)]) hokH (by simp) (by simp)
  · simp -implicitDefEqProofs [go_sem, show ¬ (4096 : Int) < d.stable.length by omega]
    refine CC.mono (scontainsC_cc _ _ .sh _ d _ (by simp) (by have := hl.2; omega)) ?_
    rintro _ _ _ ⟨rfl, rfl, rfl⟩
    rcases hq : d.cache.any (badAt d) with - | -
    · simp -implicitDefEqProofs [go_sem]
      exact Fin.er (by rw [checkD, if_neg (by simp only [hq, not_or]; exact ⟨h1, by decide⟩)]) hokH (by simp) (by simp)
    · simp -implicitDefEqProofs [go_sem]
      exact Fin.er (by rw [checkD, if_pos (.inr hq)]) hokH (by simp) (by simp)
end Go.Proofs.YtmgoflhjblombaaGreatDoor
namespace Go.Proofs.YtmgoflhjblombaaGreatDoor
open Go.Proofs
theorem scloneC_cc (H : Hp) (V : List Nat) (tk : Tk) (l : List Cach) (hx : l.length ≤ 1000000000) : CC Tryz.prog 78 [.sl tk 9 (l.map cachC)] H V (Fr 9 (l.map cachC) H V) := by
  refine CC.of_swp Tryz.func78 rfl (by kernel_rfl) (by rw [Tryz.ntmps78]; exact len_le _ _ rfl) fun hok hokH => ?_
  clear hok
  refine SWp.seq (Wp.s ?_)
  simp -implicitDefEqProofs [go_sem, args0]
  refine SWp.seq (Wp.s ?_)
  simp -implicitDefEqProofs [go_sem]
  refine ⟨Wp.s ?_, fun e => Fin.frtok (by decide) (.inl ⟨rfl, by rw [e]; rfl⟩) (by simp -implicitDefEqProofs [go_sem]) hokH (by simp) (by simp)⟩
  simp -implicitDefEqProofs [go_sem]
  exact ⟨by omega, Fin.fr (by simp -implicitDefEqProofs [go_sem]) hokH (by simp)⟩
theorem scloneS_cc (H : Hp) (V : List Nat) (tk : Tk) (l : List Sec) (hx : l.length ≤ 1000000000) : CC Tryz.prog 77 [.sl tk 8 (l.map secC)] H V (Fr 8 (l.map secC) H V) := by
  refine CC.of_swp Tryz.func77 rfl (by kernel_rfl) (by rw [Tryz.ntmps77]; exact len_le _ _ rfl) fun hok hokH => ?_
  clear hok
  refine SWp.seq (Wp.s ?_)
  simp -implicitDefEqProofs [go_sem, args0]
  refine SWp.seq (Wp.s ?_)
  simp -implicitDefEqProofs [go_sem]
  refine ⟨Wp.s ?_, fun e => Fin.frtok (by decide) (.inl ⟨rfl, by rw [e]; rfl⟩) (by simp -implicitDefEqProofs [go_sem]) hokH (by simp) (by simp)⟩
  simp -implicitDefEqProofs [go_sem]
  exact ⟨by omega, Fin.fr (by simp -implicitDefEqProofs [go_sem]) hokH (by simp)⟩
theorem scloneB_cc (H : Hp) (V : List Nat) (tk : Tk) (l : List Sec) (h0 : l ≠ []) (hx : l.length ≤ 1000000000) : CC Tryz.prog 77 [.sl tk 8 (l.map secC)] H V (fun r H' V' => r = .bsl H.length 0 l.length 8 ∧ H' = H ++ [some (secsF l)] ∧ V = V') := by
  have hne : l.map secC ≠ [] := fun e => h0 (by simpa using e)
  refine CC.of_swp Tryz.func77 rfl (by kernel_rfl) (by rw [Tryz.ntmps77]; exact len_le _ _ rfl) fun hok hokH => ?_
  clear hok
  refine SWp.seq (Wp.s ?_)
  simp -implicitDefEqProofs [go_sem, args0]
  refine SWp.seq (Wp.s ?_)
  simp -implicitDefEqProofs [go_sem]
  refine ⟨SWp.seq (SWp.opx (pre := [_, _]) (post := [_]) rfl (by intro c e; cases e) ?_), fun e => absurd e h0⟩
  simp -implicitDefEqProofs [go_sem]
  refine ⟨_, _, _, appbox (sz := 8) (tk := tk) (ys := l.map secC) slTy22 slTy22 rfl rfl hne (by rw [List.length_map]; omega), ?_⟩
  rw [List.length_map]
  refine Wp.s ?_
  simp -implicitDefEqProofs [go_sem]
  refine Fin.cut (H.length + 1) V.length ⟨rfl, rfl, rfl⟩ (Nat.le_succ _) (Nat.le_refl _) (List.take_of_length_le (by simp)) (List.take_of_length_le (Nat.le_refl _)) (.bsa _ _ _) (by simp -implicitDefEqProofs [go_sem]) ?_
  intro b cs hb
  rw [List.getElem?_append] at hb
  split at hb
  · exact okL_mono (Nat.le_succ _) (Nat.le_refl _) (hokH b cs hb)
  · exact okH_get (i := H.length + 1) (j := V.length) (L := [some (secsF l)]) (by simp -implicitDefEqProofs [go_sem]) _ _ hb
end Go.Proofs.YtmgoflhjblombaaGreatDoor
namespace Go.Proofs.YtmgoflhjblombaaGreatDoor
open Go.Proofs
@[go_sem, simp] theorem cachC_tail (c : Cach) : (cachC c).tail = secC c.data := rfl
def nst (d : Dk) (i : Nat) : List Sec := (d.cache.take i).foldl setC d.stable
theorem nst_len (d : Dk) (i : Nat) : (nst d i).length = d.stable.length := foldl_setC_len _ _
theorem nst_end (d : Dk) (i : Nat) (h : d.cache.length ≤ i) : nst d i = newestD d := by rw [nst, List.take_of_length_le h]; rfl
theorem nst_succ (d : Dk) (i : Nat) (h : i < d.cache.length) : nst d (i + 1) = (nst d i).set d.cache[i].pos.toNat d.cache[i].data := foldl_take_succ _ _ _ _ h
theorem chk_get {d : Dk} (h : checkD d = 0) (i : Nat) (hi : i < d.cache.length) : 0 ≤ d.cache[i].pos ∧ d.cache[i].pos.toNat < d.stable.length := (checkD_0 h).2 _ (List.getElem_mem hi)
theorem snewest_cc (H : Hp) (V : List Nat) (d : Dk) (hl : DkS d) (hc : checkD d = 0) : CC Tryz.prog 60 [.agg (dkC d)] H V (Pu (secsV (newestD d)) H V) := by
  refine CC.of_swp Tryz.func60 rfl (by kernel_rfl) (by rw [Tryz.ntmps60]; exact len_le _ _ rfl) fun hok hokH => ?_
  clear hok
  have hl1 := hl.1
  have hl2 := hl.2
  refine SWp.seq (Wp.s ?_)
  simp -implicitDefEqProofs [go_sem, args0]
  refine SWp.seq (Wp.s ?_)
  simp -implicitDefEqProofs [go_sem]
  by_cases h0 : d.stable = []
  · have h1 : d.cache = [] := by
      rcases hd : d.cache with - | ⟨c, l⟩
      · rfl
      · have := chk_get hc 0 (by rw [hd]; simp)
        rw [h0] at this; simp at this
    have hn : newestD d = [] := by rw [newestD, h1, h0]; rfl
    refine CC.mono (scloneS_cc _ _ .sh _ (by omega)) ?_
    rintro _ _ _ ⟨v, rfl, rfl, rfl⟩
    simp -implicitDefEqProofs [go_sem]
    refine SWp.join (α := Unit) (fun _ => ([(3, .sl .sh 8 [])], H ++ [some (dkC d)], V ++ [v])) (fun _ => True) ?_ ?_
    · refine SWp.seq (Wp.s ?_)
      simp -implicitDefEqProofs [go_sem]
      refine SWp.block ?_
      refine SWp.loop (α := Unit) (fun i => ([(3, .sl .sh 8 []), (11, ci 0), (12, ci 0)], H ++ [some (dkC d)], V ++ [v])) (fun i => True) (fun i => 0) () trivial (Sh.forget (by simp -implicitDefEqProofs [go_sem, h0, h1]) rfl rfl) ?_
      rintro i -
      dsimp only
      refine Wp.s ?_
      simp -implicitDefEqProofs [go_sem]
      exact Sh.forget (by simp -implicitDefEqProofs [go_sem]) rfl rfl
    · rintro _ -
      dsimp only
      refine Wp.s ?_
      simp -implicitDefEqProofs [go_sem]
      exact Fin.pu (by rw [hn]; exact .refl _) (by simp -implicitDefEqProofs [go_sem]) hokH (by simp) (by simp)
  refine CC.mono (scloneB_cc _ _ .sh _ h0 (by omega)) ?_
  rintro _ _ _ ⟨rfl, rfl, rfl⟩
  simp -implicitDefEqProofs [go_sem]
  refine SWp.join (α := Unit) (fun _ => ([(3, .bsl (H.length + 1) 0 d.stable.length 8)], H ++ [some (dkC d), some (secsF (newestD d))], V)) (fun _ => True) ?_ ?_
  · refine SWp.seq (Wp.s ?_)
    simp -implicitDefEqProofs [go_sem]
    refine SWp.block ?_
    refine SWp.loop (α := Nat) (fun i => ([(3, .bsl (H.length + 1) 0 d.stable.length 8), (10, cachV d.cache), (11, ci d.cache.length), (12, ci i)], H ++ [some (dkC d), some (secsF (nst d i))], V)) (fun i => i ≤ d.cache.length) (fun i => d.cache.length - i) 0 (Nat.zero_le _)
      (Sh.forget (by simp -implicitDefEqProofs [go_sem]) (by simp [nst]) rfl) ?_
    rintro i hi
    dsimp only
    refine Wp.s ?_
    simp -implicitDefEqProofs [go_sem]
    refine ⟨fun h => ?_, fun h => Sh.forget (by simp -implicitDefEqProofs [go_sem]) (by rw [nst_end _ _ h]) rfl⟩
    obtain ⟨c1, c2⟩ := chk_get hc i h
    refine ⟨h, c1, by omega, by rw [nst_len]; omega, i + 1, by omega, by omega, Sh.trim (L := [some (dkC d), some (secsF (nst d (i + 1)))]) ?_ ?_ hokH ?_ (Nat.le_refl _) ?_ (by simp)⟩
    · simp -implicitDefEqProofs [go_sem, wrap_succ (show i ≤ 1000000000 by omega)]
    · simp -implicitDefEqProofs [go_sem]
    · simp -implicitDefEqProofs [go_sem]
    · rw [nst_succ _ _ h, ← secsF_set' (by rw [nst_len]; omega)]; simp
  · rintro _ -
    dsimp only
    refine Wp.s ?_
    simp -implicitDefEqProofs [go_sem]
    refine Fin.froz (b := H.length + 1) (cs := secsF (newestD d)) ⟨rfl, rfl, rfl⟩ (.refl _) (by simp) (xs := (newestD d).map secC) (by rw [List.drop_zero, ← newestD_len, chunks_secs]) (by simp [newestD_len]; omega) (by omega) (by simp -implicitDefEqProofs [go_sem]) hokH (by simp) (by simp)
end Go.Proofs.YtmgoflhjblombaaGreatDoor
namespace Go.Proofs.YtmgoflhjblombaaGreatDoor
open Go.Proofs
theorem okV_er (i j : Nat) (e : Nat) : okV i j (er e) := by rw [er, okV]; trivial
theorem sRead_cc (H : Hp) (V : List Nat) (d : Dk) (e : Ext2) (hl : DkS d) : CC Tryz.prog 29 [.agg (dkC d), .agg (extC e)] H V (Pu (.tup [secsV (readD d e.start e.count).1, er (readD d e.start e.count).2]) H V) := by
  refine CC.of_swp Tryz.func29 rfl (by kernel_rfl) (by rw [Tryz.ntmps29]; exact len_le _ _ rfl) fun hok hokH => ?_
  clear hok
  have hl1 := hl.1
  have hl2 := hl.2
  refine SWp.seq (Wp.s ?_)
  simp -implicitDefEqProofs [go_sem, args0]
  refine SWp.seq (Wp.s ?_)
  simp -implicitDefEqProofs [go_sem]
  refine CC.mono (sCheck_cc _ _ d hl) ?_
  rintro _ _ _ ⟨rfl, rfl, rfl⟩
  simp -implicitDefEqProofs [go_sem]
  refine ⟨fun hc => ?_, fun hc => ?_⟩
  case refine_1 =>
    have hr : readD d e.start e.count = ([], checkD d) := by rw [readD, if_pos hc]
    rw [hr]
    exact Fin.tup2 (by exact .nil 8 (by decide)) (.refl _) (by simp -implicitDefEqProofs [go_sem]) (by simp -implicitDefEqProofs [go_sem]) hokH (by simp) (by simp)
  refine SWp.seq (Wp.s ?_)
  simp -implicitDefEqProofs [go_sem]
  refine CC.mono (sinside_cc _ _ d e.start e.count (by omega)) ?_
  rintro _ _ _ ⟨rfl, rfl, rfl⟩
  simp -implicitDefEqProofs [go_sem]
  rcases hq : insideB d e.start e.count with - | -
  · simp -implicitDefEqProofs [go_sem]
    have hr : readD d e.start e.count = ([], 2) := by rw [readD, if_neg (by simp [hc]), if_pos hq]
    rw [hr]
    exact Fin.tup2 (by exact .nil 8 (by decide)) (.refl _) (by simp -implicitDefEqProofs [go_sem]) (by simp -implicitDefEqProofs [go_sem]) hokH (by simp) (by simp)
  have hi : 0 ≤ e.start ∧ 0 ≤ e.count ∧ e.count ≤ (d.stable.length : Int) ∧ e.start ≤ (d.stable.length : Int) - e.count := by
    simpa [insideB, and_assoc] using hq
  have hr : readD d e.start e.count = (((newestD d).drop e.start.toNat).take e.count.toNat, 0) := by rw [readD, if_neg (by simp [hc]), if_neg (by simp [hq])]
  rw [hr]
  obtain ⟨i1, i2, i3, i4⟩ := hi
  simp -implicitDefEqProofs [go_sem]
  refine SWp.seq (SWp.drawnL [0, 2, 3, 4, 5, 6, 7, 8, 9, 10, 11, 12, 13, 1, 14, 15, 16] (by kernel_rfl) (by kernel_rfl) rfl ?_)
  simp -implicitDefEqProofs [go_sem, IntWalk.i64_in (e.start + e.count) ⟨by omega, by omega⟩]
  refine CC.mono (snewest_cc _ _ d hl hc) ?_
  rintro _ _ _ ⟨rfl, rfl, rfl⟩
  simp -implicitDefEqProofs [go_sem]
  have hn := newestD_len d
  refine ⟨i1, by omega, by omega, by omega, Wp.s ?_⟩
  simp -implicitDefEqProofs [go_sem]
  refine Fin.tup2 ?_ (.refl _) (okV_secsV _ _ _) (okV_er _ _ _) hokH (by simp) (by simp)
  have e1 : (e.start + e.count).toNat = e.start.toNat + e.count.toNat := by omega
  refine .trans (.sh _ _ _) (.of_eq ?_)
  rw [secsV, e1, List.drop_take, Nat.add_sub_cancel_left, List.map_take, List.map_drop]
end Go.Proofs.YtmgoflhjblombaaGreatDoor
namespace Go.Proofs.YtmgoflhjblombaaGreatDoor
open Go.Proofs
def Ap (j : Nat) (l : List Cach) (cv : CV) (V : List Nat) : Prop := (cv = .v (.slice none 0 0) ∧ l = []) ∨ ∃ k v, cv = .sl (.own k v) 9 (l.map cachC) ∧ V[k]? = some v ∧ j ≤ k
theorem Ap.le {j : Nat} {l : List Cach} {cv : CV} {V : List Nat} (h : Ap j l cv V) : Le cv (cachV l) := by
  rcases h with ⟨rfl, rfl⟩ | ⟨k, v, rfl, _⟩
  · exact .nil 9 (by decide)
  · exact .sh _ _ _
theorem Ap.one {j : Nat} {l : List Cach} {cv : CV} {V : List Nat} (h : Ap j l cv V) : cv.one = true := by
  rcases h with ⟨rfl, rfl⟩ | ⟨k, v, rfl, _⟩ <;> rfl
theorem Ap.ok {i j : Nat} {l : List Cach} {cv : CV} {V : List Nat} (h : Ap j l cv V) : okV i V.length cv := by
  rcases h with ⟨rfl, rfl⟩ | ⟨k, v, rfl, h, _⟩
  · rw [okV]; trivial
  · rw [okV_own, okE_cach]; exact ⟨(List.getElem?_eq_some_iff.1 h).1, trivial⟩
def XR (X j : Nat) (r : CV) (d : Dk) (H : Hp) (V : List Nat) : CV → Hp → List Nat → Prop := fun r' H' V' => r' = r ∧ ∃ cv, H' = H.set X (some [secsV d.stable, cv]) ∧ Ap j d.cache cv V' ∧ V'.take j = V.take j ∧ V.length ≤ V'.length
def puts (a : Int) (l : List Sec) : List Cach := l.zipIdx.map fun p => ⟨a + p.2, p.1⟩
theorem puts_len (a : Int) (l : List Sec) : (puts a l).length = l.length := by simp [puts]
theorem puts_succ (a : Int) (l : List Sec) (i : Nat) (h : i < l.length) : puts a (l.take (i + 1)) = puts a (l.take i) ++ [⟨a + i, l[i]⟩] := by
  rw [List.take_succ_eq_append_getElem h, puts, puts, List.zipIdx_append, List.map_append]
  simp [Nat.min_eq_left (Nat.le_of_lt h)]
def wrD (d : Dk) (a : Int) (l : List Sec) : Dk := ⟨d.stable, d.cache ++ puts a l⟩
theorem swrite_cc (H : Hp) (V : List Nat) (X j : Nat) (hX : X < H.length) (d : Dk) (o : Opn) (cv : CV) (ha : Ap j d.cache cv V) (hj : j ≤ V.length) (hl : DkS d) (hl2 : d.cache.length + o.data.length ≤ 1000000) (hok0 : ∀ (b : Nat) cs, (H.set X (some [secsV d.stable, cv]))[b]? = some (some cs) → okL H.length V.length cs) :
    CC Tryz.prog 79 [.ptr X 0, .agg (opC o)] (H.set X (some [secsV d.stable, cv])) V (XR X j (er (if insideB d o.pos o.data.length then 0 else 2)) (if insideB d o.pos o.data.length then wrD d o.pos o.data else d) H V) := by
  refine CC.of_swp Tryz.func79 rfl (by kernel_rfl) (by rw [Tryz.ntmps79]; exact len_le _ _ rfl) fun hok hokH => ?_
  clear hok
  have h1 := hl.1
  refine SWp.seq (Wp.s ?_)
  simp -implicitDefEqProofs [go_sem, args0]
  refine SWp.seq (SWp.seq (SWp.drawnL (List.range 11) (by kernel_rfl) (by kernel_rfl) rfl ?_))
  simp -implicitDefEqProofs [go_sem, List.range, List.range.loop, hX]
  refine CC.le (.cons (.agg (.cons (.refl _) (.cons ha.le .nil))) (.cons (.refl _) (.cons (.refl _) .nil))) (CC.mono (sinside_cc _ _ d o.pos _ (by omega)) ?_)
  rintro _ _ _ ⟨rfl, rfl, rfl⟩
  simp -implicitDefEqProofs [go_sem]
  refine Wp.s ?_
  have fin : ∀ (e : Nat) (d' : Dk) (cv' : CV) (L : Hp) (V' : List Nat), Ap j d'.cache cv' V' → V'.take j = V.take j → j ≤ V'.length → V.length ≤ V'.length → d'.stable = d.stable →
      Fin H.length V.length (XR X j (er e) d' H V) (er e) (H.set X (some [secsV d.stable, cv']) ++ L) V' := fun e d' cv' L V' h1 h2 h3 h4 h5 => by
    refine Fin.cut (H.length) V'.length ⟨rfl, cv', by rw [h5], h1, h2, h4⟩ (Nat.le_refl _) h4 (by rw [List.take_append_of_le_length (by simp), List.take_of_length_le (by simp)]) (List.take_of_length_le (Nat.le_refl _)) (.refl _) (okV_er _ _ _) ?_
    intro b cs hb
    by_cases hbX : b = X
    · subst hbX
      rw [List.getElem?_set_self hX] at hb
      simp at hb; subst hb
      rw [okL, okL, okL]
      exact ⟨okV_secsV _ _ _, h1.ok, trivial⟩
    · refine okL_mono (Nat.le_refl _) h4 (hok0 b cs ?_)
      rw [List.getElem?_set_ne (fun e => hbX e.symm)] at hb ⊢
      exact hb
  have okX : ∀ (l : List Cach) (cv' : CV) (V' : List Nat), Ap j l cv' V' → V.length ≤ V'.length → ∀ (b : Nat) cs, (H.set X (some [secsV d.stable, cv']) ++ [some (opC o)])[b]? = some (some cs) → okL (H.length + 1) V'.length cs := fun l cv' V' h1 h4 b cs hb => by
    rw [List.getElem?_append] at hb
    split at hb
    · by_cases hbX : b = X
      · subst hbX
        rw [List.getElem?_set_self hX] at hb
        simp at hb; subst hb
        rw [okL, okL, okL]
        exact ⟨okV_secsV _ _ _, h1.ok, trivial⟩
      · refine okL_mono (Nat.le_succ _) h4 (hok0 b cs ?_)
        rw [List.getElem?_set_ne (fun e => hbX e.symm)] at hb ⊢
        exact hb
    · exact okH_get (i := H.length + 1) (j := V'.length) (L := [some (opC o)]) (by rw [okH_some, okL_opC]; exact ⟨trivial, trivial⟩) _ _ hb
  rcases hq : insideB d o.pos o.data.length with - | -
  · simp -implicitDefEqProofs [go_sem, hq]
    exact fin 2 d cv _ V ha rfl hj (Nat.le_refl _) rfl
  simp -implicitDefEqProofs [go_sem, hq]
  have hin : 0 ≤ o.pos ∧ o.pos ≤ (d.stable.length : Int) - o.data.length := by
    simp only [insideB, Bool.and_eq_true, decide_eq_true_eq] at hq; omega
  refine SWp.join (α := CV × List Nat) (fun x => ([], H.set X (some [secsV d.stable, x.1]) ++ [some (opC o)], x.2)) (fun x => Ap j (d.cache ++ puts o.pos o.data) x.1 x.2 ∧ x.2.take j = V.take j ∧ j ≤ x.2.length ∧ V.length ≤ x.2.length) ?_ ?_
  · refine SWp.seq (Wp.s ?_)
    simp -implicitDefEqProofs [go_sem, hX]
    refine SWp.block ?_
    refine SWp.loop (α := Nat × CV × List Nat) (fun x => ([(0, .ptr X 0), (3, .ptr H.length 0), (19, secsV o.data), (20, ci o.data.length), (21, ci x.1)], H.set X (some [secsV d.stable, x.2.1]) ++ [some (opC o)], x.2.2))
      (fun x => x.1 ≤ o.data.length ∧ Ap j (d.cache ++ puts o.pos (o.data.take x.1)) x.2.1 x.2.2 ∧ x.2.2.take j = V.take j ∧ j ≤ x.2.2.length ∧ V.length ≤ x.2.2.length) (fun x => o.data.length - x.1) (0, cv, V) ⟨Nat.zero_le _, by simpa [puts] using ha, rfl, hj, Nat.le_refl _⟩
      (Sh.forget (by simp -implicitDefEqProofs [go_sem]) rfl rfl) ?_
    rintro ⟨i, cv', V'⟩ ⟨hi, hap, hv1, hv2, hv3⟩
    dsimp only at hi hap hv1 hv2 hv3 ⊢
    refine SWp.seq (Wp.s ?_)
    simp -implicitDefEqProofs [go_sem]
    refine SWp.seq (Wp.s ?_)
    simp -implicitDefEqProofs [go_sem]
    refine ⟨fun h => ?_, fun h => ⟨cv', V', ⟨by rw [List.take_of_length_le h] at hap; exact hap, hv1, hv2, hv3⟩, Sh.forget (by simp -implicitDefEqProofs [go_sem]) rfl rfl⟩⟩
    refine SWp.seq (SWp.block (SWp.seq (Wp.s ?_)))
    simp -implicitDefEqProofs [go_sem, h, hX]
    have hw : IntKind.i64.wrap (o.pos + (i : Int)) = o.pos + i := IntWalk.i64_in _ ⟨by omega, by omega⟩
    rcases hap with ⟨rfl, he⟩ | ⟨k, v, rfl, hv, hk⟩
    · refine SWp.drawnT [] [17] (.s 0 .pl <| .s 1 .pl <| .s 2 .pl <| .s 3 .pl <| .s 4 .pl <| .s 5 .pl <| .s 6 .pl <| .s 7 .pl <| .s 8 .pl <| .s 9 .pl <| .s 10 .pl <| .s 11 .pl <| .s 12 .pl <| .s 13 .pl <| .s 14 .pl <| .s 15 .pl <| .s 16 .pl <| .s 17 .st <| .n) (by kernel_rfl) (by kernel_rfl) ?_
      simp -implicitDefEqProofs [go_sem, h, hX]
      have he' : d.cache = [] ∧ puts o.pos (o.data.take i) = [] := List.append_eq_nil_iff.1 he
      have hap' : Ap j (d.cache ++ puts o.pos (o.data.take (i + 1))) (.sl (.own V'.length 0) 9 [.v (.int .i64 (o.pos + i)) :: secC o.data[i]]) (V' ++ [0]) :=
        .inr ⟨V'.length, 0, by rw [puts_succ _ _ _ h, he'.1, he'.2]; rfl, by simp, hv2⟩
      refine Wp.s ?_
      simp -implicitDefEqProofs [go_sem, wrap_succ (show i ≤ 1000000000 by omega), hw]
      refine ⟨i + 1, _, _, ⟨by omega, hap', by rw [List.take_append_of_le_length hv2]; exact hv1, by simp; omega, by simp; omega⟩, by omega, Sh.cut (H.length + 1) (V' ++ [0]).length (by simp -implicitDefEqProofs [go_sem]) (by omega) (by simp; omega) (TOk.all (by simp -implicitDefEqProofs [go_sem]; omega)) (okX _ _ _ hap' (by simp; omega)) ?_ (List.take_of_length_le (Nat.le_refl _))⟩
      simp [List.take_append]
      exact List.take_of_length_le (by simp)
    · refine SWp.drawnT [] [17] (.s 0 .pl <| .s 1 .pl <| .s 2 .pl <| .s 3 .pl <| .s 4 .pl <| .s 5 .pl <| .s 6 .pl <| .s 7 .pl <| .s 8 .pl <| .s 9 .pl <| .s 10 .pl <| .s 11 .pl <| .s 12 .pl <| .s 13 .pl <| .s 14 .pl <| .s 15 .pl <| .s 16 .pl <| .s 17 .st <| .n) (by kernel_rfl) (by kernel_rfl) ?_
      simp -implicitDefEqProofs [go_sem, h, hX, hv]
      have hkv := (List.getElem?_eq_some_iff.1 hv).1
      have hap' : Ap j (d.cache ++ puts o.pos (o.data.take (i + 1))) (.sl (.own k (v + 1)) 9 (d.cache.map cachC ++ ((puts o.pos (o.data.take i)).map cachC ++ [.v (.int .i64 (o.pos + i)) :: secC o.data[i]]))) (V'.set k (v + 1)) :=
        .inr ⟨k, v + 1, by rw [puts_succ _ _ _ h, List.map_append, List.map_append]; rfl, by rw [List.getElem?_set_self hkv], hk⟩
      refine ⟨by rw [puts_len, List.length_take]; omega, Wp.s ?_⟩
      simp -implicitDefEqProofs [go_sem, wrap_succ (show i ≤ 1000000000 by omega), hw]
      refine ⟨i + 1, _, _, ⟨by omega, hap', by rw [List.take_set_of_le hk]; exact hv1, by simpa using hv2, by simpa using hv3⟩, by omega, Sh.cut (H.length + 1) (V'.set k (v + 1)).length (by simp -implicitDefEqProofs [go_sem]) (by omega) (by simpa using hv3) (TOk.all (by simp -implicitDefEqProofs [go_sem]; omega)) (okX _ _ _ hap' (by simpa using hv3)) ?_ (List.take_of_length_le (Nat.le_refl _))⟩
      simp [List.take_append]
      exact List.take_of_length_le (by simp)
  · rintro ⟨cv', V'⟩ ⟨h1, h2, h3, h4⟩
    dsimp only
    refine Wp.s ?_
    simp -implicitDefEqProofs [go_sem]
    exact fin 0 (wrD d o.pos o.data) cv' _ V' h1 h2 h3 h4 rfl
theorem ssync_cc (H : Hp) (V : List Nat) (X j : Nat) (hX : X < H.length) (d : Dk) (o : Opn) (cv : CV) (ha : Ap j d.cache cv V) (hj : j ≤ V.length) (hl : DkS d) (hc : checkD d = 0) (hok0 : ∀ (b : Nat) cs, (H.set X (some [secsV d.stable, cv]))[b]? = some (some cs) → okL H.length V.length cs) :
    CC Tryz.prog 80 [.ptr X 0, .agg (opC o)] (H.set X (some [secsV d.stable, cv])) V (XR X j (er 0) ⟨newestD d, []⟩ H V) := by
  refine CC.of_swp Tryz.func80 rfl (by kernel_rfl) (by rw [Tryz.ntmps80]; exact len_le _ _ rfl) fun hok hokH => ?_
  clear hok
  refine SWp.seq (Wp.s ?_)
  simp -implicitDefEqProofs [go_sem, args0]
  refine SWp.seq (Wp.s ?_)
  simp -implicitDefEqProofs [go_sem, hX]
  refine CC.le (.cons (.agg (.cons (.refl _) (.cons ha.le .nil))) .nil) (CC.mono (snewest_cc _ _ d hl hc) ?_)
  rintro _ _ _ ⟨rfl, rfl, rfl⟩
  simp -implicitDefEqProofs [go_sem, hX]
  refine Wp.s ?_
  simp -implicitDefEqProofs [go_sem, hX]
  refine Fin.cut H.length V.length ⟨rfl, .v (.slice none 0 0), rfl, .inl ⟨rfl, rfl⟩, rfl, Nat.le_refl _⟩ (Nat.le_refl _) (Nat.le_refl _) (by rw [List.take_append_of_le_length (by simp), List.take_of_length_le (by simp)]) (List.take_of_length_le (Nat.le_refl _)) (.refl _) (okV_er _ _ _) ?_
  intro b cs hb
  by_cases hbX : b = X
  · subst hbX
    rw [List.getElem?_set_self hX] at hb
    simp at hb; subst hb
    rw [okL, okL, okL]
    exact ⟨okV_secsV _ _ _, by rw [okV]; trivial, trivial⟩
  · refine hok0 b cs ?_
    rw [List.getElem?_set_ne (fun e => hbX e.symm)] at hb ⊢
    exact hb
end Go.Proofs.YtmgoflhjblombaaGreatDoor
namespace Go.Proofs.YtmgoflhjblombaaGreatDoor
open Go.Proofs
theorem checkD_iff {d : Dk} : checkD d = 0 ↔ d.stable.length ≤ 4096 ∧ ∀ c ∈ d.cache, 0 ≤ c.pos ∧ c.pos.toNat < d.stable.length := by
  refine ⟨checkD_0, fun ⟨h1, h2⟩ => ?_⟩
  rw [checkD, if_neg]
  rintro (h | h)
  · omega
  · obtain ⟨c, hc, hb⟩ := List.any_eq_true.1 h
    have := h2 c hc
    simp only [badAt, Bool.or_eq_true, decide_eq_true_eq] at hb
    omega
theorem check_wr {d : Dk} {a : Int} {l : List Sec} (h : checkD d = 0) (hi : insideB d a l.length = true) : checkD (wrD d a l) = 0 := by
  simp only [insideB, Bool.and_eq_true, decide_eq_true_eq] at hi
  rw [checkD_iff] at h ⊢
  refine ⟨h.1, fun c hc => ?_⟩
  rcases List.mem_append.1 hc with hc | hc
  · exact h.2 c hc
  · simp only [puts, List.mem_map] at hc
    obtain ⟨⟨s, k⟩, hk, rfl⟩ := hc
    have := (List.mem_zipIdx hk).2.1
    simp only [wrD]
    omega
theorem check_sy {d : Dk} (h : checkD d = 0) : checkD ⟨newestD d, []⟩ = 0 := by
  rw [checkD_iff] at h ⊢
  exact ⟨by simp only [newestD_len]; exact h.1, by simp⟩
theorem scopied_cc (H : Hp) (V : List Nat) (d : Dk) (hl : DkS d) : CC Tryz.prog 53 [.agg (dkC d)] H V (fun r H' V' => ∃ cv, r = .agg [secsV d.stable, cv] ∧ Ap V.length d.cache cv V' ∧ H = H' ∧ V'.take V.length = V ∧ V.length ≤ V'.length) := by
  refine CC.of_swp Tryz.func53 rfl (by kernel_rfl) (by rw [Tryz.ntmps53]; exact len_le _ _ rfl) fun hok hokH => ?_
  clear hok
  have h1 := hl.1
  have h2 := hl.2
  refine SWp.seq (Wp.s ?_)
  simp -implicitDefEqProofs [go_sem, args0]
  refine SWp.seq (SWp.drawnT [] [7] (.s 0 .pl <| .s 1 .pl <| .s 3 .pl <| .s 4 .pl <| .s 2 .pl <| .s 5 .pl <| .s 6 .pl <| .s 7 .st <| .n) (by kernel_rfl) (by kernel_rfl) ?_)
  simp -implicitDefEqProofs [go_sem]
  refine CC.mono (scloneS_cc _ _ .sh _ (by omega)) ?_
  rintro _ _ _ ⟨v, rfl, rfl, rfl⟩
  simp -implicitDefEqProofs [go_sem]
  refine CC.mono (scloneC_cc _ _ .sh _ (by omega)) ?_
  rintro _ _ _ ⟨v2, rfl, rfl, rfl⟩
  simp -implicitDefEqProofs [go_sem]
  refine Wp.s ?_
  simp -implicitDefEqProofs [go_sem]
  refine Fin.cut H.length (V.length + 2) (H'' := H) (r' := .agg [secsV d.stable, .sl (.own (V.length + 1) v2) 9 (d.cache.map cachC)]) (V'' := V ++ [v, v2]) ⟨_, rfl, .inr ⟨V.length + 1, v2, rfl, by simp, by omega⟩, rfl, by simp, by simp⟩ (Nat.le_refl _) (by omega) (by simp) (by simp) (.agg (.cons (.sh _ _ _) (.cons (.refl _) .nil))) ?_ fun b cs hb => okL_mono (Nat.le_refl _) (by omega) (hokH b cs hb)
  rw [okV_agg, okL, okL, okL, okV_own, okE_cach]
  exact ⟨okV_secsV _ _ _, ⟨by omega, trivial⟩, trivial⟩
def tot (ops : List Opn) : Nat := (ops.map fun o => o.data.length).sum
theorem tot_drop {ops : List Opn} {i : Nat} (h : i < ops.length) : tot (ops.drop i) = ops[i].data.length + tot (ops.drop (i + 1)) := by
  rw [List.drop_eq_getElem_cons h, tot, List.map_cons, List.sum_cons]; rfl
theorem srun_cc (H : Hp) (V : List Nat) (X j : Nat) (hX : X < H.length) (d : Dk) (ops : List Opn) (cv : CV) (ha : Ap j d.cache cv V) (hj : j ≤ V.length) (hl : d.stable.length ≤ 1000000) (hl2 : d.cache.length + tot ops ≤ 1000000) (hl3 : ops.length ≤ 1000000) (hc : checkD d = 0)
    (hok0 : ∀ (b : Nat) cs, (H.set X (some [secsV d.stable, cv]))[b]? = some (some cs) → okL H.length V.length cs) :
    CC Tryz.prog 54 [.ptr X 0, opsV ops] (H.set X (some [secsV d.stable, cv])) V (fun r H' V' => match runD d ops 0 with | .ok (d', n) => XR X j (.tup [ci n, er 0]) d' H V r H' V' | .error (i, e) => ∃ d', XR X j (.tup [ci i, er e]) d' H V r H' V') := by
  refine CC.of_swp Tryz.func54 rfl (by kernel_rfl) (by rw [Tryz.ntmps54]; exact len_le _ _ rfl) fun hok hokH => ?_
  clear hok hokH
  refine SWp.seq (Wp.s ?_)
  simp -implicitDefEqProofs [go_sem, args0]
  refine SWp.seq (Wp.s ?_)
  simp -implicitDefEqProofs [go_sem, hX]
  have fin : ∀ (r : CV) (d' : Dk) (cv' : CV) (L : Hp) (V' : List Nat), okV H.length V'.length r → Ap j d'.cache cv' V' → V'.take j = V.take j → j ≤ V'.length → V.length ≤ V'.length →
      ∀ R : CV → Hp → List Nat → Prop, (∀ H' V', XR X j r d' H V r H' V' → R r H' V') → Fin H.length V.length R r (H.set X (some [secsV d'.stable, cv']) ++ L) V' := fun r d' cv' L V' hr h1 h2 h3 h4 R hR => by
    refine Fin.cut (H.length) V'.length (hR _ _ ⟨rfl, cv', rfl, h1, h2, h4⟩) (Nat.le_refl _) h4 (by rw [List.take_append_of_le_length (by simp), List.take_of_length_le (by simp)]) (List.take_of_length_le (Nat.le_refl _)) (.refl _) hr ?_
    have := okX_gen (L := []) (c := [secsV d'.stable, cv']) hX hok0 h4 (by rw [okL, okL, okL]; exact ⟨okV_secsV _ _ _, h1.ok, trivial⟩) (by trivial)
    simpa using this
  refine SWp.join (α := Dk × CV × List Nat) (fun x => ([(1, opsV ops)], H.set X (some [secsV x.1.stable, x.2.1]) ++ [some [.bm 79 [.ptr X 0], .bm 80 [.ptr X 0]]], x.2.2))
    (fun x => Ap j x.1.cache x.2.1 x.2.2 ∧ x.2.2.take j = V.take j ∧ j ≤ x.2.2.length ∧ V.length ≤ x.2.2.length ∧ runD d ops 0 = .ok (x.1, ops.length)) ?_ ?_
  · refine SWp.seq (Wp.s ?_)
    simp -implicitDefEqProofs [go_sem]
    refine SWp.block ?_
    refine SWp.loop (α := Nat × Dk × CV × List Nat) (fun x => ([(1, opsV ops), (6, .ptr H.length 0), (15, opsV ops), (16, ci ops.length), (17, ci x.1)], H.set X (some [secsV x.2.1.stable, x.2.2.1]) ++ [some [.bm 79 [.ptr X 0], .bm 80 [.ptr X 0]]], x.2.2.2))
      (fun x => x.1 ≤ ops.length ∧ Ap j x.2.1.cache x.2.2.1 x.2.2.2 ∧ x.2.2.2.take j = V.take j ∧ j ≤ x.2.2.2.length ∧ V.length ≤ x.2.2.2.length ∧ runD d ops 0 = runD x.2.1 (ops.drop x.1) x.1 ∧ x.2.1.stable.length = d.stable.length ∧ x.2.1.cache.length + tot (ops.drop x.1) ≤ 1000000 ∧ checkD x.2.1 = 0)
      (fun x => ops.length - x.1) (0, d, cv, V) ⟨Nat.zero_le _, ha, rfl, hj, Nat.le_refl _, rfl, rfl, hl2, hc⟩ (Sh.forget (by simp -implicitDefEqProofs [go_sem]) rfl rfl) ?_
    rintro ⟨i, d1, cv1, V1⟩ ⟨hi, hap, hv1, hv2, hv3, hr, hs, ht, hc1⟩
    dsimp only at hi hap hv1 hv2 hv3 hr hs ht hc1 ⊢
    refine SWp.seq (Wp.s ?_)
    simp -implicitDefEqProofs [go_sem]
    refine SWp.seq (Wp.s ?_)
    simp -implicitDefEqProofs [go_sem]
    refine ⟨fun h => ?_, fun h => ⟨d1, cv1, V1, ⟨hap, hv1, hv2, hv3, by rw [hr, List.drop_of_length_le h, runD, show i = ops.length by omega]⟩, Sh.forget (by simp -implicitDefEqProofs [go_sem]) rfl rfl⟩⟩
    rw [tot_drop h] at ht
    rw [List.drop_eq_getElem_cons h] at hr
    refine SWp.seq (SWp.block (SWp.seq (Wp.s ?_)))
    simp -implicitDefEqProofs [go_sem, h]
    generalize ho : ops[i] = o at ht hr ⊢
    have fine : ∀ (e : Nat) (d2 : Dk) (cv2 : CV) (L : Hp) (V2 : List Nat), Ap j d2.cache cv2 V2 → V2.take j = V.take j → j ≤ V2.length → V.length ≤ V2.length → runD d ops 0 = .error (i, e) →
        Fin H.length V.length (fun r H' V' => match runD d ops 0 with | .ok (d', n) => XR X j (.tup [ci n, er 0]) d' H V r H' V' | .error (i, e) => ∃ d', XR X j (.tup [ci i, er e]) d' H V r H' V') (.tup [ci i, er e]) (H.set X (some [secsV d2.stable, cv2]) ++ L) V2 := fun e d2 cv2 L V2 q1 q2 q3 q4 q5 =>
      fin _ d2 cv2 L V2 (by rw [okV]; simp -implicitDefEqProofs [go_sem]) q1 q2 q3 q4 _ fun H' V' hx => by rw [q5]; exact ⟨d2, hx⟩
    refine SWp.seq (Wp.s ?_)
    by_cases k1 : o.kind < 0
    · simp -implicitDefEqProofs [go_sem, k1]
      exact fine 1 d1 cv1 _ V1 hap hv1 hv2 hv3 (by rw [hr, runD, stepD, if_pos (.inl k1)])
    by_cases k2 : 2 ≤ o.kind
    · simp -implicitDefEqProofs [go_sem, k1, k2]
      exact fine 1 d1 cv1 _ V1 hap hv1 hv2 hv3 (by rw [hr, runD, stepD, if_pos (.inr k2)])
    have hok1 := okX_gen (L := [some [.bm 79 [.ptr X 0], .bm 80 [.ptr X 0]], some (opC o)]) (c := [secsV d1.stable, cv1]) hX hok0 hv3 (by rw [okL, okL, okL]; exact ⟨okV_secsV _ _ _, hap.ok, trivial⟩) (by simp -implicitDefEqProofs [go_sem]; omega)
    rw [← List.set_append_left _ _ hX, ← List.length_append] at hok1
    have next : ∀ (d2 : Dk) (cv2 : CV) (V2 : List Nat) (T : Tm), Ap j d2.cache cv2 V2 → V2.take j = V1.take j → j ≤ V2.length → V1.length ≤ V2.length → stepD d1 o = .ok d2 → d2.stable.length = d1.stable.length → d2.cache.length + tot (ops.drop (i + 1)) ≤ 1000000 → checkD d2 = 0 →
        TLe T [(1, opsV ops), (6, .ptr H.length 0), (15, opsV ops), (16, ci ops.length), (17, ci (i + 1 : Nat))] →
        ∃ a b c e, (a ≤ ops.length ∧ Ap j (Dk.cache b) c e ∧ e.take j = V.take j ∧ j ≤ e.length ∧ V.length ≤ e.length ∧ runD d ops 0 = runD b (ops.drop a) a ∧ b.stable.length = d.stable.length ∧ b.cache.length + tot (ops.drop a) ≤ 1000000 ∧ checkD b = 0) ∧ ops.length - a < ops.length - i ∧
          Sh 44 H.length V.length T ((H ++ [some [.bm 79 [.ptr X 0], .bm 80 [.ptr X 0]], some (opC o)]).set X (some [secsV d2.stable, cv2])) V2 ([(1, opsV ops), (6, .ptr H.length 0), (15, opsV ops), (16, ci ops.length), (17, ci a)], H.set X (some [secsV b.stable, c]) ++ [some [.bm 79 [.ptr X 0], .bm 80 [.ptr X 0]]], e) :=
      fun d2 cv2 V2 T q1 q2 q3 q4 q5 q6 q7 q8 q9 => by
        refine ⟨i + 1, d2, cv2, V2, ⟨by omega, q1, by rw [q2, hv1], q3, by omega, by rw [hr, runD, q5], by omega, q7, q8⟩, by omega, ?_⟩
        rw [List.set_append_left _ _ hX]
        refine Sh.cut (H.length + 1) V2.length q9 (by omega) (by omega) (TOk.all (by simp -implicitDefEqProofs [go_sem])) (okX_gen (L := [some [.bm 79 [.ptr X 0], .bm 80 [.ptr X 0]]]) (c := [secsV d2.stable, cv2]) hX hok0 (by omega) (by rw [okL, okL, okL]; exact ⟨okV_secsV _ _ _, q1.ok, trivial⟩) (by simp -implicitDefEqProofs [go_sem]; omega)) ?_ (List.take_of_length_le (Nat.le_refl _))
        rw [List.take_append, List.take_of_length_le (by simp)]
        simp
    simp -implicitDefEqProofs [go_sem, k1, k2]
    refine SWp.seq (SWp.drawnT [H.length, H.length + 1] [5] (.s 0 .pl <| .s 1 .ld <| .s 2 .pl <| .s 3 .ld <| .s 4 .ld <| .s 5 .st <| .s 6 .pl <| .n) (by kernel_rfl) (by kernel_rfl) ?_)
    have hk : o.kind = 0 ∨ o.kind = 1 := by omega
    rcases hk with hk | hk
    · simp -implicitDefEqProofs [go_sem, hk]
      rw [← List.set_append_left _ _ hX]
      refine CC.mono (swrite_cc _ _ X j (by rw [List.length_append]; omega) d1 o cv1 hap hv2 ⟨by omega, by omega⟩ (by omega) hok1) ?_
      rintro r2 H2 V2 ⟨rfl, cv2, rfl, x1, x2, x3⟩
      rcases hq : insideB d1 o.pos o.data.length with - | -
      · rw [hq] at x1
        simp -implicitDefEqProofs [go_sem, hq]
        refine ⟨Kp_ss (by simp; omega), ?_⟩
        rw [List.set_append_left _ _ hX]
        refine Wp.s ?_
        simp -implicitDefEqProofs [go_sem]
        exact fine 2 d1 cv2 _ V2 x1 (by rw [x2, hv1]) (by omega) (by omega) (by rw [hr, runD, stepD, if_neg (by omega), if_pos hk, writeD, if_neg (by simp [hq])])
      · rw [hq] at x1
        simp -implicitDefEqProofs [go_sem, hq]
        refine ⟨Kp_ss (by simp; omega), ?_⟩
        refine Wp.s ?_
        simp -implicitDefEqProofs [go_sem]
        refine Wp.s ?_
        simp -implicitDefEqProofs [go_sem, wrap_succ (show i ≤ 1000000000 by omega)]
        refine next (wrD d1 o.pos o.data) cv2 V2 _ x1 x2 (by omega) x3 (by rw [stepD, if_neg (by omega), if_pos hk, writeD, if_pos hq]; rfl) rfl (by simp only [wrD, List.length_append, puts_len]; omega) (check_wr hc1 hq) (by simp -implicitDefEqProofs [go_sem])
    · simp -implicitDefEqProofs [go_sem, hk]
      rw [← List.set_append_left _ _ hX]
      refine CC.mono (ssync_cc _ _ X j (by rw [List.length_append]; omega) d1 o cv1 hap hv2 ⟨by omega, by omega⟩ hc1 hok1) ?_
      rintro r2 H2 V2 ⟨rfl, cv2, rfl, x1, x2, x3⟩
      simp -implicitDefEqProofs [go_sem]
      refine ⟨Kp_ss (by simp; omega), ?_⟩
      refine Wp.s ?_
      simp -implicitDefEqProofs [go_sem]
      refine Wp.s ?_
      simp -implicitDefEqProofs [go_sem, wrap_succ (show i ≤ 1000000000 by omega)]
      refine next ⟨newestD d1, []⟩ cv2 V2 _ x1 x2 (by omega) x3 (by rw [stepD, if_neg (by omega), if_neg (by omega)]) (newestD_len _) (by simp only [List.length_nil]; omega) (check_sy hc1) (by simp -implicitDefEqProofs [go_sem])
  · rintro ⟨d1, cv1, V1⟩ ⟨h1, h2, h3, h4, h5⟩
    dsimp only
    refine Wp.s ?_
    simp -implicitDefEqProofs [go_sem]
    refine fin (.tup [ci ops.length, er 0]) d1 cv1 _ V1 (by rw [okV]; simp -implicitDefEqProofs [go_sem]) h1 h2 h3 h4 _ fun H' V' hx => ?_
    rw [h5]; exact hx
end Go.Proofs.YtmgoflhjblombaaGreatDoor
namespace Go.Proofs.YtmgoflhjblombaaGreatDoor
open Go.Proofs
abbrev dk0 : Dk := ⟨[], []⟩
def runR (d : Dk) (ops : List Opn) : Dk × Nat × Nat :=
  if checkD d ≠ 0 then (dk0, 0, checkD d) else match runD d ops 0 with | .ok (d', n) => (d', n, 0) | .error (i, e) => (dk0, i, e)
def runV (x : Dk × Nat × Nat) : CV := .tup [.agg (dkC x.1), ci x.2.1, er x.2.2]
theorem okV_runV (i j : Nat) (x : Dk × Nat × Nat) : okV i j (runV x) := by rw [runV, okV]; simp -implicitDefEqProofs [go_sem]
theorem runD_err : ∀ (ops : List Opn) (d : Dk) (i : Nat) (k e : Nat), runD d ops i = .error (k, e) → e ≠ 0
  | [], d, i, k, e, h => by cases h
  | o :: ops, d, i, k, e, h => by
    rw [runD] at h
    split at h
    · exact runD_err ops _ _ _ _ h
    · rename_i e' he
      injection h with h; injection h with h1 h2; subst h2
      unfold stepD writeD at he
      split at he
      · injection he with he; omega
      · split at he
        · split at he
          · cases he
          · injection he with he; omega
        · cases he
theorem sRun_cc (H : Hp) (V : List Nat) (d : Dk) (ops : List Opn) (hl : d.stable.length ≤ 1000000) (hl2 : d.cache.length + tot ops ≤ 1000000) (hl3 : ops.length ≤ 1000000) : CC Tryz.prog 22 [.agg (dkC d), opsV ops] H V (Pu (runV (runR d ops)) H V) := by
  refine CC.of_swp Tryz.func22 rfl (by kernel_rfl) (by rw [Tryz.ntmps22]; exact len_le _ _ rfl) fun hok hokH => ?_
  clear hok
  have hd : DkS d := ⟨hl, by omega⟩
  refine SWp.seq (Wp.s ?_)
  simp -implicitDefEqProofs [go_sem, args0]
  refine SWp.seq (Wp.s ?_)
  simp -implicitDefEqProofs [go_sem]
  refine CC.mono (sCheck_cc _ _ d hd) ?_
  rintro _ _ _ ⟨rfl, rfl, rfl⟩
  simp -implicitDefEqProofs [go_sem]
  have bad : ∀ (i e : Nat) {H' : Hp} {V' : List Nat}, runR d ops = (dk0, i, e) → H'.take H.length = H → V'.take V.length = V → Fin H.length V.length (Pu (runV (runR d ops)) H V) (.tup [.agg [.v (.slice none 0 0), .v (.slice none 0 0)], ci i, er e]) H' V' := fun i e H' V' h1 h2 h3 => by
    rw [h1]
    exact Fin.pu (.tup (.cons (.agg (.cons (.nil 8 (by decide)) (.cons (.nil 9 (by decide)) .nil))) (.cons (.refl _) (.cons (.refl _) .nil)))) (okV_runV _ _ _) hokH h2 h3
  refine ⟨fun hc => ?_, fun hc => ?_⟩
  case refine_1 => exact bad 0 (checkD d) (by rw [runR, if_pos hc]) (by simp) (by simp)
  refine SWp.seq (Wp.s ?_)
  simp -implicitDefEqProofs [go_sem]
  refine CC.mono (scopied_cc _ _ d hd) ?_
  rintro _ _ V1 ⟨cv, rfl, ha, rfl, hv1, hv2⟩
  simp -implicitDefEqProofs [go_sem, ha.one]
  refine SWp.seq (Wp.s ?_)
  simp -implicitDefEqProofs [go_sem, ha.one]
  have hset : ∀ c c' : List CV, (H ++ [some (dkC d), some [.v (.slice none 0 0), .v (.slice none 0 0)], some c]).set (H.length + 2) (some c') = H ++ [some (dkC d), some [.v (.slice none 0 0), .v (.slice none 0 0)], some c'] := fun c c' => by
    rw [List.set_append_right _ _ (by omega)]; simp
  rw [← hset [secsV d.stable, cv] [secsV d.stable, cv]]
  have hok0 : ∀ (b : Nat) cs, ((H ++ [some (dkC d), some [.v (.slice none 0 0), .v (.slice none 0 0)], some [secsV d.stable, cv]]).set (H.length + 2) (some [secsV d.stable, cv]))[b]? = some (some cs) → okL (H ++ [some (dkC d), some [.v (.slice none 0 0), .v (.slice none 0 0)], some [secsV d.stable, cv]]).length V1.length cs := by
    intro b cs hb
    rw [hset, List.getElem?_append] at hb
    rw [List.length_append]
    split at hb
    · exact okL_mono (Nat.le_add_right _ _) hv2 (hokH b cs hb)
    · refine okH_get (i := H.length + 3) (j := V1.length) (L := [some (dkC d), some [.v (.slice none 0 0), .v (.slice none 0 0)], some [secsV d.stable, cv]]) ?_ _ _ hb
      rw [okH_some, okH_some, okH_some, okL_dkC]
      refine ⟨trivial, by simp -implicitDefEqProofs [go_sem], ?_, trivial⟩
      rw [okL, okL, okL]
      exact ⟨okV_secsV _ _ _, ha.ok, trivial⟩
  refine CC.mono (srun_cc _ V1 (H.length + 2) V.length (by simp) d ops cv ha hv2 hl hl2 hl3 hc hok0) ?_
  intro r H' V' hx
  rcases hr : runD d ops 0 with ⟨i, e⟩ | ⟨d', n⟩
  · rw [hr] at hx
    obtain ⟨d', rfl, cv', rfl, x1, x2, x3⟩ := hx
    rw [hset]
    have he := runD_err _ _ _ _ _ hr
    simp -implicitDefEqProofs [go_sem]
    refine Wp.s ?_
    simp -implicitDefEqProofs [go_sem, he]
    exact bad i e (by rw [runR, if_neg (by simp [hc]), hr]) (by simp) (by rw [← hv1, ← x2]; simp)
  · rw [hr] at hx
    obtain ⟨rfl, cv', rfl, x1, x2, x3⟩ := hx
    rw [hset]
    simp -implicitDefEqProofs [go_sem]
    refine Wp.s ?_
    simp -implicitDefEqProofs [go_sem]
    refine ⟨x1.one, ?_⟩
    refine Fin.pu ?_ (okV_runV _ _ _) hokH (by simp) (by rw [x2, hv1])
    rw [runR, if_neg (by simp [hc]), hr]
    exact .tup (.cons (.agg (.cons (.refl _) (.cons x1.le .nil))) (.cons (.refl _) (.cons (.refl _) .nil)))
def newR (n : Int) : Dk × Nat := if n < 0 ∨ 4096 < n then (dk0, 2) else (⟨List.replicate n.toNat sec0, []⟩, 0)
theorem sNew_cc (H : Hp) (V : List Nat) (n : Int) : CC Tryz.prog 47 [ci n] H V (Pu (.tup [.agg (dkC (newR n).1), er (newR n).2]) H V) := by
  refine CC.of_swp Tryz.func47 rfl (by kernel_rfl) (by rw [Tryz.ntmps47]; exact len_le _ _ rfl) fun hok hokH => ?_
  clear hok
  have bad : ∀ {H' : Hp} {V' : List Nat}, newR n = (dk0, 2) → H'.take H.length = H → V'.take V.length = V → Fin H.length V.length (Pu (.tup [.agg (dkC (newR n).1), er (newR n).2]) H V) (.tup [.agg [.v (.slice none 0 0), .v (.slice none 0 0)], .v (.int .i64 2)]) H' V' := fun h1 h2 h3 => by
    rw [h1]
    exact Fin.pu (.tup (.cons (.agg (.cons (.nil 8 (by decide)) (.cons (.nil 9 (by decide)) .nil))) (.cons (.refl _) .nil))) (by rw [okV]; simp -implicitDefEqProofs [go_sem]) hokH h2 h3
  refine SWp.seq (Wp.s ?_)
  simp -implicitDefEqProofs [go_sem, args0]
  refine SWp.seq (Wp.s ?_)
  by_cases h1 : n < 0
  · simp -implicitDefEqProofs [go_sem, h1]
    exact bad (by rw [newR, if_pos (.inl h1)]) (by simp) (by simp)
  by_cases h2 : 4096 < n
  · simp -implicitDefEqProofs [go_sem, h1, h2]
    exact bad (by rw [newR, if_pos (.inr h2)]) (by simp) (by simp)
  simp -implicitDefEqProofs [go_sem, h1, h2]
  refine Wp.s ?_
  simp -implicitDefEqProofs [go_sem]
  have hn : newR n = (⟨List.replicate n.toNat sec0, []⟩, 0) := by rw [newR, if_neg (by omega)]
  have hz : (List.replicate n.toNat [CV.v (.int .u8 0), CV.v (.int .u8 0), CV.v (.int .u8 0), CV.v (.int .u8 0), CV.v (.int .u8 0), CV.v (.int .u8 0), CV.v (.int .u8 0), CV.v (.int .u8 0)]).flatten = secsF (List.replicate n.toNat sec0) := zeros_secs n.toNat
  have hch : chunks 8 n.toNat ((secsF (List.replicate n.toNat sec0)).drop 0) = (List.replicate n.toNat sec0).map secC := by
    have := chunks_secs (List.replicate n.toNat sec0)
    rwa [List.length_replicate] at this
  refine ⟨by omega, by omega, ?_⟩
  rw [hz, hn]
  refine Fin.frozG (b := H.length + 1) (cs := secsF (List.replicate n.toNat sec0)) (r1 := .tup [.agg [.bsl (H.length + 1) 0 n.toNat 8, cachV []], er 0]) ⟨rfl, rfl, rfl⟩ (.tup (.cons (.agg (.cons (.refl _) (.cons (.nil 9 (by decide)) .nil))) (.cons (.refl _) .nil))) (by simp)
    (.tup (.cons (.agg (.cons ?_ (.cons (.refl _) .nil))) (.cons (.refl _) .nil))) (by omega) (by rw [okV]; simp -implicitDefEqProofs [go_sem]) hokH (by simp) (by simp)
  show Fz _ _ _ (.sl .sh 8 ((List.replicate n.toNat sec0).map secC))
  rw [← hch]
  exact .bsl _ _ _ (by simp; omega)
end Go.Proofs.YtmgoflhjblombaaGreatDoor
namespace Go.Proofs.YtmgoflhjblombaaGreatDoor
open Go.Proofs
theorem sChunk_cc (H : Hp) (V : List Nat) (l : List UInt8) : CC Tryz.prog 76 [.sl .sh 1 (bs l), ci 4] H V (fun r H' V' => r = .fn 100 [.ptr H.length 0, .ptr (H.length + 1) 0] ∧ H' = H ++ [some [.sl .sh 1 (bs l)], some [ci 4]] ∧ V = V') := by
  refine CC.of_swp Tryz.func76 rfl (by kernel_rfl) (by rw [Tryz.ntmps76]; exact len_le _ _ rfl) fun hok hokH => ?_
  clear hok
  refine SWp.seq (Wp.s ?_)
  simp -implicitDefEqProofs [go_sem, args0]
  refine SWp.seq (Wp.s ?_)
  simp -implicitDefEqProofs [go_sem]
  refine Wp.s ?_
  simp -implicitDefEqProofs [go_sem]
  refine Fin.cut (H.length + 2) V.length ⟨rfl, rfl, rfl⟩ (by omega) (Nat.le_refl _) (List.take_of_length_le (by simp)) (List.take_of_length_le (Nat.le_refl _)) (.refl _) (by simp -implicitDefEqProofs [go_sem]) ?_
  intro b cs hb
  rw [List.getElem?_append] at hb
  split at hb
  · exact okL_mono (by omega) (Nat.le_refl _) (hokH b cs hb)
  · exact okH_get (i := H.length + 2) (j := V.length) (L := [some [.sl .sh 1 (bs l)], some [ci 4]]) (by simp -implicitDefEqProofs [go_sem]) _ _ hb
theorem schunk1_cc (H : Hp) (V : List Nat) (L b2 b3 : Nat) (l : List UInt8) (hl : l.length = 32) (I : Nat → Hp → List Nat → Prop) (h0 : I 0 H V)
    (hI : ∀ i H V, I i H V → H[b2]? = some (some [.sl .sh 1 (bs l)]) ∧ H[b3]? = some (some [ci 4]))
    (hy : ∀ i, i < 8 → ∀ H V, I i H V → YC Tryz.prog L [.sl .ti 1 (bs ((l.drop (4 * i)).take 4))] H V (fun r H' V' => r = .v (.bool true) ∧ I (i + 1) H' V')) :
    CC Tryz.prog 100 [.yl L, .ptr b2 0, .ptr b3 0] H V (fun _ H' V' => I 8 H' V') := by
  refine CC.of_swp Tryz.func100 rfl (by kernel_rfl) (by rw [Tryz.ntmps100]; exact len_le _ _ rfl) fun hok hokH => ?_
  clear hok
  refine SWp.seq (Wp.s ?_)
  simp -implicitDefEqProofs [go_sem, args0]
  refine SWp.block ?_
  refine SWp.loop (α := Nat × Hp × List Nat) (fun x => ([(0, .yl L), (1, .ptr b2 0), (2, .ptr b3 0), (4, ci (4 * x.1 : Nat))], x.2.1, x.2.2)) (fun x => x.1 ≤ 8 ∧ I x.1 x.2.1 x.2.2) (fun x => 8 - x.1) (0, H, V) ⟨by omega, h0⟩ (Sh.forget (by simp -implicitDefEqProofs [go_sem]) rfl rfl) ?_
  rintro ⟨i, H1, V1⟩ ⟨hi, hi1⟩
  dsimp only at hi hi1 ⊢
  obtain ⟨g2, g3⟩ := hI _ _ _ hi1
  refine SWp.seq (Wp.s ?_)
  simp -implicitDefEqProofs [go_sem, hbx_of g2, hbx_of g3, hl]
  refine ⟨fun h => ?_, fun h => ?_⟩
  case refine_2 =>
    obtain rfl : i = 8 := by omega
    exact Fin.self hi1
  have h8 : i < 8 := by omega
  refine SWp.seq (SWp.block (SWp.seq (SWp.drawnL (List.range 7) (by kernel_rfl) (by kernel_rfl) rfl ?_)))
  simp -implicitDefEqProofs [go_sem, List.range, List.range.loop, hbx_of g2, hbx_of g3, hl]
  have e1 : (4 * (i : Int)).toNat = 4 * i := by omega
  have e4 : min (4 : Int) ((32 - (4 * (i : Int)).toNat : Nat) : Int) = 4 := by omega
  refine ⟨by omega, by omega, ?_⟩
  rw [e4]
  refine Wp.s ?_
  simp -implicitDefEqProofs [go_sem, hbx_of g2, hbx_of g3, hl, IntWalk.i64_in (4 * (i : Int) + 4) ⟨by omega, by omega⟩]
  refine ⟨by omega, by omega, by omega, by omega, ?_⟩
  have ex : (l.take (4 * (i : Int) + 4).toNat).drop (4 * (i : Int)).toNat = (l.drop (4 * i)).take 4 := by
    rw [show (4 * (i : Int) + 4).toNat = 4 * i + 4 by omega, e1, List.drop_take, Nat.add_sub_cancel_left]
  rw [ex]
  refine YC.mono (hy i h8 _ _ hi1) ?_
  rintro _ H2 V2 ⟨rfl, hi2⟩
  obtain ⟨k2, k3⟩ := hI _ _ _ hi2
  simp -implicitDefEqProofs [go_sem]
  refine Wp.s ?_
  simp -implicitDefEqProofs [go_sem, hbx_of k2, hbx_of k3, IntWalk.i64_in (4 * (i : Int) + 4) ⟨by omega, by omega⟩]
  refine ⟨i + 1, H2, V2, ⟨by omega, hi2⟩, by omega, Sh.forget ?_ rfl rfl⟩
  simp -implicitDefEqProofs [go_sem, show 4 * (i : Int) + 4 = 4 * ((i : Int) + 1) by omega]
def fb (l : List UInt8) : List CV := l.map fun b => CV.v (.int .u8 (b.toNat : Int))
theorem fb_flat : ∀ l : List UInt8, (bs l).flatten = fb l
  | [] => rfl
  | b :: l => by rw [bs, List.map_cons, List.flatten_cons]; exact congrArg (_ :: ·) (fb_flat l)
@[go_sem, simp] theorem fb_len (l : List UInt8) : (fb l).length = l.length := by rw [fb, List.length_map]
@[go_sem] theorem fb_get (l : List UInt8) (i : Nat) (h : i < (fb l).length) : (fb l)[i] = CV.v (.int .u8 ((l[i]'(by simpa using h)).toNat : Int)) := by simp [fb]
theorem fb_set (l : List UInt8) (i : Nat) (c : UInt8) (h : i < l.length) : (fb l).take i ++ CV.v (.int .u8 (c.toNat : Int)) :: (fb l).drop (i + 1) = fb (l.set i c) := by
  rw [List.set_eq_take_append_cons_drop, if_pos h]
  simp [fb]
theorem fb_app (a b : List UInt8) : fb a ++ fb b = fb (a ++ b) := by simp [fb]
theorem fb_all (l : List UInt8) : allOne (fb l) = true := by simp only [allOne, fb, List.all_map, List.all_eq_true]; intros; rfl
theorem fb_chunks : ∀ l : List UInt8, chunks 1 l.length (fb l) = bs l
  | [] => rfl
  | b :: l => by
    rw [List.length_cons, chunks]
    exact congrArg (_ :: ·) (fb_chunks l)
@[go_sem] theorem okL_fb (i j : Nat) : ∀ l : List UInt8, okL i j (fb l) = True
  | [] => by rw [fb, List.map_nil, okL]
  | b :: l => by rw [fb, List.map_cons, okL, okV]; exact (true_and _).trans (okL_fb i j l)
theorem shr_le4 (n k : Nat) (hk : k < 4) : IntKind.u8.wrap (shr .i64 (n : Int) (8 * (k : Int))) = (((le4 n).getD k 0).toNat : Int) := by
  have e : ∀ m : Nat, IntKind.u8.wrap (m : Int) = ((UInt8.ofNat (m % 256)).toNat : Int) := fun m => by
    rw [IntKind.wrap_u8, UInt8.toNat_ofNat']; omega
  have h : k = 0 ∨ k = 1 ∨ k = 2 ∨ k = 3 := by omega
  unfold shr
  rcases h with rfl | rfl | rfl | rfl
  · rw [show (n : Int).fdiv (2 ^ (min (8 * ((0 : Nat) : Int)).toNat IntKind.i64.bits)) = (n : Int) from Int.fdiv_one _, e]; rfl
  · rw [show (n : Int).fdiv (2 ^ (min (8 * ((1 : Nat) : Int)).toNat IntKind.i64.bits)) = ((n / 256 : Nat) : Int) by rw [Int.fdiv_eq_ediv_of_nonneg _ (by decide)]; show (n : Int) / 256 = _; omega, e]; rfl
  · rw [show (n : Int).fdiv (2 ^ (min (8 * ((2 : Nat) : Int)).toNat IntKind.i64.bits)) = ((n / 65536 : Nat) : Int) by rw [Int.fdiv_eq_ediv_of_nonneg _ (by decide)]; show (n : Int) / 65536 = _; omega, e]; rfl
  · rw [show (n : Int).fdiv (2 ^ (min (8 * ((3 : Nat) : Int)).toNat IntKind.i64.bits)) = ((n / 16777216 : Nat) : Int) by rw [Int.fdiv_eq_ediv_of_nonneg _ (by decide)]; show (n : Int) / 16777216 = _; omega, e]; rfl
theorem le4_step (n k : Nat) (hk : k < 4) : ((le4 n).take k ++ List.replicate (8 - k) 0).set k ((le4 n).getD k 0) = (le4 n).take (k + 1) ++ List.replicate (8 - (k + 1)) 0 := by
  have h : k = 0 ∨ k = 1 ∨ k = 2 ∨ k = 3 := by omega
  rcases h with rfl | rfl | rfl | rfl <;> rfl
theorem zeros31 (x : CV) (k : Nat) : List.drop (1 + k) (x :: [CV.v (.int .u8 0), CV.v (.int .u8 0), CV.v (.int .u8 0), CV.v (.int .u8 0), CV.v (.int .u8 0), CV.v (.int .u8 0), CV.v (.int .u8 0), CV.v (.int .u8 0), CV.v (.int .u8 0), CV.v (.int .u8 0), CV.v (.int .u8 0), CV.v (.int .u8 0), CV.v (.int .u8 0), CV.v (.int .u8 0), CV.v (.int .u8 0), CV.v (.int .u8 0), CV.v (.int .u8 0), CV.v (.int .u8 0), CV.v (.int .u8 0), CV.v (.int .u8 0), CV.v (.int .u8 0), CV.v (.int .u8 0), CV.v (.int .u8 0), CV.v (.int .u8 0), CV.v (.int .u8 0), CV.v (.int .u8 0), CV.v (.int .u8 0), CV.v (.int .u8 0), CV.v (.int .u8 0), CV.v (.int .u8 0), CV.v (.int .u8 0)]) = fb (List.replicate (31 - k) 0) := by
  rw [Nat.add_comm, List.drop_succ_cons, fb, List.map_replicate]
  exact List.drop_replicate (i := k) (n := 31) (a := CV.v (.int .u8 0))
theorem dataOf_fb (p : List UInt8) (x : CV) : CV.v (.int .u8 (IntKind.u8.wrap (p.length : Int))) :: ((bs p).flatten ++ List.drop (1 + p.length) (x :: [CV.v (.int .u8 0), CV.v (.int .u8 0), CV.v (.int .u8 0), CV.v (.int .u8 0), CV.v (.int .u8 0), CV.v (.int .u8 0), CV.v (.int .u8 0), CV.v (.int .u8 0), CV.v (.int .u8 0), CV.v (.int .u8 0), CV.v (.int .u8 0), CV.v (.int .u8 0), CV.v (.int .u8 0), CV.v (.int .u8 0), CV.v (.int .u8 0), CV.v (.int .u8 0), CV.v (.int .u8 0), CV.v (.int .u8 0), CV.v (.int .u8 0), CV.v (.int .u8 0), CV.v (.int .u8 0), CV.v (.int .u8 0), CV.v (.int .u8 0), CV.v (.int .u8 0), CV.v (.int .u8 0), CV.v (.int .u8 0), CV.v (.int .u8 0), CV.v (.int .u8 0), CV.v (.int .u8 0), CV.v (.int .u8 0), CV.v (.int .u8 0)])) = fb (dataOf p) := by
  rw [zeros31, fb_flat, fb_app, dataOf, wrap_u8]
  have : byt (p.length : Int) = UInt8.ofNat p.length := by
    apply UInt8.toNat_inj.1
    have := byt_toNat (p.length : Int)
    rw [UInt8.toNat_ofNat']
    omega
  rw [this]; rfl
def ApS (j : Nat) (l : List Sec) (cv : CV) (V : List Nat) : Prop := (cv = .v (.slice none 0 0) ∧ l = []) ∨ ∃ k v, cv = .sl (.own k v) 8 (l.map secC) ∧ V[k]? = some v ∧ j ≤ k
theorem ApS.le {j : Nat} {l : List Sec} {cv : CV} {V : List Nat} (h : ApS j l cv V) : Le cv (secsV l) := by
  rcases h with ⟨rfl, rfl⟩ | ⟨k, v, rfl, _⟩
  · exact .nil 8 (by decide)
  · exact .sh _ _ _
theorem ApS.one {j : Nat} {l : List Sec} {cv : CV} {V : List Nat} (h : ApS j l cv V) : cv.one = true := by
  rcases h with ⟨rfl, rfl⟩ | ⟨k, v, rfl, _⟩ <;> rfl
theorem ApS.ok {i j : Nat} {l : List Sec} {cv : CV} {V : List Nat} (h : ApS j l cv V) : okV i V.length cv := by
  rcases h with ⟨rfl, rfl⟩ | ⟨k, v, rfl, h, _⟩
  · rw [okV]; trivial
  · rw [okV_own, okE_secs]; exact ⟨(List.getElem?_eq_some_iff.1 h).1, trivial⟩
abbrev HP (H : Hp) (n : Nat) (tk : Tk) (p : List UInt8) (cv lp : CV) (W : Hp) : Hp :=
  H ++ (some [ci n] :: some [ci 0, .v (.slice none 0 0), .v (.slice none 0 0)] :: none :: some [ci n, .sl tk 1 (bs p), cv] :: some [.sl .sh 1 (bs (dataOf p))] :: some [ci 4] :: some [lp] :: W)
@[go_sem] theorem hbx_W7 (H W L : Hp) (a0 a1 a2 a3 a4 a5 a6 : Option (List CV)) (K : List CV → Prop) : hbx (H ++ (a0 :: a1 :: a2 :: a3 :: a4 :: a5 :: a6 :: (W ++ L))) (H.length + (W.length + 7)) K = hbx L 0 K := by
  unfold hbx
  have : (H ++ (a0 :: a1 :: a2 :: a3 :: a4 :: a5 :: a6 :: (W ++ L)))[H.length + (W.length + 7)]? = L[0]? := by
    rw [hget]
    simp only [List.getElem?_cons_succ]
    exact hget W L 0
  rw [this]
theorem sput_cc (H : Hp) (V : List Nat) (n : Nat) (tk : Tk) (p : List UInt8) (hn : n < 4294967296) (hp : p.length ≤ 31) : CC Tryz.prog 97 [ci n, .sl tk 1 (bs p)] H V (Pu (.agg [ci n, .sl .sh 1 (bs p), secsV (copyS n p)]) H V) := by
  refine CC.of_swp0 Tryz.func97 rfl (by kernel_rfl) (by rw [Tryz.ntmps97]; exact len_le _ _ rfl) fun hok hokH => ?_
  refine SWp0.seq (SWp.s0 (Wp.s ?_))
  simp -implicitDefEqProofs [go_sem, args0]
  refine SWp0.seq (SWp.s0 (Wp.s ?_))
  simp -implicitDefEqProofs [go_sem]
  refine SWp0.seq (SWp.s0 (Wp.s ?_))
  simp -implicitDefEqProofs [go_sem]
  refine SWp0.seq (SWp.s0 (Wp.s ?_))
  simp -implicitDefEqProofs [go_sem]
  refine ⟨hp, by rw [fb_flat, fb_all], by omega, ?_⟩
  refine SWp0.seq (SWp.s0 (Wp.s ?_))
  simp -implicitDefEqProofs [go_sem]
  rw [dataOf_fb]
  have hD := dataOf_len hp
  have hch : chunks 1 32 ((fb (dataOf p)).drop 0) = bs (dataOf p) := by
    have := fb_chunks (dataOf p)
    rwa [hD] at this
  refine SWp0.ghost (T' := [(2, .ptr H.length 0), (4, .ptr (H.length + 1) 0), (6, .ptr (H.length + 3) 0), (5, .bsl (H.length + 2) 0 32 1)]) (Gst.forget (TLe.get (by simp -implicitDefEqProofs [go_sem]))) ?_
  refine SWp0.ghost (T' := [(2, .ptr H.length 0), (4, .ptr (H.length + 1) 0), (6, .ptr (H.length + 3) 0), (5, .sl .sh 1 (bs (dataOf p)))]) (Gst.freeze (b := H.length + 2) (cs := fb (dataOf p)) (by simp) ?_) ?_
  · intro q hq
    simp at hq
    rcases hq with rfl | rfl | rfl | rfl
    · exact .refl _
    · exact .refl _
    · exact .refl _
    · show Fz _ _ (.bsl (H.length + 2) 0 32 1) (.sl .sh 1 (bs (dataOf p)))
      rw [← hch]; exact .bsl _ _ _ (by simp [hD])
  simp -implicitDefEqProofs [go_sem]
  refine SWp0.join (α := CV × List Nat) (fun x => ([(4, .ptr (H.length + 1) 0), (6, .ptr (H.length + 3) 0)], H ++ [some [ci n], some [ci 0, .v (.slice none 0 0), .v (.slice none 0 0)], none, some [ci n, .sl tk 1 (bs p), x.1]], x.2))
    (fun x => ApS V.length (copyS n p) x.1 x.2 ∧ V.length ≤ x.2.length ∧ x.2.take V.length = V) ?_ ?_
  · refine SWp0.seq (SWp.s0 (Wp.s ?_))
    simp -implicitDefEqProofs [go_sem]
    refine CC.mono (sChunk_cc _ _ _) ?_
    rintro _ _ _ ⟨rfl, rfl, rfl⟩
    simp -implicitDefEqProofs [go_sem]
    refine SWp0.block (SWp0.range [(2, .ptr H.length 0), (6, .ptr (H.length + 3) 0)] rfl (by simp -implicitDefEqProofs [go_sem]) ?_)
    simp -implicitDefEqProofs [go_sem]
    generalize hbd : Code.block 1 _ = bd
    generalize has : Code.region 6 _ _ = asg
    refine CC.mono (schunk1_cc _ V _ _ _ (dataOf p) hD (fun i G V' => ∃ cv W, ApS V.length ((List.range i).map (secOf n p)) cv V' ∧ V.length ≤ V'.length ∧ V'.take V.length = V ∧
      G = H ++ (some [ci n] :: some [ci 0, .v (.slice none 0 0), .v (.slice none 0 0)] :: none :: some [ci n, .sl tk 1 (bs p), cv] :: some [.sl .sh 1 (bs (dataOf p))] :: some [ci 4] :: some [lpc 48 #[26] asg bd [(2, .ptr H.length 0), (6, .ptr (H.length + 3) 0)] .ready none] :: W))
      ⟨.v (.slice none 0 0), [], .inl ⟨rfl, rfl⟩, Nat.le_refl _, by simp, rfl⟩ ?_ ?_) ?_
    · rintro i _ V' ⟨cv, W, _, _, _, rfl⟩
      exact ⟨hget _ _ 4, hget _ _ 5⟩
    · rintro i hi _ V' ⟨cv, W, ha, hv1, hv2, rfl⟩
      refine YC.of_round (n := 48) (ps := #[26]) (bd := bd) (T := [(2, .ptr H.length 0), (6, .ptr (H.length + 3) 0)]) (hget _ _ 6) rfl (by decide) ?_
      subst hbd has
      refine Wp.s ?_
      simp -implicitDefEqProofs [go_sem, tps]
      refine SWp.block (SWp.seq (Wp.s ?_))
      simp -implicitDefEqProofs [go_sem]
      generalize hlp : lpc 48 #[26] _ _ _ LoopState.busy none = lp
      generalize hqq : RQ 48 #[26] _ _ _ _ _ = QQ
      refine SWp.join (α := Unit) (fun x => ([(2, .ptr H.length 0), (6, .ptr (H.length + 3) 0), (7, .sl .ti 1 (bs (partOf p i))), (8, .ptr (H.length + (W.length + 7)) 0)], HP H n tk p cv lp (W ++ [some (fb (le4 n ++ List.replicate 4 0))]), V')) (fun _ => True) ?_ ?_
      · refine SWp.seq (Wp.s ?_)
        simp -implicitDefEqProofs [go_sem]
        refine SWp.block ?_
        refine SWp.loop (α := Nat) (fun k => ([(2, .ptr H.length 0), (6, .ptr (H.length + 3) 0), (7, .sl .ti 1 (bs (partOf p i))), (8, .ptr (H.length + (W.length + 7)) 0), (27, ci k)], HP H n tk p cv lp (W ++ [some (fb ((le4 n).take k ++ List.replicate (8 - k) 0))]), V')) (fun k => k ≤ 4) (fun k => 4 - k) 0 (by omega) (Sh.forget (by simp -implicitDefEqProofs [go_sem, partOf]) rfl rfl) ?_
        intro k hk
        dsimp only
        refine SWp.seq (Wp.s ?_)
        simp -implicitDefEqProofs [go_sem]
        refine SWp.seq (Wp.s ?_)
        simp -implicitDefEqProofs [go_sem]
        refine ⟨fun h => ?_, fun h => ?_⟩
        case refine_2 =>
          obtain rfl : k = 4 := by omega
          exact Sh.forget (by simp -implicitDefEqProofs [go_sem]) rfl rfl
        have h4 : k < 4 := by omega
        refine SWp.seq (SWp.block (SWp.seq (Wp.s ?_)))
        simp -implicitDefEqProofs [go_sem]
        refine Wp.s ?_
        simp -implicitDefEqProofs [go_sem, HP, IntWalk.i64_in (8 * (k : Int)) ⟨by omega, by omega⟩, show (k : Int) < 8 by omega]
        have hkl : k < ((le4 n).take k ++ List.replicate (8 - k) (0 : UInt8)).length := by simp [le4_len]; omega
        refine ⟨by omega, by simp [le4_len]; omega, Wp.s ?_⟩
        simp -implicitDefEqProofs [go_sem, wrap_succ (show k ≤ 1000000000 by omega)]
        refine ⟨k + 1, by omega, by omega, Sh.forget (by simp -implicitDefEqProofs [go_sem]) ?_ rfl⟩
        rw [shr_le4 n k h4, fb_set _ _ _ hkl, le4_step n k h4]
      · rintro _ -
        dsimp only
        refine SWp.seq (Wp.s ?_)
        simp -implicitDefEqProofs [go_sem, HP]
        have hpl := partOf_len hp hi
        have hsec : List.take 4 (fb (le4 n ++ [0, 0, 0, 0])) ++ ((bs (partOf p i)).flatten ++ List.drop (4 + (partOf p i).length) (fb (le4 n ++ [0, 0, 0, 0]))) = secC (secOf n p i) := by
          rw [hpl, fb_flat]
          have e1 : List.take 4 (fb (le4 n ++ [0, 0, 0, 0])) = fb (le4 n) := rfl
          have e2 : List.drop (4 + 4) (fb (le4 n ++ [0, 0, 0, 0])) = [] := rfl
          rw [e1, e2, List.append_nil, fb_app]
          show fb _ = fb (secOf n p i).val
          rw [secOf_val n hp hi]
        rw [hsec]
        refine ⟨by omega, by rw [fb_flat, fb_all], by rw [hpl, le4_len]; exact Nat.le_refl _, ?_⟩
        rcases ha with ⟨rfl, he⟩ | ⟨k, v, rfl, hv, hk⟩
        · refine Wp.s ?_
          simp -implicitDefEqProofs [go_sem]
          rw [← hqq, ← hlp]
          refine ⟨hget _ _ 6, rfl, .sl (.own V'.length 0) 8 [secC (secOf n p i)], .inr ⟨V'.length, 0, ?_, by simp, hv1⟩, by simp; omega, ?_, W ++ [some (secC (secOf n p i))], ?_⟩
          · rw [List.map_append, he]; rfl
          · rw [List.take_append_of_le_length hv1]; exact hv2
          · simp
        · refine Wp.s ?_
          simp -implicitDefEqProofs [go_sem, hv]
          rw [← hqq, ← hlp]
          have hkv := (List.getElem?_eq_some_iff.1 hv).1
          refine ⟨by omega, hget _ _ 6, rfl, .sl (.own k (v + 1)) 8 (((List.range i).map (secOf n p)).map secC ++ [secC (secOf n p i)]), .inr ⟨k, v + 1, ?_, by rw [List.getElem?_set_self hkv], hk⟩, by simpa using hv1, ?_, W ++ [some (secC (secOf n p i))], ?_⟩
          · rw [List.map_append]; rfl
          · rw [List.take_set_of_le hk]; exact hv2
          · simp
    · rintro _ _ V' ⟨cv, W, ha, hv1, hv2, rfl⟩
      refine .inl ⟨hget _ _ 6, ?_⟩
      refine ⟨cv, V', ⟨ha, hv1, hv2⟩, ?_⟩
      refine Sh.trim (L := [some [ci n], some [ci 0, .v (.slice none 0 0), .v (.slice none 0 0)], none, some [ci n, .sl tk 1 (bs p), cv]]) ?_ ?_ hokH ?_ hv1 ?_ (List.take_of_length_le (Nat.le_refl _))
      · simp -implicitDefEqProofs [go_sem]
      · simp -implicitDefEqProofs [go_sem]
      · rw [okL, okL] at hok
        rw [okH_some, okH_some, okH_none, okH_some, okL, okL, okL, okL]
        exact ⟨by simp -implicitDefEqProofs [go_sem], by simp -implicitDefEqProofs [go_sem], ⟨by rw [okV]; trivial, okV_mono (by omega) (by omega) hok.2.1, ha.ok, trivial⟩, trivial⟩
      · simp
  · rintro ⟨cv, V'⟩ ⟨h1, h2, h3⟩
    dsimp only
    refine SWp0.seq (SWp.s0 (Wp.s ?_))
    simp -implicitDefEqProofs [go_sem]
    refine ⟨h1.one, SWp.s0 (Wp.s ?_)⟩
    simp -implicitDefEqProofs [go_sem]
    refine Fin.pu (.agg (.cons (.refl _) (.cons (.sh _ _ _) (.cons h1.le .nil)))) ?_ hokH (by simp) h3
    rw [okV_agg, okL, okL, okL, okL]
    exact ⟨by rw [okV]; trivial, by rw [okV_sh, okBs_t]; trivial, okV_secsV _ _ _, trivial⟩
end Go.Proofs.YtmgoflhjblombaaGreatDoor
namespace Go.Proofs.YtmgoflhjblombaaGreatDoor
open Go.Proofs
def mx (a b : List UInt8) (k : Nat) : List UInt8 := a.take k ++ List.replicate (4 - k) 0 ++ (b.take k ++ List.replicate (4 - k) 0)
def dst (p : List UInt8) (k : Nat) : List UInt8 := UInt8.ofNat p.length :: (p.take k ++ List.replicate (31 - k) 0)
end Go.Proofs.YtmgoflhjblombaaGreatDoor
