/-
  A PROGRAM LOGIC, PART 14: returns; how contracts are used; data.
-/
import Derived.Test.YtffjhibomipemaaL13
namespace Go.Proofs.Ytffjhibomipemaa

section
variable (P : Program) (nb nv : Nat) (res : List ResultVar) (R : CV → Hp → List Nat → Prop) (T : Tm) (H : Hp) (V : List Nat) (K : List CV → Prop)
@[go_sem] theorem Rt_ret : Rt P nb nv res R .ret T H V = resK P res T H fun cs => Fin nb nv R (one cs) H V := rfl
@[go_sem] theorem Rt_normal : Rt P nb nv res R .normal T H V = resK P res T H fun cs => Fin nb nv R (one cs) H V := rfl
@[go_sem] theorem resK_nil : resK P [] T H K = K [] := rfl
@[go_sem] theorem resK_tmp (t : Nat) (r : List ResultVar) : resK P (.tmp t :: r) T H K = resK P r T H fun cs => K (tget T t :: cs) := rfl
def hcell (H : Hp) : CV → (Nat → Nat → List CV → Prop) → Prop
  | .ptr b o, K => hbx H b fun cs => K b o cs
  | _, _ => False
@[go_sem] theorem resK_cell (a ty : Nat) (r : List ResultVar) : resK P (.cell a ty :: r) T H K = withO (ldTy P ty) fun q => hcell H (tget T a) fun _ o cs => ld q.1 q.2 cs o fun c => resK P r T H fun ds => K (c :: ds) := by
  rw [withO_eq]; simp only [Prod.exists]; rw [resK]
  congr 1; funext g; congr 1; funext n; congr 1
  cases tget T a <;> simp only [hcell, hbx_eq]
@[go_sem] theorem hcell_ptr (b o : Nat) (K : Nat → Nat → List CV → Prop) : hcell H (.ptr b o) K = hbx H b fun cs => K b o cs := rfl
@[go_sem] theorem one_1 (c : CV) : one [c] = c := rfl
@[go_sem] theorem one_0 : one [] = .tup [] := rfl
@[go_sem] theorem one_2 (c d : CV) (cs : List CV) : one (c :: d :: cs) = .tup (c :: d :: cs) := rfl
end
section
variable {P : Program} {nb nv : Nat} {T T' : Tm} {H H' : Hp} {V V' : List Nat}
@[congr] theorem Rt_congr {res : List ResultVar} {R : CV → Hp → List Nat → Prop} {e : Exit} (h1 : T = T') (h2 : H = H') (h3 : V = V') : Rt P nb nv res R e T H V = Rt P nb nv res R e T' H' V' := by subst h1 h2 h3; rfl
@[congr] theorem resK_congr {res res' : List ResultVar} {K : List CV → Prop} (h0 : res = res') (h1 : T = T') (h2 : H = H') : resK P res T H K = resK P res' T' H' K := by subst h0 h1 h2; rfl
@[congr] theorem hcell_congr {x x' : CV} {K : Nat → Nat → List CV → Prop} (h1 : H = H') (h2 : x = x') : hcell H x K = hcell H' x' K := by subst h1 h2; rfl
@[congr] theorem Fin_congr {R : CV → Hp → List Nat → Prop} {r r' : CV} (h0 : r = r') (h1 : H = H') (h2 : V = V') : Fin nb nv R r H V = Fin nb nv R r' H' V' := by subst h0 h1 h2; rfl
end

/-! ### Boxes and tokens behind those that were there -/
section
variable {α : Type} (H L : List α) (j : Nat) (x : α)
@[go_sem] theorem at_len : (H ++ L)[H.length]? = L[0]? := by rw [List.getElem?_append_right (Nat.le_refl _), Nat.sub_self]
@[go_sem] theorem at_len_add : (H ++ L)[H.length + j]? = L[j]? := by rw [List.getElem?_append_right (by omega)]; congr 1; omega
@[go_sem] theorem set_len : (H ++ L).set H.length x = H ++ L.set 0 x := by rw [List.set_append_right _ _ (Nat.le_refl _), Nat.sub_self]
@[go_sem] theorem set_len_add : (H ++ L).set (H.length + j) x = H ++ L.set j x := by rw [List.set_append_right _ _ (by omega), Nat.add_sub_cancel_left]
theorem at_old {b : Nat} {y : α} (h : H[b]? = some y) : (H ++ L)[b]? = some y := by rw [List.getElem?_append_left (List.getElem?_eq_some_iff.1 h).1]; exact h
theorem set_old {b : Nat} {y : α} (h : H[b]? = some y) : (H ++ L).set b x = H.set b x ++ L := List.set_append_left _ _ (List.getElem?_eq_some_iff.1 h).1
end
theorem hbx_some {H : Hp} {b : Nat} {cs : List CV} (h : H[b]? = some (some cs)) (K : List CV → Prop) : hbx H b K = K cs := by simp [hbx, h]
@[go_sem] theorem hbx_new (H : Hp) (cs : List CV) (L : Hp) (K : List CV → Prop) : hbx (H ++ some cs :: L) H.length K = K cs := hbx_some (by simp) K
theorem hbx_new_add (H L : Hp) (j : Nat) (cs : List CV) (h : L[j]? = some (some cs)) (K : List CV → Prop) : hbx (H ++ L) (H.length + j) K = K cs := hbx_some (by rw [at_len_add]; exact h) K
@[go_sem] theorem hbx_new1 (H : Hp) (x : Option (List CV)) (cs : List CV) (L : Hp) (K : List CV → Prop) : hbx (H ++ x :: some cs :: L) (H.length + 1) K = K cs := hbx_new_add H _ 1 cs rfl K
@[go_sem] theorem hbx_new2 (H : Hp) (x y : Option (List CV)) (cs : List CV) (L : Hp) (K : List CV → Prop) : hbx (H ++ x :: y :: some cs :: L) (H.length + 2) K = K cs := hbx_new_add H _ 2 cs rfl K
@[go_sem] theorem hbx_new3 (H : Hp) (x y z : Option (List CV)) (cs : List CV) (L : Hp) (K : List CV → Prop) : hbx (H ++ x :: y :: z :: some cs :: L) (H.length + 3) K = K cs := hbx_new_add H _ 3 cs rfl K

/-! ### Returns -/
/-- The result is r; boxes and tokens are as they were. -/
def Pu (r : CV) (H : Hp) (V : List Nat) : CV → Hp → List Nat → Prop := fun r' H' V' => r' = r ∧ H = H' ∧ V = V'

theorem Fin.pure {nb nv : Nat} {R : CV → Hp → List Nat → Prop} {r r' : CV} {H H' : Hp} {V V' : List Nat} (hR : R r' H V) (hH : H'.take nb = H) (hV : V'.take nv = V) (hle : Le r r') (hok : okV nb nv r')
    (hokH : ∀ (b : Nat) cs, H[b]? = some (some cs) → okL nb nv cs) : Fin nb nv R r H' V' := by
  refine ⟨r', H, V, ?_, hR⟩
  refine Gst.trans (T' := [(0, r')]) (H' := H') (V' := V') (Gst.forget fun p hp => ?_) ?_
  · simp at hp; subst hp; exact hle
  · have := Gst.cut (n := 1) (nb := nb) (nv := nv) (T := [(0, r')]) (H := H') (V := V') nb nv (Nat.le_refl _) (Nat.le_refl _) (fun p hp => by simp at hp; subst hp; exact hok) (by rw [hH]; exact hokH)
    rwa [hH, hV] at this

/-- The result is a slice that may be appended to: it keeps its token, the last one. -/
theorem Fin.keep {nb nv : Nat} {R : CV → Hp → List Nat → Prop} {r r' : CV} {H H' : Hp} {V' V'' : List Nat} (j : Nat) (hR : R r' H V'') (hj : nv ≤ j) (hH : H'.take nb = H) (hV : V'.take j = V'') (hle : Le r r') (hok : okV nb j r')
    (hokH : ∀ (b : Nat) cs, H[b]? = some (some cs) → okL nb nv cs) : Fin nb nv R r H' V' := by
  refine ⟨r', H, V'', ?_, hR⟩
  refine Gst.trans (T' := [(0, r')]) (H' := H') (V' := V') (Gst.forget fun p hp => ?_) ?_
  · simp at hp; subst hp; exact hle
  · have := Gst.cut (n := 1) (nb := nb) (nv := nv) (T := [(0, r')]) (H := H') (V := V') nb j (Nat.le_refl _) hj (fun p hp => by simp at hp; subst hp; exact hok) (by
      rw [hH]
      intro b cs hb
      exact okL_mono (Nat.le_refl _) hj (hokH b cs hb))
    rwa [hH, hV] at this

/-- A nil slice, and one that is tight, may be appended to under a new token. -/
theorem Gst.tok {n nb nv sz : Nat} {x : CV} {xs : List (List CV)} {H : Hp} {V : List Nat} (hsz : 0 < sz) (hx : (x = .v (.slice none 0 0) ∧ xs = []) ∨ x = .sl .ti sz xs) : Gst n nb nv [(0, x)] H V [(0, .sl (.own V.length 0) sz xs)] H (V ++ [0]) := by
  intro m w a m0 w0 V0 h1 h2 h3 he hs
  obtain ⟨s1, s2⟩ := step_tok hs.inv
  refine ⟨_, ⟨s1, fun k => ?_, hs.size, hs.df⟩, he.trans s2⟩
  simp only [tget]
  by_cases hk : k = 0
  · rw [if_pos hk]
    have ht := (RelT.mono s2 hs.tm) k
    simp only [tget, if_pos hk] at ht
    have hget : ∀ u : Nat, (V ++ [0])[V.length]? = some 0 := fun _ => by rw [at_len]; rfl
    rcases hx with ⟨rfl, rfl⟩ | rfl
    · rw [RelV] at ht; rw [RelV]
      exact ⟨none, 0, ht, Nat.le_refl _, ⟨0, hget 0, Nat.le_refl _, fun _ => .inl rfl⟩, hsz, .inl rfl⟩
    · rw [RelV] at ht; rw [RelV]
      obtain ⟨base, cap, q1, q2, q3, q4, q5⟩ := ht
      exact ⟨base, cap, q1, q2, ⟨0, hget 0, Nat.le_refl _, fun _ => .inl q3⟩, q4, q5⟩
  · rw [if_neg hk, RelV]; trivial

/-- The result gets a new token. -/
theorem Fin.tok {nb nv sz : Nat} {R : CV → Hp → List Nat → Prop} {r : CV} {xs : List (List CV)} {H H' : Hp} {V V' : List Nat} (hR : R (.sl (.own V.length 0) sz xs) H (V ++ [0])) (hsz : 0 < sz) (hx : (r = .v (.slice none 0 0) ∧ xs = []) ∨ r = .sl .ti sz xs) (hH : H'.take nb = H) (hV : V'.take nv = V)
    (hok : okV nb nv r) (hokH : ∀ (b : Nat) cs, H[b]? = some (some cs) → okL nb nv cs) : Fin nb nv R r H' V' := by
  refine ⟨_, H, V ++ [0], ?_, hR⟩
  have := Gst.cut (n := 1) (nb := nb) (nv := nv) (T := [(0, r)]) (H := H') (V := V') nb nv (Nat.le_refl _) (Nat.le_refl _) (fun p hp => by simp at hp; subst hp; exact hok) (by rw [hH]; exact hokH)
  rw [hH, hV] at this
  exact this.trans (Gst.tok hsz hx)

/-! ### Loops, joins -/
def TLe (T : Tm) : Tm → Prop
  | [] => True
  | (k, c) :: r => Le (tget T k) c ∧ TLe T r
theorem TLe.get {T : Tm} : ∀ {T' : Tm}, TLe T T' → ∀ p ∈ T', Le (tget T p.1) p.2
  | [], _, p, hp => by cases hp
  | (k, c) :: r, h, p, hp => by
    rcases List.mem_cons.1 hp with rfl | hp
    · exact h.1
    · exact TLe.get h.2 p hp
@[go_sem] theorem TLe_nil (T : Tm) : TLe T [] = True := rfl
@[go_sem] theorem TLe_cons (T : Tm) (k : Nat) (c : CV) (r : Tm) : TLe T ((k, c) :: r) = (Le (tget T k) c ∧ TLe T r) := rfl
@[go_sem] theorem Le_self (c : CV) : Le c c = True := eq_true (.refl c)
@[go_sem] theorem Le_any (c : CV) : Le c .any = True := eq_true (.any c)
@[go_sem] theorem Le_sh (tk : Tk) (sz : Nat) (xs : List (List CV)) : Le (.sl tk sz xs) (.sl .sh sz xs) = True := eq_true (.sh tk sz xs)

/-- The state behind is this one, all else forgotten. -/
def Sh (n nb nv : Nat) (T : Tm) (H : Hp) (V : List Nat) (s : Tm × Hp × List Nat) : Prop := Gst n nb nv T H V s.1 s.2.1 s.2.2

theorem Sh.forget {n nb nv : Nat} {T T' : Tm} {H H' : Hp} {V V' : List Nat} (h : TLe T T') (hH : H = H') (hV : V = V') : Sh n nb nv T H V (T', H', V') := by
  subst hH hV
  exact Gst.forget (TLe.get h)

/-- What is forgotten may be all of the boxes and tokens from here on. -/
theorem Sh.cut {n nb nv : Nat} {T T' : Tm} {H H' : Hp} {V V' : List Nat} (i j : Nat) (h : TLe T T') (hi : nb ≤ i) (hj : nv ≤ j) (hT : ∀ p ∈ T', okV i j p.2) (hH : ∀ (b : Nat) cs, H'[b]? = some (some cs) → okL i j cs) (eH : H.take i = H') (eV : V.take j = V') : Sh n nb nv T H V (T', H', V') := by
  subst eH eV
  exact (Gst.forget (TLe.get h)).trans (Gst.cut i j hi hj hT hH)

theorem SWp.loop {P : Program} {n nb nv : Nat} {c : Code} {Q : Exit → Tm → Hp → List Nat → Prop} {T : Tm} {H : Hp} {V : List Nat} {α : Type} (S : α → Tm × Hp × List Nat) (ok : α → Prop) (μ : α → Nat) (x0 : α)
    (h0 : ok x0) (he : Sh n nb nv T H V (S x0)) (hr : ∀ x, ok x → SWp P n nb nv c (thn (fun T H V => ∃ x', ok x' ∧ μ x' < μ x ∧ Sh n nb nv T H V (S x')) Q) (S x).1 (S x).2.1 (S x).2.2) : SWp P n nb nv (.loop c) Q T H V := by
  intro m w a m0 w0 V0 h1 h2 h3 hx hs
  obtain ⟨m1, s1, s2⟩ := he m w a m0 w0 V0 h1 h2 h3 hx hs
  refine wp_loop_ghost (fun k a w => ∃ x m, ok x ∧ μ x = k ∧ St n m w a (S x).1 (S x).2.1 (S x).2.2 ∧ Ext m0 w0 V0 m w (S x).2.2) (μ x0) ⟨x0, m1, h0, rfl, s1, s2⟩ ?_
  rintro k a' w' ⟨x, m2, k0, rfl, k2, k3⟩
  refine wp_mono (hr x k0 m2 w' a' m0 w0 V0 h1 h2 h3 k3 k2) fun e a3 w3 ⟨T3, H3, V3, m3, q1, q2, q3⟩ => ?_
  cases e with
  | normal =>
    obtain ⟨x', r1, r2, r3⟩ := q1
    obtain ⟨m4, t1, t2⟩ := r3 m3 w3 a3 m0 w0 V0 h1 h2 h3 q3 q2
    exact ⟨μ x', r2, x', m4, r1, rfl, t1, t2⟩
  | _ => exact ⟨T3, H3, V3, m3, q1, q2, q3⟩

theorem SWp.block {P : Program} {n nb nv id : Nat} {c : Code} {Q : Exit → Tm → Hp → List Nat → Prop} {T : Tm} {H : Hp} {V : List Nat} (h : SWp P n nb nv c (blk id Q) T H V) : SWp P n nb nv (.block id c) Q T H V := by
  intro m w a m0 w0 V0 h1 h2 h3 hx hs
  refine wp_block (wp_mono (h m w a m0 w0 V0 h1 h2 h3 hx hs) fun e a' w' ⟨T', H', V', m', k1, k2⟩ => ?_)
  cases e with
  | exit id' =>
    simp only [blk] at k1
    simp only [Exit.inBlock]
    split
    · rename_i hid; rw [if_pos hid] at k1; exact ⟨T', H', V', m', k1, k2⟩
    · rename_i hid; rw [if_neg hid] at k1; exact ⟨T', H', V', m', k1, k2⟩
  | _ => exact ⟨T', H', V', m', k1, k2⟩

/-- Ways that meet again: behind the first piece one of the states S. -/
theorem SWp.join {P : Program} {n nb nv : Nat} {x y : Code} {Q : Exit → Tm → Hp → List Nat → Prop} {T : Tm} {H : Hp} {V : List Nat} {α : Type} (S : α → Tm × Hp × List Nat) (ok : α → Prop)
    (h1 : SWp P n nb nv x (thn (fun T H V => ∃ s, ok s ∧ Sh n nb nv T H V (S s)) Q) T H V) (h2 : ∀ s, ok s → SWp P n nb nv y Q (S s).1 (S s).2.1 (S s).2.2) : SWp P n nb nv (.seq x y) Q T H V :=
  SWp.seq (h1.mono fun e T H V k => by
    cases e with
    | normal => obtain ⟨s, k1, k2⟩ := k; exact SWp.ghost k2 (h2 s k1)
    | _ => exact k)
theorem Wp.s {P : Program} {n nb nv : Nat} {c : Code} {Q : Exit → Tm → Hp → List Nat → Prop} {T : Tm} {H : Hp} {V : List Nat} (h : Wp P n nb nv c Q T H V) : SWp P n nb nv c Q T H V := Wp.sound c h
@[congr] theorem SWp_congr {P : Program} {n nb nv : Nat} {c : Code} {Q : Exit → Tm → Hp → List Nat → Prop} {T T' : Tm} {H H' : Hp} {V V' : List Nat} (h1 : T = T') (h2 : H = H') (h3 : V = V') : SWp P n nb nv c Q T H V = SWp P n nb nv c Q T' H' V' := by subst h1 h2 h3; rfl
@[congr] theorem Sh_congr {n nb nv : Nat} {T T' : Tm} {H H' : Hp} {V V' : List Nat} {s s' : Tm × Hp × List Nat} (h1 : T = T') (h2 : H = H') (h3 : V = V') (h4 : s = s') : Sh n nb nv T H V s = Sh n nb nv T' H' V' s' := by subst h1 h2 h3 h4; rfl

/-! ### The usual posts -/
/-- A new slice that may be appended to. -/
def Fr (sz : Nat) (xs : List (List CV)) (H : Hp) (V : List Nat) : CV → Hp → List Nat → Prop := fun r H' V' => ∃ v, r = .sl (.own V.length v) sz xs ∧ H = H' ∧ V ++ [v] = V'
/-- The slice of token k, appended to. -/
def Ow (k sz : Nat) (xs : List (List CV)) (H : Hp) (V : List Nat) : CV → Hp → List Nat → Prop := fun r H' V' => ∃ v, r = .sl (.own k v) sz xs ∧ H = H' ∧ V.set k v = V'

section
variable {r r0 : CV} {H H' : Hp} {V V' : List Nat} {sz : Nat} {xs : List (List CV)}
theorem Fin.pu (hle : Le r r0) (hok : okV H.length V.length r0) (hokH : ∀ (b : Nat) cs, H[b]? = some (some cs) → okL H.length V.length cs) (hH : H'.take H.length = H) (hV : V'.take V.length = V) : Fin H.length V.length (Pu r0 H V) r H' V' :=
  Fin.pure ⟨rfl, rfl, rfl⟩ hH hV hle hok hokH
theorem Fin.fr {v : Nat} {W : List Nat} (hok : okE H.length V.length xs) (hokH : ∀ (b : Nat) cs, H[b]? = some (some cs) → okL H.length V.length cs) (hH : H'.take H.length = H) : Fin H.length V.length (Fr sz xs H V) (.sl (.own V.length v) sz xs) H' (V ++ v :: W) :=
  Fin.keep (V'' := V ++ [v]) (V.length + 1) ⟨v, rfl, rfl, rfl⟩ (Nat.le_succ _) hH (by rw [List.take_append, List.take_of_length_le (Nat.le_succ _)]; simp) (.refl _) (by rw [okV]; exact ⟨Nat.lt_succ_self _, okE_mono (Nat.le_refl _) (Nat.le_succ _) hok⟩) hokH
theorem Fin.frtok (hsz : 0 < sz) (hx : (r = .v (.slice none 0 0) ∧ xs = []) ∨ r = .sl .ti sz xs) (hok : okE H.length V.length xs) (hokH : ∀ (b : Nat) cs, H[b]? = some (some cs) → okL H.length V.length cs) (hH : H'.take H.length = H) (hV : V'.take V.length = V) : Fin H.length V.length (Fr sz xs H V) r H' V' :=
  Fin.tok ⟨0, rfl, rfl, rfl⟩ hsz hx hH hV (by rcases hx with ⟨rfl, _⟩ | rfl <;> rw [okV] <;> first | trivial | exact ⟨trivial, hok⟩) hokH
theorem Fin.ow {k v : Nat} {W : List Nat} (hk : k < V.length) (hok : okE H.length V.length xs) (hokH : ∀ (b : Nat) cs, H[b]? = some (some cs) → okL H.length V.length cs) (hH : H'.take H.length = H) : Fin H.length V.length (Ow k sz xs H V) (.sl (.own k v) sz xs) H' (V.set k v ++ W) :=
  Fin.keep (V'' := V.set k v) V.length ⟨v, rfl, rfl, rfl⟩ (Nat.le_refl _) hH (by rw [List.take_append, List.take_of_length_le (by simp)]; simp) (.refl _) (by rw [okV]; exact ⟨hk, hok⟩) hokH
theorem Fin.ow0 {k v : Nat} (hk : k < V.length) (hok : okE H.length V.length xs) (hokH : ∀ (b : Nat) cs, H[b]? = some (some cs) → okL H.length V.length cs) (hH : H'.take H.length = H) : Fin H.length V.length (Ow k sz xs H V) (.sl (.own k v) sz xs) H' (V.set k v) := by
  have := Fin.ow (sz := sz) (v := v) (W := []) hk hok hokH hH
  rwa [List.append_nil] at this
end
theorem okE_map {jb jv : Nat} {α : Type} (f : α → List CV) (l : List α) (h : ∀ a, okL jb jv (f a)) : okE jb jv (l.map f) := by
  rw [okE_iff]
  intro e he c hc
  obtain ⟨a, _, rfl⟩ := List.mem_map.1 he
  exact okL_iff.1 (h a) c hc
theorem len_le (l : List CV) (n : Nat) (h : Nat.ble l.length n = true) : l.length ≤ n := Nat.le_of_ble_eq_true h
theorem Le.of_eq {c d : CV} (h : c = d) : Le c d := by subst h; exact .refl c
theorem Le.int {k : IntKind} {a b : Int} (h : a = b) : Le (.v (.int k a)) (.v (.int k b)) := .of_eq (by rw [h])
section
variable {H H' : Hp} {V V' : List Nat} {sz : Nat} {xs ys : List (List CV)}
theorem Fin.own {k v : Nat} (hk : k < V.length) (hx : ys = xs) (hok : okE H.length V.length xs) (hokH : ∀ (b : Nat) cs, H[b]? = some (some cs) → okL H.length V.length cs) (hH : H'.take H.length = H) : Fin H.length V.length (Ow k sz xs H V) (.sl (.own k v) sz ys) H' (V.set k v) := by
  subst hx; exact Fin.ow0 hk hok hokH hH
theorem Fin.fresh {v : Nat} {W : List Nat} (hx : ys = xs) (hok : okE H.length V.length xs) (hokH : ∀ (b : Nat) cs, H[b]? = some (some cs) → okL H.length V.length cs) (hH : H'.take H.length = H) : Fin H.length V.length (Fr sz xs H V) (.sl (.own V.length v) sz ys) H' (V ++ v :: W) := by
  subst hx; exact Fin.fr hok hokH hH
end
end Go.Proofs.Ytffjhibomipemaa
