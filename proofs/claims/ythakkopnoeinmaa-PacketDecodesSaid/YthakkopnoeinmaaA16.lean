import Derived.Test.YthakkopnoeinmaaA15
import Derived.Test.YthakkopnoeinmaaA5
import Derived.WalkSmall
set_option linter.unusedSimpArgs false
set_option linter.unusedVariables false
namespace Go.Proofs.Ythakkopnoeinmaa
open Go.Proofs
theorem Fin.cut {nb nv : Nat} {R : CV → Hp → List Nat → Prop} {r r' : CV} {H' H'' : Hp} {V' V'' : List Nat} (i j : Nat) (hR : R r' H'' V'') (hi : nb ≤ i) (hj : nv ≤ j) (hH : H'.take i = H'') (hV : V'.take j = V'') (hle : Le r r') (hok : okV i j r')
    (hokH : ∀ (b : Nat) cs, H''[b]? = some (some cs) → okL i j cs) : Fin nb nv R r H' V' := by
  refine ⟨r', H'', V'', ?_, hR⟩
  refine Gst.trans (T' := [(0, r')]) (H' := H') (V' := V') (Gst.forget fun p hp => ?_) ?_
  · simp at hp; subst hp; exact hle
  · have := Gst.cut (n := 1) (nb := nb) (nv := nv) (T := [(0, r')]) (H := H') (V := V') i j hi hj (fun p hp => by simp at hp; subst hp; exact hok) (by rw [hH]; exact hokH)
    rwa [hH, hV] at this
theorem Fin.self {nb nv : Nat} {R : CV → Hp → List Nat → Prop} {r : CV} {H : Hp} {V : List Nat} (h : R r H V) : Fin nb nv R r H V := ⟨r, H, V, Gst.refl, h⟩
@[go_sem] theorem hbx_addj (H L : Hp) (j : Nat) (K : List CV → Prop) : hbx (H ++ L) (H.length + j) K = hbx L j K := by simp only [hbx, at_len_add]
@[go_sem] theorem set_addj (H L : Hp) (j : Nat) (d : Option (List CV)) : (H ++ L).set (H.length + j) d = H ++ L.set j d := by
  rw [List.set_append_right _ _ (by omega)]; congr 2; omega
def pan (k : Nat) : List PanicEntry := [{ v := .iface 102 (.int .i64 (k : Int)), recovered := false }]
theorem demand_run (k : Nat) (w : World) : Calls Try.prog 52 #[.int .i64 (k : Int)] w fun e w' => w' = w ∧ if k = 0 then e = .returned (.tuple #[]) else e = .panicked (pan k) := by
  go_enter Try.func52, Try.ntmps52
  by_cases hk : k = 0
  · subst hk
    go_wp2
    simp [bodyPost, results, Try.results52, go_sem]
  · go_wp2
    simp [bodyPost, pan]
@[go_sem] theorem und102 : Try.prog.underlying 102 = some (.int .i64) := by kernel_rfl
theorem ta102 (v : Value) (x : TypeId) (w : World) : (Instr.typeAssert (.iface 102 v) x 102 true).run Try.prog w = .ok (.tuple #[v, .bool true]) w := by
  simp [Instr.typeAssert, go_sem]
attribute [local go_sem] ta102
theorem caught_run (k : Nat) (w : World) : Calls Try.prog 46 #[.iface 102 (.int .i64 (k : Int))] w fun e w' => w' = w ∧ e = .returned (.int .i64 (k : Int)) := by
  go_enter Try.func46, Try.ntmps46
  go_wp2
  go_ret
  exact ⟨rfl, rfl⟩
theorem demand_cx (H : Hp) (V : List Nat) (k : Nat) : CX Try.prog 52 [er k] H V (fun r H' V' => k = 0 ∧ r = .tup [] ∧ H' = H ∧ V' = V) (fun ch H' V' => k ≠ 0 ∧ ch = pan k ∧ H' = H ∧ V' = V) := by
  refine ⟨⟨_, Try.func52, rfl, by kernel_rfl⟩, fun m w us hi hu => ?_⟩
  rw [RelL] at hu
  obtain ⟨u, r, rfl, h1, h2⟩ := hu
  rw [RelL] at h2
  subst h2
  rw [er, RelV] at h1
  subst h1
  refine (demand_run k w).mono fun e w' ⟨e1, e2⟩ => ?_
  subst e1
  split at e2
  · exact .inl ⟨_, m, .tup [], H, V, e2, ⟨by assumption, rfl, rfl, rfl⟩, hi, (by rw [RelV]; exact ⟨[], rfl, by rw [RelL]⟩), Ext.refl _ _ _⟩
  · exact .inr ⟨_, m, H, V, e2, ⟨by assumption, rfl, rfl, rfl⟩, hi, Ext.refl _ _ _⟩
theorem caught_cc (H : Hp) (V : List Nat) (k : Nat) : CC Try.prog 46 [.v (.iface 102 (.int .i64 (k : Int)))] H V (Pu (er k) H V) := by
  refine ⟨⟨_, Try.func46, rfl, by kernel_rfl⟩, fun m w us hi hu => ?_⟩
  rw [RelL] at hu
  obtain ⟨u, r, rfl, h1, h2⟩ := hu
  rw [RelL] at h2
  subst h2
  rw [RelV] at h1
  subst h1
  refine (caught_run k w).mono fun e w' ⟨e1, e2⟩ => ?_
  subst e1
  exact ⟨_, m, er k, H, V, e2, ⟨rfl, rfl, rfl⟩, hi, (by rw [er, RelV]), Ext.refl _ _ _⟩
def ClK {α : Type} (p : Pr α) (s : List UInt8) (F : α → List UInt8 → Hp) (V : List Nat) : CV → Hp → List Nat → Prop := fun _ H' V' => ∃ a r, p s = .ok (a, r) ∧ H' = F a r ∧ V' = V
def ClE {α : Type} (p : Pr α) (s : List UInt8) (H : Hp) (V : List Nat) : List PanicEntry → Hp → List Nat → Prop := fun ch H' V' => ∃ k, p s = .error k ∧ ch = pan k ∧ H' = H ∧ V' = V
theorem cx_err {f : FuncId} {args : List CV} {H : Hp} {V : List Nat} {K : CV → Hp → List Nat → Prop} {E : List PanicEntry → Hp → List Nat → Prop} (k : Nat) (e : f = 52) (ha : args = [er k]) (h0 : k = 0 → K (.tup []) H V) (h1 : k ≠ 0 → E (pan k) H V) : CX Try.prog f args H V K E := by
  subst e ha
  exact CX.mono (demand_cx H V k) (fun r H' V' ⟨a, b, c, d⟩ => by subst b c d; exact h0 a) (fun ch H' V' ⟨a, b, c, d⟩ => by subst b c d; exact h1 a)
theorem intF_cc (H : Hp) (V : List Nat) (x y : CV) (hx : x.cells = [x]) (hy : y.cells = [y]) (ox : x.one = true) (oy : y.one = true) : CC Try.prog 48 [x, y] H V (fun r H' V' => r = .fn 72 [.ptr H.length 0, .ptr (H.length + 1) 0] ∧ H' = H ++ [some [x], some [y]] ∧ V = V') := by
  refine CC.of_swp Try.func48 rfl (by kernel_rfl) (by rw [Try.ntmps48]; exact len_le _ _ rfl) fun hok hokH => Wp.s ?_
  simp -implicitDefEqProofs [go_sem, args0, hx, hy, ox, oy]
  exact Fin.self ⟨rfl, rfl, rfl⟩
theorem extsF_cc (H : Hp) (V : List Nat) (x y : CV) (hx : x.cells = [x]) (hy : y.cells = [y]) (ox : x.one = true) (oy : y.one = true) : CC Try.prog 49 [x, y] H V (fun r H' V' => r = .fn 74 [.ptr H.length 0, .ptr (H.length + 1) 0] ∧ H' = H ++ [some [x], some [y]] ∧ V = V') := by
  refine CC.of_swp Try.func49 rfl (by kernel_rfl) (by rw [Try.ntmps49]; exact len_le _ _ rfl) fun hok hokH => Wp.s ?_
  simp -implicitDefEqProofs [go_sem, args0, hx, hy, ox, oy]
  exact Fin.self ⟨rfl, rfl, rfl⟩
theorem bytesF_cc (H : Hp) (V : List Nat) (x y : CV) (hx : x.cells = [x]) (hy : y.cells = [y]) (ox : x.one = true) (oy : y.one = true) : CC Try.prog 50 [x, y] H V (fun r H' V' => r = .fn 76 [.ptr H.length 0, .ptr (H.length + 1) 0] ∧ H' = H ++ [some [x], some [y]] ∧ V = V') := by
  refine CC.of_swp Try.func50 rfl (by kernel_rfl) (by rw [Try.ntmps50]; exact len_le _ _ rfl) fun hok hokH => Wp.s ?_
  simp -implicitDefEqProofs [go_sem, args0, hx, hy, ox, oy]
  exact Fin.self ⟨rfl, rfl, rfl⟩
theorem intsF_cc (H : Hp) (V : List Nat) (x y : CV) (hx : x.cells = [x]) (hy : y.cells = [y]) (ox : x.one = true) (oy : y.one = true) : CC Try.prog 58 [x, y] H V (fun r H' V' => r = .fn 81 [.ptr H.length 0, .ptr (H.length + 1) 0] ∧ H' = H ++ [some [x], some [y]] ∧ V = V') := by
  refine CC.of_swp Try.func58 rfl (by kernel_rfl) (by rw [Try.ntmps58]; exact len_le _ _ rfl) fun hok hokH => Wp.s ?_
  simp -implicitDefEqProofs [go_sem, args0, hx, hy, ox, oy]
  exact Fin.self ⟨rfl, rfl, rfl⟩
theorem int1_cx (H : Hp) (V : List Nat) (c1 c2 rb pb off : Nat) (tk : Tk) (s : List UInt8) (ys cells : List CV) (h1 : H[c1]? = some (some [.ptr rb 0])) (h2 : H[c2]? = some (some [.ptr pb off])) (h3 : H[rb]? = some (some (.sl tk 1 (bs s) :: ys))) (h4 : H[pb]? = some (some cells)) (hne : pb ≠ rb) (hne1 : pb ≠ c1) (ho : off < cells.length) (hl : s.length ≤ 1000000000) :
    CX Try.prog 72 [.ptr c1 0, .ptr c2 0] H V (ClK (number) s (fun a r => (H.set pb (some (cells.take off ++ (ci a) :: cells.drop (off + 1)))).set rb (some (.sl .sh 1 (bs r) :: ys))) V) (ClE (number) s H V) := by
  refine CX.of_swp Try.func72 rfl (by kernel_rfl) (by rw [Try.ntmps72]; exact len_le _ _ rfl) fun hok hokH => ?_
  have h3' : ∀ x : List CV, (H.set pb (some x))[rb]? = some (some (.sl tk 1 (bs s) :: ys)) := fun x => by rw [List.getElem?_set_ne hne]; exact h3
  refine SWp.seq (Wp.s ?_)
  simp -implicitDefEqProofs [go_sem, args0, hbx_some h1, hbx_some h3]
  refine CC.mono (Int_cc _ _ _ _ hl) ?_
  rintro _ _ _ ⟨rfl, rfl, rfl⟩
  rcases hs : number s with k | ⟨a, r⟩
  · simp -implicitDefEqProofs [go_sem, rdv]
    refine SWp.seq (SWp.callx (pre := [_]) (post := []) ?_)
    simp -implicitDefEqProofs [go_sem]
    refine cx_err k rfl rfl (fun h => absurd h (ne0_number _ _ hs)) fun _ => ⟨k, hs, rfl, rfl, rfl⟩
  · simp -implicitDefEqProofs [go_sem, rdv]
    refine SWp.seq (SWp.callx (pre := [_]) (post := []) ?_)
    simp -implicitDefEqProofs [go_sem]
    refine cx_err 0 rfl rfl (fun _ => ?_) (fun h => absurd rfl h)
    simp -implicitDefEqProofs [go_sem]
    refine SWp.drawnF [c1] [(0,.pl),(1,.ld),(2,.pl),(3,.pl),(4,.pl),(5,.st),(6,.pl),(7,.pl),(8,.st)] (by kernel_rfl) (by kernel_rfl) rfl ?_
    simp -implicitDefEqProofs [go_sem, hbx_some h1, hbx_some h2, hbx_some h4, hbx_some (h3' _), show off + 1 ≤ cells.length by omega, Kp_set, hne1]
    have hne2 : rb ≠ c1 := fun e => by rw [e, h1] at h3; cases h3
    refine ⟨Kp_set (by simpa using hne2), Fin.self ?_⟩
    exact ⟨a, r, hs, rfl, rfl⟩
theorem exts1_cx (H : Hp) (V : List Nat) (c1 c2 rb pb off : Nat) (tk : Tk) (s : List UInt8) (ys cells : List CV) (h1 : H[c1]? = some (some [.ptr rb 0])) (h2 : H[c2]? = some (some [.ptr pb off])) (h3 : H[rb]? = some (some (.sl tk 1 (bs s) :: ys))) (h4 : H[pb]? = some (some cells)) (hne : pb ≠ rb) (hne1 : pb ≠ c1) (ho : off < cells.length) (hl : s.length ≤ 1000000000) :
    CX Try.prog 74 [.ptr c1 0, .ptr c2 0] H V (ClK (listP extP) s (fun a r => (H.set pb (some (cells.take off ++ (.sl .sh 2 (a.map extC)) :: cells.drop (off + 1)))).set rb (some (.sl .sh 1 (bs r) :: ys))) V) (ClE (listP extP) s H V) := by
  refine CX.of_swp Try.func74 rfl (by kernel_rfl) (by rw [Try.ntmps74]; exact len_le _ _ rfl) fun hok hokH => ?_
  have h3' : ∀ x : List CV, (H.set pb (some x))[rb]? = some (some (.sl tk 1 (bs s) :: ys)) := fun x => by rw [List.getElem?_set_ne hne]; exact h3
  refine SWp.seq (Wp.s ?_)
  simp -implicitDefEqProofs [go_sem, args0, hbx_some h1, hbx_some h3]
  refine CC.mono (Extents_cc _ _ _ _ hl) ?_
  rintro _ _ _ ⟨rfl, rfl, rfl⟩
  rcases hs : listP extP s with k | ⟨a, r⟩
  · simp -implicitDefEqProofs [go_sem, rdv]
    refine SWp.seq (SWp.callx (pre := [_]) (post := []) ?_)
    simp -implicitDefEqProofs [go_sem]
    refine cx_err k rfl rfl (fun h => absurd h ((ne0_list ne0_ext) _ _ hs)) fun _ => ⟨k, hs, rfl, rfl, rfl⟩
  · simp -implicitDefEqProofs [go_sem, rdv]
    refine SWp.seq (SWp.callx (pre := [_]) (post := []) ?_)
    simp -implicitDefEqProofs [go_sem]
    refine cx_err 0 rfl rfl (fun _ => ?_) (fun h => absurd rfl h)
    simp -implicitDefEqProofs [go_sem]
    refine SWp.drawnF [c1] [(0,.pl),(1,.ld),(2,.pl),(3,.pl),(4,.pl),(5,.st),(6,.pl),(7,.pl),(8,.st)] (by kernel_rfl) (by kernel_rfl) rfl ?_
    simp -implicitDefEqProofs [go_sem, hbx_some h1, hbx_some h2, hbx_some h4, hbx_some (h3' _), show off + 1 ≤ cells.length by omega, Kp_set, hne1]
    have hne2 : rb ≠ c1 := fun e => by rw [e, h1] at h3; cases h3
    refine ⟨Kp_set (by simpa using hne2), Fin.self ?_⟩
    exact ⟨a, r, hs, rfl, rfl⟩
theorem bytes1_cx (H : Hp) (V : List Nat) (c1 c2 rb pb off : Nat) (tk : Tk) (s : List UInt8) (ys cells : List CV) (h1 : H[c1]? = some (some [.ptr rb 0])) (h2 : H[c2]? = some (some [.ptr pb off])) (h3 : H[rb]? = some (some (.sl tk 1 (bs s) :: ys))) (h4 : H[pb]? = some (some cells)) (hne : pb ≠ rb) (hne1 : pb ≠ c1) (ho : off < cells.length) (hl : s.length ≤ 1000000000) :
    CX Try.prog 76 [.ptr c1 0, .ptr c2 0] H V (ClK (textP) s (fun a r => (H.set pb (some (cells.take off ++ (.sl .sh 1 (bs a)) :: cells.drop (off + 1)))).set rb (some (.sl .sh 1 (bs r) :: ys))) V) (ClE (textP) s H V) := by
  refine CX.of_swp Try.func76 rfl (by kernel_rfl) (by rw [Try.ntmps76]; exact len_le _ _ rfl) fun hok hokH => ?_
  have h3' : ∀ x : List CV, (H.set pb (some x))[rb]? = some (some (.sl tk 1 (bs s) :: ys)) := fun x => by rw [List.getElem?_set_ne hne]; exact h3
  refine SWp.seq (Wp.s ?_)
  simp -implicitDefEqProofs [go_sem, args0, hbx_some h1, hbx_some h3]
  refine CC.mono (Bytes_cc _ _ _ _ hl) ?_
  rintro _ _ _ ⟨rfl, rfl, rfl⟩
  rcases hs : textP s with k | ⟨a, r⟩
  · simp -implicitDefEqProofs [go_sem, rdv]
    refine SWp.seq (SWp.callx (pre := [_]) (post := []) ?_)
    simp -implicitDefEqProofs [go_sem]
    refine cx_err k rfl rfl (fun h => absurd h (ne0_text _ _ hs)) fun _ => ⟨k, hs, rfl, rfl, rfl⟩
  · simp -implicitDefEqProofs [go_sem, rdv]
    refine SWp.seq (SWp.callx (pre := [_]) (post := []) ?_)
    simp -implicitDefEqProofs [go_sem]
    refine cx_err 0 rfl rfl (fun _ => ?_) (fun h => absurd rfl h)
    simp -implicitDefEqProofs [go_sem]
    refine SWp.drawnF [c1] [(0,.pl),(1,.ld),(2,.pl),(3,.pl),(4,.pl),(5,.st),(6,.pl),(7,.pl),(8,.st)] (by kernel_rfl) (by kernel_rfl) rfl ?_
    simp -implicitDefEqProofs [go_sem, hbx_some h1, hbx_some h2, hbx_some h4, hbx_some (h3' _), show off + 1 ≤ cells.length by omega, Kp_set, hne1]
    have hne2 : rb ≠ c1 := fun e => by rw [e, h1] at h3; cases h3
    refine ⟨Kp_set (by simpa using hne2), Fin.self ?_⟩
    exact ⟨a, r, hs, rfl, rfl⟩
theorem ints1_cx (H : Hp) (V : List Nat) (c1 c2 rb pb off : Nat) (tk : Tk) (s : List UInt8) (ys cells : List CV) (h1 : H[c1]? = some (some [.ptr rb 0])) (h2 : H[c2]? = some (some [.ptr pb off])) (h3 : H[rb]? = some (some (.sl tk 1 (bs s) :: ys))) (h4 : H[pb]? = some (some cells)) (hne : pb ≠ rb) (hne1 : pb ≠ c1) (ho : off < cells.length) (hl : s.length ≤ 1000000000) :
    CX Try.prog 81 [.ptr c1 0, .ptr c2 0] H V (ClK (listP intP) s (fun a r => (H.set pb (some (cells.take off ++ (.sl .sh 1 (a.map ic)) :: cells.drop (off + 1)))).set rb (some (.sl .sh 1 (bs r) :: ys))) V) (ClE (listP intP) s H V) := by
  refine CX.of_swp Try.func81 rfl (by kernel_rfl) (by rw [Try.ntmps81]; exact len_le _ _ rfl) fun hok hokH => ?_
  have h3' : ∀ x : List CV, (H.set pb (some x))[rb]? = some (some (.sl tk 1 (bs s) :: ys)) := fun x => by rw [List.getElem?_set_ne hne]; exact h3
  refine SWp.seq (Wp.s ?_)
  simp -implicitDefEqProofs [go_sem, args0, hbx_some h1, hbx_some h3]
  refine CC.mono (Ints_cc _ _ _ _ hl) ?_
  rintro _ _ _ ⟨rfl, rfl, rfl⟩
  rcases hs : listP intP s with k | ⟨a, r⟩
  · simp -implicitDefEqProofs [go_sem, rdv]
    refine SWp.seq (SWp.callx (pre := [_]) (post := []) ?_)
    simp -implicitDefEqProofs [go_sem]
    refine cx_err k rfl rfl (fun h => absurd h ((ne0_list ne0_int) _ _ hs)) fun _ => ⟨k, hs, rfl, rfl, rfl⟩
  · simp -implicitDefEqProofs [go_sem, rdv]
    refine SWp.seq (SWp.callx (pre := [_]) (post := []) ?_)
    simp -implicitDefEqProofs [go_sem]
    refine cx_err 0 rfl rfl (fun _ => ?_) (fun h => absurd rfl h)
    simp -implicitDefEqProofs [go_sem]
    refine SWp.drawnF [c1] [(0,.pl),(1,.ld),(2,.pl),(3,.pl),(4,.pl),(5,.st),(6,.pl),(7,.pl),(8,.st)] (by kernel_rfl) (by kernel_rfl) rfl ?_
    simp -implicitDefEqProofs [go_sem, hbx_some h1, hbx_some h2, hbx_some h4, hbx_some (h3' _), show off + 1 ≤ cells.length by omega, Kp_set, hne1]
    have hne2 : rb ≠ c1 := fun e => by rw [e, h1] at h3; cases h3
    refine ⟨Kp_set (by simpa using hne2), Fin.self ?_⟩
    exact ⟨a, r, hs, rfl, rfl⟩
end Go.Proofs.Ythakkopnoeinmaa
namespace Go.Proofs.Ythakkopnoeinmaa
open Go.Proofs
theorem drop_eq {α : Type} {l m : List α} {i : Nat} (hl : l.length = m.length) (h : i < l.length) : (l.drop i = m.drop i) ↔ (l[i] = m[i] ∧ l.drop (i + 1) = m.drop (i + 1)) := by
  rw [List.drop_eq_getElem_cons h, List.drop_eq_getElem_cons (show i < m.length by omega)]
  constructor
  · intro e; injection e with e1 e2; exact ⟨e1, e2⟩
  · rintro ⟨e1, e2⟩; rw [e1, e2]
theorem bget (l : List UInt8) (i : Nat) (h : i < (bs l).length) : (bs l)[i] = [CV.v (.int .u8 ((l[i]'(by simpa [bs] using h)).toNat : Int))] := by simp [bs, u8]
theorem eqBytes_cc (H : Hp) (V : List Nat) (t1 t2 : Tk) (a b : List UInt8) (ha : a.length ≤ 900000000) (_hb : b.length ≤ 900000000) : CC Try.prog 71 [.sl t1 1 (bs a), .sl t2 1 (bs b)] H V (Pu (cb (decide (a = b))) H V) := by
  refine CC.of_swp Try.func71 rfl (by kernel_rfl) (by rw [Try.ntmps71]; exact len_le _ _ rfl) fun hok hokH => ?_
  clear hok
  refine SWp.seq (Wp.s ?_)
  simp -implicitDefEqProofs [go_sem, args0]
  refine SWp.seq (Wp.s ?_)
  by_cases hl : a.length = b.length
  case neg =>
    simp -implicitDefEqProofs [go_sem, show ¬ ((a.length : Int) = b.length) by omega]
    exact Fin.bool (by simp; exact fun e => hl (by rw [e])) hokH (by simp) (by simp)
  simp -implicitDefEqProofs [go_sem, hl]
  refine SWp.join (α := Unit) (fun _ => ([], H, V)) (fun _ => a = b) ?_ ?_
  · refine SWp.seq (Wp.s ?_)
    simp -implicitDefEqProofs [go_sem]
    refine SWp.block ?_
    refine SWp.loop (α := Nat) (fun i => ([(0, .sl t1 1 (bs a)), (1, .sl t2 1 (bs b)), (12, ci a.length), (13, ci i)], H, V)) (fun i => i ≤ a.length ∧ (a = b ↔ a.drop i = b.drop i)) (fun i => a.length - i) 0 ⟨Nat.zero_le _, by simp⟩ (Sh.forget (by simp [go_sem, hl]) rfl rfl) ?_
    rintro i ⟨hi, hq⟩
    dsimp only
    refine SWp.seq (Wp.s ?_)
    simp -implicitDefEqProofs [go_sem]
    refine SWp.seq (Wp.s ?_)
    simp -implicitDefEqProofs [go_sem]
    refine ⟨fun h => ?_, fun h => ⟨?_, Sh.forget (by simp [go_sem]) rfl rfl⟩⟩
    case refine_2 =>
      exact hq.2 (by rw [List.drop_eq_nil_of_le (by omega), List.drop_eq_nil_of_le (by omega)])
    have hw := wrap_succ (show i ≤ 1000000000 by omega)
    have h2 : i < b.length := by omega
    rw [drop_eq hl h] at hq
    refine SWp.seq (SWp.block ?_)
    refine SWp.seq (Wp.s ?_)
    simp -implicitDefEqProofs [go_sem]
    refine SWp.seq (SWp.drawnL [0, 1, 2, 3, 4, 5, 6, 7, 8] (by kernel_rfl) (by kernel_rfl) rfl ?_)
    simp -implicitDefEqProofs [go_sem, h, h2, bget]
    refine Wp.s ?_
    by_cases hx : a[i] = b[i]
    · simp -implicitDefEqProofs [go_sem, hx, hw]
      refine Wp.s ?_
      simp -implicitDefEqProofs [go_sem, hw]
      exact ⟨i + 1, ⟨by omega, by rw [hq]; simp [hx]⟩, by omega, Sh.forget (by simp [go_sem]) rfl rfl⟩
    · have hx' : ¬ ((a[i].toNat : Int) = b[i].toNat) := fun e => hx (UInt8.toNat_inj.1 (by omega))
      simp -implicitDefEqProofs [go_sem, hx', hw]
      exact Fin.bool (by simp; exact fun e => hx (hq.1 e).1) hokH (by simp) (by simp)
  · rintro _ hab
    dsimp only
    refine Wp.s ?_
    simp -implicitDefEqProofs [go_sem]
    exact Fin.bool (by simp [hab]) hokH (by simp) (by simp)
theorem sameBytes_cc (H : Hp) (V : List Nat) (t1 t2 : Tk) (a b : List UInt8) (ha : a.length ≤ 900000000) (_hb : b.length ≤ 900000000) : CC Try.prog 63 [.sl t1 1 (bs a), .sl t2 1 (bs b)] H V (Pu (cb (decide (a = b))) H V) := by
  refine CC.of_swp Try.func63 rfl (by kernel_rfl) (by rw [Try.ntmps63]; exact len_le _ _ rfl) fun hok hokH => ?_
  clear hok
  refine SWp.seq (Wp.s ?_)
  simp -implicitDefEqProofs [go_sem, args0]
  refine SWp.seq (Wp.s ?_)
  by_cases hl : a.length = b.length
  case neg =>
    simp -implicitDefEqProofs [go_sem, show ¬ ((a.length : Int) = b.length) by omega]
    exact Fin.bool (by simp; exact fun e => hl (by rw [e])) hokH (by simp) (by simp)
  simp -implicitDefEqProofs [go_sem, hl]
  refine SWp.join (α := Unit) (fun _ => ([], H, V)) (fun _ => a = b) ?_ ?_
  · refine SWp.seq (Wp.s ?_)
    simp -implicitDefEqProofs [go_sem]
    refine SWp.block ?_
    refine SWp.loop (α := Nat) (fun i => ([(0, .sl t1 1 (bs a)), (1, .sl t2 1 (bs b)), (5, ci i)], H, V)) (fun i => i ≤ a.length ∧ (a = b ↔ a.drop i = b.drop i)) (fun i => a.length - i) 0 ⟨Nat.zero_le _, by simp⟩ (Sh.forget (by simp [go_sem, hl]) rfl rfl) ?_
    rintro i ⟨hi, hq⟩
    dsimp only
    refine SWp.seq (Wp.s ?_)
    simp -implicitDefEqProofs [go_sem]


    refine ⟨fun h => ?_, fun h => ⟨?_, Sh.forget (by simp [go_sem]) rfl rfl⟩⟩
    case refine_2 =>
      exact hq.2 (by rw [List.drop_eq_nil_of_le (by omega), List.drop_eq_nil_of_le (by omega)])
    have hw := wrap_succ (show i ≤ 1000000000 by omega)
    have h2 : i < b.length := by omega
    rw [drop_eq hl h] at hq
    refine SWp.seq (SWp.block ?_)
    refine SWp.seq (SWp.drawnL [0, 1, 2, 3, 4, 5, 6, 7, 8] (by kernel_rfl) (by kernel_rfl) rfl ?_)
    simp -implicitDefEqProofs [go_sem, h, h2, bget]
    refine Wp.s ?_
    by_cases hx : a[i] = b[i]
    · simp -implicitDefEqProofs [go_sem, hx, hw]
      refine Wp.s ?_
      simp -implicitDefEqProofs [go_sem, hw]
      exact ⟨i + 1, ⟨by omega, by rw [hq]; simp [hx]⟩, by omega, Sh.forget (by simp [go_sem]) rfl rfl⟩
    · have hx' : ¬ ((a[i].toNat : Int) = b[i].toNat) := fun e => hx (UInt8.toNat_inj.1 (by omega))
      simp -implicitDefEqProofs [go_sem, hx', hw]
      exact Fin.bool (by simp; exact fun e => hx (hq.1 e).1) hokH (by simp) (by simp)
  · rintro _ hab
    dsimp only
    refine Wp.s ?_
    simp -implicitDefEqProofs [go_sem]
    exact Fin.bool (by simp [hab]) hokH (by simp) (by simp)
theorem sameExts_cc (H : Hp) (V : List Nat) (t1 t2 : Tk) (l : List Ext2) (hl : l.length ≤ 900000000) : CC Try.prog 62 [.sl t1 2 (l.map extC), .sl t2 2 (l.map extC)] H V (Pu (cb true) H V) := by
  refine CC.of_swp Try.func62 rfl (by kernel_rfl) (by rw [Try.ntmps62]; exact len_le _ _ rfl) fun hok hokH => ?_
  clear hok
  refine SWp.seq (Wp.s ?_)
  simp -implicitDefEqProofs [go_sem, args0]
  refine SWp.seq (Wp.s ?_)
  simp -implicitDefEqProofs [go_sem]
  refine SWp.join (α := Unit) (fun _ => ([], H, V)) (fun _ => True) ?_ ?_
  · refine SWp.seq (Wp.s ?_)
    simp -implicitDefEqProofs [go_sem]
    refine SWp.block ?_
    refine SWp.loop (α := Nat) (fun i => ([(0, .sl t1 2 (l.map extC)), (1, .sl t2 2 (l.map extC)), (5, ci i)], H, V)) (fun i => i ≤ l.length) (fun i => l.length - i) 0 (Nat.zero_le _) (Sh.forget (by simp [go_sem]) rfl rfl) ?_
    intro i hi
    dsimp only
    refine SWp.seq (Wp.s ?_)
    simp -implicitDefEqProofs [go_sem]
    refine ⟨fun h => ?_, fun h => Sh.forget (by simp [go_sem]) rfl rfl⟩
    have hw := wrap_succ (show i ≤ 1000000000 by omega)
    refine SWp.seq (SWp.block ?_)
    refine SWp.seq (SWp.drawnL [0, 1, 2, 3, 4, 5, 6, 7, 8] (by kernel_rfl) (by kernel_rfl) rfl ?_)
    simp -implicitDefEqProofs [go_sem, h]
    refine ⟨_, flat77, fits_ext _, ?_⟩
    refine Wp.s ?_
    simp -implicitDefEqProofs [go_sem, hw]
    refine Wp.s ?_
    simp -implicitDefEqProofs [go_sem, hw]
    exact ⟨i + 1, by omega, by omega, Sh.forget (by simp [go_sem]) rfl rfl⟩
  · rintro _ -
    dsimp only
    refine Wp.s ?_
    simp -implicitDefEqProofs [go_sem]
    exact Fin.bool rfl hokH (by simp) (by simp)
/-- What is compared with itself, and is the same. -/
def Refl (P : Program) (f : FuncId) (x : CV) : Prop := ∀ (H : Hp) (V : List Nat), CC P f [x, x] H V (Pu (cb true) H V)
theorem Same_cc (H : Hp) (V : List Nat) (a b c d e : Int) (x y : CV) (hx : Refl Try.prog 62 x) (hy : Refl Try.prog 63 y) (ox : x.one = true) (oy : y.one = true) (_cx : x.cells = [x]) (_cy : y.cells = [y]) : CC Try.prog 26 [.agg [ci a, ci b, ci c, ci d, ci e, x, y], .agg [ci a, ci b, ci c, ci d, ci e, x, y]] H V (Pu (cb true) H V) := by
  refine CC.of_swp Try.func26 rfl (by kernel_rfl) (by rw [Try.ntmps26]; exact len_le _ _ rfl) fun hok hokH => ?_
  clear hok
  refine SWp.seq (Wp.s ?_)
  simp -implicitDefEqProofs [go_sem, args0, ox, oy ]
  refine SWp.seq (Wp.s ?_)
  simp -implicitDefEqProofs [go_sem, ox, oy ]
  refine CC.mono (hx _ _) ?_
  rintro _ _ _ ⟨rfl, rfl, rfl⟩
  simp -implicitDefEqProofs [go_sem, ox, oy ]
  refine CC.mono (hy _ _) ?_
  rintro _ _ _ ⟨rfl, rfl, rfl⟩
  simp -implicitDefEqProofs [go_sem, ox, oy ]
  refine Wp.s ?_
  simp -implicitDefEqProofs [go_sem]
  exact Fin.bool rfl hokH (by simp) (by simp)
theorem SameMs_cc (H : Hp) (V : List Nat) (a b c d e f : Int) (l : List Int) (hl : l.length ≤ 900000000) (y : CV) (hy : Refl Try.prog 63 y) (oy : y.one = true) : CC Try.prog 27 [.agg [ci a, ci b, ci c, ci d, ci e, ci f, .sl .sh 1 (l.map ic), y], .agg [ci a, ci b, ci c, ci d, ci e, ci f, .sl .sh 1 (l.map ic), y]] H V (Pu (cb true) H V) := by
  refine CC.of_swp Try.func27 rfl (by kernel_rfl) (by rw [Try.ntmps27]; exact len_le _ _ rfl) fun hok hokH => ?_
  clear hok
  refine SWp.seq (Wp.s ?_)
  simp -implicitDefEqProofs [go_sem, args0, oy]
  refine SWp.seq (Wp.s ?_)
  simp -implicitDefEqProofs [go_sem, oy]
  refine SWp.join (α := Unit) (fun _ => ([(2, .ptr H.length 0), (3, .ptr (H.length + 1) 0)], H ++ [some [ci a, ci b, ci c, ci d, ci e, ci f, .sl .sh 1 (l.map ic), y], some [ci a, ci b, ci c, ci d, ci e, ci f, .sl .sh 1 (l.map ic), y]], V)) (fun _ => True) ?_ ?_
  · refine SWp.seq (Wp.s ?_)
    simp -implicitDefEqProofs [go_sem]
    refine SWp.block ?_
    refine SWp.loop (α := Nat) (fun i => ([(2, .ptr H.length 0), (3, .ptr (H.length + 1) 0), (5, ci i)], H ++ [some [ci a, ci b, ci c, ci d, ci e, ci f, .sl .sh 1 (l.map ic), y], some [ci a, ci b, ci c, ci d, ci e, ci f, .sl .sh 1 (l.map ic), y]], V)) (fun i => i ≤ l.length) (fun i => l.length - i) 0 (Nat.zero_le _) (Sh.forget (by simp [go_sem]) rfl rfl) ?_
    intro i hi
    dsimp only
    refine SWp.seq (Wp.s ?_)
    simp -implicitDefEqProofs [go_sem, oy]
    refine ⟨fun h => ?_, fun h => Sh.forget (by simp [go_sem]) rfl rfl⟩
    have hw := wrap_succ (show i ≤ 1000000000 by omega)
    refine SWp.seq (SWp.block ?_)
    refine SWp.seq (SWp.drawnL [0, 1, 2, 3, 4, 5, 6, 7, 8, 9, 10] (by kernel_rfl) (by kernel_rfl) rfl ?_)
    simp -implicitDefEqProofs [go_sem, h, oy]
    refine Wp.s ?_
    simp -implicitDefEqProofs [go_sem, hw]
    refine Wp.s ?_
    simp -implicitDefEqProofs [go_sem, hw]
    exact ⟨i + 1, by omega, by omega, Sh.forget (by simp [go_sem]) rfl rfl⟩
  · rintro _ -
    dsimp only
    refine SWp.seq (Wp.s ?_)
    simp -implicitDefEqProofs [go_sem, oy]
    refine CC.mono (hy _ _) ?_
    rintro _ _ _ ⟨rfl, rfl, rfl⟩
    simp -implicitDefEqProofs [go_sem, oy]
    refine Wp.s ?_
    simp -implicitDefEqProofs [go_sem]
    exact Fin.bool rfl hokH (by simp) (by simp)
theorem SameMz_cc (H : Hp) (V : List Nat) (a b c d e f : Int) (y : CV) (hy : Refl Try.prog 63 y) (oy : y.one = true) : CC Try.prog 27 [.agg [ci a, ci b, ci c, ci d, ci e, ci f, .v (.slice none 0 0), y], .agg [ci a, ci b, ci c, ci d, ci e, ci f, .v (.slice none 0 0), y]] H V (Pu (cb true) H V) := by
  refine CC.of_swp Try.func27 rfl (by kernel_rfl) (by rw [Try.ntmps27]; exact len_le _ _ rfl) fun hok hokH => ?_
  clear hok
  refine SWp.seq (Wp.s ?_)
  simp -implicitDefEqProofs [go_sem, args0, oy]
  refine SWp.seq (Wp.s ?_)
  simp -implicitDefEqProofs [go_sem, oy]
  refine SWp.join (α := Unit) (fun _ => ([(2, .ptr H.length 0), (3, .ptr (H.length + 1) 0)], H ++ [some [ci a, ci b, ci c, ci d, ci e, ci f, .v (.slice none 0 0), y], some [ci a, ci b, ci c, ci d, ci e, ci f, .v (.slice none 0 0), y]], V)) (fun _ => True) ?_ ?_
  · refine SWp.seq (Wp.s ?_)
    simp -implicitDefEqProofs [go_sem]
    refine SWp.block ?_
    refine SWp.loop (α := Unit) (fun i => ([(2, .ptr H.length 0), (3, .ptr (H.length + 1) 0), (5, ci 0)], H ++ [some [ci a, ci b, ci c, ci d, ci e, ci f, .v (.slice none 0 0), y], some [ci a, ci b, ci c, ci d, ci e, ci f, .v (.slice none 0 0), y]], V)) (fun i => True) (fun i => 0) () trivial (Sh.forget (by simp [go_sem]) rfl rfl) ?_
    rintro ⟨⟩ -
    dsimp only
    refine SWp.seq (Wp.s ?_)
    simp -implicitDefEqProofs [go_sem, oy]
    exact Sh.forget (by simp [go_sem]) rfl rfl
  · rintro _ -
    dsimp only
    refine SWp.seq (Wp.s ?_)
    simp -implicitDefEqProofs [go_sem, oy]
    refine CC.mono (hy _ _) ?_
    rintro _ _ _ ⟨rfl, rfl, rfl⟩
    simp -implicitDefEqProofs [go_sem, oy]
    refine Wp.s ?_
    simp -implicitDefEqProofs [go_sem]
    exact Fin.bool rfl hokH (by simp) (by simp)
theorem refl62 (l : List Ext2) (hl : l.length ≤ 900000000) : Refl Try.prog 62 (.sl .sh 2 (l.map extC)) := fun H V => sameExts_cc H V .sh .sh l hl
theorem refl63 (l : List UInt8) (hl : l.length ≤ 900000000) : Refl Try.prog 63 (.sl .sh 1 (bs l)) := fun H V => CC.mono (sameBytes_cc H V .sh .sh l l hl hl) fun _ _ _ ⟨h1, h2, h3⟩ => ⟨by rw [h1]; simp, h2, h3⟩
end Go.Proofs.Ythakkopnoeinmaa
namespace Go.Proofs.Ythakkopnoeinmaa
open Go.Proofs
theorem CC.nil2 {P : Program} {H : Hp} {V : List Nat} {f : FuncId} {sz sz' : Nat} {xs : List CV} {R : CV → Hp → List Nat → Prop} (hsz : 0 < sz) (hsz' : 0 < sz') (hc : CC P f (.sl .sh sz [] :: .sl .sh sz' [] :: xs) H V R) : CC P f (.v (.slice none 0 0) :: .v (.slice none 0 0) :: xs) H V R :=
  CC.args (.cons (.nil sz hsz) (.cons (.nil sz' hsz') (LeL.self xs))) hc
theorem refl62_nil : Refl Try.prog 62 (.v (.slice none 0 0)) := fun H V => CC.nil2 (by decide) (by decide) (sameExts_cc H V .sh .sh [] (by decide))
theorem refl63_nil : Refl Try.prog 63 (.v (.slice none 0 0)) := fun H V => CC.nil2 (by decide) (by decide) (refl63 [] (by decide) H V)
/-- What stands in front of a sum. -/
def openP (b : List UInt8) : Except Nat (List UInt8) :=
  if 65536 < b.length then .error 5 else if b.length < 4 then .error 10 else if sealed (b.take (b.length - 4)) = b then .ok (b.take (b.length - 4)) else .error 9
def OpK (b : List UInt8) (H : Hp) (V : List Nat) : CV → Hp → List Nat → Prop := fun r H' V' => ∃ s, openP b = .ok s ∧ r = .ptr H.length 0 ∧ H' = H ++ [some [.sl .sh 1 (bs s), .v (.slice none 0 0)]] ∧ V = V'
def OpE (b : List UInt8) (H : Hp) (V : List Nat) : List PanicEntry → Hp → List Nat → Prop := fun ch H' V' => ∃ k, openP b = .error k ∧ ch = pan k ∧ H' = H ∧ V'.take V.length = V
theorem hokH1 {H : Hp} {i j : Nat} {cs : List CV} (hokH : ∀ (b : Nat) cs, H[b]? = some (some cs) → okL H.length j cs) (hi : i = H.length + 1) (hc : okL i j cs) : ∀ (b : Nat) ds, (H ++ [some cs])[b]? = some (some ds) → okL i j ds := fun b ds h => by
  subst hi
  rcases Nat.lt_or_ge b H.length with hb | hb
  · rw [List.getElem?_append_left hb] at h; exact okL_mono (Nat.le_succ _) (Nat.le_refl _) (hokH b ds h)
  · rw [List.getElem?_append_right hb] at h
    cases hq : b - H.length with
    | zero => rw [hq] at h; simp at h; subst h; exact hc
    | succ n => rw [hq] at h; simp at h
theorem open_cx (H : Hp) (V : List Nat) (tk : Tk) (b : List UInt8) (hl : b.length ≤ 800000000) : CX Try.prog 47 [.sl tk 1 (bs b)] H V (OpK b H V) (OpE b H V) := by
  refine CX.of_swp Try.func47 rfl (by kernel_rfl) (by rw [Try.ntmps47]; exact len_le _ _ rfl) fun hok hokH => ?_
  clear hok
  refine SWp.seq (Wp.s ?_)
  simp -implicitDefEqProofs [go_sem, args0]
  have hw4 : IntKind.i64.wrap ((b.length : Int) - 4) = (b.length : Int) - 4 := IntWalk.i64_in _ ⟨by omega, by omega⟩
  refine SWp.seq (Wp.s ?_)
  simp -implicitDefEqProofs [go_sem, hw4]
  refine SWp.seq (SWp.block ?_)
  refine SWp.seq (Wp.s ?_)
  by_cases b1 : 65536 < b.length
  · simp -implicitDefEqProofs [go_sem, show (65536 : Int) < b.length by omega]
    refine SWp.condT (by simp [go_sem]) (SWp.callx (pre := []) (post := []) ?_)
    simp -implicitDefEqProofs [go_sem]
    exact cx_err 5 rfl rfl (fun h => by cases h) fun _ => ⟨5, by simp [openP, b1], rfl, rfl, by simp⟩
  simp -implicitDefEqProofs [go_sem, show ¬ (65536 : Int) < b.length by omega]
  refine SWp.condF (by simp [go_sem]) (SWp.seq (Wp.s ?_))
  by_cases b2 : b.length < 4
  · simp -implicitDefEqProofs [go_sem, show (b.length : Int) - 4 < 0 by omega]
    refine SWp.condT (by simp [go_sem]) (SWp.callx (pre := []) (post := []) ?_)
    simp -implicitDefEqProofs [go_sem]
    exact cx_err 10 rfl rfl (fun h => by cases h) fun _ => ⟨10, by simp [openP, b1, b2], rfl, rfl, by simp⟩
  simp -implicitDefEqProofs [go_sem, show ¬ (b.length : Int) - 4 < 0 by omega]
  have hn : ((b.length : Int) - 4).toNat = b.length - 4 := by omega
  refine SWp.condF (by simp [go_sem]) (SWp.seq (Wp.s ?_))
  simp -implicitDefEqProofs [go_sem, show (0 : Int) ≤ (b.length : Int) - 4 by omega, show (b.length : Int) - 4 ≤ b.length by omega, hn, show (4 : Int) ≤ b.length by omega]
  refine CC.mono (clone_cc _ _ _ _ (by simp only [bs_len, List.length_take]; omega)) ?_
  rintro _ _ _ ⟨v, rfl, rfl, rfl⟩
  simp -implicitDefEqProofs [go_sem, show (0 : Int) ≤ (b.length : Int) - 4 by omega, show (b.length : Int) - 4 ≤ b.length by omega, hn, show (4 : Int) ≤ b.length by omega]
  refine CC.mono (seal_cc _ _ _ v _ (by simp) (by simp only [List.length_take]; omega)) ?_
  rintro _ _ _ ⟨v', rfl, rfl, rfl⟩
  simp -implicitDefEqProofs [go_sem, show (0 : Int) ≤ (b.length : Int) - 4 by omega, show (b.length : Int) - 4 ≤ b.length by omega, hn, show (4 : Int) ≤ b.length by omega]
  refine CC.mono (eqBytes_cc _ _ _ _ _ _ (by simp only [sealed, List.length_append, List.length_take, crc4_len]; omega) (by omega)) ?_
  rintro _ _ _ ⟨rfl, rfl, rfl⟩
  by_cases b3 : sealed (b.take (b.length - 4)) = b
  case neg =>
    simp -implicitDefEqProofs [go_sem, b3]
    refine SWp.condT (by simp [go_sem]) (SWp.callx (pre := []) (post := []) ?_)
    simp -implicitDefEqProofs [go_sem]
    exact cx_err 9 rfl rfl (fun h => by cases h) fun _ => ⟨9, by simp [openP, b1, b2, b3], rfl, rfl, by simp⟩
  simp -implicitDefEqProofs [go_sem, b3]
  refine SWp.condF (by simp [go_sem]) (Wp.s ?_)
  simp -implicitDefEqProofs [go_sem]
  refine Wp.s ?_
  simp -implicitDefEqProofs [go_sem, show (0 : Int) ≤ (b.length : Int) - 4 by omega, show (b.length : Int) - 4 ≤ b.length by omega, hn, show (4 : Int) ≤ b.length by omega]
  have hs : openP b = .ok (b.take (b.length - 4)) := by simp [openP, b1, b2, b3]
  refine Fin.cut (r' := .ptr H.length 0) (H.length + 1) V.length ⟨_, hs, rfl, rfl, rfl⟩ (by omega) (by omega) ?_ ?_ (.refl _) (by simp [go_sem]) (hokH1 hokH rfl (by simp [go_sem]))
  · exact List.take_of_length_le (by simp)
  · simp
end Go.Proofs.Ythakkopnoeinmaa
