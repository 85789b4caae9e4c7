import Derived.Test.YthakkopnoeinmaaA12
import Derived.Test.YthakkopnoeinmaaA8
import Derived.Test.YthakkopnoeinmaaA6
set_option linter.unusedSimpArgs false
set_option linter.unusedVariables false
namespace Go.Proofs.Ythakkopnoeinmaa
open Go.Proofs
/-! ### Packets and messages -/
structure Pk where
  kind : Int
  session : Int
  sequence : Int
  ack : Int
  credit : Int
  sel : List Ext2
  payload : List UInt8
def pkC (p : Pk) : List CV := [ci p.kind, ci p.session, ci p.sequence, ci p.ack, ci p.credit, .sl .sh 2 (p.sel.map extC), .sl .sh 1 (bs p.payload)]
@[go_sem, simp] theorem pkC_len (p : Pk) : (pkC p).length = 7 := by rw [pkC]; rfl
@[go_sem, simp] theorem pkC_take (p : Pk) : (pkC p).take 7 = pkC p := rfl
@[go_sem, simp] theorem pkC_all (p : Pk) : allOne (pkC p) = true := rfl
@[go_sem, simp] theorem pkC_0 (p : Pk) (h : 0 < (pkC p).length) : (pkC p)[0] = ci p.kind := rfl
@[go_sem, simp] theorem pkC_1 (p : Pk) (h : 1 < (pkC p).length) : (pkC p)[1] = ci p.session := rfl
@[go_sem, simp] theorem pkC_2 (p : Pk) (h : 2 < (pkC p).length) : (pkC p)[2] = ci p.sequence := rfl
@[go_sem, simp] theorem pkC_3 (p : Pk) (h : 3 < (pkC p).length) : (pkC p)[3] = ci p.ack := rfl
@[go_sem, simp] theorem pkC_4 (p : Pk) (h : 4 < (pkC p).length) : (pkC p)[4] = ci p.credit := rfl
@[go_sem, simp] theorem pkC_5 (p : Pk) (h : 5 < (pkC p).length) : (pkC p)[5] = .sl .sh 2 (p.sel.map extC) := rfl
@[go_sem, simp] theorem pkC_6 (p : Pk) (h : 6 < (pkC p).length) : (pkC p)[6] = .sl .sh 1 (bs p.payload) := rfl
@[go_sem] theorem okL_pkC (jb jv : Nat) (p : Pk) : okL jb jv (pkC p) = True := by simp [pkC, okL, okV, okTk, okE_exts, okBs_t]
structure Ms where
  kind : Int
  src : Int
  dst : Int
  number : Int
  value : Int
  epoch : Int
  values : List Int
  body : List UInt8
def msC (p : Ms) : List CV := [ci p.kind, ci p.src, ci p.dst, ci p.number, ci p.value, ci p.epoch, .sl .sh 1 (p.values.map ic), .sl .sh 1 (bs p.body)]
@[go_sem, simp] theorem msC_len (p : Ms) : (msC p).length = 8 := by rw [msC]; rfl
@[go_sem, simp] theorem msC_take (p : Ms) : (msC p).take 8 = msC p := rfl
@[go_sem, simp] theorem msC_all (p : Ms) : allOne (msC p) = true := rfl
@[go_sem, simp] theorem msC_0 (p : Ms) (h : 0 < (msC p).length) : (msC p)[0] = ci p.kind := rfl
@[go_sem, simp] theorem msC_1 (p : Ms) (h : 1 < (msC p).length) : (msC p)[1] = ci p.src := rfl
@[go_sem, simp] theorem msC_2 (p : Ms) (h : 2 < (msC p).length) : (msC p)[2] = ci p.dst := rfl
@[go_sem, simp] theorem msC_3 (p : Ms) (h : 3 < (msC p).length) : (msC p)[3] = ci p.number := rfl
@[go_sem, simp] theorem msC_4 (p : Ms) (h : 4 < (msC p).length) : (msC p)[4] = ci p.value := rfl
@[go_sem, simp] theorem msC_5 (p : Ms) (h : 5 < (msC p).length) : (msC p)[5] = ci p.epoch := rfl
@[go_sem, simp] theorem msC_6 (p : Ms) (h : 6 < (msC p).length) : (msC p)[6] = .sl .sh 1 (p.values.map ic) := rfl
@[go_sem, simp] theorem msC_7 (p : Ms) (h : 7 < (msC p).length) : (msC p)[7] = .sl .sh 1 (bs p.body) := rfl
@[go_sem] theorem okL_msC (jb jv : Nat) (p : Ms) : okL jb jv (msC p) = True := by simp [msC, okL, okV, okTk, okE_ints, okBs_t]
def timeB (n : Int) : Bool := decide (0 ≤ n) && decide (n ≤ 1073741824)
def numB (n : Int) : Bool := decide (0 ≤ n) && decide (n ≤ 9007199254740991)
def w64 (n : Int) : Int := IntKind.i64.wrap n
/-- May the next extent not stand there? -/
def badX (ack end' : Int) (x : Ext2) : Bool := decide (x.start ≤ end') || decide (x.count < 1) || decide (w64 (ack + 64) < x.start) || decide (w64 (w64 (ack + 64) - x.start) < x.count)
def selB (ack : Int) : Int → List Ext2 → Bool
  | _, [] => true
  | e, x :: l => if badX ack e x then false else selB ack (w64 (x.start + x.count)) l
def rngB (p : Pk) : Bool := timeB p.session && timeB p.sequence && timeB p.ack && decide (0 ≤ p.credit) && decide (p.credit ≤ 64)
def checkP (p : Pk) : Nat :=
  if p.kind < 0 ∨ 2 < p.kind then 1 else if rngB p = false then 2 else if selB p.ack p.ack p.sel = false then 3 else if 4096 < p.payload.length then 5 else if 0 < p.payload.length ∧ p.kind ≠ 0 then 3 else 0
theorem time_cc (H : Hp) (V : List Nat) (n : Int) : CC Try.prog 34 [ci n] H V (Pu (cb (timeB n)) H V) := by
  refine CC.of_swp Try.func34 rfl (by kernel_rfl) (by rw [Try.ntmps34]; exact len_le _ _ rfl) fun hok hokH => Wp.s ?_
  simp -implicitDefEqProofs [go_sem, args0]
  exact ⟨fun h => Fin.bool (by simp [timeB, h]) hokH (by simp) (by simp), fun h => Fin.bool (by simp [timeB]; omega) hokH (by simp) (by simp)⟩
theorem reftime_cc (H : Hp) (V : List Nat) (n : Int) : CC Try.prog 36 [ci n] H V (Pu (cb (timeB n)) H V) := by
  refine CC.of_swp Try.func36 rfl (by kernel_rfl) (by rw [Try.ntmps36]; exact len_le _ _ rfl) fun hok hokH => Wp.s ?_
  simp -implicitDefEqProofs [go_sem, args0]
  exact ⟨fun h => Fin.bool (by simp [timeB, h]) hokH (by simp) (by simp), fun h => Fin.bool (by simp [timeB]; omega) hokH (by simp) (by simp)⟩
theorem numb_cc (H : Hp) (V : List Nat) (n : Int) : CC Try.prog 83 [ci n] H V (Pu (cb (numB n)) H V) := by
  refine CC.of_swp Try.func83 rfl (by kernel_rfl) (by rw [Try.ntmps83]; exact len_le _ _ rfl) fun hok hokH => Wp.s ?_
  simp -implicitDefEqProofs [go_sem, args0]
  exact ⟨fun h => Fin.bool (by simp [numB, h]) hokH (by simp) (by simp), fun h => Fin.bool (by simp [numB]; omega) hokH (by simp) (by simp)⟩
theorem selB_take {ack e : Int} : ∀ {l : List Ext2} {x : Ext2} {r : List Ext2}, l = x :: r → selB ack e l = if badX ack e x then false else selB ack (w64 (x.start + x.count)) r
  | _, _, _, rfl => rfl
theorem selective_cc (H : Hp) (V : List Nat) (tk : Tk) (ack : Int) (l : List Ext2) (hl : l.length ≤ 900000000) : CC Try.prog 35 [ci ack, .sl tk 2 (l.map extC)] H V (Pu (cb (selB ack ack l)) H V) := by
  refine CC.of_swp Try.func35 rfl (by kernel_rfl) (by rw [Try.ntmps35]; exact len_le _ _ rfl) fun hok hokH => ?_
  simp [go_sem, okV_slt] at hok
  refine SWp.seq (Wp.s ?_)
  simp -implicitDefEqProofs [go_sem, args0]
  refine SWp.seq (Wp.s ?_)
  simp -implicitDefEqProofs [go_sem]
  refine SWp.join (α := Unit) (fun _ => ([], H, V)) (fun _ => selB ack ack l = true) ?_ ?_
  · refine SWp.seq (Wp.s ?_)
    simp -implicitDefEqProofs [go_sem]
    refine SWp.block ?_
    refine SWp.loop (α := Nat × Int) (fun x => ([(0, ci ack), (5, ci x.2), (9, .sl tk 2 (l.map extC)), (10, ci l.length), (11, ci x.1)], H, V)) (fun x => x.1 ≤ l.length ∧ selB ack ack l = selB ack x.2 (l.drop x.1)) (fun x => l.length - x.1) (0, ack) ⟨Nat.zero_le _, rfl⟩ (Sh.forget (by simp [go_sem]) rfl rfl) ?_
    rintro ⟨i, e⟩ ⟨hi, he⟩
    dsimp only at hi he ⊢
    refine Wp.s ?_
    by_cases h : i < l.length
    · rw [List.drop_eq_getElem_cons h, selB] at he
      have hw := wrap_succ (show i ≤ 1000000000 by omega)
      generalize hx : l[i] = x at he
      unfold badX at he
      by_cases b1 : x.start ≤ e
      · rw [if_pos (by simp [b1])] at he
        simp -implicitDefEqProofs [go_sem, h, hx, b1]
        exact Fin.bool he.symm hokH (by simp) (by simp)
      · by_cases b2 : x.count < 1
        · rw [if_pos (by simp [b2])] at he
          simp -implicitDefEqProofs [go_sem, h, hx, b1, b2]
          exact Fin.bool he.symm hokH (by simp) (by simp)
        · by_cases b3 : w64 (ack + 64) < x.start
          · rw [if_pos (by simp [b3])] at he
            unfold w64 at b3
            simp -implicitDefEqProofs [go_sem, h, hx, b1, b2, b3]
            exact Fin.bool he.symm hokH (by simp) (by simp)
          · by_cases b4 : w64 (w64 (ack + 64) - x.start) < x.count
            · rw [if_pos (by simp [b4])] at he
              unfold w64 at b3 b4
              simp -implicitDefEqProofs [go_sem, h, hx, b1, b2, b3, b4]
              exact Fin.bool he.symm hokH (by simp) (by simp)
            · rw [if_neg (by simp only [Bool.or_eq_true, decide_eq_true_eq]; exact fun hh => by rcases hh with ((hh | hh) | hh) | hh <;> contradiction)] at he
              unfold w64 at b3 b4
              simp -implicitDefEqProofs [go_sem, h, hx, b1, b2, b3, b4, hw]
              exact ⟨i + 1, w64 (x.start + x.count), ⟨by omega, he⟩, by omega, Sh.back (by simp [go_sem, w64]) rfl rfl (by simp [go_sem, okV_slt, hok]) hokH (by simp) (by simp)⟩
    · simp -implicitDefEqProofs [go_sem, h]
      refine ⟨?_, Sh.forget (by simp [go_sem]) rfl rfl⟩
      rw [he, List.drop_eq_nil_of_le (by omega), selB]
  · rintro _ hs
    refine Wp.s ?_
    simp -implicitDefEqProofs [go_sem]
    exact Fin.bool hs.symm hokH (by simp) (by simp)
set_option maxRecDepth 20000 in
theorem refselective_cc (H : Hp) (V : List Nat) (tk : Tk) (ack : Int) (l : List Ext2) (hl : l.length ≤ 900000000) : CC Try.prog 37 [ci ack, .sl tk 2 (l.map extC)] H V (Pu (cb (selB ack ack l)) H V) := by
  refine CC.of_swp Try.func37 rfl (by kernel_rfl) (by rw [Try.ntmps37]; exact len_le _ _ rfl) fun hok hokH => ?_
  simp [go_sem, okV_slt] at hok
  refine SWp.seq (Wp.s ?_)
  simp -implicitDefEqProofs [go_sem, args0]
  refine SWp.seq (Wp.s ?_)
  simp -implicitDefEqProofs [go_sem]
  refine SWp.join (α := Unit) (fun _ => ([], H, V)) (fun _ => selB ack ack l = true) ?_ ?_
  · refine SWp.seq (Wp.s ?_)
    simp -implicitDefEqProofs [go_sem]
    refine SWp.block ?_
    refine SWp.loop (α := Nat × Int) (fun x => ([(0, ci ack), (5, ci x.2), (1, .sl tk 2 (l.map extC)), (6, ci x.1)], H, V)) (fun x => x.1 ≤ l.length ∧ selB ack ack l = selB ack x.2 (l.drop x.1)) (fun x => l.length - x.1) (0, ack) ⟨Nat.zero_le _, rfl⟩ (Sh.forget (by simp [go_sem]) rfl rfl) ?_
    rintro ⟨i, e⟩ ⟨hi, he⟩
    dsimp only at hi he ⊢
    refine SWp.seq (Wp.s ?_)
    by_cases h : i < l.length
    · simp -implicitDefEqProofs [go_sem, h]
      rw [List.drop_eq_getElem_cons h, selB] at he
      have hw := wrap_succ (show i ≤ 1000000000 by omega)
      generalize hx : l[i] = x at he
      refine SWp.seq (SWp.block (SWp.seq ?_))
      refine SWp.seq (SWp.drawnL [0, 1, 2, 3, 4, 5, 6, 7, 8, 9, 10, 11, 12, 13, 14, 15, 16, 17, 18, 19, 20, 21, 22, 23, 24, 25, 26, 27, 28, 29, 30, 31, 32, 33, 34, 35, 36, 37, 38, 39, 40] (by kernel_rfl) (by kernel_rfl) rfl ?_)
      unfold badX at he
      by_cases b1 : x.start ≤ e
      · rw [if_pos (by simp [b1])] at he
        simp -implicitDefEqProofs [go_sem, h, hx, b1]
        refine Wp.s ?_
        simp -implicitDefEqProofs [go_sem]
        exact Fin.bool he.symm hokH (by simp) (by simp)
      · by_cases b2 : x.count < 1
        · rw [if_pos (by simp [b2])] at he
          simp -implicitDefEqProofs [go_sem, h, hx, b1, b2]
          refine Wp.s ?_
          simp -implicitDefEqProofs [go_sem]
          exact Fin.bool he.symm hokH (by simp) (by simp)
        · by_cases b3 : w64 (ack + 64) < x.start
          · rw [if_pos (by simp [b3])] at he
            unfold w64 at b3
            simp -implicitDefEqProofs [go_sem, h, hx, b1, b2, b3]
            refine Wp.s ?_
            simp -implicitDefEqProofs [go_sem]
            exact Fin.bool he.symm hokH (by simp) (by simp)
          · by_cases b4 : w64 (w64 (ack + 64) - x.start) < x.count
            · rw [if_pos (by simp [b4])] at he
              unfold w64 at b3 b4
              simp -implicitDefEqProofs [go_sem, h, hx, b1, b2, b3, b4]
              refine Wp.s ?_
              simp -implicitDefEqProofs [go_sem]
              exact Fin.bool he.symm hokH (by simp) (by simp)
            · rw [if_neg (by simp only [Bool.or_eq_true, decide_eq_true_eq]; exact fun hh => by rcases hh with ((hh | hh) | hh) | hh <;> contradiction)] at he
              unfold w64 at b3 b4
              simp -implicitDefEqProofs [go_sem, h, hx, b1, b2, b3, b4]
              refine Wp.s ?_
              simp -implicitDefEqProofs [go_sem]
              refine SWp.drawnL [0, 1, 2, 3, 4, 5, 6, 7, 8, 9, 10, 11] (by kernel_rfl) (by kernel_rfl) rfl ?_
              simp -implicitDefEqProofs [go_sem, h, hx]
              refine Wp.s ?_
              simp -implicitDefEqProofs [go_sem, hw]
              exact ⟨i + 1, w64 (x.start + x.count), ⟨by omega, he⟩, by omega, Sh.forget (by simp [go_sem, w64]) rfl rfl⟩
    · simp -implicitDefEqProofs [go_sem, h]
      refine ⟨?_, Sh.forget (by simp [go_sem]) rfl rfl⟩
      rw [he, List.drop_eq_nil_of_le (by omega), selB]
  · rintro _ hs
    refine Wp.s ?_
    simp -implicitDefEqProofs [go_sem]
    exact Fin.bool hs.symm hokH (by simp) (by simp)
end Go.Proofs.Ythakkopnoeinmaa
namespace Go.Proofs.Ythakkopnoeinmaa
open Go.Proofs
theorem exMap {α : Type} {f : α → List CV} : ∀ {xs : List (List CV)}, (∀ x ∈ xs, ∃ a, x = f a) → ∃ ys : List α, xs = ys.map f
  | [], _ => ⟨[], rfl⟩
  | x :: xs, h => by
    obtain ⟨a, rfl⟩ := h x (by simp)
    obtain ⟨ys, rfl⟩ := exMap fun y hy => h y (List.mem_cons_of_mem _ hy)
    exact ⟨a :: ys, rfl⟩
theorem opens_int : Opens Try.prog 3 fun cs => ∃ n, cs = ic n :=
  (Opens.int Try.underlying3).mono fun _ ⟨n, h, _⟩ => ⟨n, h⟩
theorem opens_u8 : Opens Try.prog 5 fun cs => ∃ b, cs = u8 b :=
  (Opens.int Try.underlying5).mono fun _ ⟨n, h, hw⟩ => ⟨byt n, by
    simp only [Lit.wf, Bool.and_eq_true, decide_eq_true_eq] at hw
    have h1 : 0 ≤ n := hw.1
    have h2 : n ≤ 255 := hw.2
    rw [h, u8, byt_toNat, Int.emod_eq_of_lt h1 (by omega)]⟩
theorem opens_sl {t e sz : Nat} {α : Type} {f : α → List CV} (ht : Try.prog.underlying t = some (.slice e)) (hs : Try.prog.cellsOf e = sz) (h0 : 0 < sz) (he : Opens Try.prog e fun cs => ∃ a, cs = f a) :
    Opens Try.prog t fun cs => ∃ l : List α, cs = [.sl .sh sz (l.map f)] ∧ l.length ≤ maxLen :=
  (Opens.slice ht hs h0 he).mono fun _ ⟨xs, h, hl, hx⟩ => by
    obtain ⟨ys, rfl⟩ := exMap hx
    exact ⟨ys, h, by simpa using hl⟩
theorem opens_bytes : Opens Try.prog 23 fun cs => ∃ l : List UInt8, cs = [.sl .sh 1 (bs l)] ∧ l.length ≤ maxLen := opens_sl Try.underlying23 (by kernel_rfl) (by decide) opens_u8
theorem opens_ints : Opens Try.prog 46 fun cs => ∃ l : List Int, cs = [.sl .sh 1 (l.map ic)] ∧ l.length ≤ maxLen := opens_sl Try.underlying46 (by kernel_rfl) (by decide) opens_int
theorem opens_ext : Opens Try.prog 33 fun cs => ∃ x, cs = extC x :=
  (Opens.struct Try.underlying33 (N := 2) (by kernel_rfl) (.cons rfl (n := 1) (by kernel_rfl) opens_int (.cons rfl (n := 1) (by kernel_rfl) opens_int .nil))).mono fun cs h => by
    obtain ⟨_, _, rfl, ⟨a, rfl⟩, _, _, rfl, ⟨b, rfl⟩, rfl⟩ := h
    exact ⟨⟨a, b⟩, rfl⟩
theorem opens_exts : Opens Try.prog 22 fun cs => ∃ l : List Ext2, cs = [.sl .sh 2 (l.map extC)] ∧ l.length ≤ maxLen := opens_sl Try.underlying22 (by kernel_rfl) (by decide) opens_ext
theorem opens_pk : Opens Try.prog 25 fun cs => ∃ p, cs = pkC p :=
  (Opens.struct Try.underlying25 (N := 7) (by kernel_rfl) (.cons rfl (n := 1) (by kernel_rfl) opens_int (.cons rfl (n := 1) (by kernel_rfl) opens_int (.cons rfl (n := 1) (by kernel_rfl) opens_int (.cons rfl (n := 1) (by kernel_rfl) opens_int
    (.cons rfl (n := 1) (by kernel_rfl) opens_int (.cons rfl (n := 1) (by kernel_rfl) opens_exts (.cons rfl (n := 1) (by kernel_rfl) opens_bytes .nil)))))))).mono fun cs h => by
    obtain ⟨_, _, rfl, ⟨a, rfl⟩, _, _, rfl, ⟨b, rfl⟩, _, _, rfl, ⟨c, rfl⟩, _, _, rfl, ⟨d, rfl⟩, _, _, rfl, ⟨e, rfl⟩, _, _, rfl, ⟨f, rfl, _⟩, _, _, rfl, ⟨g, rfl, _⟩, rfl⟩ := h
    exact ⟨⟨a, b, c, d, e, f, g⟩, rfl⟩
theorem opens_ms : Opens Try.prog 48 fun cs => ∃ p, cs = msC p :=
  (Opens.struct Try.underlying48 (N := 8) (by kernel_rfl) (.cons rfl (n := 1) (by kernel_rfl) opens_int (.cons rfl (n := 1) (by kernel_rfl) opens_int (.cons rfl (n := 1) (by kernel_rfl) opens_int (.cons rfl (n := 1) (by kernel_rfl) opens_int
    (.cons rfl (n := 1) (by kernel_rfl) opens_int (.cons rfl (n := 1) (by kernel_rfl) opens_int (.cons rfl (n := 1) (by kernel_rfl) opens_ints (.cons rfl (n := 1) (by kernel_rfl) opens_bytes .nil))))))))).mono fun cs h => by
    obtain ⟨_, _, rfl, ⟨a, rfl⟩, _, _, rfl, ⟨b, rfl⟩, _, _, rfl, ⟨c, rfl⟩, _, _, rfl, ⟨d, rfl⟩, _, _, rfl, ⟨e, rfl⟩, _, _, rfl, ⟨e2, rfl⟩, _, _, rfl, ⟨f, rfl, _⟩, _, _, rfl, ⟨g, rfl, _⟩, rfl⟩ := h
    exact ⟨⟨a, b, c, d, e, e2, f, g⟩, rfl⟩
theorem opens_u8x2 : Opens Try.prog 60 fun cs => ∃ a b : UInt8, cs = [.v (.int .u8 (a.toNat : Int)), .v (.int .u8 (b.toNat : Int))] :=
  (Opens.array (sz := 1) Try.underlying60 (by kernel_rfl) (by kernel_rfl) opens_u8).mono fun cs ⟨xs, h, hl, hx⟩ => by
    obtain ⟨l, rfl⟩ := exMap hx
    match l, hl with
    | [a, b], _ => exact ⟨a, b, h⟩
end Go.Proofs.Ythakkopnoeinmaa
namespace Go.Proofs.Ythakkopnoeinmaa
open Go.Proofs
theorem Fin.er {H H' : Hp} {V V' : List Nat} {a b : Nat} (h : b = a) (hokH : ∀ (b : Nat) cs, H[b]? = some (some cs) → okL H.length V.length cs) (hH : H'.take H.length = H) (hV : V'.take V.length = V) : Fin H.length V.length (Pu (er b) H V) (er a) H' V' := by
  subst h; exact Fin.pu (.refl _) (by simp [go_sem]) hokH hH hV
theorem Check_cc (H : Hp) (V : List Nat) (p : Pk) (hl : p.sel.length ≤ 900000000) : CC Try.prog 13 [.agg (pkC p)] H V (Pu (er (checkP p)) H V) := by
  refine CC.of_swp Try.func13 rfl (by kernel_rfl) (by rw [Try.ntmps13]; exact len_le _ _ rfl) fun hok hokH => ?_
  refine SWp.seq (Wp.s ?_)
  simp -implicitDefEqProofs [go_sem, args0]
  refine Wp.s ?_
  by_cases a1 : p.kind < 0
  · simp -implicitDefEqProofs [go_sem, a1]
    exact Fin.er (a := 1) (by simp [checkP, a1]) hokH (by simp) (by simp)
  by_cases a2 : 2 < p.kind
  · simp -implicitDefEqProofs [go_sem, a1, a2]
    exact Fin.er (a := 1) (by simp [checkP, a1, a2]) hokH (by simp) (by simp)
  simp -implicitDefEqProofs [go_sem, a1, a2]
  refine CC.mono (time_cc _ _ _) ?_
  rintro _ _ _ ⟨rfl, rfl, rfl⟩
  rcases b1 : timeB p.session with - | -
  · simp -implicitDefEqProofs [go_sem]
    exact Fin.er (a := 2) (by simp [checkP, rngB, a1, a2, b1]) hokH (by simp) (by simp)
  simp -implicitDefEqProofs [go_sem]
  refine CC.mono (time_cc _ _ _) ?_
  rintro _ _ _ ⟨rfl, rfl, rfl⟩
  rcases b2 : timeB p.sequence with - | -
  · simp -implicitDefEqProofs [go_sem]
    exact Fin.er (a := 2) (by simp [checkP, rngB, a1, a2, b1, b2]) hokH (by simp) (by simp)
  simp -implicitDefEqProofs [go_sem]
  refine CC.mono (time_cc _ _ _) ?_
  rintro _ _ _ ⟨rfl, rfl, rfl⟩
  rcases b3 : timeB p.ack with - | -
  · simp -implicitDefEqProofs [go_sem]
    exact Fin.er (a := 2) (by simp [checkP, rngB, a1, a2, b1, b2, b3]) hokH (by simp) (by simp)
  by_cases b4 : p.credit < 0
  · simp -implicitDefEqProofs [go_sem, b4]
    exact Fin.er (a := 2) (by simp [checkP, rngB, a1, a2, b1, b2, b3, show ¬ 0 ≤ p.credit by omega]) hokH (by simp) (by simp)
  by_cases b5 : 64 < p.credit
  · simp -implicitDefEqProofs [go_sem, b4, b5]
    exact Fin.er (a := 2) (by simp [checkP, rngB, a1, a2, b1, b2, b3, show ¬ p.credit ≤ 64 by omega]) hokH (by simp) (by simp)
  have hr : rngB p = true := by simp [rngB, b1, b2, b3, show 0 ≤ p.credit by omega, show p.credit ≤ 64 by omega]
  simp -implicitDefEqProofs [go_sem, b4, b5]
  refine CC.mono (selective_cc _ _ _ _ _ hl) ?_
  rintro _ _ _ ⟨rfl, rfl, rfl⟩
  rcases c1 : selB p.ack p.ack p.sel with - | -
  · simp -implicitDefEqProofs [go_sem]
    exact Fin.er (a := 3) (by simp [checkP, hr, a1, a2, c1]) hokH (by simp) (by simp)
  by_cases d1 : 4096 < p.payload.length
  · simp -implicitDefEqProofs [go_sem, show (4096 : Int) < p.payload.length by omega]
    exact Fin.er (a := 5) (by simp [checkP, hr, a1, a2, c1, d1]) hokH (by simp) (by simp)
  by_cases d2 : p.payload = []
  · simp -implicitDefEqProofs [go_sem, show ¬ (4096 : Int) < p.payload.length by omega, d2]
    exact Fin.er (a := 0) (by simp [checkP, hr, a1, a2, c1, d2]) hokH (by simp) (by simp)
  · have d4 : 0 < p.payload.length := List.length_pos_iff.2 d2
    by_cases d3 : p.kind = 0
    · simp -implicitDefEqProofs [go_sem, show ¬ (4096 : Int) < p.payload.length by omega, d2, d3, d4]
      exact Fin.er (a := 0) (by simp [checkP, hr, c1, d1, d3]) hokH (by simp) (by simp)
    · simp -implicitDefEqProofs [go_sem, show ¬ (4096 : Int) < p.payload.length by omega, d2, d3, d4]
      exact Fin.er (a := 3) (by simp [checkP, hr, a1, a2, c1, d1, d2, d3]) hokH (by simp) (by simp)
theorem refCheck_cc (H : Hp) (V : List Nat) (p : Pk) (hl : p.sel.length ≤ 900000000) : CC Try.prog 14 [.agg (pkC p)] H V (Pu (er (checkP p)) H V) := by
  refine CC.of_swp Try.func14 rfl (by kernel_rfl) (by rw [Try.ntmps14]; exact len_le _ _ rfl) fun hok hokH => ?_
  refine SWp.seq (Wp.s ?_)
  simp -implicitDefEqProofs [go_sem, args0]
  refine Wp.s ?_
  by_cases a1 : p.kind < 0
  · simp -implicitDefEqProofs [go_sem, a1]
    exact Fin.er (a := 1) (by simp [checkP, a1]) hokH (by simp) (by simp)
  by_cases a2 : 2 < p.kind
  · simp -implicitDefEqProofs [go_sem, a1, a2]
    exact Fin.er (a := 1) (by simp [checkP, a1, a2]) hokH (by simp) (by simp)
  simp -implicitDefEqProofs [go_sem, a1, a2]
  refine CC.mono (reftime_cc _ _ _) ?_
  rintro _ _ _ ⟨rfl, rfl, rfl⟩
  rcases b1 : timeB p.session with - | -
  · simp -implicitDefEqProofs [go_sem]
    exact Fin.er (a := 2) (by simp [checkP, rngB, a1, a2, b1]) hokH (by simp) (by simp)
  simp -implicitDefEqProofs [go_sem]
  refine CC.mono (reftime_cc _ _ _) ?_
  rintro _ _ _ ⟨rfl, rfl, rfl⟩
  rcases b2 : timeB p.sequence with - | -
  · simp -implicitDefEqProofs [go_sem]
    exact Fin.er (a := 2) (by simp [checkP, rngB, a1, a2, b1, b2]) hokH (by simp) (by simp)
  simp -implicitDefEqProofs [go_sem]
  refine CC.mono (reftime_cc _ _ _) ?_
  rintro _ _ _ ⟨rfl, rfl, rfl⟩
  rcases b3 : timeB p.ack with - | -
  · simp -implicitDefEqProofs [go_sem]
    exact Fin.er (a := 2) (by simp [checkP, rngB, a1, a2, b1, b2, b3]) hokH (by simp) (by simp)
  by_cases b4 : p.credit < 0
  · simp -implicitDefEqProofs [go_sem, b4]
    exact Fin.er (a := 2) (by simp [checkP, rngB, a1, a2, b1, b2, b3, show ¬ 0 ≤ p.credit by omega]) hokH (by simp) (by simp)
  by_cases b5 : 64 < p.credit
  · simp -implicitDefEqProofs [go_sem, b4, b5]
    exact Fin.er (a := 2) (by simp [checkP, rngB, a1, a2, b1, b2, b3, show ¬ p.credit ≤ 64 by omega]) hokH (by simp) (by simp)
  have hr : rngB p = true := by simp [rngB, b1, b2, b3, show 0 ≤ p.credit by omega, show p.credit ≤ 64 by omega]
  simp -implicitDefEqProofs [go_sem, b4, b5]
  refine CC.mono (refselective_cc _ _ _ _ _ hl) ?_
  rintro _ _ _ ⟨rfl, rfl, rfl⟩
  rcases c1 : selB p.ack p.ack p.sel with - | -
  · simp -implicitDefEqProofs [go_sem]
    exact Fin.er (a := 3) (by simp [checkP, hr, a1, a2, c1]) hokH (by simp) (by simp)
  by_cases d1 : 4096 < p.payload.length
  · simp -implicitDefEqProofs [go_sem, show (4096 : Int) < p.payload.length by omega]
    exact Fin.er (a := 5) (by simp [checkP, hr, a1, a2, c1, d1]) hokH (by simp) (by simp)
  by_cases d2 : p.payload = []
  · simp -implicitDefEqProofs [go_sem, show ¬ (4096 : Int) < p.payload.length by omega, d2]
    exact Fin.er (a := 0) (by simp [checkP, hr, a1, a2, c1, d2]) hokH (by simp) (by simp)
  · have d4 : 0 < p.payload.length := List.length_pos_iff.2 d2
    by_cases d3 : p.kind = 0
    · simp -implicitDefEqProofs [go_sem, show ¬ (4096 : Int) < p.payload.length by omega, d2, d3, d4]
      exact Fin.er (a := 0) (by simp [checkP, hr, c1, d1, d3]) hokH (by simp) (by simp)
    · simp -implicitDefEqProofs [go_sem, show ¬ (4096 : Int) < p.payload.length by omega, d2, d3, d4]
      exact Fin.er (a := 3) (by simp [checkP, hr, a1, a2, c1, d1, d2, d3]) hokH (by simp) (by simp)
end Go.Proofs.Ythakkopnoeinmaa
