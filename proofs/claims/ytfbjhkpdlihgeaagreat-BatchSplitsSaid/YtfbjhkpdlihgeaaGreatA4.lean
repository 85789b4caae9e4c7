import Derived.Test.YtfbjhkpdlihgeaaGreatA3
import Derived.ChangeKeysEq
import Derived.Test.YtfbjhkpdlihgeaaGreatA2
import Derived.Test.YtfbjhkpdlihgeaaGreatProg
set_option linter.unusedSimpArgs false
set_option linter.unusedVariables false
set_option linter.unusedSectionVars false
namespace Go.Proofs.YtfbjhkpdlihgeaaGreat

/-- Bytes, as the elements of a slice. -/
def bs (l : List UInt8) : List (List CV) := l.map u8
@[go_sem, simp] theorem bs_len (l : List UInt8) : (bs l).length = l.length := List.length_map ..
@[go_sem, simp] theorem bs_app (a b : List UInt8) : bs a ++ bs b = bs (a ++ b) := (List.map_append ..).symm
@[go_sem, simp] theorem bs_drop (l : List UInt8) (n : Nat) : (bs l).drop n = bs (l.drop n) := (List.map_drop ..).symm
@[go_sem, simp] theorem bs_take (l : List UInt8) (n : Nat) : (bs l).take n = bs (l.take n) := (List.map_take ..).symm
@[go_sem, simp] theorem bs_get (l : List UInt8) (n : Nat) (h : n < (bs l).length) : (bs l)[n] = u8 (l[n]'(by simpa using h)) := List.getElem_map ..
@[go_sem, simp] theorem bs_nil : bs [] = [] := rfl
theorem bs_nil' : ([] : List (List CV)) = bs [] := rfl
theorem u8_inj {a b : List UInt8} (h : a.map u8 = b.map u8) : a = b := by
  refine List.map_inj_right (fun x y e => ?_) |>.1 h
  simp only [u8, List.cons.injEq, CV.v.injEq, Value.int.injEq, true_and, and_true] at e
  exact UInt8.toNat_inj.1 (by omega)
@[go_sem, simp] theorem hconv_bs (tk : Tk) (sz : Nat) (l : List UInt8) (K : CV → Prop) : hconv none (.sl tk sz (bs l)) K = K (.v (.string ⟨l.toArray⟩)) := by
  rw [hconv_sl]
  exact propext ⟨fun ⟨b, h, k⟩ => by rw [u8_inj h]; exact k, fun k => ⟨l, rfl, k⟩⟩
abbrev ci (n : Int) : CV := .v (.int .i64 n)
abbrev cb (b : Bool) : CV := .v (.bool b)
def ic (n : Int) : List CV := [.v (.int .i64 n)]
/-- The byte of a number. -/
def byt (n : Int) : UInt8 := UInt8.ofNat (n % 256).toNat
theorem byt_toNat (n : Int) : ((byt n).toNat : Int) = n % 256 := by
  unfold byt
  rw [UInt8.toNat_ofNat']
  omega
theorem wrap_u8 (n : Int) : IntKind.u8.wrap n = ((byt n).toNat : Int) := by
  rw [byt_toNat, IntKind.wrap_u8]
@[go_sem, simp] theorem bs_snoc (l : List UInt8) (n : Int) : bs l ++ [[CV.v (.int .u8 (IntKind.u8.wrap n))]] = bs (l ++ [byt n]) := by
  rw [wrap_u8, bs, bs, List.map_append]; rfl
theorem u8_byt (n : Int) : [CV.v (.int .u8 (IntKind.u8.wrap n))] = u8 (byt n) := by rw [wrap_u8]; rfl
theorem byt_u8 (b : UInt8) : byt (b.toNat : Int) = b := by
  apply UInt8.toNat_inj.1
  have h := byt_toNat (b.toNat : Int)
  have := b.toNat_lt
  omega
theorem okV_sl {jb jv sz : Nat} {α : Type} (f : α → List CV) (l : List α) (h : ∀ a ∈ l, okL jb jv (f a)) : okV jb jv (.sl .sh sz (l.map f)) := by
  rw [okV]
  refine ⟨trivial, ?_⟩
  rw [okE_iff]
  intro e he c hc
  obtain ⟨a, ha, rfl⟩ := List.mem_map.1 he
  exact okL_iff.1 (h a ha) c hc
theorem okL_u8 (jb jv : Nat) (b : UInt8) : okL jb jv (u8 b) := by simp [u8, okL, okV]
@[go_sem] theorem okBs_t (jb jv : Nat) (l : List UInt8) : okE jb jv (bs l) = True := eq_true (okE_map u8 l (okL_u8 jb jv))
theorem okBs (jb jv : Nat) (l : List UInt8) : okE jb jv (bs l) := okE_map u8 l (okL_u8 jb jv)
theorem okL_ic (jb jv : Nat) (n : Int) : okL jb jv (ic n) := by simp [ic, okL, okV]

@[go_sem, simp] theorem ic_get (n : Int) (h : 0 < (ic n).length) : (ic n)[0] = CV.v (.int .i64 n) := rfl
@[go_sem, simp] theorem ic_len (n : Int) : (ic n).length = 1 := by rw [ic]; rfl
theorem wrap_succ {i : Nat} (h : i ≤ 1000000000) : IntKind.i64.wrap ((i : Int) + 1) = ((i + 1 : Nat) : Int) := by
  rw [IntWalk.i64_in _ ⟨by omega, by omega⟩]; rfl
@[go_sem, simp] theorem u8_get (b : UInt8) (h : 0 < (u8 b).length) : (u8 b)[0] = CV.v (.int .u8 (b.toNat : Int)) := rfl
@[go_sem, simp] theorem u8_len (b : UInt8) : (u8 b).length = 1 := by rw [u8]; rfl
/-- A sector. -/
structure Sec where
  val : List UInt8
  len : val.length = 8
def secC (s : Sec) : List CV := s.val.map fun b => CV.v (.int .u8 (b.toNat : Int))
@[go_sem, simp] theorem secC_len (s : Sec) : (secC s).length = 8 := by rw [secC, List.length_map, s.len]
@[go_sem, simp] theorem secC_take (s : Sec) : (secC s).take 8 = secC s := List.take_of_length_le (by simp)
@[go_sem, simp] theorem secC_all (s : Sec) : allOne (secC s) = true := by
  simp only [allOne, secC, List.all_map, List.all_eq_true]; intros; rfl
theorem chunks_u8 : ∀ l : List UInt8, chunks 1 l.length (l.map fun b => CV.v (.int .u8 (b.toNat : Int))) = bs l
  | [] => rfl
  | b :: l => by
    rw [List.length_cons, List.map_cons, chunks, List.take_succ_cons, List.take_zero, List.drop_succ_cons, List.drop_zero, chunks_u8 l]; rfl
@[go_sem, simp] theorem secC_chunks (s : Sec) : chunks 1 8 (secC s) = bs s.val := by
  have := chunks_u8 s.val
  rw [s.len] at this; exact this
theorem okSecs (jb jv : Nat) (l : List Sec) : okE jb jv (l.map secC) := okE_map secC l fun s => by
  rw [okL_iff]; intro c hc
  simp only [secC, List.mem_map] at hc
  obtain ⟨b, _, rfl⟩ := hc
  rw [okV]; trivial
structure Ext2 where
  start : Int
  count : Int
def extC (e : Ext2) : List CV := [.v (.int .i64 e.start), .v (.int .i64 e.count)]
@[go_sem, simp] theorem extC_len (e : Ext2) : (extC e).length = 2 := by rw [extC]; rfl
@[go_sem, simp] theorem extC_take (e : Ext2) : (extC e).take 2 = extC e := rfl
@[go_sem, simp] theorem extC_all (e : Ext2) : allOne (extC e) = true := rfl
@[go_sem, simp] theorem extC_0 (e : Ext2) (h : 0 < (extC e).length) : (extC e)[0] = CV.v (.int .i64 e.start) := rfl
@[go_sem, simp] theorem extC_1 (e : Ext2) (h : 1 < (extC e).length) : (extC e)[1] = CV.v (.int .i64 e.count) := rfl
structure Wr where
  volume : Int
  start : Int
  data : List Sec
def wrC (x : Wr) : List CV := [.v (.int .i64 x.volume), .v (.int .i64 x.start), .sl .sh 8 (x.data.map secC)]
@[go_sem, simp] theorem wrC_len (x : Wr) : (wrC x).length = 3 := by rw [wrC]; rfl
@[go_sem, simp] theorem wrC_take (x : Wr) : (wrC x).take 3 = wrC x := rfl
@[go_sem, simp] theorem wrC_all (x : Wr) : allOne (wrC x) = true := rfl
@[go_sem, simp] theorem wrC_0 (x : Wr) (h : 0 < (wrC x).length) : (wrC x)[0] = CV.v (.int .i64 x.volume) := rfl
@[go_sem, simp] theorem wrC_1 (x : Wr) (h : 1 < (wrC x).length) : (wrC x)[1] = CV.v (.int .i64 x.start) := rfl
@[go_sem, simp] theorem wrC_2 (x : Wr) (h : 2 < (wrC x).length) : (wrC x)[2] = CV.sl .sh 8 (x.data.map secC) := rfl


@[go_sem] theorem okL_secC (jb jv : Nat) (s : Sec) : okL jb jv (secC s) = True := by
  refine eq_true (okL_iff.2 fun c hc => ?_)
  simp only [secC, List.mem_map] at hc
  obtain ⟨b, _, rfl⟩ := hc
  rw [okV]; trivial
@[go_sem] theorem okE_ints (jb jv : Nat) (l : List Int) : okE jb jv (l.map ic) = True := eq_true (okE_map ic l (okL_ic jb jv))
@[go_sem] theorem okE_secs (jb jv : Nat) (l : List Sec) : okE jb jv (l.map secC) = True := eq_true (okSecs jb jv l)
@[go_sem] theorem okL_extC (jb jv : Nat) (e : Ext2) : okL jb jv (extC e) = True := by simp [extC, okL, okV]
@[go_sem] theorem okE_exts (jb jv : Nat) (l : List Ext2) : okE jb jv (l.map extC) = True := eq_true (okE_map extC l fun e => by rw [okL_extC]; trivial)
@[go_sem] theorem okL_wrC (jb jv : Nat) (e : Wr) : okL jb jv (wrC e) = True := by simp [wrC, okL, okV, okTk, okE_secs]
@[go_sem] theorem okE_wrs (jb jv : Nat) (l : List Wr) : okE jb jv (l.map wrC) = True := eq_true (okE_map wrC l fun e => by rw [okL_wrC]; trivial)
/-! ### The encoding -/
/-- A number's groups of seven digits. -/
def encN : Nat → List UInt8
  | n => if h : n < 128 then [UInt8.ofNat n] else UInt8.ofNat (n % 128 + 128) :: encN (n / 128)
termination_by n => n
decreasing_by omega
/-- What is encoded of a number: 0 for those out of range. -/
def norm (n : Int) : Nat := if n < 0 ∨ n > 9007199254740991 then 0 else n.toNat
def enc (n : Int) : List UInt8 := encN (norm n)
def encInts (l : List Int) : List UInt8 := enc l.length ++ l.flatMap enc
def encBytes (b : List UInt8) : List UInt8 := enc b.length ++ b
def encSecs (l : List Sec) : List UInt8 := enc l.length ++ l.flatMap Sec.val
def encExt (e : Ext2) : List UInt8 := enc e.start ++ enc e.count
def encExts (l : List Ext2) : List UInt8 := enc l.length ++ l.flatMap encExt
def encWr (x : Wr) : List UInt8 := enc x.volume ++ enc x.start ++ encSecs x.data
def encWrs (l : List Wr) : List UInt8 := enc l.length ++ l.flatMap encWr

section
variable {H H' : Hp} {V V' : List Nat} {sz : Nat} {x y : List UInt8}
theorem Fin.ownB {k v : Nat} (hk : k < V.length) (hx : x = y) (hokH : ∀ (b : Nat) cs, H[b]? = some (some cs) → okL H.length V.length cs) (hH : H'.take H.length = H) : Fin H.length V.length (Ow k sz (bs y) H V) (.sl (.own k v) sz (bs x)) H' (V.set k v) :=
  Fin.own hk (by rw [hx]) (okBs _ _ _) hokH hH
theorem Fin.freshB {v : Nat} {W : List Nat} (hx : x = y) (hokH : ∀ (b : Nat) cs, H[b]? = some (some cs) → okL H.length V.length cs) (hH : H'.take H.length = H) : Fin H.length V.length (Fr sz (bs y) H V) (.sl (.own V.length v) sz (bs x)) H' (V ++ v :: W) :=
  Fin.fresh (by rw [hx]) (okBs _ _ _) hokH hH
end
end Go.Proofs.YtfbjhkpdlihgeaaGreat
namespace Go.Proofs.YtfbjhkpdlihgeaaGreat
abbrev er (e : Nat) : CV := .v (.int .i64 e)
section
variable {n nb nv : Nat} {T T' : Tm} {H : Hp} {V : List Nat}
theorem Gst.freezeY {b : Nat} {cs : List CV} (hb : H[b]? = some (some cs)) (h : ∀ p ∈ T', Fy b cs (tget T p.1) p.2) : Gst n nb nv T H V T' (H.set b none) V := fun D m w a m0 w0 V0 h1 h2 h3 hx hs => by
  cases hs.inv.live b cs hb with
  | row k c e g1 g2 g3 g4 g5 =>
    obtain ⟨hi', hx'⟩ := hs.inv.fix hb g1 g2 g3 g4
    refine ⟨_, ⟨hi', fun j => ?_, hs.size, hs.df⟩, hx.trans hx'⟩
    have ht := RelT.mono hx' hs.tm
    rcases tget_mem T' j with h1 | ⟨p, h1, rfl, h2⟩
    · rw [h1, RelV]; trivial
    · rw [h2]
      exact Fy.rel (m := { m with lim := fun j => if j = k then cs.length else m.lim j }) (k := k) g1 (by show cs.length ≤ if k = k then cs.length else m.lim k; rw [if_pos rfl]; exact Nat.le_refl _) (relC_box hx' rfl g5) (h p h1) (ht p.1)
  | obj k x g1 g2 g3 =>
    refine ⟨m, ⟨hs.inv.kill b, fun j => ?_, hs.size, hs.df⟩, hx⟩
    rcases tget_mem T' j with h1 | ⟨p, h1, rfl, h2⟩
    · rw [h1, RelV]; trivial
    · rw [h2]
      exact Fy.relO g1 g3.notRow (h p h1) (hs.tm p.1)
end
@[go_sem] theorem hbx_c0 (cs : List CV) (H : Hp) (K : List CV → Prop) : hbx (some cs :: H) 0 K = K cs := id rfl
@[go_sem] theorem hbx_c1 (c : Option (List CV)) (H : Hp) (b : Nat) (K : List CV → Prop) : hbx (c :: H) (b + 1) K = hbx H b K := id rfl
theorem Fin.er {H H' : Hp} {V V' : List Nat} {a b : Nat} (h : b = a) (hokH : ∀ (b : Nat) cs, H[b]? = some (some cs) → okL H.length V.length cs) (hH : H'.take H.length = H) (hV : V'.take V.length = V) : Fin H.length V.length (Pu (er b) H V) (er a) H' V' := by
  subst h; exact Fin.pu (.refl _) (by simp [go_sem]) hokH hH hV
theorem Fin.int {H H' : Hp} {V V' : List Nat} {k : IntKind} {a b : Int} (h : a = b) (hokH : ∀ (b : Nat) cs, H[b]? = some (some cs) → okL H.length V.length cs) (hH : H'.take H.length = H) (hV : V'.take V.length = V) : Fin H.length V.length (Pu (.v (.int k b)) H V) (.v (.int k a)) H' V' := by
  subst h; exact Fin.pu (.refl _) trivial hokH hH hV
theorem Fin.cut {nb nv : Nat} {R : CV → Hp → List Nat → Prop} {r r' : CV} {H' H'' : Hp} {V' V'' : List Nat} (i j : Nat) (hR : R r' H'' V'') (hi : nb ≤ i) (hj : nv ≤ j) (hH : H'.take i = H'') (hV : V'.take j = V'') (hle : Le r r') (hok : okV i j r')
    (hokH : ∀ (b : Nat) cs, H''[b]? = some (some cs) → okL i j cs) : Fin nb nv R r H' V' := by
  refine ⟨r', H'', V'', ?_, hR⟩
  refine Gst.trans (T' := [(0, r')]) (H' := H') (V' := V') (Gst.forget fun p hp => ?_) ?_
  · simp at hp; subst hp; exact hle
  · have := Gst.cut (n := 1) (nb := nb) (nv := nv) (T := [(0, r')]) (H := H') (V := V') i j hi hj (fun p hp => by simp at hp; subst hp; exact hok) (by rw [hH]; exact hokH)
    rwa [hH, hV] at this
theorem Fin.self {nb nv : Nat} {R : CV → Hp → List Nat → Prop} {r : CV} {H : Hp} {V : List Nat} (h : R r H V) : Fin nb nv R r H V := ⟨r, H, V, Gst.refl, h⟩
/-- An index, or -1: whether there is one. -/
def Ix (b : Bool) (H : Hp) (V : List Nat) : CV → Hp → List Nat → Prop := fun r H' V' => ∃ k : Int, r = ci k ∧ decide (0 ≤ k) = b ∧ H = H' ∧ V = V'
theorem Fin.ix {k : Int} {b : Bool} {H H' : Hp} {V V' : List Nat} (h : decide (0 ≤ k) = b) (hokH : ∀ (b : Nat) cs, H[b]? = some (some cs) → okL H.length V.length cs) (hH : H'.take H.length = H) (hV : V'.take V.length = V) : Fin H.length V.length (Ix b H V) (ci k) H' V' :=
  Fin.pure ⟨k, rfl, h, rfl, rfl⟩ hH hV (.refl _) trivial hokH
theorem any_take {α : Type} {p : α → Bool} {l : List α} {i : Nat} (h : i < l.length) (h1 : (l.take i).any p = false) (h2 : p l[i] = false) : (l.take (i + 1)).any p = false := by
  rw [List.take_succ_eq_append_getElem h, List.any_append, h1]; simp [h2]
theorem any_at {α : Type} {p : α → Bool} {l : List α} {i : Nat} (h : i < l.length) (h2 : p l[i] = true) : l.any p = true := List.any_eq_true.2 ⟨_, List.getElem_mem h, h2⟩
/-- Boxes that refer to what is there. -/
def okH (i j : Nat) : Hp → Prop
  | [] => True
  | none :: L => okH i j L
  | some cs :: L => okL i j cs ∧ okH i j L
@[go_sem] theorem okH_nil (i j : Nat) : okH i j [] = True := rfl
@[go_sem] theorem okH_none (i j : Nat) (L : Hp) : okH i j (none :: L) = okH i j L := rfl
@[go_sem] theorem okH_some (i j : Nat) (cs : List CV) (L : Hp) : okH i j (some cs :: L) = (okL i j cs ∧ okH i j L) := rfl
theorem okH_get {i j : Nat} : ∀ {L : Hp}, okH i j L → ∀ (b : Nat) cs, L[b]? = some (some cs) → okL i j cs
  | none :: L, h, 0, cs, e => by simp at e
  | none :: L, h, b + 1, cs, e => okH_get (L := L) h b cs (by simpa using e)
  | some c :: L, h, 0, cs, e => by simp at e; exact e ▸ h.1
  | some c :: L, h, b + 1, cs, e => okH_get (L := L) h.2 b cs (by simpa using e)
/-- The boxes behind L, and the tokens behind V', are let go. -/
theorem Sh.trim {n : Nat} {T T' : Tm} {H0 L H : Hp} {V0 V V' : List Nat} (h : TLe T T') (hT : TOk (H0.length + L.length) V'.length T') (hokH : ∀ (b : Nat) cs, H0[b]? = some (some cs) → okL H0.length V0.length cs)
    (hL : okH (H0.length + L.length) V'.length L) (hV0 : V0.length ≤ V'.length) (eH : H.take (H0.length + L.length) = H0 ++ L) (eV : V.take V'.length = V') : Sh n H0.length V0.length T H V (T', H0 ++ L, V') := by
  refine Sh.cut (H0.length + L.length) V'.length h (Nat.le_add_right _ _) hV0 (TOk.all hT) (fun b cs hb => ?_) eH eV
  rw [List.getElem?_append] at hb
  split at hb
  · exact okL_mono (Nat.le_add_right _ _) hV0 (hokH b cs hb)
  · exact okH_get hL _ _ hb
/-- What is handed back is fixed. -/
theorem Fin.froz {nb nv : Nat} {R : CV → Hp → List Nat → Prop} {r : CV} {H H' : Hp} {V V' : List Nat} {b o n sz : Nat} {cs : List CV} {xs : List (List CV)} (hR : R (.sl .sh sz xs) H V) (hle : Le r (.bsl b o n sz)) (hb : H'[b]? = some (some cs)) (hx : chunks sz n (cs.drop o) = xs) (hn : o + n * sz ≤ cs.length)
    (hb0 : nb ≤ b) (hok : okE nb nv xs) (hokH : ∀ (b : Nat) cs, H[b]? = some (some cs) → okL nb nv cs) (hH : H'.take nb = H) (hV : V'.take nv = V) : Fin nb nv R r H' V' := by
  subst hx
  refine ⟨_, H, V, ?_, hR⟩
  refine Gst.trans (T' := [(0, .bsl b o n sz)]) (H' := H') (V' := V') (Gst.forget fun p hp => ?_) ?_
  · simp at hp; subst hp; exact hle
  refine Gst.trans (T' := [(0, .sl .sh sz (chunks sz n (cs.drop o)))]) (H' := H'.set b none) (V' := V') (Gst.freeze hb fun p hp => ?_) ?_
  · simp at hp; subst hp; exact Fz.bsl o n sz hn
  · have hH' : (H'.set b none).take nb = H := by rw [List.take_set_of_le hb0]; exact hH
    have := Gst.cut (n := 1) (nb := nb) (nv := nv) (T := [(0, .sl .sh sz (chunks sz n (cs.drop o)))]) (H := H'.set b none) (V := V') nb nv (Nat.le_refl _) (Nat.le_refl _) (fun p hp => by simp at hp; subst hp; simpa only [go_sem] using hok) (by rw [hH']; exact hokH)
    rwa [hH', hV] at this
@[go_sem, simp] theorem take_add {α : Type} (H L : List α) (k : Nat) : (H ++ L).take (H.length + k) = H ++ L.take k := by rw [List.take_append, List.take_of_length_le (by omega), Nat.add_sub_cancel_left]
theorem foldl_take_succ {α β : Type} (f : β → α → β) (z : β) (l : List α) (i : Nat) (h : i < l.length) : (l.take (i + 1)).foldl f z = f ((l.take i).foldl f z) l[i] := by
  rw [List.take_succ_eq_append_getElem h, List.foldl_append]; rfl
theorem Fin.tup2 {H H' : Hp} {V V' : List Nat} {a b a' b' : CV} (h1 : Le a a') (h2 : Le b b') (o1 : okV H.length V.length a') (o2 : okV H.length V.length b') (hokH : ∀ (b : Nat) cs, H[b]? = some (some cs) → okL H.length V.length cs) (hH : H'.take H.length = H) (hV : V'.take V.length = V) : Fin H.length V.length (Pu (.tup [a', b']) H V) (.tup [a, b]) H' V' :=
  Fin.pu (.tup (.cons h1 (.cons h2 .nil))) (by rw [okV]; simp [go_sem, o1, o2]) hokH hH hV
theorem CC.le {P : Program} {f : FuncId} {xs ys : List CV} {H : Hp} {V : List Nat} {R : CV → Hp → List Nat → Prop} (h : LeL xs ys) (hc : CC P f ys H V R) : CC P f xs H V R :=
  ⟨hc.1, fun m w us hi hu => hc.2 m w us hi (h.rel hu)⟩
@[go_sem] theorem hbx_sa {H L : Hp} {X : Nat} {c : List CV} (h : X < H.length) (K : List CV → Prop) : hbx (H.set X (some c) ++ L) X K = K c := by
  unfold hbx; rw [List.getElem?_append_left (by simpa using h), List.getElem?_set_self h]
@[go_sem] theorem hbx_s {H : Hp} {X : Nat} {c : List CV} (h : X < H.length) (K : List CV → Prop) : hbx (H.set X (some c)) X K = K c := by
  unfold hbx; rw [List.getElem?_set_self h]
@[go_sem] theorem set_sa {H L : Hp} {X : Nat} {c c' : Option (List CV)} (h : X < H.length) : (H.set X c ++ L).set X c' = H.set X c' ++ L := by
  rw [List.set_append_left _ _ (by simpa using h), List.set_set]
@[go_sem] theorem hbx_ss {H L : Hp} {X k : Nat} {c : Option (List CV)} (K : List CV → Prop) : hbx (H.set X c ++ L) (H.length + k) K = hbx L k K := by
  unfold hbx; rw [List.getElem?_append_right (by simp)]; simp
@[go_sem] theorem hbx_ss0 {H L : Hp} {X : Nat} {c : Option (List CV)} (K : List CV → Prop) : hbx (H.set X c ++ L) H.length K = hbx L 0 K := hbx_ss (k := 0) K
@[go_sem] theorem set_ss {H L : Hp} {X k : Nat} {c y : Option (List CV)} : (H.set X c ++ L).set (H.length + k) y = H.set X c ++ L.set k y := by
  rw [List.set_append_right _ _ (by simp)]; simp
@[go_sem] theorem set_ss0 {H L : Hp} {X : Nat} {c y : Option (List CV)} : (H.set X c ++ L).set H.length y = H.set X c ++ L.set 0 y := set_ss (k := 0)
/-- What is handed back holds a box, which is fixed. -/
theorem Fin.frozG {nb nv : Nat} {R : CV → Hp → List Nat → Prop} {r r1 r2 : CV} {H H' : Hp} {V V' : List Nat} {b : Nat} {cs : List CV} (hR : R r2 H V) (hle : Le r r1) (hb : H'[b]? = some (some cs)) (hz : Fz b cs r1 r2)
    (hb0 : nb ≤ b) (hok : okV nb nv r2) (hokH : ∀ (b : Nat) cs, H[b]? = some (some cs) → okL nb nv cs) (hH : H'.take nb = H) (hV : V'.take nv = V) : Fin nb nv R r H' V' := by
  refine ⟨_, H, V, ?_, hR⟩
  refine Gst.trans (T' := [(0, r1)]) (H' := H') (V' := V') (Gst.forget fun p hp => ?_) ?_
  · simp at hp; subst hp; exact hle
  refine Gst.trans (T' := [(0, r2)]) (H' := H'.set b none) (V' := V') (Gst.freeze hb fun p hp => ?_) ?_
  · simp at hp; subst hp; exact hz
  · have hH' : (H'.set b none).take nb = H := by rw [List.take_set_of_le hb0]; exact hH
    have := Gst.cut (n := 1) (nb := nb) (nv := nv) (T := [(0, r2)]) (H := H'.set b none) (V := V') nb nv (Nat.le_refl _) (Nat.le_refl _) (fun p hp => by simp at hp; subst hp; exact hok) (by rw [hH']; exact hokH)
    rwa [hH', hV] at this
/-- What is handed back holds a box, in a slice too, which is fixed. -/
theorem Fin.frozY {nb nv : Nat} {R : CV → Hp → List Nat → Prop} {r r1 r2 : CV} {H H' : Hp} {V V' : List Nat} {b : Nat} {cs : List CV} (hR : R r2 H V) (hle : Le r r1) (hb : H'[b]? = some (some cs)) (hz : Fy b cs r1 r2)
    (hb0 : nb ≤ b) (hok : okV nb nv r2) (hokH : ∀ (b : Nat) cs, H[b]? = some (some cs) → okL nb nv cs) (hH : H'.take nb = H) (hV : V'.take nv = V) : Fin nb nv R r H' V' := by
  refine ⟨_, H, V, ?_, hR⟩
  refine Gst.trans (T' := [(0, r1)]) (H' := H') (V' := V') (Gst.forget fun p hp => ?_) ?_
  · simp at hp; subst hp; exact hle
  refine Gst.trans (T' := [(0, r2)]) (H' := H'.set b none) (V' := V') (Gst.freezeY hb fun p hp => ?_) ?_
  · simp at hp; subst hp; exact hz
  · have hH' : (H'.set b none).take nb = H := by rw [List.take_set_of_le hb0]; exact hH
    have := Gst.cut (n := 1) (nb := nb) (nv := nv) (T := [(0, r2)]) (H := H'.set b none) (V := V') nb nv (Nat.le_refl _) (Nat.le_refl _) (fun p hp => by simp at hp; subst hp; exact hok) (by rw [hH']; exact hokH)
    rwa [hH', hV] at this
theorem wrap_big {i : Nat} (h : i < 9223372036854775807) : IntKind.i64.wrap ((i : Int) + 1) = ((i + 1 : Nat) : Int) := by
  rw [IntWalk.i64_in _ ⟨by omega, by omega⟩]; rfl
@[go_sem] theorem okV_bm (i j f : Nat) (cs : List CV) : okV i j (.bm f cs) = okL i j cs := by rw [okV]
theorem Kp_ss {S : List Nat} {G : Hp} {X : Nat} {c c' : Option (List CV)} (h : X ∉ S) : Kp S (G.set X c) (G.set X c') := fun b hb cs h2 => by
  have : X ≠ b := fun e => h (e ▸ hb)
  rw [List.getElem?_set_ne this] at h2 ⊢; exact h2
theorem hget (H L : Hp) (k : Nat) : (H ++ L)[H.length + k]? = L[k]? := by rw [List.getElem?_append_right (by omega), Nat.add_sub_cancel_left]
theorem hbx_of {H : Hp} {b : Nat} {cs : List CV} (h : H[b]? = some (some cs)) (K : List CV → Prop) : hbx H b K = K cs := by
  unfold hbx; rw [h]
theorem okX_gen {H L : Hp} {X : Nat} {c0 c : List CV} {V V' : List Nat} (hX : X < H.length) (hok0 : ∀ (b : Nat) cs, (H.set X (some c0))[b]? = some (some cs) → okL H.length V.length cs) (h4 : V.length ≤ V'.length)
    (hc : okL (H.length + L.length) V'.length c) (hL : okH (H.length + L.length) V'.length L) : ∀ (b : Nat) cs, (H.set X (some c) ++ L)[b]? = some (some cs) → okL (H.length + L.length) V'.length cs := by
  intro b cs hb
  rw [List.getElem?_append] at hb
  split at hb
  · by_cases hbX : b = X
    · subst hbX
      rw [List.getElem?_set_self hX] at hb
      simp at hb; subst hb
      exact hc
    · refine okL_mono (Nat.le_add_right _ _) h4 (hok0 b cs ?_)
      rw [List.getElem?_set_ne (fun e => hbX e.symm)] at hb ⊢
      exact hb
  · exact okH_get hL _ _ hb
theorem exMap {α : Type} {f : α → List CV} : ∀ {xs : List (List CV)}, (∀ x ∈ xs, ∃ a, x = f a) → ∃ ys : List α, xs = ys.map f
  | [], _ => ⟨[], rfl⟩
  | x :: xs, h => by
    obtain ⟨a, rfl⟩ := h x (by simp)
    obtain ⟨ys, rfl⟩ := exMap fun y hy => h y (List.mem_cons_of_mem _ hy)
    exact ⟨a :: ys, rfl⟩
end Go.Proofs.YtfbjhkpdlihgeaaGreat
namespace Go.Proofs.YtfbjhkpdlihgeaaGreat
abbrev secsV (l : List Sec) : CV := .sl .sh 8 (l.map secC)
/-! ### Sectors in a row -/
def secsF (l : List Sec) : List CV := (l.map secC).flatten
@[go_sem, simp] theorem secsF_len (l : List Sec) : (secsF l).length = 8 * l.length := by
  induction l with
  | nil => rfl
  | cons a l ih => rw [secsF, List.map_cons, List.flatten_cons, List.length_append, secC_len, List.length_cons]; rw [secsF] at ih; rw [ih]; omega
theorem secsF_cons (a : Sec) (l : List Sec) : secsF (a :: l) = secC a ++ secsF l := by rw [secsF, List.map_cons, List.flatten_cons]; rfl
theorem secsF_app (a b : List Sec) : secsF (a ++ b) = secsF a ++ secsF b := by simp [secsF]
theorem secsF_take : ∀ (l : List Sec) (i : Nat), (secsF l).take (i * 8) = secsF (l.take i)
  | [], i => by simp [secsF]
  | a :: l, 0 => by simp [secsF]
  | a :: l, i + 1 => by
    rw [secsF_cons, List.take_succ_cons, secsF_cons, List.take_append, secC_len, List.take_of_length_le (by rw [secC_len]; omega), show (i + 1) * 8 - 8 = i * 8 by omega, secsF_take l i]
theorem secsF_drop : ∀ (l : List Sec) (i : Nat), (secsF l).drop (i * 8) = secsF (l.drop i)
  | [], i => by simp [secsF]
  | a :: l, 0 => by simp
  | a :: l, i + 1 => by
    rw [secsF_cons, List.drop_succ_cons, List.drop_append, secC_len, List.drop_of_length_le (by rw [secC_len]; omega), show (i + 1) * 8 - 8 = i * 8 by omega, secsF_drop l i]; rfl
theorem secsF_set {l : List Sec} {i : Nat} (h : i < l.length) (s : Sec) : (secsF l).take (i * 8) ++ secC s ++ (secsF l).drop (i * 8 + 8) = secsF (l.set i s) := by
  rw [show i * 8 + 8 = (i + 1) * 8 by omega, secsF_take, secsF_drop, List.set_eq_take_append_cons_drop, if_pos h, secsF_app, secsF_cons, List.append_assoc]
theorem secsF_set' {l : List Sec} {i : Nat} (h : i < l.length) (s : Sec) : (secsF l).take (i * 8) ++ (secC s ++ (secsF l).drop (i * 8 + 8)) = secsF (l.set i s) := by
  rw [← List.append_assoc, secsF_set h]
theorem chunks_secs : ∀ l : List Sec, chunks 8 l.length (secsF l) = l.map secC
  | [] => rfl
  | a :: l => by
    rw [List.length_cons, secsF_cons, chunks, List.take_append_of_le_length (by rw [secC_len]; exact Nat.le_refl _), secC_take, List.drop_append_of_le_length (by rw [secC_len]; exact Nat.le_refl _), List.drop_of_length_le (by rw [secC_len]; exact Nat.le_refl _), List.nil_append, chunks_secs l]; rfl
theorem secsF_get {l : List Sec} {i : Nat} (h : i < l.length) : ((secsF l).drop (i * 8)).take 8 = secC l[i] := by
  rw [secsF_drop, List.drop_eq_getElem_cons h, secsF_cons, List.take_append_of_le_length (by rw [secC_len]; exact Nat.le_refl _), secC_take]
@[go_sem, simp] theorem secsF_all (l : List Sec) : allOne (secsF l) = true := by
  induction l with
  | nil => rfl
  | cons a l ih => rw [secsF_cons, allOne, List.all_append, ← allOne, ← allOne, secC_all, ih]; rfl
@[go_sem] theorem okL_secsF (jb jv : Nat) (l : List Sec) : okL jb jv (secsF l) = True := by
  induction l with
  | nil => simp [secsF, okL]
  | cons a l ih =>
    refine eq_true (okL_iff.2 fun c hc => ?_)
    rw [secsF_cons] at hc
    rcases List.mem_append.1 hc with h | h
    · exact okL_iff.1 (by rw [okL_secC]; trivial) c h
    · exact okL_iff.1 (by rw [ih]; trivial) c h
/-- A sector of zeros. -/
def sec0 : Sec := ⟨List.replicate 8 0, rfl⟩
theorem zeros_secs : ∀ n : Nat, (List.replicate n (List.map CV.v [.int .u8 0, .int .u8 0, .int .u8 0, .int .u8 0, .int .u8 0, .int .u8 0, .int .u8 0, .int .u8 0])).flatten = secsF (List.replicate n sec0)
  | 0 => rfl
  | n + 1 => by rw [List.replicate_succ, List.flatten_cons, zeros_secs n, List.replicate_succ, secsF_cons]; rfl
theorem okV_secsV (i j : Nat) (l : List Sec) : okV i j (secsV l) := by rw [secsV, okV_sh, okE_secs]; trivial
/-- So many sectors of zeros. -/
def zer (n : Nat) : List Sec := List.replicate n sec0
@[go_sem, simp] theorem zer_len (n : Nat) : (zer n).length = n := List.length_replicate
end Go.Proofs.YtfbjhkpdlihgeaaGreat
namespace Go.Proofs.YtfbjhkpdlihgeaaGreat
section
variable {P : Program} {n nb nv id : Nat} {Q : Exit → Tm → Hp → List Nat → Prop} {T : Tm} {H : Hp} {V : List Nat}
/-- A region that asserts a type, and the value has it. -/
theorem SWp.tassert {pre post : List Oper} {d : Option Tmp} {ty : TypeId} {pos : String} {after : Array Edge} {x : Operand} {t u : TypeId}
    (h : crunS P n ((pre ++ ⟨d, .typeAssert x t u true, ty, pos, after, none⟩ :: post).map (·.dst)) pre T H V fun T H V => dOk d n ∧
      ∃ c u' pv, evT T x = .v (.iface u' pv) ∧ (∀ m w V, RelV m w V c pv) ∧ (∀ (A : Act) (w : World), A.eval x = .iface u' pv → (execOp A.eval ⟨d, .typeAssert x t u true, ty, pos, after, none⟩).run P w = .ok (.value (.tuple #[pv, .bool true])) w) ∧
        contL P n ((pre ++ ⟨d, .typeAssert x t u true, ty, pos, after, none⟩ :: post).map (·.dst)) d post T (Q .normal) (.tup [c, .v (.bool true)]) H V) :
    SWp P n nb nv (.region id (pre ++ ⟨d, .typeAssert x t u true, ty, pos, after, none⟩ :: post).toArray false) Q T H V := by
  intro ro D m w a m0 w0 V0 h1 h2 h3 hx hs
  generalize hops : pre ++ ⟨d, .typeAssert x t u true, ty, pos, after, none⟩ :: post = ops at h ⊢
  rw [crunS, ← crun_lite] at h
  refine wpIn_region_list ?_
  have e : ops.toArray.toList = pre ++ (⟨d, .typeAssert x t u true, ty, pos, after, none⟩ :: post) := by rw [hops]
  rw [e]
  refine crun_soundR (P := P) (Q := fun e a' w' => ∃ T' H' V' m', Q e T' H' V' ∧ St D n m' w' a' T' H' V' ∧ Ext m0 w0 V0 m' w' V') pre hs h fun T1 H1 V1 a1 w1 m1 ⟨hd, c, u', pv, he, hr, hrun, hk⟩ s1 x1 => ?_
  unfold wpListIn
  rw [if_pos (by simp [Region.wanted])]
  have hev := ev_rel s1.tm x
  rw [he, RelV] at hev
  refine ⟨fun _ _ => trivial, ?_⟩
  rw [Oper.semAt_eq _ _ _ (by intro c e; cases e), hrun a1 w1 hev, Oper.uponIn_value]
  have q2 : crunL P n (ops.map (·.dst)) post (tput d (.tup [c, .v (.bool true)]) T1) H1 V1 (Q .normal) := hk
  rw [← crun_lite] at q2
  have hrel : RelV m1 w1 V1 (.tup [c, .v (.bool true)]) (.tuple #[pv, .bool true]) := by
    rw [RelV]; exact ⟨[pv, .bool true], rfl, by rw [RelL]; exact ⟨_, _, rfl, hr _ _ _, by rw [RelL]; exact ⟨_, _, rfl, by rw [RelV], by rw [RelL]⟩⟩⟩
  have hst : St D n m1 w1 (a1.put d (.tuple #[pv, .bool true])) (tput d (.tup [c, .v (.bool true)]) T1) H1 V1 := ⟨s1.inv, (s1.tm).put hrel (by rw [s1.size]; exact hd), by rw [put_size]; exact s1.size, by rw [put_defers]; exact s1.df⟩
  exact crun_sound (P := P) (Q := fun e a' w' => ∃ T' H' V' m', Q e T' H' V' ∧ St D n m' w' a' T' H' V' ∧ Ext m0 w0 V0 m' w' V') post hst q2 fun T' H' V' a' w' m' k1 k2 k3 => ⟨T', H', V', m', k1, k2, (hx.trans x1).trans k3⟩
end
/-! ### Drawn orders, each by itself -/
inductive OX where
  | s (i : Nat) (t : OX)
  | f (i : Nat) (s : OX) (j : Nat) (t : OX)
  | x (i : Nat)
/-- The last of all is a call that may panic. -/
def ordX (ops : List Oper) : OX → Nat → Array Bool → Bool
  | .s i t, f, listed => Region.ready .any ops.toArray listed == [i] && f != 0 && ordX ops t (f - 1) (listed.setIfInBounds i true)
  | .f i s j t, f, listed => Region.ready .any ops.toArray listed == [i, j] && f != 0 && ordX ops s (f - 1) (listed.setIfInBounds i true) && ordX ops t (f - 1) (listed.setIfInBounds j true)
  | .x i, f, listed => Region.ready .any ops.toArray listed == [i] && f == 1 && (Region.ready .any ops.toArray (listed.setIfInBounds i true)).isEmpty
def isCall (o : Oper) : Option (Operand × Array Operand) :=
  match o with
  | ⟨_, .call ⟨.value f, args, _⟩, _, _, _, none⟩ => some (f, args)
  | _ => none
def crunX (P : Program) (n : Nat) (ops : List Oper) (N : Tm → Hp → List Nat → Prop) (E : List PanicEntry → Tm → Hp → List Nat → Prop) : OX → Tm → Hp → List Nat → Prop
  | .s i t, T, H, V => withO (ops[i]?) fun o => crunL P n (ops.map (·.dst)) [o] T H V fun T' H' V' => crunX P n ops N E t T' H' V'
  | .f i s j t, T, H, V => (withO (ops[i]?) fun o => crunL P n (ops.map (·.dst)) [o] T H V fun T' H' V' => crunX P n ops N E s T' H' V') ∧
      (withO (ops[j]?) fun o => crunL P n (ops.map (·.dst)) [o] T H V fun T' H' V' => crunX P n ops N E t T' H' V')
  | .x i, T, H, V => withO (ops[i]?) fun o => dOk o.dst n ∧ ∃ f args, isCall o = some (f, args) ∧ hcallx P H V (fun c H' V' => N (tput o.dst c T) H' V') (fun ch H' V' => E ch T H' V') (evT T f) (args.toList.map (evT T))
section
variable {P : Program} {n nb nv id : Nat} {ops : List Oper} {Q : Exit → Tm → Hp → List Nat → Prop}
theorem isCall_eq {o : Oper} {f : Operand} {args : Array Operand} (h : isCall o = some (f, args)) : ∃ tys, o.op = .call ⟨.value f, args, tys⟩ ∧ o.guard = none := by
  unfold isCall at h
  split at h
  · cases h; exact ⟨_, rfl, rfl⟩
  · cases h
theorem crunX_one {D : Dl} {ro : Option Nat} {i : Nat} {f : Nat} {listed : Array Bool} {m0 : Gh} {w0 : World} {V0 : List Nat} {T : Tm} {H : Hp} {V : List Nat} {m : Gh} {w : World} {a : Act} {K : Tm → Hp → List Nat → Prop}
    (hs : St D n m w a T H V) (hx : Ext m0 w0 V0 m w V) (h : withO (ops[i]?) fun o => crunL P n (ops.map (·.dst)) [o] T H V K)
    (hk : ∀ T' H' V' m' w' a', K T' H' V' → St D n m' w' a' T' H' V' → Ext m0 w0 V0 m' w' V' → wpAnyIn (fen ro) 0 P .any ops.toArray (fun e a' w' => ∃ T' H' V' m', Q e T' H' V' ∧ St D n m' w' a' T' H' V' ∧ Ext m0 w0 V0 m' w' V') f (listed.setIfInBounds i true) a' w') :
    wpOpIn (fen ro) 0 P ops.toArray (fun e a' w' => ∃ T' H' V' m', Q e T' H' V' ∧ St D n m' w' a' T' H' V' ∧ Ext m0 w0 V0 m' w' V') i (wpAnyIn (fen ro) 0 P .any ops.toArray (fun e a' w' => ∃ T' H' V' m', Q e T' H' V' ∧ St D n m' w' a' T' H' V' ∧ Ext m0 w0 V0 m' w' V') f (listed.setIfInBounds i true)) a w := by
  cases hi : ops[i]? with
  | none => rw [hi] at h; exact (show False from h).elim
  | some o =>
    rw [hi, withO_some, ← crun_lite] at h
    refine cstepE_sound hi hs.inv hs.tm hs.size (crun_one h) fun E' H' V' a' m' w' k1 k2 k3 k4 k5 k6 => ?_
    obtain ⟨T', rfl, k1⟩ := k1
    exact hk T' H' V' m' w' a' k1 ⟨k2, k3, k4, by rw [k5]; exact hs.df.mono k6⟩ (hx.trans k6)
theorem crunX_sound {D : Dl} {ro : Option Nat} {m0 : Gh} {w0 : World} {V0 : List Nat} : ∀ (l : OX) (f : Nat) (listed : Array Bool) (T : Tm) (H : Hp) (V : List Nat) (m : Gh) (w : World) (a : Act), ordX ops l f listed = true → crunX P n ops (Q .normal) (fun ch => Q (.panic ch)) l T H V → St D n m w a T H V → Ext m0 w0 V0 m w V →
    wpAnyIn (fen ro) 0 P .any ops.toArray (fun e a' w' => ∃ T' H' V' m', Q e T' H' V' ∧ St D n m' w' a' T' H' V' ∧ Ext m0 w0 V0 m' w' V') f listed a w
  | .s i t, f, listed, T, H, V, m, w, a, ho, h, hs, hx => by
    rw [ordX, Bool.and_eq_true, Bool.and_eq_true] at ho
    obtain ⟨⟨hr, hf⟩, ho⟩ := ho
    replace hr : Region.ready .any ops.toArray listed = [i] := by simpa using hr
    obtain ⟨f, rfl⟩ : ∃ g, f = g + 1 := ⟨f - 1, by have : f ≠ 0 := by simpa using hf
                                                   omega⟩
    rw [Nat.add_sub_cancel] at ho
    rw [crunX] at h
    refine ⟨fun e => (by rw [hr] at e; cases e), fun j hj => ?_⟩
    rw [hr] at hj
    obtain rfl : j = i := by simpa using hj
    exact crunX_one hs hx h fun T' H' V' m' w' a' k1 k2 k3 => crunX_sound t f _ T' H' V' m' w' a' ho k1 k2 k3
  | .f i s j t, f, listed, T, H, V, m, w, a, ho, h, hs, hx => by
    rw [ordX, Bool.and_eq_true, Bool.and_eq_true, Bool.and_eq_true] at ho
    obtain ⟨⟨⟨hr, hf⟩, ho1⟩, ho2⟩ := ho
    replace hr : Region.ready .any ops.toArray listed = [i, j] := by simpa using hr
    obtain ⟨f, rfl⟩ : ∃ g, f = g + 1 := ⟨f - 1, by have : f ≠ 0 := by simpa using hf
                                                   omega⟩
    rw [Nat.add_sub_cancel] at ho1 ho2
    rw [crunX] at h
    refine ⟨fun e => (by rw [hr] at e; cases e), fun q hq => ?_⟩
    rw [hr] at hq
    simp only [List.mem_cons, List.not_mem_nil, or_false] at hq
    rcases hq with rfl | rfl
    · exact crunX_one hs hx h.1 fun T' H' V' m' w' a' k1 k2 k3 => crunX_sound s f _ T' H' V' m' w' a' ho1 k1 k2 k3
    · exact crunX_one hs hx h.2 fun T' H' V' m' w' a' k1 k2 k3 => crunX_sound t f _ T' H' V' m' w' a' ho2 k1 k2 k3
  | .x i, f, listed, T, H, V, m1, w1, a1, ho, h, s1, x1 => by
    rw [ordX, Bool.and_eq_true, Bool.and_eq_true] at ho
    obtain ⟨⟨hr, hf⟩, ho⟩ := ho
    replace hr : Region.ready .any ops.toArray listed = [i] := by simpa using hr
    replace ho : Region.ready .any ops.toArray (listed.setIfInBounds i true) = [] := by simpa using ho
    obtain rfl : f = 1 := by simpa using hf
    rw [crunX] at h
    refine ⟨fun e => (by rw [hr] at e; cases e), fun j hj => ?_⟩
    rw [hr] at hj
    obtain rfl : j = i := by simpa using hj
    cases hi : ops[j]? with
    | none => rw [hi] at h; exact (show False from h).elim
    | some o =>
      rw [hi, withO_some] at h
      obtain ⟨hd, fo, args, hc, hk⟩ := h
      obtain ⟨tys, hop, hg⟩ := isCall_eq hc
      unfold wpOpIn
      rw [List.getElem?_toArray, hi]
      dsimp only
      rw [if_pos (by simp [Region.wanted, hg])]
      have hev : ∀ x : Operand, RelV m1 w1 V (evT T x) (a1.eval x) := fun x => ev_rel s1.tm x
      unfold hcallx at hk
      split at hk
      · rename_i l g caps hf
        have ef := hev fo
        rw [hf, RelV] at ef
        obtain ⟨us, eu, hr⟩ := ef
        obtain ⟨⟨fn, f1, f2, f3⟩, hc⟩ := hk
        have hargs := relL_append (relL_map hev args.toList) hr
        have hcall := hc m1 w1 _ s1.inv hargs
        have hrun : (execOp a1.eval o).run P w1 = .ok (.enter g (args.toList.map a1.eval ++ us).toArray) w1 := by
          have hb : ¬ fn.body = none := by cases hbb : fn.body <;> simp_all
          have f3' : ¬ fn.name = "runtime.NumGoroutine" := by simpa using f3
          have hfa : args.map a1.eval ++ us.toArray = (args.toList.map a1.eval ++ us).toArray := by
            rw [← Array.toList_map]; simp
          simp [execOp, hop, resolve, eu, Deferred.ofValue, invoke, callFunc, f1, f3', hb, hfa]
        refine ⟨fun _ _ => trivial, ?_⟩
        rw [Oper.semAt_eq _ _ _ (by intro c e; rw [hop] at e; cases e), hrun, Oper.uponIn_enter]
        refine ⟨(fun h => by cases h), callsIn_fen.2 (Calls.mono hcall fun e w' he => ?_)⟩
        rcases he with ⟨u, m', r, H', V', q1, q2, q3, q4, q5⟩ | ⟨ch, m', H', V', q1, q2, q3, q4⟩
        · subst q1
          exact ⟨ho, _, H', V', m', q2, ⟨q3, (RelT.mono q5 s1.tm).put q4 (by rw [s1.size]; exact hd), by rw [put_size]; exact s1.size, by rw [put_defers]; exact s1.df.mono q5⟩, x1.trans q5⟩
        · subst q1
          exact ⟨T, H', V', m', q2, ⟨q3, RelT.mono q4 s1.tm, s1.size, s1.df.mono q4⟩, x1.trans q4⟩
      · exact hk.elim
/-- A REGION WHOSE ORDER IS DRAWN, and the last call may panic. -/
theorem SWp.drawnX {T : Tm} {H : Hp} {V : List Nat} (l : OX) (hm : P.follows .mixedOrders = true) (ho : ordX ops l ops.length (Array.replicate ops.length false) = true)
    (h : crunX P n ops (Q .normal) (fun ch => Q (.panic ch)) l T H V) : SWp P n nb nv (.region id ops.toArray true) Q T H V := by
  intro ro D m w a m0 w0 V0 h1 h2 h3 hx hs
  refine wpIn_region_any hm ?_
  have hd : Inv m { w with drawn := w.drawn + 1 } H V ∧ Ext m w V m { w with drawn := w.drawn + 1 } V := hs.inv.drew
  simp only [List.size_toArray]
  exact crunX_sound l ops.length _ T H V _ _ _ ho h ⟨hd.1, fun k => RelV.mono hd.2 _ _ (hs.tm k), hs.size, hs.df.mono hd.2⟩ (hx.trans hd.2)
end
section
variable {P : Program} {n : Nat} {ops : List Oper} {N : Tm → Hp → List Nat → Prop} {E : List PanicEntry → Tm → Hp → List Nat → Prop} {T T' : Tm} {H H' : Hp} {V V' : List Nat}
def contX (P : Program) (n : Nat) (ops : List Oper) (N : Tm → Hp → List Nat → Prop) (E : List PanicEntry → Tm → Hp → List Nat → Prop) (t : OX) : Tm → Hp → List Nat → Prop := fun T H V => crunX P n ops N E t T H V
@[go_sem ↓] theorem contX_eq (t : OX) : contX P n ops N E t T H V = crunX P n ops N E t T H V := id rfl
@[go_sem] theorem crunX_s (i : Nat) (t : OX) : crunX P n ops N E (.s i t) T H V = withO (ops[i]?) fun o => crunL P n (ops.map (·.dst)) [o] T H V (contX P n ops N E t) := rfl
@[go_sem] theorem crunX_f (i : Nat) (s : OX) (j : Nat) (t : OX) : crunX P n ops N E (.f i s j t) T H V = ((withO (ops[i]?) fun o => crunL P n (ops.map (·.dst)) [o] T H V (contX P n ops N E s)) ∧ (withO (ops[j]?) fun o => crunL P n (ops.map (·.dst)) [o] T H V (contX P n ops N E t))) := rfl
@[congr] theorem crunX_congr {l : OX} (h1 : T = T') (h2 : H = H') (h3 : V = V') : crunX P n ops N E l T H V = crunX P n ops N E l T' H' V' := by subst h1 h2 h3; rfl
end
/-- The last call. -/
theorem crunX_x {P : Program} {n : Nat} {ops : List Oper} {N : Tm → Hp → List Nat → Prop} {E : List PanicEntry → Tm → Hp → List Nat → Prop} {T : Tm} {H : Hp} {V : List Nat} {i : Nat} {o : Oper} {f : Operand} {args : Array Operand} (hi : ops[i]? = some o) (hc : isCall o = some (f, args)) (hd : dOk o.dst n)
    (h : hcallx P H V (fun c H' V' => N (tput o.dst c T) H' V') (fun ch H' V' => E ch T H' V') (evT T f) (args.toList.map (evT T))) : crunX P n ops N E (.x i) T H V := by
  rw [crunX, hi, withO_some]; exact ⟨hd, f, args, hc, h⟩
end Go.Proofs.YtfbjhkpdlihgeaaGreat
namespace Go.Proofs.YtfbjhkpdlihgeaaGreat
inductive OU where
  | s (i : Nat) (b : Fl) (t : OU)
  | g (i : Nat) (b : Fl) (s : OT) (j : Nat) (b' : Fl) (t : OT) (k : Nat) (b'' : Fl) (u : OT)
def ordU (ops : List Oper) (l0 : List Nat) : OU → Nat → Array Bool → Bool
  | .s i b t, f, listed =>
    flg l0 i == (b == Fl.st) &&
    ((match ops[i]? with
      | some o => (pureOp o.op && (Region.ready .any ops.toArray listed).contains i && Region.free .any ops.toArray listed i && (!isLd o.op || b == Fl.ld || ldOk ops l0 i listed)) || Region.ready .any ops.toArray listed == [i]
      | none => false) && f != 0 && ordU ops l0 t (f - 1) (listed.setIfInBounds i true))
  | .g i b s j b' t k b'' u, f, listed =>
    flg l0 i == (b == Fl.st) && flg l0 j == (b' == Fl.st) && flg l0 k == (b'' == Fl.st) && Region.ready .any ops.toArray listed == [i, j, k] && f != 0 && ordT ops l0 s (f - 1) (listed.setIfInBounds i true) && ordT ops l0 t (f - 1) (listed.setIfInBounds j true) && ordT ops l0 u (f - 1) (listed.setIfInBounds k true)
def crunU (P : Program) (n : Nat) (ops : List Oper) (S : List Nat) : OU → Tm → Hp → List Nat → (Tm → Hp → List Nat → Prop) → Prop
  | .s i b t, T, H, V, K =>
    match ops[i]? with
    | some o => pureOk (evT T) o.op = true ∧ (b = Fl.ld → inS S (evT T) o.op) ∧ crun P n ops [o] T H V fun T' H' V' => rel S (b == Fl.st) H H' ∧ crunU P n ops S t T' H' V' K
    | none => False
  | .g i b s j b' t k b'' u, T, H, V, K =>
    (match ops[i]? with
    | some o => crun P n ops [o] T H V fun T' H' V' => rel S (b == Fl.st) H H' ∧ crunT P n ops S s T' H' V' K
    | none => False) ∧
    (match ops[j]? with
    | some o => crun P n ops [o] T H V fun T' H' V' => rel S (b' == Fl.st) H H' ∧ crunT P n ops S t T' H' V' K
    | none => False) ∧
    (match ops[k]? with
    | some o => crun P n ops [o] T H V fun T' H' V' => rel S (b'' == Fl.st) H H' ∧ crunT P n ops S u T' H' V' K
    | none => False)
section
variable {P : Program} {n : Nat} {ops : List Oper}
theorem crunU_any {S : List Nat} {l0 : List Nat} {K : Tm → Hp → List Nat → Prop} : ∀ (l : OU) (f : Nat) (listed : Array Bool) (T : Tm) (H : Hp) (V : List Nat), ordU ops l0 l f listed = true → crunU P n ops S l T H V K →
    SAnyF P n ops (flg l0) S (fun E H V => ∃ T', tget T' = E ∧ K T' H V) f listed (tget T) H V
  | .s i b t, f, listed, T, H, V, ho, h => by
    rw [ordU, Bool.and_eq_true, Bool.and_eq_true, Bool.and_eq_true] at ho
    rw [crunU] at h
    obtain ⟨hfb, ⟨ho, hf0⟩, hrest⟩ := ho
    obtain ⟨f, rfl⟩ : ∃ g, f = g + 1 := ⟨f - 1, by have : f ≠ 0 := by simpa using hf0
                                                   omega⟩
    rw [Nat.add_sub_cancel] at hrest
    replace hfb : flg l0 i = (b == Fl.st) := by simpa using hfb
    cases hi : ops[i]? with
    | none => rw [hi] at h; exact h.elim
    | some o =>
      rw [hi] at h ho
      dsimp only at h ho
      obtain ⟨hk, hin, h⟩ := h
      have h1 := crun_one h
      rw [Bool.or_eq_true] at ho
      rcases ho with ho | ho
      · rw [Bool.and_eq_true, Bool.and_eq_true, Bool.and_eq_true] at ho
        obtain ⟨⟨⟨hp, hr⟩, hf⟩, hld⟩ := ho
        obtain ⟨c, ⟨T', e1, _, e3⟩, hh⟩ := pure_stepF (κ := b == Fl.ld) (S := S) hp (by rw [← evT_eq]; exact hk) (fun e => by rw [← evT_eq]; exact hin (by simpa using e)) h1
        have := crunU_any t f _ T' H V hrest e3
        rw [e1] at this
        exact SAnyF_first hi f listed _ H V (fun j oj hj hne hun hno => Region.free_spec (by rw [List.getElem?_toArray]; exact hi) hf j oj (by rw [List.getElem?_toArray]; exact hj) hne hun hno) (fun hl hκ => ldOk_spec (by rw [hl, hκ] at hld; simpa using hld)) (by simpa using hr) hh this
      · have hr : Region.ready .any ops.toArray listed = [i] := by simpa using ho
        refine ⟨fun e => (by rw [hr] at e; cases e), fun j hj o' ho' => ?_⟩
        rw [hr] at hj
        obtain rfl : j = i := by simpa using hj
        rw [hi] at ho'; cases ho'
        refine cstepE_mono (fun E H' V' ⟨T', e1, e2, e3⟩ => ?_) h1
        subst e1
        exact ⟨by rw [hfb]; exact e2, crunU_any t f _ T' H' V' hrest e3⟩
  | .g i b s j b' t k b'' u, f, listed, T, H, V, ho, h => by
    rw [ordU, Bool.and_eq_true, Bool.and_eq_true, Bool.and_eq_true, Bool.and_eq_true, Bool.and_eq_true, Bool.and_eq_true, Bool.and_eq_true] at ho
    rw [crunU] at h
    obtain ⟨⟨⟨⟨⟨⟨⟨hfb, hfb'⟩, hfb''⟩, hr⟩, hf0⟩, hs⟩, ht⟩, hu⟩ := ho
    obtain ⟨f, rfl⟩ : ∃ g, f = g + 1 := ⟨f - 1, by have : f ≠ 0 := by simpa using hf0
                                                   omega⟩
    rw [Nat.add_sub_cancel] at hs ht hu
    replace hfb : flg l0 i = (b == Fl.st) := by simpa using hfb
    replace hfb' : flg l0 j = (b' == Fl.st) := by simpa using hfb'
    replace hfb'' : flg l0 k = (b'' == Fl.st) := by simpa using hfb''
    replace hr : Region.ready .any ops.toArray listed = [i, j, k] := by simpa using hr
    refine ⟨fun e => (by rw [hr] at e; cases e), fun q hq o' ho' => ?_⟩
    rw [hr] at hq
    simp only [List.mem_cons, List.not_mem_nil, or_false] at hq
    rcases hq with rfl | rfl | rfl
    · have h := h.1
      rw [ho'] at h
      refine cstepE_mono (fun E H' V' ⟨T', e1, e2, e3⟩ => ?_) (crun_one h)
      subst e1
      exact ⟨by rw [hfb]; exact e2, crunT_any s f _ T' H' V' hs e3⟩
    · have h := h.2.1
      rw [ho'] at h
      refine cstepE_mono (fun E H' V' ⟨T', e1, e2, e3⟩ => ?_) (crun_one h)
      subst e1
      exact ⟨by rw [hfb']; exact e2, crunT_any t f _ T' H' V' ht e3⟩
    · have h := h.2.2
      rw [ho'] at h
      refine cstepE_mono (fun E H' V' ⟨T', e1, e2, e3⟩ => ?_) (crun_one h)
      subst e1
      exact ⟨by rw [hfb'']; exact e2, crunT_any u f _ T' H' V' hu e3⟩
theorem SWp.drawn0U {S l0 : List Nat} {id nb nv : Nat} {Q : Exit → Tm → Hp → List Nat → Prop} {T : Tm} {H : Hp} {V : List Nat} (l : OU) (hm : P.follows .mixedOrders = true) (ho : ordU ops l0 l ops.length (Array.replicate ops.length false) = true)
    (h : crunU P n ops S l T H V (Q .normal)) : SWp P n nb nv (.region id ops.toArray true) Q T H V := by
  intro ro D m w a m0 w0 V0 h1 h2 h3 hx hs
  refine wpIn_region_any hm ?_
  have hd : Inv m { w with drawn := w.drawn + 1 } H V ∧ Ext m w V m { w with drawn := w.drawn + 1 } V := hs.inv.drew
  have := crunU_any l ops.length _ T H V ho h
  simp only [List.size_toArray]
  refine SAnyF_sound (fl := flg l0) (S := S) (Q := fun e a' w' => ∃ T' H' V' m', Q e T' H' V' ∧ St D n m' w' a' T' H' V' ∧ Ext m0 w0 V0 m' w' V') ops.length hd.1 (fun k => RelV.mono hd.2 _ _ (hs.tm k)) hs.size this fun E' H' V' a' m' w' k1 k2 k3 k4 k5 k6 => ?_
  obtain ⟨T', e, hq⟩ := k1
  subst e
  exact ⟨T', H', V', m', hq, ⟨k2, k3, k4, by rw [k5]; exact hs.df.mono (hd.2.trans k6)⟩, (hx.trans hd.2).trans k6⟩
end
def crunUL (P : Program) (n : Nat) (ds : List (Option Tmp)) (ops : List Oper) (S : List Nat) : OU → Tm → Hp → List Nat → (Tm → Hp → List Nat → Prop) → Prop
  | .s i b t, T, H, V, K => withO (ops[i]?) fun o => pureOk (evT T) o.op = true ∧ inSF b S (evT T) o.op ∧ crunL P n ds [o] T H V fun T' H' V' => relF S b H H' ∧ crunUL P n ds ops S t T' H' V' K
  | .g i b s j b' t k b'' u, T, H, V, K => (withO (ops[i]?) fun o => crunL P n ds [o] T H V fun T' H' V' => relF S b H H' ∧ crunTL P n ds ops S s T' H' V' K) ∧
      (withO (ops[j]?) fun o => crunL P n ds [o] T H V fun T' H' V' => relF S b' H H' ∧ crunTL P n ds ops S t T' H' V' K) ∧
      (withO (ops[k]?) fun o => crunL P n ds [o] T H V fun T' H' V' => relF S b'' H H' ∧ crunTL P n ds ops S u T' H' V' K)
def crunUS (P : Program) (n : Nat) (ds : List (Option Tmp)) (ops : List Oper) (S : List Nat) (l : OU) (T : Tm) (H : Hp) (V : List Nat) (K : Tm → Hp → List Nat → Prop) : Prop := crunUL P n ds ops S l T H V K
theorem crunU_lite (P : Program) (n : Nat) (ops : List Oper) (S : List Nat) : ∀ (l : OU) (T : Tm) (H : Hp) (V : List Nat) (K : Tm → Hp → List Nat → Prop), crunU P n ops S l T H V K = crunUL P n (ops.map (·.dst)) ops S l T H V K
  | .s i b t, T, H, V, K => by
    rw [crunU, crunUL, withO_eq]
    cases ops[i]? with
    | none => simp
    | some o => simp [crun_lite, crunU_lite P n ops S t, inSF, relF]
  | .g i b s j b' t k b'' u, T, H, V, K => by
    rw [crunU, crunUL, withO_eq, withO_eq, withO_eq]
    congr 1
    · cases ops[i]? with
      | none => simp
      | some o => simp [crun_lite, crunT_lite P n ops S s, relF]
    · congr 1
      · cases ops[j]? with
        | none => simp
        | some o => simp [crun_lite, crunT_lite P n ops S t, relF]
      · cases ops[k]? with
        | none => simp
        | some o => simp [crun_lite, crunT_lite P n ops S u, relF]
section
variable {P : Program} {n : Nat} {ds : List (Option Tmp)} {ls : List Oper} {S : List Nat} {T T' : Tm} {H H' : Hp} {V V' : List Nat} {K : Tm → Hp → List Nat → Prop}
@[go_sem] theorem crunUS_eq (l : OU) : crunUS P n ds ls S l T H V K = crunUL P n ds ls S l T H V K := rfl
def contU (b : Fl) (P : Program) (n : Nat) (ds : List (Option Tmp)) (ls : List Oper) (S : List Nat) (r : OU) (H : Hp) (K : Tm → Hp → List Nat → Prop) : Tm → Hp → List Nat → Prop := fun T' H' V' => relF S b H H' ∧ crunUL P n ds ls S r T' H' V' K
@[go_sem ↓] theorem contU_eq (b : Fl) (r : OU) : contU b P n ds ls S r H K T H' V = (relF S b H H' ∧ crunUL P n ds ls S r T H' V K) := id rfl
@[go_sem] theorem crunUL_s (i : Nat) (b : Fl) (r : OU) : crunUL P n ds ls S (.s i b r) T H V K = withO (ls[i]?) fun o => pureOk (evT T) o.op = true ∧ inSF b S (evT T) o.op ∧ crunL P n ds [o] T H V (contU b P n ds ls S r H K) := rfl
@[go_sem] theorem crunUL_g (i : Nat) (b : Fl) (s : OT) (j : Nat) (b' : Fl) (t : OT) (k : Nat) (b'' : Fl) (u : OT) : crunUL P n ds ls S (.g i b s j b' t k b'' u) T H V K = ((withO (ls[i]?) fun o => crunL P n ds [o] T H V (contT b P n ds ls S s H K)) ∧ (withO (ls[j]?) fun o => crunL P n ds [o] T H V (contT b' P n ds ls S t H K)) ∧ (withO (ls[k]?) fun o => crunL P n ds [o] T H V (contT b'' P n ds ls S u H K))) := rfl
@[congr] theorem crunUL_congr {l : OU} (h1 : T = T') (h2 : H = H') (h3 : V = V') : crunUL P n ds ls S l T H V K = crunUL P n ds ls S l T' H' V' K := by subst h1 h2 h3; rfl
@[congr] theorem crunUS_congr {ds' : List (Option Tmp)} {l : OU} (h0 : ds = ds') (h1 : T = T') (h2 : H = H') (h3 : V = V') : crunUS P n ds ls S l T H V K = crunUS P n ds' ls S l T' H' V' K := by subst h0 h1 h2 h3; rfl
end
theorem SWp.drawnU {P : Program} {n id nb nv : Nat} {ops : List Oper} {Q : Exit → Tm → Hp → List Nat → Prop} {T : Tm} {H : Hp} {V : List Nat} (S l0 : List Nat) (l : OU) (hm : P.follows .mixedOrders = true) (ho : ordU ops l0 l ops.length (Array.replicate ops.length false) = true)
    (h : crunUS P n (ops.map (·.dst)) ops S l T H V (Q .normal)) : SWp P n nb nv (.region id ops.toArray true) Q T H V := SWp.drawn0U l hm ho (by rw [crunU_lite]; exact h)
end Go.Proofs.YtfbjhkpdlihgeaaGreat
namespace Go.Proofs.YtfbjhkpdlihgeaaGreat
theorem chunks_1 : ∀ (cs : List CV), chunks 1 cs.length cs = cs.map fun c => [c]
  | [] => rfl
  | c :: cs => by
    rw [List.length_cons, chunks, List.take_succ_cons, List.take_zero, List.drop_succ_cons, List.drop_zero, chunks_1 cs]; rfl
theorem LeL.refl : ∀ (cs : List CV), LeL cs cs
  | [] => .nil
  | c :: cs => .cons (.refl c) (LeL.refl cs)
theorem LeL.app {cs ds xs ys : List CV} : LeL cs ds → LeL xs ys → LeL (cs ++ xs) (ds ++ ys)
  | .nil, h => h
  | .cons h t, h' => .cons h (LeL.app t h')
theorem LeL.take {cs ds : List CV} : ∀ (i : Nat), LeL cs ds → LeL (cs.take i) (ds.take i)
  | 0, _ => by rw [List.take_zero, List.take_zero]; exact .nil
  | i + 1, .nil => by rw [List.take_nil]; exact .nil
  | i + 1, .cons h t => by rw [List.take_succ_cons, List.take_succ_cons]; exact .cons h (LeL.take i t)
theorem LeL.drop {cs ds : List CV} : ∀ (i : Nat), LeL cs ds → LeL (cs.drop i) (ds.drop i)
  | 0, h => h
  | i + 1, .nil => by rw [List.drop_nil]; exact .nil
  | i + 1, .cons h t => by rw [List.drop_succ_cons, List.drop_succ_cons]; exact LeL.drop i t
theorem LeL.put {cs ds : List CV} {c d : CV} {i : Nat} (h : LeL cs ds) (hc : Le c d) (hi : i < cs.length) : LeL (cs.take i ++ c :: cs.drop (i + 1)) (ds.set i d) := by
  rw [List.set_eq_take_append_cons_drop, if_pos (by rw [← h.len]; exact hi)]
  exact LeL.app (h.take i) (.cons hc (h.drop (i + 1)))
theorem LeL.rep (n : Nat) {c d : CV} (h : Le c d) : LeL (List.replicate n c) (List.replicate n d) := by
  induction n with
  | zero => exact .nil
  | succ n ih => rw [List.replicate_succ, List.replicate_succ]; exact .cons h ih
theorem LeL.ofE {cs ds : List CV} : LeL cs ds → LeE (cs.map fun c => [c]) (ds.map fun c => [c])
  | .nil => .nil
  | .cons h t => .cons (.cons h .nil) (LeL.ofE t)
/-- A box of cells, as a slice of what they are weakened to. -/
theorem Fy.le1 {b n : Nat} {cs ds : List CV} (h : LeL cs ds) (hn : cs.length = n) : ∃ r, Fy b cs (.bsl b 0 n 1) r ∧ Le r (.sl .sh 1 (ds.map fun c => [c])) := by
  subst hn
  exact ⟨_, .bsl 0 cs.length 1 (by omega), by rw [List.drop_zero, chunks_1]; exact .sle _ _ h.ofE⟩
/-- Two boxes are fixed, and what is handed back is weakened. -/
theorem Fin.froz2 {nb nv : Nat} {R : CV → Hp → List Nat → Prop} {r r1 r2 r3 r4 : CV} {H H' : Hp} {V V' : List Nat} {b b' : Nat} {cs cs' : List CV} (hR : R r4 H V) (hle : Le r r1) (hb : H'[b]? = some (some cs)) (hz : Fy b cs r1 r2)
    (hb' : (H'.set b none)[b']? = some (some cs')) (hz' : Fy b' cs' r2 r3) (hle' : Le r3 r4)
    (hb0 : nb ≤ b) (hb0' : nb ≤ b') (hok : okV nb nv r4) (hokH : ∀ (b : Nat) cs, H[b]? = some (some cs) → okL nb nv cs) (hH : H'.take nb = H) (hV : V'.take nv = V) : Fin nb nv R r H' V' := by
  refine ⟨_, H, V, ?_, hR⟩
  refine Gst.trans (T' := [(0, r1)]) (H' := H') (V' := V') (Gst.forget fun p hp => ?_) ?_
  · simp at hp; subst hp; exact hle
  refine Gst.trans (T' := [(0, r2)]) (H' := H'.set b none) (V' := V') (Gst.freezeY hb fun p hp => ?_) ?_
  · simp at hp; subst hp; exact hz
  refine Gst.trans (T' := [(0, r3)]) (H' := (H'.set b none).set b' none) (V' := V') (Gst.freezeY hb' fun p hp => ?_) ?_
  · simp at hp; subst hp; exact hz'
  refine Gst.trans (T' := [(0, r4)]) (H' := (H'.set b none).set b' none) (V' := V') (Gst.forget fun p hp => ?_) ?_
  · simp at hp; subst hp; exact hle'
  · have hH' : ((H'.set b none).set b' none).take nb = H := by rw [List.take_set_of_le hb0', List.take_set_of_le hb0]; exact hH
    have := Gst.cut (n := 1) (nb := nb) (nv := nv) (T := [(0, r4)]) (H := (H'.set b none).set b' none) (V := V') nb nv (Nat.le_refl _) (Nat.le_refl _) (fun p hp => by simp at hp; subst hp; exact hok) (by rw [hH']; exact hokH)
    rwa [hH', hV] at this
end Go.Proofs.YtfbjhkpdlihgeaaGreat
namespace Go.Proofs.YtfbjhkpdlihgeaaGreat
def CV.isObj : CV → Bool
  | .objl .. => true
  | .objm .. => true
  | .obji .. => true
  | _ => false
theorem RelO.isObj {m : Gh} {w : World} {V : List Nat} {k : Nat} {x : CV} (h : RelO m w V k x) : x.isObj = true := by
  cases x <;> first | rfl | exact (show False from h).elim
theorem Inv.weak {m : Gh} {w : World} {H : Hp} {V : List Nat} {b : Nat} {cs ds : List CV} (hi : Inv m w H V) (hb : H[b]? = some (some cs)) (h : LeL cs ds) (hno : ∀ x ∈ cs, x.isObj = false) : Inv m w (H.set b (some ds)) V := by
  have hbl : b < H.length := (List.getElem?_eq_some_iff.1 hb).1
  refine ⟨by rw [List.length_set]; exact hi.boxlen, hi.tiplen, hi.limv, hi.tips, hi.boxes, fun b1 b2 k c1 c2 g1 g2 g3 g4 => ?_, fun b1 c1 g => ?_⟩
  · have old : ∀ (b1 : Nat) c1, (H.set b (some ds))[b1]? = some (some c1) → ∃ c0, H[b1]? = some (some c0) := fun b1 c1 g => by
      by_cases e : b = b1
      · subst e; exact ⟨_, hb⟩
      · rw [List.getElem?_set_ne e] at g; exact ⟨_, g⟩
    obtain ⟨_, o1⟩ := old _ _ g1
    obtain ⟨_, o2⟩ := old _ _ g2
    exact hi.uniq b1 b2 k _ _ o1 o2 g3 g4
  · by_cases e : b = b1
    · subst e
      rw [List.getElem?_set_self hbl] at g
      obtain rfl : ds = c1 := by simpa using g
      cases hi.live b cs hb with
      | row k c e h1 h2 h3 h4 h5 => exact .row k c e h1 h2 (by rw [← h.len]; exact h3) h4 (h.relC h5)
      | obj k x h1 h2 h3 =>
        have := hno x (by rw [h2]; simp)
        rw [h3.isObj] at this; cases this
    · rw [List.getElem?_set_ne e] at g
      exact hi.live b1 c1 g
theorem Gst.weak {n nb nv : Nat} {T : Tm} {H : Hp} {V : List Nat} {b : Nat} {cs ds : List CV} (hb : H[b]? = some (some cs)) (h : LeL cs ds) (hno : ∀ x ∈ cs, x.isObj = false) : Gst n nb nv T H V T (H.set b (some ds)) V := fun D m w a m0 w0 V0 h1 h2 h3 hx hs =>
  ⟨m, ⟨hs.inv.weak hb h hno, hs.tm, hs.size, hs.df⟩, hx⟩
theorem Sh.weak {n nb nv : Nat} {T : Tm} {H : Hp} {V : List Nat} {s : Tm × Hp × List Nat} {b : Nat} {cs ds : List CV} (hb : H[b]? = some (some cs)) (h : LeL cs ds) (hno : ∀ x ∈ cs, x.isObj = false) (k : Sh n nb nv T (H.set b (some ds)) V s) : Sh n nb nv T H V s :=
  Gst.trans (Gst.weak hb h hno) k
end Go.Proofs.YtfbjhkpdlihgeaaGreat
namespace Go.Proofs.YtfbjhkpdlihgeaaGreat
variable {P : Program}
/-- The capacity of nothing. -/
theorem capnil {d : Option Tmp} {t ty : TypeId} {pos : String} {after : Array Edge} {x : Operand} {ev : Operand → CV} {H : Hp} {V : List Nat} (hx : ev x = .v (.slice none 0 0)) (ht : (slTy P t).isSome = true) :
    OpX P ⟨d, .call ⟨.builtin .cap, #[x], #[t]⟩, ty, pos, after, none⟩ ev H V (ci 0) H V := by
  intro m w a hi hev
  have hxr := hev x
  rw [hx, RelV] at hxr
  obtain ⟨e, sz, ht⟩ := sl1 ht
  obtain ⟨i, z, hu, hinf, hsz, hpos, hb0, hb1, hz, hzs⟩ := slTy_some ht
  refine ⟨.int .i64 0, w, m, ?_, hi, by rw [RelV], Ext.refl m w V⟩
  simp [execOp, resolve, invoke, builtin, hxr, Builtin.cap_, run_underlying hu, goInt]
  try rfl
/-- One operation more, of which the value is known. -/
theorem St.put {D : Dl} {n : Nat} {m m' : Gh} {w w' : World} {a : Act} {T : Tm} {H H' : Hp} {V V' : List Nat} {d : Option Tmp} {c : CV} {u : Value} (hs : St D n m w a T H V) (hd : dOk d n) (h2 : Inv m' w' H' V') (h3 : RelV m' w' V' c u) (h4 : Ext m w V m' w' V') :
    St D n m' w' (a.put d u) (tput d c T) H' V' :=
  ⟨h2, (RelT.mono h4 hs.tm).put h3 (by rw [hs.size]; exact hd), by rw [put_size]; exact hs.size, by rw [put_defers]; exact hs.df.mono h4⟩
/-- Some operations of a region, and what is said behind them. -/
def MW (P : Program) (n : Nat) (ops mid : List Oper) (T : Tm) (H : Hp) (V : List Nat) (K : Tm → Hp → List Nat → Prop) : Prop :=
  ∀ (ro : Option Nat) (Q : Exit → Act → World → Prop) (l2 : List Oper) (D : Dl) (a : Act) (m : Gh) (w : World), St D n m w a T H V →
    (∀ T' H' V' a' w' m', K T' H' V' → St D n m' w' a' T' H' V' → Ext m w V m' w' V' → wpListIn (fen ro) 0 P ops.toArray Q l2 a' w') → wpListIn (fen ro) 0 P ops.toArray Q (mid ++ l2) a w
section
variable {n nb nv id : Nat} {Q : Exit → Tm → Hp → List Nat → Prop} {T : Tm} {H : Hp} {V : List Nat} {ops mid mid2 : List Oper} {K : Tm → Hp → List Nat → Prop}
theorem MW.crun {l : List Oper} (h : crunS P n (ops.map (·.dst)) l T H V K) : MW P n ops l T H V K := by
  rw [crunS, ← crun_lite] at h
  exact fun ro Q l2 D a m w hs hK => crun_soundR l hs h hK
theorem MW.app (h : MW P n ops mid T H V fun T H V => MW P n ops mid2 T H V K) : MW P n ops (mid ++ mid2) T H V K := fun ro Q l2 D a m w hs hK => by
  rw [List.append_assoc]
  exact h ro Q (mid2 ++ l2) D a m w hs fun T' H' V' a' w' m' k s x => k ro Q l2 D a' m' w' s fun T2 H2 V2 a2 w2 m2 k2 s2 x2 => hK T2 H2 V2 a2 w2 m2 k2 s2 (x.trans x2)
theorem MW.opx {o : Oper} {c : CV} {H' : Hp} {V' : List Nat} (hg : o.guard = none) (hnd : ∀ c, o.op ≠ .defer c) (hd : dOk o.dst n) (h : OpX P o (evT T) H V c H' V') (hk : K (tput o.dst c T) H' V') : MW P n ops [o] T H V K := fun ro Q l2 D a m w hs hK => by
  obtain ⟨u, w', m', q1, q2, q3, q4⟩ := h m w a hs.inv (fun x => ev_rel hs.tm x)
  show wpListIn (fen ro) 0 P ops.toArray Q (o :: l2) a w
  unfold wpListIn
  rw [if_pos (by simp [Region.wanted, hg])]
  exact wp_val hnd q1 (hK _ _ _ _ _ _ hk (hs.put hd q2 q3 q4) q4)
theorem SWp.mw (h : MW P n ops ops T H V (Q .normal)) : SWp P n nb nv (.region id ops.toArray false) Q T H V := by
  intro ro D m w a m0 w0 V0 h1 h2 h3 hx hs
  refine wpIn_region_list ?_
  have := h ro (fun e a' w' => ∃ T' H' V' m', Q e T' H' V' ∧ St D n m' w' a' T' H' V' ∧ Ext m0 w0 V0 m' w' V') [] D a m w hs fun T' H' V' a' w' m' k s x => by
    unfold wpListIn
    exact ⟨T', H', V', m', k, s, hx.trans x⟩
  rwa [List.append_nil] at this
theorem put_tmp {a : Act} {i : Nat} {u : Value} (h : i < a.tmps.size) : (a.put (some i) u).tmps.getD i undef = u := by
  simp [Act.put, h]
theorem put_ne {a : Act} {i j : Nat} {u : Value} (h : i ≠ j) : (a.put (some i) u).tmps.getD j undef = a.tmps.getD j undef := by
  simp only [Act.put, Array.getD_eq_getD_getElem?]
  rw [Array.getElem?_setIfInBounds_ne h]
/-- Room behind nothing: a new slice without elements, which may be appended to. -/
theorem MW.room {t tI e : TypeId} {sz : Nat} {zs : List Value} {i1 i2 i3 i4 k0 : Nat} {x y : Operand} {k : IntKind} {N : Int} {ty1 ty2 ty3 ty4 : TypeId} {p1 p2 p3 p4 : String} {f1 f2 f3 f4 : Array Edge}
    (ht : slTy P t = some (e, sz)) (hI : azTy P tI = true) (hz' : zcTy P e = some zs) (hx : evT T x = .v (.slice none 0 0)) (hy : evT T y = .v (.int k N)) (h0 : tget T k0 = .v (.slice none 0 0)) (hN : 1 ≤ N) (hN2 : N ≤ 1099511627776)
    (hn : i1 < n ∧ i2 < n ∧ i3 < n ∧ i4 < n) (hne : i1 ≠ i2 ∧ i1 ≠ i3 ∧ i2 ≠ i3 ∧ i1 ≠ k0) (hk : K ((i4, .sl (.own V.length 0) sz []) :: (i3, .any) :: (i2, .any) :: (i1, .any) :: T) H (V ++ [0])) :
    MW P n ops [⟨some i1, .call ⟨.builtin .append, #[x, y], #[t, tI]⟩, ty1, p1, f1, none⟩, ⟨some i2, .move (.tmp k0), ty2, p2, f2, none⟩, ⟨some i3, .call ⟨.builtin .len, #[.tmp i2], #[t]⟩, ty3, p3, f3, none⟩, ⟨some i4, .slice t (.tmp i1) none (some (.tmp i3)) none, ty4, p4, f4, none⟩] T H V K := fun ro Q l2 D a m w hs hK => by
  obtain ⟨n1, n2, n3, n4⟩ := hn
  obtain ⟨e12, e13, e23, e10⟩ := hne
  obtain ⟨i, z, hu, hinf, hsz, hpos, hb0, hb1, hz, hzs⟩ := slTy_some ht
  obtain ⟨i', z', q1, q2, q3, q4⟩ := zcTy_some' hz'
  rw [hinf] at q1; cases q1
  rw [hz] at q2; cases q2
  subst q3 hsz
  have vx := ev_rel hs.tm x
  rw [hx, RelV] at vx
  have vy := ev_rel hs.tm y
  rw [hy, RelV] at vy
  have v0 := hs.tm k0
  rw [h0, RelV] at v0
  have hsrc := SrcG.of_int (P := P) (t := t) (tx := tI) (ty := ty1) (w := w) (k := k) hu hinf hz hzs hpos hb0 hb1 hI q4 (show (0 : Int) ≤ N by omega) hN2
  have hgr := hsrc.grow none 0 0 [] (run_firstCells_none w.drew i.size 0 0 0) (by omega) (by omega) (by omega)
  obtain ⟨cells, hcells⟩ : ∃ cells : Array Value, cells = ([] ++ (List.replicate N.toNat z.cells.toList).flatten).toArray ++ Builtin.zeroCells z.cells (grownCap w (0 + N.toNat) 0 e - (0 + N.toNat)) := ⟨_, rfl⟩
  rw [← hcells] at hgr
  obtain ⟨cap, hcap⟩ : ∃ cap, cap = grownCap w (0 + N.toNat) 0 e := ⟨_, rfl⟩
  have hcapg : 0 + N.toNat ≤ cap := hcap ▸ grownCap_ge w (0 + N.toNat) 0 e
  have hcs : cap * i.size ≤ cells.size := by
    rw [hcells]
    simp only [Array.size_append, List.size_toArray, List.nil_append, size_zeroCells, hzs, hsrc.newsLen, ← Nat.add_mul]
    rw [← hcap]
    exact Nat.mul_le_mul_right _ (by omega)
  rw [← hcap] at hgr
  have hp := Pushed.drewAlloc w (.cells cells e)
  obtain ⟨s1, s2⟩ := step_fresh hs.inv hp 0 (Nat.zero_le _)
  show wpListIn (fen ro) 0 P ops.toArray Q (_ :: _ :: _ :: _ :: l2) a w
  have any : ∀ {m' : Gh} {w' : World} {V' : List Nat} {u : Value}, RelV m' w' V' .any u := by intros; rw [RelV]; trivial
  have st1 := hs.put (d := some i1) (c := .any) (u := .slice (some ⟨w.heap.size, 0, none⟩) (0 + N.toNat) cap) n1 s1 any s2
  have z1 : a.tmps.size = n := hs.size
  unfold wpListIn
  rw [if_pos (by simp [Region.wanted])]
  refine wp_val (u := .slice (some ⟨w.heap.size, 0, none⟩) (0 + N.toNat) cap) (w' := w.drew.alloc (.cells cells e)) (by intro c h; cases h) ?_ ?_
  · simp [execOp, resolve, invoke, builtin, vx, vy, hgr]
  have g1 := put_tmp (a := a) (i := i1) (u := .slice (some ⟨w.heap.size, 0, none⟩) (0 + N.toNat) cap) (by omega)
  have g0 := put_ne (a := a) (i := i1) (j := k0) (u := .slice (some ⟨w.heap.size, 0, none⟩) (0 + N.toNat) cap) e10
  rw [v0] at g0
  dsimp only at st1 ⊢
  generalize a.put (some i1) (.slice (some ⟨w.heap.size, 0, none⟩) (0 + N.toNat) cap) = a1 at st1 g1 g0 ⊢
  have st2 := st1.put (d := some i2) (c := .any) (u := .slice none 0 0) n2 s1 any (Ext.refl _ _ _)
  have z2 : a1.tmps.size = n := st1.size
  unfold wpListIn
  rw [if_pos (by simp [Region.wanted])]
  refine wp_val (u := .slice none 0 0) (w' := w.drew.alloc (.cells cells e)) (by intro c h; cases h) ?_ ?_
  · have : a1.eval (.tmp k0) = .slice none 0 0 := g0
    simp [execOp, this]
  have b1 := (put_ne (a := a1) (i := i2) (j := i1) (u := .slice none 0 0) (fun q => e12 q.symm)).trans g1
  have b2 := put_tmp (a := a1) (i := i2) (u := .slice none 0 0) (by omega)
  dsimp only at st2 ⊢
  generalize a1.put (some i2) (.slice none 0 0) = a2 at st2 b1 b2 ⊢
  have st3 := st2.put (d := some i3) (c := .any) (u := .int .i64 0) n3 s1 any (Ext.refl _ _ _)
  have z3 : a2.tmps.size = n := st2.size
  unfold wpListIn
  rw [if_pos (by simp [Region.wanted])]
  refine wp_val (u := .int .i64 0) (w' := w.drew.alloc (.cells cells e)) (by intro c h; cases h) ?_ ?_
  · have : a2.eval (.tmp i2) = .slice none 0 0 := b2
    simp [execOp, resolve, invoke, builtin, this, Builtin.len_, run_underlying hu, goInt]
    try rfl
  have c1 := (put_ne (a := a2) (i := i3) (j := i1) (u := .int .i64 0) (fun q => e13 q.symm)).trans b1
  have c3 := put_tmp (a := a2) (i := i3) (u := .int .i64 0) (by omega)
  dsimp only at st3 ⊢
  generalize a2.put (some i3) (.int .i64 0) = a3 at st3 c1 c3 ⊢
  have st4 := st3.put (d := some i4) (c := .sl (.own V.length 0) i.size []) (u := .slice (some ⟨w.heap.size, 0, none⟩) 0 cap) n4 s1 (by
    rw [RelV]
    refine ⟨_, _, rfl, Nat.zero_le _, ⟨0, by rw [List.getElem?_append_right (Nat.le_refl _), Nat.sub_self]; rfl, Nat.le_refl _, fun _ => .inr ⟨w.heap.size, 0, cells, e, rfl, ?_, ?_, hp.new, by omega⟩⟩, hpos, .inl rfl⟩
    · show (m.tip ++ [some w.heap.size])[V.length]? = _
      rw [← hs.inv.tiplen, List.getElem?_append_right (Nat.le_refl _), Nat.sub_self]; rfl
    · simp) (Ext.refl _ _ _)
  unfold wpListIn
  rw [if_pos (by simp [Region.wanted])]
  refine wp_val (u := .slice (some ⟨w.heap.size, 0, none⟩) 0 cap) (w' := w.drew.alloc (.cells cells e)) (by intro c h; cases h) ?_ (hK _ _ _ _ _ _ hk st4 s2)
  have r1 : a3.eval (.tmp i1) = .slice (some ⟨w.heap.size, 0, none⟩) (0 + N.toNat) cap := c1
  have r3 : a3.eval (.tmp i3) = .int .i64 0 := c3
  have hb := bounds_run (P := P) (m := m) (w := w.drew.alloc (.cells cells e)) (V := V) (lo := none) (hi := some (.tmp 0)) (mx := none) (ev := fun _ => ci 0) (ρ := fun _ => .int .i64 0) (fun _ => by rw [RelV]) trivial (Int.le_refl _) trivial true N.toNat cap (by omega) (Nat.le_refl _) (Nat.zero_le _) (by simp)
  simp only [Option.map_none, Option.map_some, bvl] at hb
  simp [execOp, r1, r3, Instr.sliceAt, Instr.slice, run_underlying hu, slSize_run ht, hb, addr_add]
end
end Go.Proofs.YtfbjhkpdlihgeaaGreat
namespace Go.Proofs.YtfbjhkpdlihgeaaGreat
/-- What is c is d too. -/
def Ge (c d : CV) : Prop := ∀ (m : Gh) (w : World) (V : List Nat) (u : Value), RelV m w V c u → RelV m w V d u
theorem Ge.slk {tk : Tk} {sz : Nat} {xs ys : List (List CV)} (h : LeE xs ys) : Ge (.sl tk sz xs) (.sl tk sz ys) := fun m w V u hu => by
  rw [RelV] at hu ⊢
  obtain ⟨base, cap, h1, h2, h3, h4, h5⟩ := hu
  have e := h.len
  refine ⟨base, cap, by rw [← e]; exact h1, by rw [← e]; exact h2, by rw [← e]; exact h3, h4, ?_⟩
  rcases h5 with rfl | ⟨k, o, hb, hl, he⟩
  · refine .inl ?_
    cases h; rfl
  · exact .inr ⟨k, o, hb, by rw [← e]; exact hl, h.rel he⟩
theorem Ge.le {c d : CV} (h : Le c d) : Ge c d := fun m w V u hu => h.rel hu
theorem Inv.weakG {m : Gh} {w : World} {H : Hp} {V : List Nat} {b : Nat} {c d : CV} (hi : Inv m w H V) (hb : H[b]? = some (some [c])) (h : Ge c d) (hno : c.isObj = false) : Inv m w (H.set b (some [d])) V := by
  have hbl : b < H.length := (List.getElem?_eq_some_iff.1 hb).1
  refine ⟨by rw [List.length_set]; exact hi.boxlen, hi.tiplen, hi.limv, hi.tips, hi.boxes, fun b1 b2 k c1 c2 g1 g2 g3 g4 => ?_, fun b1 c1 g => ?_⟩
  · have old : ∀ (b1 : Nat) c1, (H.set b (some [d]))[b1]? = some (some c1) → ∃ c0, H[b1]? = some (some c0) := fun b1 c1 g => by
      by_cases e : b = b1
      · subst e; exact ⟨_, hb⟩
      · rw [List.getElem?_set_ne e] at g; exact ⟨_, g⟩
    obtain ⟨_, o1⟩ := old _ _ g1
    obtain ⟨_, o2⟩ := old _ _ g2
    exact hi.uniq b1 b2 k _ _ o1 o2 g3 g4
  · by_cases e : b = b1
    · subst e
      rw [List.getElem?_set_self hbl] at g
      obtain rfl : [d] = c1 := by simpa using g
      cases hi.live b _ hb with
      | row k cc e h1 h2 h3 h4 h5 =>
        refine .row k cc e h1 h2 h3 h4 ?_
        rw [RelC, RelC] at h5 ⊢
        obtain ⟨⟨u, q1, q2, q3⟩, _⟩ := h5
        exact ⟨⟨u, q1, h _ _ _ _ q2, q3⟩, trivial⟩
      | obj k x h1 h2 h3 =>
        cases h2
        rw [h3.isObj] at hno; cases hno
    · rw [List.getElem?_set_ne e] at g
      exact hi.live b1 c1 g
theorem Gst.weakG {n nb nv : Nat} {T : Tm} {H : Hp} {V : List Nat} {b : Nat} {c d : CV} (hb : H[b]? = some (some [c])) (h : Ge c d) (hno : c.isObj = false) : Gst n nb nv T H V T (H.set b (some [d])) V := fun D m w a m0 w0 V0 h1 h2 h3 hx hs =>
  ⟨m, ⟨hs.inv.weakG hb h hno, hs.tm, hs.size, hs.df⟩, hx⟩
theorem Sh.weakG {n nb nv : Nat} {T : Tm} {H : Hp} {V : List Nat} {s : Tm × Hp × List Nat} {b : Nat} {c d : CV} (hb : H[b]? = some (some [c])) (h : Ge c d) (hno : c.isObj = false) (k : Sh n nb nv T (H.set b (some [d])) V s) : Sh n nb nv T H V s :=
  Gst.trans (Gst.weakG hb h hno) k
/-- Behind the code one of the states S. -/
theorem SWp.after {P : Program} {n nb nv : Nat} {c : Code} {Q : Exit → Tm → Hp → List Nat → Prop} {T : Tm} {H : Hp} {V : List Nat} {α : Type} (S : α → Tm × Hp × List Nat) (ok : α → Prop)
    (h1 : SWp P n nb nv c (thn (fun T H V => ∃ s, ok s ∧ Sh n nb nv T H V (S s)) Q) T H V) (h2 : ∀ s, ok s → Q .normal (S s).1 (S s).2.1 (S s).2.2) : SWp P n nb nv c Q T H V := by
  intro ro D m w a m0 w0 V0 g1 g2 g3 hx hs
  refine wpIn_mono (h1 ro D m w a m0 w0 V0 g1 g2 g3 hx hs) fun e a' w' ⟨T', H', V', m', k1, k2, k3⟩ => ?_
  cases e with
  | normal =>
    obtain ⟨s, q1, q2⟩ := k1
    obtain ⟨m2, r1, r2⟩ := q2 D m' w' a' m0 w0 V0 g1 g2 g3 k3 k2
    exact ⟨_, _, _, m2, h2 s q1, r1, r2⟩
  | _ => exact ⟨T', H', V', m', k1, k2, k3⟩
end Go.Proofs.YtfbjhkpdlihgeaaGreat
namespace Go.Proofs.YtfbjhkpdlihgeaaGreat
abbrev Reg := BitVec 32
def poly : Reg := 0x82F63B78#32
/-- One bit. -/
def bit1 (r : Reg) : Reg := if r.getLsbD 0 then (r >>> 1) ^^^ poly else r >>> 1
def bits : Nat → Reg → Reg
  | 0, r => r
  | n + 1, r => bits n (bit1 r)
theorem bit1_xor (a b : Reg) : bit1 (a ^^^ b) = bit1 a ^^^ bit1 b := by
  unfold bit1
  rw [BitVec.getLsbD_xor, BitVec.ushiftRight_xor_distrib]
  cases a.getLsbD 0 <;> cases b.getLsbD 0 <;> simp
  · rw [BitVec.xor_assoc]
  · rw [BitVec.xor_assoc, BitVec.xor_assoc, BitVec.xor_comm poly]
  · rw [BitVec.xor_assoc, BitVec.xor_comm poly, BitVec.xor_assoc, BitVec.xor_self, BitVec.xor_zero]
theorem bits_xor : ∀ (n : Nat) (a b : Reg), bits n (a ^^^ b) = bits n a ^^^ bits n b
  | 0, _, _ => rfl
  | n + 1, a, b => by rw [bits, bits, bits, bit1_xor, bits_xor n]
theorem bits_low : ∀ (n : Nat) (a : Reg), (∀ i, i < n → a.getLsbD i = false) → bits n a = a >>> n
  | 0, a, _ => by rw [bits, BitVec.ushiftRight_zero]
  | n + 1, a, h => by
    have e : bit1 a = a >>> 1 := by unfold bit1; rw [h 0 (by omega)]; rfl
    rw [bits, e, bits_low n _ fun i hi => by rw [BitVec.getLsbD_ushiftRight]; exact h _ (by omega), ← BitVec.shiftRight_add, Nat.add_comm 1 n]
/-- The register behind a byte, bit by bit. -/
def regB (r : Reg) (b : UInt8) : Reg := bits 8 (r ^^^ BitVec.ofNat 32 b.toNat)
/-- The table's entry. -/
def tabE (i : Nat) : Reg := bits 8 (BitVec.ofNat 32 i)
theorem reg_table (r : Reg) (b : UInt8) : regB r b = (r >>> 8) ^^^ tabE ((r ^^^ BitVec.ofNat 32 b.toNat).toNat % 256) := by
  have hb := b.toNat_lt
  obtain ⟨x, hx⟩ : ∃ x, r ^^^ BitVec.ofNat 32 b.toNat = x := ⟨_, rfl⟩
  unfold regB tabE
  rw [hx]
  have h1 : x = (x &&& 0xFFFFFF00#32) ^^^ (x &&& 0xFF#32) := by
    apply BitVec.eq_of_getLsbD_eq
    intro i hi
    rw [BitVec.getLsbD_xor, BitVec.getLsbD_and, BitVec.getLsbD_and]
    have : ∀ j, j < 32 → ((0xFFFFFF00#32).getLsbD j = !((0xFF#32).getLsbD j)) := by decide
    rw [this i hi]
    cases x.getLsbD i <;> cases (0xFF#32).getLsbD i <;> rfl
  have h2 : x &&& 0xFF#32 = BitVec.ofNat 32 (x.toNat % 256) := by
    apply BitVec.eq_of_toNat_eq
    rw [BitVec.toNat_and, BitVec.toNat_ofNat, BitVec.toNat_ofNat]
    have : (255 % 2 ^ 32 : Nat) = 2 ^ 8 - 1 := by decide
    rw [this, Nat.and_two_pow_sub_one_eq_mod]
    have := Nat.mod_lt x.toNat (show 0 < 256 by omega)
    omega
  have h3 : bits 8 (x &&& 0xFFFFFF00#32) = r >>> 8 := by
    rw [bits_low 8 _ fun i hi => by
      rw [BitVec.getLsbD_and]
      have : ∀ j, j < 8 → (0xFFFFFF00#32).getLsbD j = false := by decide
      rw [this i hi, Bool.and_false]]
    apply BitVec.eq_of_getLsbD_eq
    intro i hi
    rw [BitVec.getLsbD_ushiftRight, BitVec.getLsbD_ushiftRight, BitVec.getLsbD_and, ← hx, BitVec.getLsbD_xor]
    by_cases h : 8 + i < 32
    · have h4 : ∀ j, j < 24 → (0xFFFFFF00#32).getLsbD (8 + j) = true := by decide
      rw [h4 _ (by omega), Bool.and_true]
      have h5 : (BitVec.ofNat 32 b.toNat).getLsbD (8 + i) = false := by
        rw [BitVec.getLsbD_ofNat, Nat.testBit_lt_two_pow (Nat.lt_of_lt_of_le hb (Nat.pow_le_pow_right (by omega) (show 8 ≤ 8 + i by omega)))]
        simp
      rw [h5, Bool.xor_false]
    · rw [BitVec.getLsbD_of_ge _ _ (by omega), BitVec.getLsbD_of_ge _ _ (by omega)]
      simp
  conv => lhs; rw [h1, bits_xor, h3, h2]
def crcR (r : Reg) (l : List UInt8) : Reg := l.foldl regB r
/-- The sum of bytes. -/
def crc (l : List UInt8) : Reg := ~~~(crcR (~~~ (0#32)) l)
/-- Its four bytes. -/
def crc4 (l : List UInt8) : List UInt8 := [byt ((crc l).toNat : Int), byt (((crc l).toNat / 256 : Nat) : Int), byt (((crc l).toNat / 65536 : Nat) : Int), byt (((crc l).toNat / 16777216 : Nat) : Int)]
def sealed (l : List UInt8) : List UInt8 := l ++ crc4 l
theorem crc4_len (l : List UInt8) : (crc4 l).length = 4 := rfl
/-! ### The operations, of registers -/
/-- A register, as a number. -/
def rn (r : Reg) : Int := (r.toNat : Int)
abbrev c32 (r : Reg) : CV := .v (.int .u32 (rn r))
theorem wrap32 {n : Nat} (h : n < 4294967296) : IntKind.u32.wrap (n : Int) = (n : Int) := by
  rw [IntKind.wrap_u32]; omega
theorem ofInt32 (a : Reg) : BitVec.ofInt 32 (a.toNat : Int) = a := by
  rw [BitVec.ofInt_natCast, BitVec.ofNat_toNat, BitVec.setWidth_eq]
theorem xor32 (a b : Reg) : bitop .xor .u32 (a.toNat : Int) (b.toNat : Int) = ((a ^^^ b).toNat : Int) := by
  show IntKind.u32.wrap ((BitVec.ofInt 32 (a.toNat : Int) ^^^ BitVec.ofInt 32 (b.toNat : Int)).toNat : Int) = _
  rw [ofInt32, ofInt32]
  exact wrap32 (BitVec.isLt _)
theorem and32 (a b : Reg) : bitop .and .u32 (a.toNat : Int) (b.toNat : Int) = ((a &&& b).toNat : Int) := by
  show IntKind.u32.wrap ((BitVec.ofInt 32 (a.toNat : Int) &&& BitVec.ofInt 32 (b.toNat : Int)).toNat : Int) = _
  rw [ofInt32, ofInt32]
  exact wrap32 (BitVec.isLt _)
theorem shr32 (a : Reg) (k : Nat) (hk : k ≤ 32) : shr .u32 (a.toNat : Int) (k : Int) = ((a >>> k).toNat : Int) := by
  unfold shr
  have : min ((k : Int)).toNat IntKind.u32.bits = k := by
    have : IntKind.u32.bits = 32 := rfl
    omega
  rw [this, Int.fdiv_eq_ediv_of_nonneg _ (Int.le_of_lt (Int.pow_pos (by decide))), BitVec.toNat_ushiftRight, Nat.shiftRight_eq_div_pow]
  push_cast
  rfl
theorem not32 (a : Reg) : bitop .xor .u32 4294967295 (a.toNat : Int) = ((~~~a).toNat : Int) := by
  have := xor32 (BitVec.allOnes 32) a
  rw [show ((BitVec.allOnes 32).toNat : Int) = 4294967295 from rfl] at this
  rw [this, BitVec.allOnes_xor]
theorem lsb_mod (a : Reg) : a.getLsbD 0 = decide (a.toNat % 2 = 1) := by
  rw [BitVec.getLsbD, Nat.testBit_zero]
theorem step_mul (r : Reg) : bitop .xor .u32 ((r >>> 1).toNat : Int) (IntKind.u32.wrap (2197175160 * ((r &&& 1#32).toNat : Int))) = ((bit1 r).toNat : Int) := by
  have h1 : (r &&& 1#32).toNat = r.toNat % 2 := by
    rw [BitVec.toNat_and]; exact Nat.and_one_is_mod _
  unfold bit1
  rw [lsb_mod, h1]
  rcases Nat.mod_two_eq_zero_or_one r.toNat with h | h
  · rw [h, if_neg (by simp)]
    have := xor32 (r >>> 1) 0#32
    rw [BitVec.xor_zero] at this
    exact this
  · rw [h, if_pos (by simp)]
    exact xor32 (r >>> 1) poly
theorem xorR (a b : Reg) : bitop .xor .u32 (rn a) (rn b) = rn (a ^^^ b) := xor32 a b
theorem and1R (r : Reg) : bitop .and .u32 (rn r) 1 = rn (r &&& 1#32) := and32 r 1#32
theorem shr1R (r : Reg) : shr .u32 (rn r) 1 = rn (r >>> 1) := shr32 r 1 (by decide)
theorem shr8R (r : Reg) : shr .u32 (rn r) 8 = rn (r >>> 8) := shr32 r 8 (by decide)
theorem shr16R (r : Reg) : shr .u32 (rn r) 16 = rn (r >>> 16) := shr32 r 16 (by decide)
theorem shr24R (r : Reg) : shr .u32 (rn r) 24 = rn (r >>> 24) := shr32 r 24 (by decide)
theorem stepR (r : Reg) : bitop .xor .u32 (rn (r >>> 1)) (IntKind.u32.wrap (2197175160 * rn (r &&& 1#32))) = rn (bit1 r) := step_mul r
theorem notR (r : Reg) : bitop .xor .u32 4294967295 (rn r) = rn (~~~r) := not32 r
theorem notR0 : bitop .xor .u32 4294967295 0 = rn (~~~(0#32)) := not32 0#32
theorem ofNatR {i : Nat} (h : i < 4294967296) : IntKind.u32.wrap (i : Int) = rn (BitVec.ofNat 32 i) := by
  rw [rn, BitVec.toNat_ofNat, Nat.mod_eq_of_lt (by omega)]; exact wrap32 h
theorem maxU32 : (if IntKind.u32.signed = true then (-1 : Int) else IntKind.u32.max) = 4294967295 := rfl
/-- The index into the table. -/
theorem xor8 (r : Reg) (b : UInt8) : bitop .xor .u8 (IntKind.u8.wrap (rn r)) (b.toNat : Int) = (((r ^^^ BitVec.ofNat 32 b.toNat).toNat % 256 : Nat) : Int) := by
  have hb := b.toNat_lt
  show IntKind.u8.wrap ((BitVec.ofInt 8 (IntKind.u8.wrap (rn r)) ^^^ BitVec.ofInt 8 (b.toNat : Int)).toNat : Int) = _
  have e : IntKind.u8.wrap (rn r) = ((r.toNat % 256 : Nat) : Int) := by rw [IntKind.wrap_u8, rn]; omega
  rw [e, BitVec.ofInt_natCast, BitVec.ofInt_natCast, BitVec.toNat_xor, BitVec.toNat_ofNat, BitVec.toNat_ofNat, BitVec.toNat_xor, BitVec.toNat_ofNat, Nat.mod_eq_of_lt (show b.toNat < 2 ^ 32 by omega), show (256 : Nat) = 2 ^ 8 from rfl, Nat.xor_mod_two_pow, Nat.mod_mod]
  have h1 := Nat.xor_lt_two_pow (Nat.mod_lt r.toNat (show 0 < 2 ^ 8 by decide)) (Nat.mod_lt b.toNat (show 0 < 2 ^ 8 by decide))
  rw [IntKind.wrap_u8]
  omega
theorem remR (r : Reg) : (rn r).tmod 2 = ((r.toNat % 2 : Nat) : Int) := by
  rw [rn, Int.tmod_eq_emod_of_nonneg (by omega)]; omega
theorem bit1_1 {r : Reg} (h : r.toNat % 2 = 1) : bit1 r = (r >>> 1) ^^^ poly := by
  unfold bit1; rw [lsb_mod, if_pos (by simp [h])]
theorem bit1_0 {r : Reg} (h : ¬ r.toNat % 2 = 1) : bit1 r = r >>> 1 := by
  unfold bit1; rw [lsb_mod, if_neg (by simp [h])]
theorem polyR : (2197175160 : Int) = rn poly := rfl
theorem xorP (r : Reg) : bitop .xor .u32 (rn r) 2197175160 = rn (r ^^^ poly) := xorR r poly
theorem crc4_bytes (l : List UInt8) : [[CV.v (.int .u8 (IntKind.u8.wrap (rn (crc l))))], [CV.v (.int .u8 (IntKind.u8.wrap (rn (crc l >>> 8))))], [CV.v (.int .u8 (IntKind.u8.wrap (rn (crc l >>> 16))))], [CV.v (.int .u8 (IntKind.u8.wrap (rn (crc l >>> 24))))]] = bs (crc4 l) := by
  simp only [u8_byt]
  simp only [bs, crc4, List.map_cons, List.map_nil, rn, BitVec.toNat_ushiftRight, Nat.shiftRight_eq_div_pow]
end Go.Proofs.YtfbjhkpdlihgeaaGreat
namespace Go.Proofs.YtfbjhkpdlihgeaaGreat
/-! ### Whether two arrays or structs of integers are equal -/
def intsE (k : IntKind) (zs : List Int) : Array Value := (zs.map fun z => Value.int k z).toArray
theorem zip_rep (k : IntKind) : ∀ (n : Nat) (zs : List Int), zs.length = n → (((List.replicate n k).zip zs).map fun p => Value.int p.1 p.2) = zs.map fun z => Value.int k z
  | 0, [], _ => rfl
  | n + 1, z :: zs, h => by
    rw [List.replicate_succ, List.zip_cons_cons, List.map_cons, List.map_cons, zip_rep k n zs (by simpa using h)]
  | 0, _ :: _, h => by simp at h
  | n + 1, [], h => by simp at h
theorem all_range_int : ∀ (xs ys : List Int), xs.length = ys.length → ((List.range xs.length).all fun i => xs.getD i 0 == ys.getD i 0) = decide (xs = ys)
  | [], [], _ => rfl
  | x :: xs, y :: ys, h => by
    have ih := all_range_int xs ys (by simpa using h)
    rw [List.length_cons, List.range_succ_eq_map, List.all_cons, List.all_map]
    simp only [List.getD_cons_zero, Function.comp_def, List.getD_cons_succ, ih]
    by_cases hx : x = y <;> simp [hx]
  | [], _ :: _, h => by simp at h
  | _ :: _, [], h => by simp at h
section
variable {P : Program}
theorem run_eqItems_ints (w : World) (d : Nat) {e : TypeId} {k : IntKind} (he : P.underlying e = some (.int k)) (xs ys : List Int) : ∀ l : List Nat, (∀ i ∈ l, i < xs.length ∧ i < ys.length) →
    (Op.eqItems (d + 1) e 1 (intsE k xs) (intsE k ys) l).run P w = .ok (l.all fun i => xs.getD i 0 == ys.getD i 0) w
  | [], _ => by simp [Op.eqItems]
  | i :: l, h => by
    obtain ⟨h1, h2⟩ := h i (by simp)
    have px : (part e (intsE k xs) (i * 1)).run P w = .ok (.int k (xs.getD i 0)) w := by
      simp [intsE, part, isAgg, run_underlying he, List.getD, List.getElem?_eq_getElem h1]
    have py : (part e (intsE k ys) (i * 1)).run P w = .ok (.int k (ys.getD i 0)) w := by
      simp [intsE, part, isAgg, run_underlying he, List.getD, List.getElem?_eq_getElem h2]
    have pe : (Op.equalIn (d + 1) e (.int k (xs.getD i 0)) (.int k (ys.getD i 0))).run P w = .ok (xs.getD i 0 == ys.getD i 0) w := run_equalIn_int w d e k k _ _ he
    simp only [Op.eqItems, Sem.run_bind, px, py, pe, Result.andThen_ok, List.all_cons]
    cases hb : (xs.getD i 0 == ys.getD i 0)
    · simp
    · simp only [Bool.not_true, Bool.false_eq_true, if_false, Bool.true_and]
      exact run_eqItems_ints w d he xs ys l fun j hj => h j (List.mem_cons_of_mem _ hj)
theorem flatEq_array {t e : TypeId} {n : Nat} {k : IntKind} {i : TypeInfo} (hu : P.underlying t = some (.array n e)) (hi : P.info? e = some i) (he : P.underlying e = some (.int k)) (hc : P.cellsOf e = 1) (hg : P.eqGuardType P.depth t = false) : FlatEq P t (List.replicate n k) := by
  refine ⟨hg, fun w zs zs' h1 h2 => ?_⟩
  rw [List.length_replicate] at h1 h2
  rw [zip_rep k n zs h1, zip_rep k n zs' h2]
  show (Op.equalIn 10000 t (.agg (intsE k zs)) (.agg (intsE k zs'))).run P w = _
  rw [run_equalIn_array w 9999 _ _ hu hi, hc, run_eqItems_ints w 9998 he _ _ _ (fun i hi => by rw [List.mem_range] at hi; omega), ← h1, all_range_int _ _ (by omega)]
theorem flatEq_pair {t e : TypeId} {f g : Field} {k : IntKind} (hu : P.underlying t = some (.struct #[f, g])) (hf : f.type = e) (hg : g.type = e) (of : f.offset = 0) (og : g.offset = 1) (nf : f.name ≠ "_") (ng : g.name ≠ "_") (he : P.underlying e = some (.int k)) (hs : P.stoodInHeld t = false) (hq : P.eqGuardType P.depth t = false) : FlatEq P t [k, k] := by
  refine ⟨hq, fun w zs zs' h1 h2 => ?_⟩
  match zs, zs', h1, h2 with
  | [a, b], [c, d], _, _ =>
    show (Op.equalIn 10000 t (.agg (intsE k [a, b])) (.agg (intsE k [c, d]))).run P w = _
    have hF : P.fieldsOf t = #[f, g] := by unfold Program.fieldsOf; rw [hu]
    rw [run_equalIn_agg w 9999 _ _ _ (by rw [hF]; exact hu) hs, hF]
    have p1 : (part e (intsE k [a, b]) 0).run P w = .ok (.int k a) w := by simp [intsE, part, isAgg, run_underlying he]
    have p2 : (part e (intsE k [a, b]) 1).run P w = .ok (.int k b) w := by simp [intsE, part, isAgg, run_underlying he]
    have p3 : (part e (intsE k [c, d]) 0).run P w = .ok (.int k c) w := by simp [intsE, part, isAgg, run_underlying he]
    have p4 : (part e (intsE k [c, d]) 1).run P w = .ok (.int k d) w := by simp [intsE, part, isAgg, run_underlying he]
    have q1 : (Op.equalIn 9999 e (.int k a) (.int k c)).run P w = .ok (a == c) w := run_equalIn_int w 9998 e k k _ _ he
    have q2 : (Op.equalIn 9999 e (.int k b) (.int k d)).run P w = .ok (b == d) w := run_equalIn_int w 9998 e k k _ _ he
    simp only [Op.eqFields, hf, hg, of, og, nf, ng, ne_eq, not_false_eq_true, if_true, Sem.run_bind, p1, p3, q1, Result.andThen_ok]
    cases h1 : (a == c)
    · have : a ≠ c := by simpa using h1
      simp [this]
    · have h1 : a = c := by simpa using h1
      simp only [Bool.not_true, Bool.false_eq_true, if_false, Sem.run_bind, p2, p4, q2, Result.andThen_ok]
      cases h2 : (b == d)
      · have : b ≠ d := by simpa using h2
        simp [h1, this]
      · have h2 : b = d := by simpa using h2
        simp [h1, h2]
theorem flatEq_triple {t e : TypeId} {f g h : Field} {k : IntKind} (hu : P.underlying t = some (.struct #[f, g, h])) (hf : f.type = e) (hg : g.type = e) (hh : h.type = e) (of : f.offset = 0) (og : g.offset = 1) (oh : h.offset = 2) (nf : f.name ≠ "_") (ng : g.name ≠ "_") (nh : h.name ≠ "_") (he : P.underlying e = some (.int k)) (hs : P.stoodInHeld t = false) (hq : P.eqGuardType P.depth t = false) : FlatEq P t [k, k, k] := by
  refine ⟨hq, fun w zs zs' h1 h2 => ?_⟩
  match zs, zs', h1, h2 with
  | [a, b, x], [c, d, y], _, _ =>
    show (Op.equalIn 10000 t (.agg (intsE k [a, b, x])) (.agg (intsE k [c, d, y]))).run P w = _
    have hF : P.fieldsOf t = #[f, g, h] := by unfold Program.fieldsOf; rw [hu]
    rw [run_equalIn_agg w 9999 _ _ _ (by rw [hF]; exact hu) hs, hF]
    have p1 : (part e (intsE k [a, b, x]) 0).run P w = .ok (.int k a) w := by simp [intsE, part, isAgg, run_underlying he]
    have p2 : (part e (intsE k [a, b, x]) 1).run P w = .ok (.int k b) w := by simp [intsE, part, isAgg, run_underlying he]
    have p5 : (part e (intsE k [a, b, x]) 2).run P w = .ok (.int k x) w := by simp [intsE, part, isAgg, run_underlying he]
    have p3 : (part e (intsE k [c, d, y]) 0).run P w = .ok (.int k c) w := by simp [intsE, part, isAgg, run_underlying he]
    have p4 : (part e (intsE k [c, d, y]) 1).run P w = .ok (.int k d) w := by simp [intsE, part, isAgg, run_underlying he]
    have p6 : (part e (intsE k [c, d, y]) 2).run P w = .ok (.int k y) w := by simp [intsE, part, isAgg, run_underlying he]
    have q1 : (Op.equalIn 9999 e (.int k a) (.int k c)).run P w = .ok (a == c) w := run_equalIn_int w 9998 e k k _ _ he
    have q2 : (Op.equalIn 9999 e (.int k b) (.int k d)).run P w = .ok (b == d) w := run_equalIn_int w 9998 e k k _ _ he
    have q3 : (Op.equalIn 9999 e (.int k x) (.int k y)).run P w = .ok (x == y) w := run_equalIn_int w 9998 e k k _ _ he
    simp only [Op.eqFields, hf, hg, hh, of, og, oh, nf, ng, nh, ne_eq, not_false_eq_true, if_true, Sem.run_bind, p1, p3, q1, Result.andThen_ok]
    cases h1 : (a == c)
    · have : a ≠ c := by simpa using h1
      simp [this]
    · have h1 : a = c := by simpa using h1
      simp only [Bool.not_true, Bool.false_eq_true, if_false, Sem.run_bind, p2, p4, q2, Result.andThen_ok]
      cases h2 : (b == d)
      · have : b ≠ d := by simpa using h2
        simp [h1, this]
      · have h2 : b = d := by simpa using h2
        simp only [Bool.not_true, Bool.false_eq_true, if_false, Sem.run_bind, p5, p6, q3, Result.andThen_ok]
        cases h3 : (x == y)
        · have : x ≠ y := by simpa using h3
          simp [h1, h2, this]
        · have h3 : x = y := by simpa using h3
          simp [h1, h2, h3]
end
theorem fits_rep (k : IntKind) : ∀ zs : List Int, fits (List.replicate zs.length k) (zs.map fun z => CV.v (.int k z))
  | [] => by rw [List.length_nil, List.replicate_zero, fits]; rfl
  | z :: zs => by rw [List.length_cons, List.replicate_succ, fits]; exact ⟨z, _, rfl, fits_rep k zs⟩
end Go.Proofs.YtfbjhkpdlihgeaaGreat
namespace Go.Proofs.YtfbjhkpdlihgeaaGreat
/-! ### Images -/
abbrev Img := List (List Sec)
def imE (v : List Sec) : List CV := [secsV v]
@[go_sem, simp] theorem imE_len (v : List Sec) : (imE v).length = 1 := rfl
@[go_sem, simp] theorem imE_get (v : List Sec) (h : 0 < (imE v).length) : (imE v)[0] = secsV v := rfl
@[go_sem] theorem okL_imE (jb jv : Nat) (v : List Sec) : okL jb jv (imE v) = True := by simp [imE, okL, okV, okTk, okE_secs]
@[go_sem] theorem okE_ims (jb jv : Nat) (l : Img) : okE jb jv (l.map imE) = True := eq_true (okE_map imE l fun e => by rw [okL_imE]; trivial)
abbrev imV (l : Img) : CV := .sl .sh 1 (l.map imE)
/-- The sizes of an image; an image of zeros. -/
def imgSz (l : Img) : List Int := l.map fun v => (v.length : Int)
def imOf (l : List Int) : Img := l.map fun n => zer n.toNat
@[go_sem, simp] theorem imgSz_len (l : Img) : (imgSz l).length = l.length := List.length_map ..
@[go_sem, simp] theorem imOf_len (l : List Int) : (imOf l).length = l.length := List.length_map ..
def badSz (n : Int) : Bool := decide (n < 1) || decide (4096 < n)
def sizesE (l : List Int) : Nat := if l.length < 1 ∨ 8 < l.length then 6 else if l.any badSz = true then 2 else 0
theorem sizesE_0 {l : List Int} (h : sizesE l = 0) : 1 ≤ l.length ∧ l.length ≤ 8 ∧ ∀ n ∈ l, 1 ≤ n ∧ n ≤ 4096 := by
  unfold sizesE at h
  split at h
  · cases h
  · split at h
    · cases h
    · rename_i h1 h2
      refine ⟨by omega, by omega, fun n hn => ?_⟩
      have : ¬ badSz n = true := fun hb => h2 (List.any_eq_true.2 ⟨n, hn, hb⟩)
      simp only [badSz, Bool.or_eq_true, decide_eq_true_eq] at this
      omega
theorem imgSz_of {l : List Int} (h : sizesE l = 0) : imgSz (imOf l) = l := by
  rw [imgSz, imOf, List.map_map]
  conv => rhs; rw [← List.map_id l]
  refine List.map_congr_left fun n hn => ?_
  have := (sizesE_0 h).2.2 n hn
  simp only [Function.comp, zer_len, id]
  omega
/-! ### Writes -/
def fitsS (sizes : List Int) (w : Wr) : Nat :=
  if w.volume < 0 ∨ (sizes.length : Int) ≤ w.volume then 7 else if w.data.length = 0 then 1 else if w.start < 0 ∨ sizes.getD w.volume.toNat 0 - w.data.length < w.start then 2 else 0
/-- Whether a write may not follow another one. -/
def badO (x w : Wr) : Bool := decide (w.volume < x.volume) || (decide (w.volume = x.volume) && decide (w.start ≤ x.start + x.data.length))
def chkW (f : Wr → Nat) : Option Wr → List Wr → Nat
  | _, [] => 0
  | none, w :: l => if f w ≠ 0 then f w else chkW f (some w) l
  | some x, w :: l => if f w ≠ 0 then f w else if badO x w = true then 3 else chkW f (some w) l
def wsE (sizes : List Int) (l : List Wr) : Nat := if sizesE sizes ≠ 0 then sizesE sizes else chkW (fitsS sizes) none l
def WrS (l : List Wr) : Prop := ∀ w ∈ l, w.data.length ≤ 1000000
/-! ### Cycles -/
structure Cyc where
  base : Int
  number : Int
  time : Int
  poss : List Int
  wrs : List Wr
def cycC (c : Cyc) : List CV := [.v (.int .i64 c.base), .v (.int .i64 c.number), .v (.int .i64 c.time), .sl .sh 1 (c.poss.map ic), .sl .sh 3 (c.wrs.map wrC)]
@[go_sem, simp] theorem cycC_len (c : Cyc) : (cycC c).length = 5 := by rw [cycC]; rfl
@[go_sem, simp] theorem cycC_take (c : Cyc) : (cycC c).take 5 = cycC c := rfl
@[go_sem, simp] theorem cycC_all (c : Cyc) : allOne (cycC c) = true := rfl
@[go_sem, simp] theorem cycC_0 (c : Cyc) (h : 0 < (cycC c).length) : (cycC c)[0] = CV.v (.int .i64 c.base) := rfl
@[go_sem, simp] theorem cycC_1 (c : Cyc) (h : 1 < (cycC c).length) : (cycC c)[1] = CV.v (.int .i64 c.number) := rfl
@[go_sem, simp] theorem cycC_2 (c : Cyc) (h : 2 < (cycC c).length) : (cycC c)[2] = CV.v (.int .i64 c.time) := rfl
@[go_sem, simp] theorem cycC_3 (c : Cyc) (h : 3 < (cycC c).length) : (cycC c)[3] = .sl .sh 1 (c.poss.map ic) := rfl
@[go_sem, simp] theorem cycC_4 (c : Cyc) (h : 4 < (cycC c).length) : (cycC c)[4] = .sl .sh 3 (c.wrs.map wrC) := rfl
@[go_sem] theorem okL_cycC (jb jv : Nat) (c : Cyc) : okL jb jv (cycC c) = True := by simp [cycC, okL, okV, okTk, okE_wrs, okE_ints]
@[go_sem] theorem okE_cycs (jb jv : Nat) (l : List Cyc) : okE jb jv (l.map cycC) = True := eq_true (okE_map cycC l fun e => by rw [okL_cycC]; trivial)
def inB (n lo hi : Int) : Bool := decide (lo ≤ n) && decide (n ≤ hi)
def badPos (n : Int) : Bool := !inB n 0 1073741824
def posE (l : List Int) (least : Int) : Nat := if inB l.length least 8 = false then 6 else if l.any badPos = true then 2 else 0
def chkC (c : Cyc) (sizes : List Int) : Nat :=
  if sizesE sizes ≠ 0 then sizesE sizes else if c.base < 0 ∨ c.number ≤ c.base ∨ 1073741824 < c.number then 2 else if inB c.time 0 1073741824 = false then 24
  else if posE c.poss 0 ≠ 0 then posE c.poss 0 else wsE sizes c.wrs
/-- The sizes that are meant where none are given. -/
def mostS : List Int := List.replicate 8 4096
theorem mostS_ok : sizesE mostS = 0 := by kernel_rfl
end Go.Proofs.YtfbjhkpdlihgeaaGreat
namespace Go.Proofs.YtfbjhkpdlihgeaaGreat
open Go.Proofs
@[go_sem] theorem slTy22 : slTy Tryz.prog 22 = some (3, 1) := by kernel_rfl
@[go_sem] theorem slTy23 : slTy Tryz.prog 23 = some (79, 3) := by kernel_rfl
@[go_sem] theorem slTy28 : slTy Tryz.prog 28 = some (46, 1) := by kernel_rfl
@[go_sem] theorem slTy36 : slTy Tryz.prog 36 = some (4, 1) := by kernel_rfl
@[go_sem] theorem slTy46 : slTy Tryz.prog 46 = some (5, 1) := by kernel_rfl
@[go_sem] theorem slTy77 : slTy Tryz.prog 77 = some (85, 8) := by kernel_rfl
@[go_sem] theorem arTy85 : arTy Tryz.prog 85 = some (8, false, 1) := by kernel_rfl
@[go_sem] theorem slTy101 : slTy Tryz.prog 101 = some (100, 1) := by kernel_rfl
@[go_sem] theorem slTy116 : slTy Tryz.prog 116 = some (77, 1) := by kernel_rfl
@[go_sem] theorem slTy117 : slTy Tryz.prog 117 = some (77, 1) := by kernel_rfl
@[go_sem] theorem arTy127 : arTy Tryz.prog 127 = some (256, false, 1) := by kernel_rfl
@[go_sem] theorem ldTy3 : ldTy Tryz.prog 3 = some (false, 1) := by kernel_rfl
@[go_sem] theorem ldTy4 : ldTy Tryz.prog 4 = some (false, 1) := by kernel_rfl
@[go_sem] theorem ldTy5 : ldTy Tryz.prog 5 = some (false, 1) := by kernel_rfl
@[go_sem] theorem ldTy22 : ldTy Tryz.prog 22 = some (false, 1) := by kernel_rfl
@[go_sem] theorem ldTy23 : ldTy Tryz.prog 23 = some (false, 1) := by kernel_rfl
@[go_sem] theorem ldTy25 : ldTy Tryz.prog 25 = some (true, 5) := by kernel_rfl
@[go_sem] theorem ldTy28 : ldTy Tryz.prog 28 = some (false, 1) := by kernel_rfl
@[go_sem] theorem ldTy29 : ldTy Tryz.prog 29 = some (false, 1) := by kernel_rfl
@[go_sem] theorem ldTy36 : ldTy Tryz.prog 36 = some (false, 1) := by kernel_rfl
@[go_sem] theorem ldTy38 : ldTy Tryz.prog 38 = some (true, 5) := by kernel_rfl
@[go_sem] theorem ldTy46 : ldTy Tryz.prog 46 = some (false, 1) := by kernel_rfl
@[go_sem] theorem ldTy57 : ldTy Tryz.prog 57 = some (false, 1) := by kernel_rfl
@[go_sem] theorem ldTy60 : ldTy Tryz.prog 60 = some (true, 3) := by kernel_rfl
@[go_sem] theorem ldTy65 : ldTy Tryz.prog 65 = some (true, 4) := by kernel_rfl
@[go_sem] theorem ldTy77 : ldTy Tryz.prog 77 = some (false, 1) := by kernel_rfl
@[go_sem] theorem ldTy79 : ldTy Tryz.prog 79 = some (true, 3) := by kernel_rfl
@[go_sem] theorem ldTy85 : ldTy Tryz.prog 85 = some (true, 8) := by kernel_rfl
@[go_sem] theorem ldTy92 : ldTy Tryz.prog 92 = some (false, 1) := by kernel_rfl
@[go_sem] theorem ldTy100 : ldTy Tryz.prog 100 = some (false, 1) := by kernel_rfl
@[go_sem] theorem ldTy117 : ldTy Tryz.prog 117 = some (false, 1) := by kernel_rfl
@[go_sem] theorem ldTy127 : ldTy Tryz.prog 127 = some (true, 256) := by kernel_rfl
@[go_sem] theorem ldTy136 : ldTy Tryz.prog 136 = some (true, 1) := by kernel_rfl
@[go_sem] theorem fdTy25_0 : fdTy Tryz.prog 25 0 = some (0, false, 1) := by kernel_rfl
@[go_sem] theorem fdTy25_1 : fdTy Tryz.prog 25 1 = some (1, false, 1) := by kernel_rfl
@[go_sem] theorem fdTy25_2 : fdTy Tryz.prog 25 2 = some (2, false, 1) := by kernel_rfl
@[go_sem] theorem fdTy25_3 : fdTy Tryz.prog 25 3 = some (3, false, 1) := by kernel_rfl
@[go_sem] theorem fdTy25_4 : fdTy Tryz.prog 25 4 = some (4, false, 1) := by kernel_rfl
@[go_sem] theorem fdTy38_0 : fdTy Tryz.prog 38 0 = some (0, false, 1) := by kernel_rfl
@[go_sem] theorem fdTy38_1 : fdTy Tryz.prog 38 1 = some (1, false, 1) := by kernel_rfl
@[go_sem] theorem fdTy38_2 : fdTy Tryz.prog 38 2 = some (2, false, 1) := by kernel_rfl
@[go_sem] theorem fdTy38_3 : fdTy Tryz.prog 38 3 = some (3, false, 1) := by kernel_rfl
@[go_sem] theorem fdTy38_4 : fdTy Tryz.prog 38 4 = some (4, false, 1) := by kernel_rfl
@[go_sem] theorem fdTy60_0 : fdTy Tryz.prog 60 0 = some (0, false, 1) := by kernel_rfl
@[go_sem] theorem fdTy60_1 : fdTy Tryz.prog 60 1 = some (1, false, 1) := by kernel_rfl
@[go_sem] theorem fdTy60_2 : fdTy Tryz.prog 60 2 = some (2, false, 1) := by kernel_rfl
@[go_sem] theorem fdTy65_0 : fdTy Tryz.prog 65 0 = some (0, true, 3) := by kernel_rfl
@[go_sem] theorem fdTy65_1 : fdTy Tryz.prog 65 1 = some (3, false, 1) := by kernel_rfl
@[go_sem] theorem fdTy79_0 : fdTy Tryz.prog 79 0 = some (0, false, 1) := by kernel_rfl
@[go_sem] theorem fdTy79_1 : fdTy Tryz.prog 79 1 = some (1, false, 1) := by kernel_rfl
@[go_sem] theorem fdTy79_2 : fdTy Tryz.prog 79 2 = some (2, false, 1) := by kernel_rfl
@[go_sem] theorem fdTy136_0 : fdTy Tryz.prog 136 0 = some (0, false, 1) := by kernel_rfl
@[go_sem] theorem fdTy170_0 : fdTy Tryz.prog 170 0 = some (0, false, 1) := by kernel_rfl
def z256 : List Value := List.replicate 256 (.int .u32 0)
@[go_sem] theorem zcTy3 : zcTy Tryz.prog 3 = some [.int .i64 0] := by kernel_rfl
@[go_sem] theorem zcTy4 : zcTy Tryz.prog 4 = some [.bool false] := by kernel_rfl
@[go_sem] theorem zcTy25 : zcTy Tryz.prog 25 = some [.int .i64 0, .int .i64 0, .int .i64 0, .slice none 0 0, .slice none 0 0] := by kernel_rfl
@[go_sem] theorem zcTy28 : zcTy Tryz.prog 28 = some [.slice none 0 0] := by kernel_rfl
@[go_sem] theorem zcTy29 : zcTy Tryz.prog 29 = some [.int .i64 0] := by kernel_rfl
@[go_sem] theorem zcTy38 : zcTy Tryz.prog 38 = some [.int .i64 0, .int .i64 0, .int .i64 0, .slice none 0 0, .slice none 0 0] := by kernel_rfl
@[go_sem] theorem zcTy46 : zcTy Tryz.prog 46 = some [.slice none 0 0] := by kernel_rfl
@[go_sem] theorem zcTy60 : zcTy Tryz.prog 60 = some [.int .i64 0, .int .i64 0, .int .i64 0] := by kernel_rfl
@[go_sem] theorem zcTy65 : zcTy Tryz.prog 65 = some [.int .i64 0, .int .i64 0, .int .i64 0, .int .i64 0] := by kernel_rfl
@[go_sem] theorem zcTy77 : zcTy Tryz.prog 77 = some [.slice none 0 0] := by kernel_rfl
@[go_sem] theorem zcTy79 : zcTy Tryz.prog 79 = some [.int .i64 0, .int .i64 0, .slice none 0 0] := by kernel_rfl
@[go_sem] theorem zcTy85 : zcTy Tryz.prog 85 = some [.int .u8 0, .int .u8 0, .int .u8 0, .int .u8 0, .int .u8 0, .int .u8 0, .int .u8 0, .int .u8 0] := by kernel_rfl
@[go_sem] theorem zcTy117 : zcTy Tryz.prog 117 = some [.slice none 0 0] := by kernel_rfl
@[go_sem] theorem zcTy127 : zcTy Tryz.prog 127 = some z256 := by kernel_rfl
@[go_sem] theorem zcTy136 : zcTy Tryz.prog 136 = some [.int .i64 0] := by kernel_rfl
@[go_sem] theorem bdTy25 : bdTy Tryz.prog 25 = some ([(0, 1), (1, 1), (2, 1), (3, 1), (4, 1)], [.int .i64 0, .int .i64 0, .int .i64 0, .slice none 0 0, .slice none 0 0]) := by kernel_rfl
@[go_sem] theorem bdTy38 : bdTy Tryz.prog 38 = some ([(0, 1), (1, 1), (2, 1), (3, 1), (4, 1)], [.int .i64 0, .int .i64 0, .int .i64 0, .slice none 0 0, .slice none 0 0]) := by kernel_rfl
@[go_sem] theorem bdTy60 : bdTy Tryz.prog 60 = some ([(0, 1), (1, 1), (2, 1)], [.int .i64 0, .int .i64 0, .int .i64 0]) := by kernel_rfl
@[go_sem] theorem bdTy65 : bdTy Tryz.prog 65 = some ([(0, 3), (3, 1)], [.int .i64 0, .int .i64 0, .int .i64 0, .int .i64 0]) := by kernel_rfl
@[go_sem] theorem bdTy79 : bdTy Tryz.prog 79 = some ([(0, 1), (1, 1), (2, 1)], [.int .i64 0, .int .i64 0, .slice none 0 0]) := by kernel_rfl
@[go_sem] theorem bdTy85 : bdTy Tryz.prog 85 = some ([(0, 1), (1, 1), (2, 1), (3, 1), (4, 1), (5, 1), (6, 1), (7, 1)], [.int .u8 0, .int .u8 0, .int .u8 0, .int .u8 0, .int .u8 0, .int .u8 0, .int .u8 0, .int .u8 0]) := by kernel_rfl
@[go_sem] theorem bdTy136 : bdTy Tryz.prog 136 = some ([(0, 1)], [.int .i64 0]) := by kernel_rfl
@[go_sem] theorem bdTy170 : bdTy Tryz.prog 170 = some ([(0, 1)], [.slice none 0 0]) := by kernel_rfl
@[go_sem] theorem cvTy3_5 : cvTy Tryz.prog 3 5 = some (some .u8) := by kernel_rfl
@[go_sem] theorem cvTy3_57 : cvTy Tryz.prog 3 57 = some (some .u32) := by kernel_rfl
@[go_sem] theorem cvTy3_129 : cvTy Tryz.prog 3 129 = some (some .u64) := by kernel_rfl
@[go_sem] theorem cvTy5_3 : cvTy Tryz.prog 5 3 = some (some .i64) := by kernel_rfl
@[go_sem] theorem cvTy5_57 : cvTy Tryz.prog 5 57 = some (some .u32) := by kernel_rfl
@[go_sem] theorem cvTy46_9 : cvTy Tryz.prog 46 9 = some none := by kernel_rfl
@[go_sem] theorem cvTy57_3 : cvTy Tryz.prog 57 3 = some (some .i64) := by kernel_rfl
@[go_sem] theorem cvTy57_5 : cvTy Tryz.prog 57 5 = some (some .u8) := by kernel_rfl
@[go_sem] theorem cvTy57_129 : cvTy Tryz.prog 57 129 = some (some .u64) := by kernel_rfl
@[go_sem] theorem cvTy57_181 : cvTy Tryz.prog 57 181 = some (some .u64) := by kernel_rfl
@[go_sem] theorem cvTy129_3 : cvTy Tryz.prog 129 3 = some (some .i64) := by kernel_rfl
@[go_sem] theorem cvTy129_57 : cvTy Tryz.prog 129 57 = some (some .u32) := by kernel_rfl
@[go_sem] theorem cvTy181_57 : cvTy Tryz.prog 181 57 = some (some .u32) := by kernel_rfl
@[go_sem] theorem strTy9 : Tryz.prog.underlying 9 = some .string := by kernel_rfl
@[go_sem] theorem boolTy4 : Tryz.prog.underlying 4 = some .bool := by kernel_rfl
end Go.Proofs.YtfbjhkpdlihgeaaGreat
namespace Go.Proofs.YtfbjhkpdlihgeaaGreat
open Go.Proofs
theorem clone_cc (H : Hp) (V : List Nat) (tk : Tk) (xs : List (List CV)) (hx : xs.length ≤ 1000000000) : CC Tryz.prog 43 [.sl tk 1 xs] H V (Fr 1 xs H V) := by
  refine CC.of_swp Tryz.func43 rfl (by kernel_rfl) (by rw [Tryz.ntmps43]; exact len_le _ _ rfl) fun hok hokH => Wp.s ?_
  simp -implicitDefEqProofs [go_sem, args0]
  simp [okL, okV] at hok
  refine ⟨⟨by omega, ?_⟩, fun h => ?_⟩
  · exact Fin.fr hok.2 hokH (by simp)
  · exact Fin.frtok (by omega) (.inl ⟨rfl, h⟩) hok.2 hokH (by simp) (by simp)

theorem encN_lt {n : Nat} (h : n < 128) : encN n = [UInt8.ofNat n] := by rw [encN, dif_pos h]
theorem encN_ge {n : Nat} (h : 128 ≤ n) : encN n = UInt8.ofNat (n % 128 + 128) :: encN (n / 128) := by rw [encN, dif_neg (by omega)]
theorem or128' : (List.range 128).all (fun n => bitop .or .u8 (n : Int) 128 == (n : Int) + 128) = true := by decide +kernel
theorem or128 (n : Nat) : bitop .or .u8 (IntKind.u8.wrap ((n : Int).tmod 128)) 128 = ((UInt8.ofNat (n % 128 + 128)).toNat : Int) := by
  have h := List.all_eq_true.1 or128' (n % 128) (by simp; omega)
  simp at h
  have e : IntKind.u8.wrap ((n : Int).tmod 128) = ((n % 128 : Nat) : Int) := by
    rw [IntKind.wrap_u8, Int.tmod_eq_emod_of_nonneg (by omega)]; omega
  rw [e, UInt8.toNat_ofNat']
  have h2 : ((n % 128 : Nat) : Int) = (n : Int) % 128 := by omega
  rw [h2, h]
  omega
theorem norm_lt (n : Int) : norm n ≤ 9007199254740991 := by unfold norm; split <;> omega
theorem quo128 (n : Nat) (h : n ≤ 9007199254740991) : IntKind.i64.wrap ((n : Int) / 128) = ((n / 128 : Nat) : Int) := by
  rw [IntWalk.i64_in _ ⟨by omega, by omega⟩]; omega
theorem byt_nat (n : Nat) : byt (n : Int) = UInt8.ofNat n := by
  apply UInt8.toNat_inj.1
  have h := byt_toNat (n : Int)
  rw [UInt8.toNat_ofNat']
  omega
theorem set_self {V : List Nat} {k v : Nat} (h : V[k]? = some v) : V.set k v = V := by
  obtain ⟨h1, h2⟩ := List.getElem?_eq_some_iff.1 h
  rw [← h2]; exact List.set_getElem_self h1

theorem encN_len : ∀ (k n : Nat), n < 128 ^ (k + 1) → (encN n).length ≤ k + 1
  | 0, n, h => by rw [encN_lt (by simpa using h)]; simp
  | k + 1, n, h => by
    by_cases hn : n < 128
    · rw [encN_lt hn]; simp
    · rw [encN_ge (by omega), List.length_cons]
      have := encN_len k (n / 128) (by rw [Nat.div_lt_iff_lt_mul (by omega)]; rwa [← Nat.pow_succ])
      omega
theorem enc_len (n : Int) : (enc n).length ≤ 8 := encN_len 7 _ (Nat.lt_of_le_of_lt (norm_lt n) (by decide))
theorem snoc_or (l : List UInt8) (n : Nat) : bs l ++ [[CV.v (.int .u8 (bitop .or .u8 (IntKind.u8.wrap ((n : Int).tmod 128)) 128))]] = bs (l ++ [UInt8.ofNat (n % 128 + 128)]) := by
  rw [or128, bs, bs, List.map_append]; rfl

theorem add128 (n : Nat) : byt (IntKind.i64.wrap ((n : Int).tmod 128 + 128)) = UInt8.ofNat (n % 128 + 128) := by
  have e : IntKind.i64.wrap ((n : Int).tmod 128 + 128) = ((n % 128 + 128 : Nat) : Int) := by
    rw [Int.tmod_eq_emod_of_nonneg (by omega), IntWalk.i64_in _ ⟨by omega, by omega⟩]; omega
  rw [e, byt_nat]
theorem putInt_cc (H : Hp) (V : List Nat) (k v : Nat) (l : List UInt8) (n : Int) (hv : V[k]? = some v) (hl : l.length ≤ 1000000000) :
    CC Tryz.prog 70 [.sl (.own k v) 1 (bs l), .v (.int .i64 n)] H V (Ow k 1 (bs (l ++ enc n)) H V) := by
  have hk : k < V.length := (List.getElem?_eq_some_iff.1 hv).1
  have hel := enc_len n
  refine CC.of_swp Tryz.func70 rfl (by kernel_rfl) (by rw [Tryz.ntmps70]; exact len_le _ _ rfl) fun hok hokH => ?_
  clear hok
  refine SWp.seq (Wp.s ?_)
  simp -implicitDefEqProofs [go_sem, args0]
  refine SWp.join (α := Unit) (fun _ => ([(0, .sl (.own k v) 1 (bs l)), (1, .v (.int .i64 (norm n)))], H, V)) (fun _ => True) ?_ ?_
  · refine Wp.s ?_
    simp -implicitDefEqProofs [go_sem]
    refine ⟨fun h1 => ⟨fun h2 => ?_, fun h2 => ?_⟩, fun h1 => ?_⟩
    all_goals exact Sh.forget (by simp -implicitDefEqProofs [go_sem]; exact .int (by unfold norm; split <;> omega)) rfl rfl
  · rintro _ -
    refine SWp.join (α := Nat × List UInt8 × Nat) (fun x => ([(0, .sl (.own k x.1) 1 (bs x.2.1)), (1, .v (.int .i64 x.2.2))], H, V.set k x.1)) (fun x => x.2.2 < 128 ∧ x.2.1 ++ encN x.2.2 = l ++ enc n) ?_ ?_
    · refine SWp.block ?_
      refine SWp.loop (α := Nat × List UInt8 × Nat) (fun x => ([(0, .sl (.own k x.1) 1 (bs x.2.1)), (1, .v (.int .i64 x.2.2))], H, V.set k x.1)) (fun x => x.2.2 ≤ 9007199254740991 ∧ x.2.1 ++ encN x.2.2 = l ++ enc n) (fun x => x.2.2) (v, l, norm n) ⟨norm_lt n, rfl⟩ (Sh.forget (by simp -implicitDefEqProofs [go_sem]) rfl (set_self hv).symm) ?_
      rintro ⟨v1, l1, n1⟩ ⟨hb, h4⟩
      dsimp only at hb h4
      have hlen := congrArg List.length h4
      simp only [List.length_append] at hlen
      refine Wp.s ?_
      simp -implicitDefEqProofs [go_sem, hk, quo128 n1 hb, snoc_or]
      refine ⟨fun h => ⟨by omega, v1 + 1, l1 ++ [UInt8.ofNat (n1 % 128 + 128)], n1 / 128, ⟨by omega, ?_⟩, by omega, Sh.forget (by simp -implicitDefEqProofs [go_sem]) rfl rfl⟩, fun h => ⟨v1, l1, n1, ⟨by omega, h4⟩, Sh.forget (by simp -implicitDefEqProofs [go_sem]) rfl rfl⟩⟩
      rw [← h4, encN_ge (n := n1) (by omega)]; simp
    · rintro ⟨v1, l1, n1⟩ ⟨h1, h3⟩
      dsimp only at h1 h3
      have hlen := congrArg List.length h3
      simp only [List.length_append] at hlen
      refine Wp.s ?_
      simp -implicitDefEqProofs [go_sem, hk, byt_nat]
      exact ⟨by omega, Fin.ownB hk (by rw [← h3, encN_lt h1]) hokH (by simp)⟩

theorem PutInt_cc (H : Hp) (V : List Nat) (tk : Tk) (l : List UInt8) (n : Int) (hl : l.length ≤ 1000000000) :
    CC Tryz.prog 37 [.sl tk 1 (bs l), .v (.int .i64 n)] H V (Fr 1 (bs (l ++ enc n)) H V) := by
  refine CC.of_swp Tryz.func37 rfl (by kernel_rfl) (by rw [Tryz.ntmps37]; exact len_le _ _ rfl) fun hok hokH => Wp.s ?_
  simp -implicitDefEqProofs [go_sem, args0]
  refine CC.mono (clone_cc _ _ _ _ (by simpa using hl)) ?_
  rintro _ _ _ ⟨v, rfl, rfl, rfl⟩
  try simp -implicitDefEqProofs [go_sem]
  refine CC.mono (putInt_cc _ _ _ _ _ _ (by simp) hl) ?_
  rintro _ _ _ ⟨v', rfl, rfl, rfl⟩
  simp -implicitDefEqProofs [go_sem]
  exact Fin.freshB rfl hokH (by simp)

theorem refPutInt_cc (H : Hp) (V : List Nat) (tk : Tk) (l : List UInt8) (n : Int) (hl : l.length ≤ 1000000000) :
    CC Tryz.prog 26 [.sl tk 1 (bs l), .v (.int .i64 n)] H V (Fr 1 (bs (l ++ enc n)) H V) := by
  have hel := enc_len n
  refine CC.of_swp Tryz.func26 rfl (by kernel_rfl) (by rw [Tryz.ntmps26]; exact len_le _ _ rfl) fun hok hokH => ?_
  clear hok
  refine SWp.seq (Wp.s ?_)
  simp -implicitDefEqProofs [go_sem, args0]
  refine SWp.seq (Wp.s ?_)
  simp -implicitDefEqProofs [go_sem]
  refine SWp.seq (Wp.s ?_)
  simp -implicitDefEqProofs [go_sem]
  refine ⟨by omega, ?_⟩
  refine SWp.join (α := Unit) (fun _ => ([(5, .sl (.own V.length 0) 1 (bs l)), (1, .v (.int .i64 (norm n)))], H, V ++ [0])) (fun _ => True) ?_ ?_
  · refine Wp.s ?_
    simp -implicitDefEqProofs [go_sem]
    refine ⟨fun h1 => ⟨fun h2 => ?_, fun h2 => ?_⟩, fun h1 => ?_⟩
    all_goals exact Sh.forget (by simp -implicitDefEqProofs [go_sem]; exact .int (by unfold norm; split <;> omega)) rfl rfl
  · rintro _ -
    refine SWp.join (α := Nat × List UInt8 × Nat) (fun x => ([(5, .sl (.own V.length x.1) 1 (bs x.2.1)), (1, .v (.int .i64 x.2.2))], H, V ++ [x.1])) (fun x => x.2.2 < 128 ∧ x.2.1 ++ encN x.2.2 = l ++ enc n) ?_ ?_
    · refine SWp.block ?_
      refine SWp.loop (α := Nat × List UInt8 × Nat) (fun x => ([(5, .sl (.own V.length x.1) 1 (bs x.2.1)), (1, .v (.int .i64 x.2.2))], H, V ++ [x.1])) (fun x => x.2.2 ≤ 9007199254740991 ∧ x.2.1 ++ encN x.2.2 = l ++ enc n) (fun x => x.2.2) (0, l, norm n) ⟨norm_lt n, rfl⟩ (Sh.forget (by simp -implicitDefEqProofs [go_sem]) rfl rfl) ?_
      rintro ⟨v1, l1, n1⟩ ⟨hb, h4⟩
      dsimp only at hb h4
      have hlen := congrArg List.length h4
      simp only [List.length_append] at hlen
      refine Wp.s ?_
      simp -implicitDefEqProofs [go_sem, add128, quo128 n1 hb]
      refine ⟨fun h => ⟨by omega, v1 + 1, l1 ++ [UInt8.ofNat (n1 % 128 + 128)], n1 / 128, ⟨by omega, ?_⟩, by omega, Sh.forget (by simp -implicitDefEqProofs [go_sem]) rfl rfl⟩, fun h => ⟨v1, l1, n1, ⟨by omega, h4⟩, Sh.forget (by simp -implicitDefEqProofs [go_sem]) rfl rfl⟩⟩
      rw [← h4, encN_ge (n := n1) (by omega)]; simp
    · rintro ⟨v1, l1, n1⟩ ⟨h1, h3⟩
      dsimp only at h1 h3
      have hlen := congrArg List.length h3
      simp only [List.length_append] at hlen
      refine Wp.s ?_
      simp -implicitDefEqProofs [go_sem, byt_nat]
      exact ⟨by omega, Fin.freshB (by rw [← h3, encN_lt h1]) hokH (by simp)⟩
end Go.Proofs.YtfbjhkpdlihgeaaGreat
namespace Go.Proofs.YtfbjhkpdlihgeaaGreat
open Go.Proofs
theorem flat_len {α : Type} {f : α → List UInt8} {c : Nat} (h : ∀ x, (f x).length ≤ c) : ∀ xs : List α, (xs.flatMap f).length ≤ c * xs.length
  | [] => by simp
  | x :: xs => by
    rw [List.flatMap_cons, List.length_append, List.length_cons, Nat.mul_succ]
    have := flat_len h xs
    have := h x
    omega
theorem flat_take {α : Type} {f : α → List UInt8} {xs : List α} {i : Nat} (h : i < xs.length) : (xs.take (i + 1)).flatMap f = (xs.take i).flatMap f ++ f xs[i] := by
  rw [List.take_succ_eq_append_getElem h, List.flatMap_append]; simp
theorem flat_all {α : Type} {f : α → List UInt8} {xs : List α} {i : Nat} (h : ¬ i < xs.length) : (xs.take i).flatMap f = xs.flatMap f := by
  rw [List.take_of_length_le (by omega)]

theorem putInts_cc (H : Hp) (V : List Nat) (k v : Nat) (tk : Tk) (l : List UInt8) (xs : List Int) (hv : V[k]? = some v) (hl : l.length + 8 * xs.length ≤ 900000000) :
    CC Tryz.prog 73 [.sl (.own k v) 1 (bs l), .sl tk 1 (xs.map ic), .fn 70 []] H V (Ow k 1 (bs (l ++ encInts xs)) H V) := by
  have hk : k < V.length := (List.getElem?_eq_some_iff.1 hv).1
  have hel := enc_len xs.length
  refine CC.of_swp Tryz.func73 rfl (by kernel_rfl) (by rw [Tryz.ntmps73]; exact len_le _ _ rfl) fun hok hokH => ?_
  clear hok
  refine SWp.seq (Wp.s ?_)
  simp -implicitDefEqProofs [go_sem, args0]
  refine SWp.seq (Wp.s ?_)
  simp -implicitDefEqProofs [go_sem]
  refine CC.mono (putInt_cc _ _ _ _ _ _ hv (by omega)) ?_
  rintro _ _ _ ⟨v', rfl, rfl, rfl⟩
  try simp -implicitDefEqProofs [go_sem]
  refine SWp.join (α := Nat) (fun v => ([(0, .sl (.own k v) 1 (bs (l ++ encInts xs)))], H, V.set k v)) (fun _ => True) ?_ ?_
  · refine SWp.seq (Wp.s ?_)
    simp -implicitDefEqProofs [go_sem]
    refine SWp.block ?_
    refine SWp.loop (α := Nat × Nat) (fun x => ([(0, .sl (.own k x.1) 1 (bs (l ++ enc xs.length ++ (xs.take x.2).flatMap enc))), (2, .fn 70 []), (13, .sl tk 1 (xs.map ic)), (14, ci xs.length), (15, ci x.2)], H, V.set k x.1)) (fun x => x.2 ≤ xs.length) (fun x => xs.length - x.2) (v', 0) (Nat.zero_le _) (Sh.forget (by simp -implicitDefEqProofs [go_sem]) rfl rfl) ?_
    rintro ⟨v1, i⟩ hi
    dsimp only at hi ⊢
    have hlen := flat_len (f := enc) enc_len (xs.take i)
    rw [List.length_take] at hlen
    refine Wp.s ?_
    simp -implicitDefEqProofs [go_sem]
    refine ⟨fun h => ⟨h, ?_⟩, fun h => ⟨v1, Sh.forget ?_ rfl rfl⟩⟩
    · refine CC.mono (putInt_cc _ _ _ _ _ _ (by simp [hk]) (by simp only [List.length_append]; omega)) ?_
      rintro _ _ _ ⟨v2, rfl, rfl, rfl⟩
      simp -implicitDefEqProofs [go_sem]
      refine ⟨v2, i + 1, by omega, by omega, Sh.forget ?_ rfl (by simp)⟩
      simp -implicitDefEqProofs [go_sem, wrap_succ (show i ≤ 1000000000 by omega), flat_take h]
    · simp -implicitDefEqProofs [go_sem, encInts]
      rw [List.take_of_length_le h]; exact .refl _
  · rintro v1 -
    refine Wp.s ?_
    simp -implicitDefEqProofs [go_sem]
    exact Fin.ownB hk rfl hokH (by simp)
end Go.Proofs.YtfbjhkpdlihgeaaGreat
namespace Go.Proofs.YtfbjhkpdlihgeaaGreat
open Go.Proofs
theorem putSector_cc (H : Hp) (V : List Nat) (k v : Nat) (l : List UInt8) (s : Sec) (hv : V[k]? = some v) (hl : l.length ≤ 1000000000) :
    CC Tryz.prog 105 [.sl (.own k v) 1 (bs l), .agg (secC s)] H V (Ow k 1 (bs (l ++ s.val)) H V) := by
  have hk : k < V.length := (List.getElem?_eq_some_iff.1 hv).1
  refine CC.of_swp Tryz.func105 rfl (by kernel_rfl) (by rw [Tryz.ntmps105]; exact len_le _ _ rfl) fun hok hokH => Wp.s ?_
  clear hok
  simp -implicitDefEqProofs [go_sem, args0, hv]
  have := s.len
  exact ⟨by omega, Fin.ownB hk rfl hokH (by simp)⟩
theorem flat_le {α : Type} {f : α → List UInt8} {xs : List α} {i : Nat} (h : i < xs.length) : ((xs.take i).flatMap f).length + (f xs[i]).length ≤ (xs.flatMap f).length := by
  have h1 := flat_take (f := f) h
  have h2 : xs.flatMap f = (xs.take (i + 1)).flatMap f ++ (xs.drop (i + 1)).flatMap f := by rw [← List.flatMap_append, List.take_append_drop]
  rw [h2, h1]
  simp only [List.length_append]; omega
theorem secs_len : ∀ l : List Sec, (l.flatMap Sec.val).length = 8 * l.length
  | [] => rfl
  | s :: l => by rw [List.flatMap_cons, List.length_append, secs_len l, s.len, List.length_cons]; omega
theorem encSecs_len (l : List Sec) : (encSecs l).length = (enc l.length).length + 8 * l.length := by rw [encSecs, List.length_append, secs_len]
theorem putSecs_cc (H : Hp) (V : List Nat) (k v : Nat) (tk : Tk) (l : List UInt8) (xs : List Sec) (hv : V[k]? = some v) (hl : l.length + 8 * xs.length ≤ 900000000) :
    CC Tryz.prog 104 [.sl (.own k v) 1 (bs l), .sl tk 8 (xs.map secC), .fn 105 []] H V (Ow k 1 (bs (l ++ encSecs xs)) H V) := by
  have hk : k < V.length := (List.getElem?_eq_some_iff.1 hv).1
  have hel := enc_len xs.length
  refine CC.of_swp Tryz.func104 rfl (by kernel_rfl) (by rw [Tryz.ntmps104]; exact len_le _ _ rfl) fun hok hokH => ?_
  simp -implicitDefEqProofs [go_sem, okV_slt] at hok
  refine SWp.seq (Wp.s ?_)
  simp -implicitDefEqProofs [go_sem, args0]
  refine SWp.seq (Wp.s ?_)
  simp -implicitDefEqProofs [go_sem]
  refine CC.mono (putInt_cc _ _ _ _ _ _ hv (by omega)) ?_
  rintro _ _ _ ⟨v', rfl, rfl, rfl⟩
  try simp -implicitDefEqProofs [go_sem]
  refine SWp.join (α := Nat) (fun v => ([(0, .sl (.own k v) 1 (bs (l ++ encSecs xs)))], H, V.set k v)) (fun _ => True) ?_ ?_
  · refine SWp.seq (Wp.s ?_)
    simp -implicitDefEqProofs [go_sem]
    refine SWp.block ?_
    refine SWp.loop (α := Nat × Nat) (fun x => ([(0, .sl (.own k x.1) 1 (bs (l ++ enc xs.length ++ (xs.take x.2).flatMap Sec.val))), (2, .fn 105 []), (13, .sl tk 8 (xs.map secC)), (14, ci xs.length), (15, ci x.2)], H, V.set k x.1)) (fun x => x.2 ≤ xs.length) (fun x => xs.length - x.2) (v', 0) (Nat.zero_le _) (Sh.forget (by simp -implicitDefEqProofs [go_sem]) rfl rfl) ?_
    rintro ⟨v1, i⟩ hi
    dsimp only at hi ⊢
    have hlen := flat_len (f := Sec.val) (fun x => Nat.le_of_eq x.len) (xs.take i)
    rw [List.length_take] at hlen
    refine Wp.s ?_
    simp -implicitDefEqProofs [go_sem]
    refine ⟨fun h => ⟨h, ?_⟩, fun h => ⟨v1, Sh.forget ?_ rfl rfl⟩⟩
    · refine CC.mono (putSector_cc _ _ _ _ _ _ (by simp [hk]) (by simp only [List.length_append]; omega)) ?_
      rintro _ _ _ ⟨v2, rfl, rfl, rfl⟩
      simp -implicitDefEqProofs [go_sem]
      refine ⟨v2, i + 1, by omega, by omega, Sh.back ?_ rfl (by simp) (by simp -implicitDefEqProofs [go_sem, okV_slt, hok]) (by simpa using hokH) (by simp) (by simp)⟩
      simp -implicitDefEqProofs [go_sem, wrap_succ (show i ≤ 1000000000 by omega), flat_take h]
    · simp -implicitDefEqProofs [go_sem, encSecs]
      rw [List.take_of_length_le h]; exact .refl _
  · rintro v1 -
    refine Wp.s ?_
    simp -implicitDefEqProofs [go_sem]
    exact Fin.ownB hk rfl hokH (by simp)


theorem putWrite_cc (H : Hp) (V : List Nat) (k v : Nat) (l : List UInt8) (x : Wr) (hv : V[k]? = some v) (hl : l.length + (encWr x).length ≤ 900000000) :
    CC Tryz.prog 72 [.sl (.own k v) 1 (bs l), .agg (wrC x)] H V (Ow k 1 (bs (l ++ encWr x)) H V) := by
  have hk : k < V.length := (List.getElem?_eq_some_iff.1 hv).1
  simp only [encWr, List.length_append, encSecs_len] at hl
  refine CC.of_swp Tryz.func72 rfl (by kernel_rfl) (by rw [Tryz.ntmps72]; exact len_le _ _ rfl) fun hok hokH => ?_
  clear hok
  refine SWp.seq (Wp.s ?_)
  simp -implicitDefEqProofs [go_sem, args0]
  refine SWp.seq (SWp.drawnL [0, 1, 2, 4, 5, 7, 8, 3, 6, 9, 10] (by kernel_rfl) (by kernel_rfl) rfl ?_)
  simp -implicitDefEqProofs [go_sem]
  refine CC.mono (putInt_cc _ _ _ _ _ _ hv (by omega)) ?_
  rintro _ _ _ ⟨v', rfl, rfl, rfl⟩
  try simp -implicitDefEqProofs [go_sem]
  refine CC.mono (putInt_cc _ _ _ _ _ _ (by simp [hk]) (by simp only [List.length_append]; omega)) ?_
  rintro _ _ _ ⟨v', rfl, rfl, rfl⟩
  try simp -implicitDefEqProofs [go_sem]
  refine CC.mono (putSecs_cc _ _ _ _ _ _ _ (by simp [hk]) (by simp only [List.length_append]; omega)) ?_
  rintro _ _ _ ⟨v', rfl, rfl, rfl⟩
  simp -implicitDefEqProofs [go_sem]
  refine Wp.s ?_
  simp -implicitDefEqProofs [go_sem]
  exact Fin.ownB hk (by simp [encWr]) hokH (by simp)

theorem putWrites_cc (H : Hp) (V : List Nat) (k v : Nat) (tk : Tk) (l : List UInt8) (xs : List Wr) (hv : V[k]? = some v) (hx : xs.length ≤ 900000000) (hl : l.length + (encWrs xs).length ≤ 900000000) :
    CC Tryz.prog 71 [.sl (.own k v) 1 (bs l), .sl tk 3 (xs.map wrC), .fn 72 []] H V (Ow k 1 (bs (l ++ encWrs xs)) H V) := by
  have hk : k < V.length := (List.getElem?_eq_some_iff.1 hv).1
  have hel := enc_len xs.length
  simp only [encWrs, List.length_append] at hl
  refine CC.of_swp Tryz.func71 rfl (by kernel_rfl) (by rw [Tryz.ntmps71]; exact len_le _ _ rfl) fun hok hokH => ?_
  simp -implicitDefEqProofs [go_sem, okV_slt] at hok
  refine SWp.seq (Wp.s ?_)
  simp -implicitDefEqProofs [go_sem, args0]
  refine SWp.seq (Wp.s ?_)
  simp -implicitDefEqProofs [go_sem]
  refine CC.mono (putInt_cc _ _ _ _ _ _ hv (by omega)) ?_
  rintro _ _ _ ⟨v', rfl, rfl, rfl⟩
  try simp -implicitDefEqProofs [go_sem]
  refine SWp.join (α := Nat) (fun v => ([(0, .sl (.own k v) 1 (bs (l ++ encWrs xs)))], H, V.set k v)) (fun _ => True) ?_ ?_
  · refine SWp.seq (Wp.s ?_)
    simp -implicitDefEqProofs [go_sem]
    refine SWp.block ?_
    refine SWp.loop (α := Nat × Nat) (fun x => ([(0, .sl (.own k x.1) 1 (bs (l ++ enc xs.length ++ (xs.take x.2).flatMap encWr))), (2, .fn 72 []), (13, .sl tk 3 (xs.map wrC)), (14, ci xs.length), (15, ci x.2)], H, V.set k x.1)) (fun x => x.2 ≤ xs.length) (fun x => xs.length - x.2) (v', 0) (Nat.zero_le _) (Sh.forget (by simp -implicitDefEqProofs [go_sem]) rfl rfl) ?_
    rintro ⟨v1, i⟩ hi
    dsimp only at hi ⊢
    refine Wp.s ?_
    simp -implicitDefEqProofs [go_sem]
    refine ⟨fun h => ⟨h, ?_⟩, fun h => ⟨v1, Sh.forget ?_ rfl rfl⟩⟩
    · have hone := flat_le (f := encWr) h
      refine CC.mono (putWrite_cc _ _ _ _ _ _ (by simp [hk]) (by simp only [List.length_append]; omega)) ?_
      rintro _ _ _ ⟨v2, rfl, rfl, rfl⟩
      simp -implicitDefEqProofs [go_sem]
      refine ⟨v2, i + 1, by omega, by omega, Sh.back ?_ rfl (by simp) (by simp -implicitDefEqProofs [go_sem, okV_slt, hok]) (by simpa using hokH) (by simp) (by simp)⟩
      simp -implicitDefEqProofs [go_sem, wrap_succ (show i ≤ 1000000000 by omega), flat_take h]
    · simp -implicitDefEqProofs [go_sem, encWrs]
      rw [List.take_of_length_le h]; exact .refl _
  · rintro v1 -
    refine Wp.s ?_
    simp -implicitDefEqProofs [go_sem]
    exact Fin.ownB hk rfl hokH (by simp)

end Go.Proofs.YtfbjhkpdlihgeaaGreat
namespace Go.Proofs.YtfbjhkpdlihgeaaGreat
open Go.Proofs
section
variable {P : Program} {H : Hp} {V : List Nat}
theorem CC.args {f : FuncId} {xs ys : List CV} {R : CV → Hp → List Nat → Prop} (h : LeL xs ys) (hc : CC P f ys H V R) : CC P f xs H V R :=
  ⟨hc.1, fun m w us hi hu => hc.2 m w us hi (LeL.rel h hu)⟩
end
theorem LeL.self : ∀ l : List CV, LeL l l
  | [] => .nil
  | c :: l => .cons (.refl c) (LeL.self l)
theorem CC.nil0 {P : Program} {H : Hp} {V : List Nat} {f : FuncId} {sz : Nat} {xs : List CV} {R : CV → Hp → List Nat → Prop} (hsz : 0 < sz) (hc : CC P f (.sl .sh sz [] :: xs) H V R) : CC P f (.v (.slice none 0 0) :: xs) H V R :=
  CC.args (.cons (.nil sz hsz) (LeL.self xs)) hc

theorem PutInts_cc (H : Hp) (V : List Nat) (tk tk' : Tk) (l : List UInt8) (xs : List Int) (hl : l.length + 8 * xs.length ≤ 900000000) :
    CC Tryz.prog 39 [.sl tk 1 (bs l), .sl tk' 1 (xs.map ic)] H V (Fr 1 (bs (l ++ encInts xs)) H V) := by
  refine CC.of_swp Tryz.func39 rfl (by kernel_rfl) (by rw [Tryz.ntmps39]; exact len_le _ _ rfl) fun hok hokH => Wp.s ?_
  simp -implicitDefEqProofs [go_sem, args0]
  refine CC.mono (clone_cc _ _ _ _ (by simp only [bs_len]; omega)) ?_
  rintro _ _ _ ⟨v, rfl, rfl, rfl⟩
  try simp -implicitDefEqProofs [go_sem]
  refine CC.mono (putInts_cc _ _ _ _ _ _ _ (by simp) hl) ?_
  rintro _ _ _ ⟨v', rfl, rfl, rfl⟩
  simp -implicitDefEqProofs [go_sem]
  exact Fin.freshB rfl hokH (by simp)

theorem PutWrites_cc (H : Hp) (V : List Nat) (tk tk' : Tk) (l : List UInt8) (xs : List Wr) (hx : xs.length ≤ 900000000) (hl : l.length + (encWrs xs).length ≤ 900000000) :
    CC Tryz.prog 38 [.sl tk 1 (bs l), .sl tk' 3 (xs.map wrC)] H V (Fr 1 (bs (l ++ encWrs xs)) H V) := by
  refine CC.of_swp Tryz.func38 rfl (by kernel_rfl) (by rw [Tryz.ntmps38]; exact len_le _ _ rfl) fun hok hokH => Wp.s ?_
  simp -implicitDefEqProofs [go_sem, args0]
  refine CC.mono (clone_cc _ _ _ _ (by simp only [bs_len]; omega)) ?_
  rintro _ _ _ ⟨v, rfl, rfl, rfl⟩
  try simp -implicitDefEqProofs [go_sem]
  refine CC.mono (putWrites_cc _ _ _ _ _ _ _ (by simp) hx hl) ?_
  rintro _ _ _ ⟨v', rfl, rfl, rfl⟩
  simp -implicitDefEqProofs [go_sem]
  exact Fin.freshB rfl hokH (by simp)

theorem refPutInts_cc (H : Hp) (V : List Nat) (tk tk' : Tk) (l : List UInt8) (xs : List Int) (hl : l.length + 8 * xs.length ≤ 900000000) :
    CC Tryz.prog 50 [.sl tk 1 (bs l), .sl tk' 1 (xs.map ic)] H V (Pu (.sl .sh 1 (bs (l ++ encInts xs))) H V) := by
  have hel := enc_len xs.length
  refine CC.of_swp Tryz.func50 rfl (by kernel_rfl) (by rw [Tryz.ntmps50]; exact len_le _ _ rfl) fun hok hokH => ?_
  simp -implicitDefEqProofs [go_sem, okV_slt] at hok
  refine SWp.seq (Wp.s ?_)
  simp -implicitDefEqProofs [go_sem, args0]
  refine SWp.seq (Wp.s ?_)
  simp -implicitDefEqProofs [go_sem]
  refine CC.mono (refPutInt_cc _ _ _ _ _ (by omega)) ?_
  rintro _ _ _ ⟨v', rfl, rfl, rfl⟩
  try simp -implicitDefEqProofs [go_sem]
  refine SWp.join (α := Unit) (fun _ => ([(5, .sl .sh 1 (bs (l ++ encInts xs)))], H, V)) (fun _ => True) ?_ ?_
  · refine SWp.seq (Wp.s ?_)
    simp -implicitDefEqProofs [go_sem]
    refine SWp.block ?_
    refine SWp.loop (α := Nat) (fun x => ([(5, .sl .sh 1 (bs (l ++ enc xs.length ++ (xs.take x).flatMap enc))), (1, .sl tk' 1 (xs.map ic)), (6, ci x)], H, V)) (fun x => x ≤ xs.length) (fun x => xs.length - x) 0 (Nat.zero_le _) (Sh.back (by simp -implicitDefEqProofs [go_sem]) rfl rfl (by simp -implicitDefEqProofs [go_sem, okV_slt, hok]) hokH (by simp) (by simp)) ?_
    intro i hi
    have hlen := flat_len (f := enc) enc_len (xs.take i)
    rw [List.length_take] at hlen
    refine Wp.s ?_
    simp -implicitDefEqProofs [go_sem]
    refine ⟨fun h => ⟨h, ?_⟩, fun h => Sh.forget ?_ rfl rfl⟩
    · refine CC.mono (refPutInt_cc _ _ _ _ _ (by simp only [List.length_append]; omega)) ?_
      rintro _ _ _ ⟨v2, rfl, rfl, rfl⟩
      simp -implicitDefEqProofs [go_sem]
      refine ⟨i + 1, by omega, by omega, Sh.back ?_ rfl rfl (by simp -implicitDefEqProofs [go_sem, okV_slt, hok]) hokH (by simp) (by simp)⟩
      simp -implicitDefEqProofs [go_sem, wrap_succ (show i ≤ 1000000000 by omega), flat_take h]
    · simp -implicitDefEqProofs [go_sem, encInts]
      rw [List.take_of_length_le h]; exact .refl _
  · rintro _ -
    refine Wp.s ?_
    simp -implicitDefEqProofs [go_sem]
    exact Fin.pu (.refl _) (by simp -implicitDefEqProofs [go_sem]) hokH (by simp) (by simp)

@[go_sem] theorem sec_snoc (l : List UInt8) (s : Sec) (j : Nat) (h : j < (secC s).length) : bs l ++ [(secC s)[j].cells] = bs (l ++ [s.val[j]'(by simpa [s.len] using h)]) := by
  simp only [bs, secC, List.getElem_map, List.map_append]; rfl
@[go_sem] theorem sec_cells (s : Sec) (j : Nat) (h : j < (secC s).length) : (secC s)[j].cells.length = 1 ∧ allOne (secC s)[j].cells = true := by
  simp only [secC, List.getElem_map]; exact ⟨rfl, rfl⟩
theorem refPutSectors_cc (H : Hp) (V : List Nat) (tk tk' : Tk) (l : List UInt8) (xs : List Sec) (hl : l.length + 8 * xs.length ≤ 900000000) :
    CC Tryz.prog 80 [.sl tk 1 (bs l), .sl tk' 8 (xs.map secC)] H V (Fr 1 (bs (l ++ encSecs xs)) H V) := by
  have hel := enc_len xs.length
  refine CC.of_swp Tryz.func80 rfl (by kernel_rfl) (by rw [Tryz.ntmps80]; exact len_le _ _ rfl) fun hok hokH => ?_
  simp -implicitDefEqProofs [go_sem, okV_slt] at hok
  refine SWp.seq (Wp.s ?_)
  simp -implicitDefEqProofs [go_sem, args0]
  refine SWp.seq (Wp.s ?_)
  simp -implicitDefEqProofs [go_sem]
  refine CC.mono (refPutInt_cc _ _ _ _ _ (by omega)) ?_
  rintro _ _ _ ⟨v', rfl, rfl, rfl⟩
  try simp -implicitDefEqProofs [go_sem]
  refine SWp.join (α := Nat) (fun v => ([(5, .sl (.own V.length v) 1 (bs (l ++ encSecs xs)))], H, V ++ [v])) (fun _ => True) ?_ ?_
  · refine SWp.seq (Wp.s ?_)
    simp -implicitDefEqProofs [go_sem]
    refine SWp.block ?_
    refine SWp.loop (α := Nat × Nat) (fun x => ([(5, .sl (.own V.length x.1) 1 (bs (l ++ enc xs.length ++ (xs.take x.2).flatMap Sec.val))), (1, .sl tk' 8 (xs.map secC)), (6, ci x.2)], H, V ++ [x.1])) (fun x => x.2 ≤ xs.length) (fun x => xs.length - x.2) (v', 0) (Nat.zero_le _) (Sh.forget (by simp -implicitDefEqProofs [go_sem]) rfl rfl) ?_
    rintro ⟨v1, i⟩ hi
    dsimp only at hi ⊢
    have hlen := flat_len (f := Sec.val) (fun x => Nat.le_of_eq x.len) (xs.take i)
    rw [List.length_take] at hlen
    refine SWp.seq (Wp.s ?_)
    simp -implicitDefEqProofs [go_sem]
    refine ⟨fun h => ?_, fun h => ⟨v1, Sh.forget ?_ rfl rfl⟩⟩
    · refine SWp.seq (SWp.block ?_)
      refine SWp.seq (Wp.s ?_)
      simp -implicitDefEqProofs [go_sem]
      refine SWp.block ?_
      refine SWp.loop (α := Nat × Nat) (fun x => ([(5, .sl (.own V.length x.1) 1 (bs (l ++ enc xs.length ++ (xs.take i).flatMap Sec.val ++ xs[i].val.take x.2))), (1, .sl tk' 8 (xs.map secC)), (6, ci i), (7, ci x.2)], H, V ++ [x.1])) (fun x => x.2 ≤ 8) (fun x => 8 - x.2) (v1, 0) (Nat.zero_le _) (Sh.forget (by simp -implicitDefEqProofs [go_sem]) rfl rfl) ?_
      rintro ⟨v2, j⟩ hj
      dsimp only at hj ⊢
      have h8 := (xs[i]).len
      refine Wp.s ?_
      simp -implicitDefEqProofs [go_sem, -List.length_flatMap]
      refine ⟨fun h2 => ⟨by omega, by omega, h, by omega, v2 + 1, j + 1, by omega, by omega, Sh.forget ?_ rfl rfl⟩, fun h2 => ?_⟩
      · simp -implicitDefEqProofs [go_sem, wrap_succ (show j ≤ 1000000000 by omega)]
      · refine Wp.s ?_
        simp -implicitDefEqProofs [go_sem]
        refine ⟨_, i + 1, by omega, by omega, Sh.forget ?_ rfl rfl⟩
        have h9 : xs[i].val.take j = xs[i].val := List.take_of_length_le (by omega)
        simp -implicitDefEqProofs [go_sem, wrap_succ (show i ≤ 1000000000 by omega), flat_take h, h9]
    · simp -implicitDefEqProofs [go_sem, encSecs]
      rw [List.take_of_length_le h]; exact .refl _
  · rintro v1 -
    refine Wp.s ?_
    simp -implicitDefEqProofs [go_sem]
    exact Fin.freshB rfl hokH (by simp)

theorem refPutWrites_cc (H : Hp) (V : List Nat) (tk tk' : Tk) (l : List UInt8) (xs : List Wr) (hx : xs.length ≤ 900000000) (hl : l.length + (encWrs xs).length ≤ 900000000) :
    CC Tryz.prog 49 [.sl tk 1 (bs l), .sl tk' 3 (xs.map wrC)] H V (Pu (.sl .sh 1 (bs (l ++ encWrs xs))) H V) := by
  have hel := enc_len xs.length
  simp only [encWrs, List.length_append] at hl
  refine CC.of_swp Tryz.func49 rfl (by kernel_rfl) (by rw [Tryz.ntmps49]; exact len_le _ _ rfl) fun hok hokH => ?_
  simp -implicitDefEqProofs [go_sem, okV_slt] at hok
  refine SWp.seq (Wp.s ?_)
  simp -implicitDefEqProofs [go_sem, args0]
  refine SWp.seq (Wp.s ?_)
  simp -implicitDefEqProofs [go_sem]
  refine CC.mono (refPutInt_cc _ _ _ _ _ (by omega)) ?_
  rintro _ _ _ ⟨v', rfl, rfl, rfl⟩
  try simp -implicitDefEqProofs [go_sem]
  refine SWp.join (α := Unit) (fun _ => ([(5, .sl .sh 1 (bs (l ++ encWrs xs)))], H, V)) (fun _ => True) ?_ ?_
  · refine SWp.seq (Wp.s ?_)
    simp -implicitDefEqProofs [go_sem]
    refine SWp.block ?_
    refine SWp.loop (α := Nat) (fun x => ([(5, .sl .sh 1 (bs (l ++ enc xs.length ++ (xs.take x).flatMap encWr))), (1, .sl tk' 3 (xs.map wrC)), (6, ci x)], H, V)) (fun x => x ≤ xs.length) (fun x => xs.length - x) 0 (Nat.zero_le _) (Sh.back (by simp -implicitDefEqProofs [go_sem]) rfl rfl (by simp -implicitDefEqProofs [go_sem, okV_slt, hok]) hokH (by simp) (by simp)) ?_
    intro i hi
    refine SWp.seq (Wp.s ?_)
    simp -implicitDefEqProofs [go_sem]
    refine ⟨fun h => ?_, fun h => Sh.forget ?_ rfl rfl⟩
    · have hone := flat_le (f := encWr) h
      simp only [encWr, List.length_append, encSecs_len] at hone
      refine SWp.seq (SWp.block (SWp.drawnL [0, 1, 2, 3, 4, 5, 7, 8, 9, 10, 11, 13, 14, 15, 16, 17, 6, 12, 18, 19] (by kernel_rfl) (by kernel_rfl) rfl ?_))
      simp -implicitDefEqProofs [go_sem]
      refine ⟨h, ?_⟩
      refine CC.mono (refPutInt_cc _ _ _ _ _ (by simp only [List.length_append]; omega)) ?_
      rintro _ _ _ ⟨v2, rfl, rfl, rfl⟩
      simp -implicitDefEqProofs [go_sem, h]
      refine CC.mono (refPutInt_cc _ _ _ _ _ (by simp only [List.length_append]; omega)) ?_
      rintro _ _ _ ⟨v2, rfl, rfl, rfl⟩
      try simp -implicitDefEqProofs [go_sem]
      refine CC.mono (refPutSectors_cc _ _ _ _ _ _ (by simp only [List.length_append]; omega)) ?_
      rintro _ _ _ ⟨v2, rfl, rfl, rfl⟩
      simp -implicitDefEqProofs [go_sem]
      refine Wp.s ?_
      simp -implicitDefEqProofs [go_sem]
      refine ⟨i + 1, by omega, by omega, Sh.back ?_ rfl rfl (by simp -implicitDefEqProofs [go_sem, okV_slt, hok]) hokH (by simp) (by simp)⟩
      simp -implicitDefEqProofs [go_sem, wrap_succ (show i ≤ 1000000000 by omega), flat_take h, encWr]
    · simp -implicitDefEqProofs [go_sem, encWrs]
      rw [List.take_of_length_le h]; exact .refl _
  · rintro _ -
    refine Wp.s ?_
    simp -implicitDefEqProofs [go_sem]
    exact Fin.pu (.refl _) (by simp -implicitDefEqProofs [go_sem]) hokH (by simp) (by simp)
end Go.Proofs.YtfbjhkpdlihgeaaGreat
namespace Go.Proofs.YtfbjhkpdlihgeaaGreat
open Go.Proofs
theorem and127 (x : UInt8) : bitop .and .u8 (x.toNat : Int) 127 = ((x.toNat % 128 : Nat) : Int) := by
  have h : (List.range 256).all (fun n => bitop .and .u8 (n : Int) 127 == ((n % 128 : Nat) : Int)) = true := by decide +kernel
  have h1 := List.all_eq_true.1 h x.toNat (List.mem_range.2 x.toNat_lt)
  exact eq_of_beq h1
theorem and128 (x : UInt8) : bitop .and .u8 (x.toNat : Int) 128 = if x.toNat < 128 then 0 else 128 := by
  have h : (List.range 256).all (fun n => bitop .and .u8 (n : Int) 128 == if n < 128 then 0 else 128) = true := by decide +kernel
  have h1 := List.all_eq_true.1 h x.toNat (List.mem_range.2 x.toNat_lt)
  exact eq_of_beq h1
theorem wrap_nat {n : Nat} (h : n < 9223372036854775808) : IntKind.i64.wrap (n : Int) = (n : Int) := IntWalk.i64_in _ ⟨by omega, by omega⟩
theorem pow128 (i : Nat) : 128 ^ i = 2 ^ (7 * i) := by rw [Nat.pow_mul]
theorem part_lt {a i : Nat} (hi : i < 8) (ha : a < 128) : a * 128 ^ i < 72057594037927936 := by
  have h2 : 128 ^ i ≤ 128 ^ 7 := Nat.pow_le_pow_right (by omega) (by omega)
  have h3 : a * 128 ^ i ≤ 127 * 128 ^ 7 := Nat.mul_le_mul (by omega) h2
  have h4 : 127 * 128 ^ 7 < 72057594037927936 := by decide
  omega
theorem or_shift {n a i : Nat} (hi : i < 8) (hn : n < 128 ^ i) (ha : a < 128) : bitop .or .i64 (n : Int) (shl .i64 (a : Int) (IntKind.i64.wrap (7 * (i : Int)))) = ((n + a * 128 ^ i : Nat) : Int) := by
  have h1 := part_lt hi ha
  have h2 : 128 ^ i ≤ 128 ^ 7 := Nat.pow_le_pow_right (by omega) (by omega)
  have h3 : (128 : Nat) ^ 7 = 562949953421312 := by decide
  have e0 : IntKind.i64.wrap (7 * (i : Int)) = ((7 * i : Nat) : Int) := by rw [IntWalk.i64_in _ ⟨by omega, by omega⟩]; omega
  have e1 : shl .i64 (a : Int) (IntKind.i64.wrap (7 * (i : Int))) = ((a * 128 ^ i : Nat) : Int) := by
    rw [e0, shl]
    have hb : min ((7 * i : Nat) : Int).toNat IntKind.i64.bits = 7 * i := by
      have : IntKind.i64.bits = 64 := rfl
      omega
    rw [hb]
    have hc : ((a : Int) * 2 ^ (7 * i)) = ((a * 128 ^ i : Nat) : Int) := by rw [pow128]; simp
    rw [hc, wrap_nat (by omega)]
  rw [e1]
  have e2 : (BitVec.ofInt 64 (n : Int) ||| BitVec.ofInt 64 ((a * 128 ^ i : Nat) : Int)).toNat = n + a * 128 ^ i := by
    rw [BitVec.toNat_or, BitVec.ofInt_natCast, BitVec.ofInt_natCast, BitVec.toNat_ofNat, BitVec.toNat_ofNat, Nat.mod_eq_of_lt (by omega), Nat.mod_eq_of_lt (by omega), Nat.or_comm, pow128, ← Nat.shiftLeft_eq, ← Nat.shiftLeft_add_eq_or_of_lt (by rw [← pow128]; exact hn), Nat.add_comm]
  have e3 : bitop .or .i64 (n : Int) ((a * 128 ^ i : Nat) : Int) = IntKind.i64.wrap ((BitVec.ofInt 64 (n : Int) ||| BitVec.ofInt 64 ((a * 128 ^ i : Nat) : Int)).toNat : Int) := rfl
  rw [e3, e2, wrap_nat (by omega)]

/-- A number at the beginning of bytes: the number and the rest, or the error. -/
def numG : Nat → Nat → Nat → List UInt8 → Except Nat (Nat × List UInt8)
  | 0, _, _, _ => .error 3
  | _ + 1, _, _, [] => .error 10
  | f + 1, i, n, b :: r =>
    if b.toNat < 128 then
      if (b.toNat = 0 ∧ 0 < i) ∨ 9007199254740991 < n + b.toNat * 128 ^ i then .error 3 else .ok (n + b.toNat * 128 ^ i, r)
    else numG f (i + 1) (n + b.toNat % 128 * 128 ^ i) r
def number (src : List UInt8) : Except Nat (Nat × List UInt8) := numG 8 0 0 src

/-- A cursor's call: the value and no error, and the rest left behind; or the error, and what was left. -/
def Cur {α : Type} (b : Nat) (tk : Tk) (val : α → CV) (zero : CV) (x : Except Nat (α × List UInt8)) (H : Hp) (V : List Nat) : CV → Hp → List Nat → Prop := fun r H' V' =>
  match x with
  | .ok (a, s) => r = .tup [val a, Go.Proofs.YtfbjhkpdlihgeaaGreat.er 0] ∧ H.set b (some [.sl tk 1 (bs s)]) = H' ∧ V = V'
  | .error e => r = .tup [zero, Go.Proofs.YtfbjhkpdlihgeaaGreat.er e] ∧ H = H' ∧ V = V'
section
variable {H : Hp} {V : List Nat} {b : Nat} {tk : Tk} {src : List UInt8}
/-- How a cursor's call ends with an error. -/
theorem Fin.curErr {α : Type} {val : α → CV} {zero z c : CV} {x : Except Nat (α × List UInt8)} {e : Nat} (hx : x = .error e) (hz : okV H.length V.length zero) (h1 : z = zero) (h2 : c = Go.Proofs.YtfbjhkpdlihgeaaGreat.er e) (hokH : ∀ (b : Nat) cs, H[b]? = some (some cs) → okL H.length V.length cs) {H' : Hp} {V' : List Nat} (hH : H'.take H.length = H) (hV : V'.take V.length = V) :
    Fin H.length V.length (Cur b tk val zero x H V) (.tup [z, c]) H' V' := by
  subst hx h1 h2
  exact Fin.pure (by exact ⟨rfl, rfl, rfl⟩) hH hV (.refl _) (by simp -implicitDefEqProofs [go_sem, hz]) hokH
theorem ok_set {jb jv : Nat} {c : List CV} (hc : okL jb jv c) (hokH : ∀ (b : Nat) cs, H[b]? = some (some cs) → okL jb jv cs) (b' : Nat) (cs : List CV) (h : (H.set b (some c))[b']? = some (some cs)) : okL jb jv cs := by
  by_cases hb : b = b'
  · subst hb
    by_cases hl : b < H.length
    · rw [List.getElem?_set_self hl] at h; cases h; exact hc
    · rw [List.set_eq_of_length_le (by omega)] at h; exact hokH _ _ h
  · rw [List.getElem?_set_ne hb] at h; exact hokH _ _ h
theorem tk_of_box {n m sz : Nat} {xs : List (List CV)} {r : List CV} (hb : H[b]? = some (some (.sl tk sz xs :: r))) (hokH : ∀ (b : Nat) cs, H[b]? = some (some cs) → okL n m cs) : okTk m tk := by
  have := hokH b _ hb
  rw [okL, okV] at this; exact this.1.1
theorem Fin.curOk {α : Type} {val : α → CV} {zero z c : CV} {x : Except Nat (α × List UInt8)} {a : α} {s : List UInt8} (hx : x = .ok (a, s)) (hz : okV H.length V.length (val a)) (h1 : Le z (val a)) (h2 : c = Go.Proofs.YtfbjhkpdlihgeaaGreat.er 0) (ht : okTk V.length tk) (hokH : ∀ (b : Nat) cs, H[b]? = some (some cs) → okL H.length V.length cs) {H' : Hp} {V' : List Nat} (hH : H'.take H.length = H.set b (some [.sl tk 1 (bs s)])) (hV : V'.take V.length = V) :
    Fin H.length V.length (Cur b tk val zero x H V) (.tup [z, c]) H' V' := by
  subst hx h2
  exact Fin.pure (r' := .tup [val a, Go.Proofs.YtfbjhkpdlihgeaaGreat.er 0]) (by exact ⟨rfl, rfl, rfl⟩) hH hV (.tup (.cons h1 (.cons (.refl _) .nil))) (by simp -implicitDefEqProofs [go_sem, hz]) (ok_set (by simp -implicitDefEqProofs [go_sem, okV_slt, ht]) hokH)
end
set_option maxHeartbeats 1000000 in
theorem number_cc (H : Hp) (V : List Nat) (b : Nat) (tk : Tk) (src : List UInt8) (hb : H[b]? = some (some [.sl tk 1 (bs src)])) :
    CC Tryz.prog 83 [.ptr b 0] H V (Cur b tk (fun n : Nat => ci n) (ci 0) (number src) H V) := by
  refine CC.of_swp Tryz.func83 rfl (by kernel_rfl) (by rw [Tryz.ntmps83]; exact len_le _ _ rfl) fun hok hokH => ?_
  refine SWp.seq (Wp.s ?_)
  simp -implicitDefEqProofs [go_sem, args0]
  refine SWp.seq (Wp.s ?_)
  simp -implicitDefEqProofs [go_sem]
  refine SWp.join (α := Unit) (fun _ => ([], H, V)) (fun _ => number src = .error 3) ?_ ?_
  · refine SWp.seq (Wp.s ?_)
    simp -implicitDefEqProofs [go_sem]
    refine SWp.block ?_
    refine SWp.loop (α := Nat × Nat) (fun x => ([(0, .ptr b 0), (4, ci x.1), (7, ci x.2)], H, V)) (fun x => x.2 ≤ 8 ∧ x.1 < 128 ^ x.2 ∧ numG (8 - x.2) x.2 x.1 (src.drop x.2) = number src) (fun x => 8 - x.2) (0, 0) ⟨by omega, by simp, rfl⟩ (Sh.forget (by simp -implicitDefEqProofs [go_sem]) rfl rfl) ?_
    rintro ⟨n, i⟩ ⟨hi, hn, h⟩
    dsimp only at hi hn h ⊢
    by_cases h8 : i < 8
    · by_cases hs : i < src.length
      · rw [show 8 - i = (7 - i) + 1 by omega, List.drop_eq_getElem_cons hs, numG] at h
        have e' : IntKind.i64.wrap ((src[i].toNat : Int) % 128) = ((src[i].toNat % 128 : Nat) : Int) := by
          rw [show (src[i].toNat : Int) % 128 = ((src[i].toNat % 128 : Nat) : Int) by omega]; exact wrap_nat (by omega)
        have e : bitop .or .i64 n (shl .i64 (IntKind.i64.wrap ((src[i].toNat : Int) % 128)) (IntKind.i64.wrap (7 * (i : Int)))) = ((n + src[i].toNat % 128 * 128 ^ i : Nat) : Int) := by
          rw [e']; exact or_shift h8 hn (by omega)
        have e7 : 0 ≤ IntKind.i64.wrap (7 * (i : Int)) := by rw [IntWalk.i64_in _ ⟨by omega, by omega⟩]; omega
        have hlt : n + src[i].toNat % 128 * 128 ^ i < 128 ^ (i + 1) := by
          have h1 : src[i].toNat % 128 * 128 ^ i ≤ 127 * 128 ^ i := Nat.mul_le_mul_right _ (by omega)
          rw [Nat.pow_succ]; omega
        have hmod : src[i].toNat < 128 → src[i].toNat % 128 = src[i].toNat := fun h => Nat.mod_eq_of_lt h
        generalize hN : n + src[i].toNat % 128 * 128 ^ i = N at *
        refine Wp.s ?_
        simp -implicitDefEqProofs [go_sem, hbx_some hb, and127, and128, e, e7, hs, wrap_succ (show i ≤ 1000000000 by omega), show (i : Int) < 8 by omega]
        have hT := tk_of_box hb hokH
        refine ⟨fun hq => absurd hq (by omega), fun h1 => ?_, fun h1 => ⟨fun h2 => ⟨fun h3 => ⟨fun h4 => ?_, fun h4 => ⟨by omega, by omega, ?_⟩⟩, fun h3 => ?_⟩, fun h2 => ⟨fun h4 => ?_, fun h4 => ⟨by omega, by omega, ?_⟩⟩⟩⟩
        · rw [if_neg (by omega)] at h
          refine ⟨N, i + 1, ⟨by omega, hlt, ?_⟩, by omega, Sh.forget (by simp -implicitDefEqProofs [go_sem]) rfl rfl⟩
          rw [show 8 - (i + 1) = 7 - i by omega]; exact h
        all_goals
          rw [if_pos h1, ← hmod h1, hN] at h
        · rw [if_pos (by omega)] at h
          exact Fin.curErr h.symm (by simp -implicitDefEqProofs [go_sem]) rfl rfl hokH (by simp) (by simp)
        · rw [if_neg (by omega)] at h
          exact Fin.curOk h.symm (by simp -implicitDefEqProofs [go_sem]) (.refl _) rfl hT hokH (by simp) (by simp)
        · rw [if_pos (by have := hmod h1; omega)] at h
          exact Fin.curErr h.symm (by simp -implicitDefEqProofs [go_sem]) rfl rfl hokH (by simp) (by simp)
        · rw [if_pos (by omega)] at h
          exact Fin.curErr h.symm (by simp -implicitDefEqProofs [go_sem]) rfl rfl hokH (by simp) (by simp)
        · rw [if_neg (by have := hmod h1; omega)] at h
          exact Fin.curOk h.symm (by simp -implicitDefEqProofs [go_sem]) (.refl _) rfl hT hokH (by simp) (by simp)
      · rw [show 8 - i = (7 - i) + 1 by omega, List.drop_eq_nil_of_le (by omega), numG] at h
        refine Wp.s ?_
        simp -implicitDefEqProofs [go_sem, hbx_some hb, show (i : Int) < 8 by omega, show src.length ≤ i by omega]
        exact Fin.curErr h.symm (by simp -implicitDefEqProofs [go_sem]) rfl rfl hokH (by simp) (by simp)
    · rw [show 8 - i = 0 by omega, numG] at h
      refine Wp.s ?_
      simp -implicitDefEqProofs [go_sem, show ¬ ((i : Int) < 8) by omega]
      exact ⟨h.symm, Sh.forget (by simp -implicitDefEqProofs [go_sem]) rfl rfl⟩
  · rintro _ he
    refine Wp.s ?_
    simp -implicitDefEqProofs [go_sem]
    exact Fin.curErr he (by simp -implicitDefEqProofs [go_sem]) rfl rfl hokH (by simp) (by simp)
end Go.Proofs.YtfbjhkpdlihgeaaGreat
namespace Go.Proofs.YtfbjhkpdlihgeaaGreat
open Go.Proofs
/-- What a reader returns. -/
def rdv {α : Type} (val : α → CV) (zero : CV) : Except Nat (α × List UInt8) → CV
  | .ok (a, s) => .tup [val a, .sl .sh 1 (bs s), Go.Proofs.YtfbjhkpdlihgeaaGreat.er 0]
  | .error e => .tup [zero, .v (.slice none 0 0), Go.Proofs.YtfbjhkpdlihgeaaGreat.er e]
theorem number_len : ∀ (f i n : Nat) (src : List UInt8) {m : Nat} {r : List UInt8}, numG f i n src = .ok (m, r) → r.length ≤ src.length
  | 0, _, _, _, _, _, h => by rw [numG] at h; cases h
  | f + 1, _, _, [], _, _, h => by rw [numG] at h; cases h
  | f + 1, i, n, b :: s, m, r, h => by
    rw [numG] at h
    split at h
    · split at h
      · cases h
      · cases h; simp
    · have := number_len f _ _ s h
      rw [List.length_cons]; omega
theorem number_err : ∀ (f i n : Nat) (src : List UInt8) {e : Nat}, numG f i n src = .error e → e = 3 ∨ e = 10
  | 0, _, _, _, _, h => by rw [numG] at h; cases h; simp
  | f + 1, _, _, [], _, h => by rw [numG] at h; cases h; simp
  | f + 1, i, n, b :: s, e, h => by
    rw [numG] at h
    split at h
    · split at h
      · cases h; simp
      · cases h
    · exact number_err f _ _ s h

theorem readInt_cc (H : Hp) (V : List Nat) (tk : Tk) (src : List UInt8) (hl : src.length ≤ 1000000000) :
    CC Tryz.prog 82 [.sl tk 1 (bs src), .fn 83 []] H V (Pu (rdv (fun n : Nat => ci n) (ci 0) (number src)) H V) := by
  refine CC.of_swp Tryz.func82 rfl (by kernel_rfl) (by rw [Tryz.ntmps82]; exact len_le _ _ rfl) fun hok hokH => Wp.s ?_
  simp -implicitDefEqProofs [go_sem, args0]
  refine CC.mono (number_cc _ _ _ _ _ (at_len _ _)) ?_
  intro r H' V' h
  unfold Cur at h
  rcases hn : number src with e | ⟨n, s⟩
  · rw [hn] at h
    obtain ⟨rfl, rfl, rfl⟩ := h
    have he : ¬ e = 0 := by rcases number_err _ _ _ _ hn with rfl | rfl <;> decide
    simp -implicitDefEqProofs [go_sem, he]
    exact Fin.pu (.refl _) (by simp -implicitDefEqProofs [go_sem, rdv]) hokH (by simp) (by simp)
  · rw [hn] at h
    obtain ⟨rfl, rfl, rfl⟩ := h
    simp -implicitDefEqProofs [go_sem]
    refine CC.mono (clone_cc _ _ _ _ (by have := number_len _ _ _ _ hn; simp only [bs_len]; omega)) ?_
    rintro _ _ _ ⟨v', rfl, rfl, rfl⟩
    try simp -implicitDefEqProofs [go_sem]
    exact Fin.pu (.tup (.cons (.refl _) (.cons (.sh ..) (.cons (.refl _) .nil)))) (by simp -implicitDefEqProofs [go_sem, rdv]) hokH (by simp) (by simp)
theorem Int_cc (H : Hp) (V : List Nat) (tk : Tk) (src : List UInt8) (hl : src.length ≤ 1000000000) :
    CC Tryz.prog 57 [.sl tk 1 (bs src)] H V (Pu (rdv (fun n : Nat => ci n) (ci 0) (number src)) H V) := by
  refine CC.of_swp Tryz.func57 rfl (by kernel_rfl) (by rw [Tryz.ntmps57]; exact len_le _ _ rfl) fun hok hokH => Wp.s ?_
  simp -implicitDefEqProofs [go_sem, args0]
  refine CC.mono (readInt_cc _ _ _ _ hl) ?_
  rintro _ _ _ ⟨rfl, rfl, rfl⟩
  rcases hn : number src with e | ⟨n, s⟩
  · simp -implicitDefEqProofs [go_sem, rdv]
    exact Fin.pu (.refl _) (by simp -implicitDefEqProofs [go_sem]) hokH (by simp) (by simp)
  · simp -implicitDefEqProofs [go_sem, rdv]
    exact Fin.pu (.refl _) (by simp -implicitDefEqProofs [go_sem]) hokH (by simp) (by simp)
end Go.Proofs.YtfbjhkpdlihgeaaGreat
namespace Go.Proofs.YtfbjhkpdlihgeaaGreat
/-! ### Plain: reading -/
abbrev Pr (α : Type) := List UInt8 → Except Nat (α × List UInt8)
def lengthP : Pr Nat := fun s =>
  match number s with
  | .error e => .error e
  | .ok (n, r) => if 65536 < n then .error 5 else .ok (n, r)
def takeP (n : Nat) : Pr (List UInt8) := fun s => if s.length < n then .error 10 else .ok (s.take n, s.drop n)
def textP : Pr (List UInt8) := fun s =>
  match lengthP s with
  | .error e => .error e
  | .ok (n, r) => takeP n r
def secP : Pr Sec := fun s => if h : s.length < 8 then .error 10 else .ok (⟨s.take 8, by rw [List.length_take]; omega⟩, s.drop 8)
def pairP : Pr (Nat × Nat) := fun s =>
  match number s with
  | .error e => .error e
  | .ok (a, r) =>
    match number r with
    | .error e => .error e
    | .ok (b, r') => .ok ((a, b), r')
def extP : Pr Ext2 := fun s =>
  match pairP s with
  | .error e => .error e
  | .ok ((a, b), r) => .ok (⟨a, b⟩, r)
def repP {α : Type} (p : Pr α) : Nat → Pr (List α)
  | 0, s => .ok ([], s)
  | n + 1, s =>
    match p s with
    | .error e => .error e
    | .ok (a, r) =>
      match repP p n r with
      | .error e => .error e
      | .ok (l, r') => .ok (a :: l, r')
def listP {α : Type} (p : Pr α) : Pr (List α) := fun s =>
  match lengthP s with
  | .error e => .error e
  | .ok (n, r) => repP p n r
def intP : Pr Int := fun s =>
  match number s with
  | .error e => .error e
  | .ok (n, r) => .ok ((n : Int), r)
def wrP : Pr Wr := fun s =>
  match pairP s with
  | .error e => .error e
  | .ok ((a, b), r) =>
    match listP secP r with
    | .error e => .error e
    | .ok (l, r') => .ok (⟨a, b, l⟩, r')
/-- What was read already, ahead. -/
def ahead {α : Type} (xs : List α) : Except Nat (List α × List UInt8) → Except Nat (List α × List UInt8)
  | .error e => .error e
  | .ok (l, r) => .ok (xs ++ l, r)
theorem ahead_nil {α : Type} (x : Except Nat (List α × List UInt8)) : ahead [] x = x := by cases x <;> rfl
theorem rep_ok {α : Type} {p : Pr α} {n : Nat} {s r : List UInt8} {a : α} {xs : List α} (h : p s = .ok (a, r)) : ahead xs (repP p (n + 1) s) = ahead (xs ++ [a]) (repP p n r) := by
  rw [repP, h]
  dsimp only
  cases repP p n r with
  | error e => rfl
  | ok q => simp [ahead]
theorem rep_err {α : Type} {p : Pr α} {n e : Nat} {s : List UInt8} {xs : List α} (h : p s = .error e) : ahead xs (repP p (n + 1) s) = .error e := by
  rw [repP, h]; rfl
/-- A reader never gives error 0. -/
def Ne0 {α : Type} (p : Pr α) : Prop := ∀ s e, p s = .error e → e ≠ 0
theorem ne0_number : Ne0 number := fun s e h => by rcases number_err _ _ _ _ h with rfl | rfl <;> decide
theorem ne0_length : Ne0 lengthP := fun s e h => by
  unfold lengthP at h
  split at h
  · rename_i h1; cases h; exact ne0_number _ _ h1
  · split at h
    · cases h; decide
    · cases h
theorem ne0_int : Ne0 intP := fun s e h => by
  unfold intP at h
  split at h
  · rename_i h1; cases h; exact ne0_number _ _ h1
  · cases h
theorem ne0_take (n : Nat) : Ne0 (takeP n) := fun s e h => by
  unfold takeP at h
  split at h
  · cases h; decide
  · cases h
theorem ne0_text : Ne0 textP := fun s e h => by
  unfold textP at h
  split at h
  · rename_i h1; cases h; exact ne0_length _ _ h1
  · exact ne0_take _ _ _ h
theorem ne0_sec : Ne0 secP := fun s e h => by
  unfold secP at h
  split at h
  · cases h; decide
  · cases h
theorem ne0_pair : Ne0 pairP := fun s e h => by
  unfold pairP at h
  split at h
  · rename_i h1; cases h; exact ne0_number _ _ h1
  · split at h
    · rename_i h1; cases h; exact ne0_number _ _ h1
    · cases h
theorem ne0_ext : Ne0 extP := fun s e h => by
  unfold extP at h
  split at h
  · rename_i h1; cases h; exact ne0_pair _ _ h1
  · cases h
theorem ne0_rep {α : Type} {p : Pr α} (hp : Ne0 p) : ∀ n, Ne0 (repP p n)
  | 0, s, e, h => by rw [repP] at h; cases h
  | n + 1, s, e, h => by
    rw [repP] at h
    split at h
    · rename_i h1; cases h; exact hp _ _ h1
    · split at h
      · rename_i h1; cases h; exact ne0_rep hp n _ _ h1
      · cases h
theorem ne0_list {α : Type} {p : Pr α} (hp : Ne0 p) : Ne0 (listP p) := fun s e h => by
  unfold listP at h
  split at h
  · rename_i h1; cases h; exact ne0_length _ _ h1
  · exact ne0_rep hp _ _ _ h
theorem ne0_wr : Ne0 wrP := fun s e h => by
  unfold wrP at h
  split at h
  · rename_i h1; cases h; exact ne0_pair _ _ h1
  · split at h
    · rename_i h1; cases h; exact ne0_list ne0_sec _ _ h1
    · cases h
/-- What is left is not longer. -/
def Shr {α : Type} (p : Pr α) : Prop := ∀ s a r, p s = .ok (a, r) → r.length ≤ s.length
theorem shr_number : Shr number := fun _ _ _ h => number_len _ _ _ _ h
theorem shr_length : Shr lengthP := fun s a r h => by
  unfold lengthP at h
  split at h
  · cases h
  · rename_i h1
    split at h
    · cases h
    · cases h; exact shr_number _ _ _ h1
theorem length_le {s r : List UInt8} {n : Nat} (h : lengthP s = .ok (n, r)) : n ≤ 65536 := by
  unfold lengthP at h
  split at h
  · cases h
  · split at h
    · cases h
    · cases h; omega
theorem shr_int : Shr intP := fun s a r h => by
  unfold intP at h
  split at h
  · cases h
  · rename_i h1; cases h; exact shr_number _ _ _ h1
theorem shr_take (n : Nat) : Shr (takeP n) := fun s a r h => by
  unfold takeP at h
  split at h
  · cases h
  · cases h; rw [List.length_drop]; omega
theorem shr_text : Shr textP := fun s a r h => by
  unfold textP at h
  split at h
  · cases h
  · rename_i h1; exact Nat.le_trans (shr_take _ _ _ _ h) (shr_length _ _ _ h1)
theorem shr_sec : Shr secP := fun s a r h => by
  unfold secP at h
  split at h
  · cases h
  · cases h; rw [List.length_drop]; omega
theorem shr_pair : Shr pairP := fun s a r h => by
  unfold pairP at h
  split at h
  · cases h
  · rename_i h1
    split at h
    · cases h
    · rename_i h2; cases h; exact Nat.le_trans (shr_number _ _ _ h2) (shr_number _ _ _ h1)
theorem shr_ext : Shr extP := fun s a r h => by
  unfold extP at h
  split at h
  · cases h
  · rename_i h1; cases h; exact shr_pair _ _ _ h1
theorem shr_rep {α : Type} {p : Pr α} (hp : Shr p) : ∀ n, Shr (repP p n)
  | 0, s, a, r, h => by rw [repP] at h; cases h; exact Nat.le_refl _
  | n + 1, s, a, r, h => by
    rw [repP] at h
    split at h
    · cases h
    · rename_i h1
      split at h
      · cases h
      · rename_i h2; cases h; exact Nat.le_trans (shr_rep hp n _ _ _ h2) (hp _ _ _ h1)
theorem shr_list {α : Type} {p : Pr α} (hp : Shr p) : Shr (listP p) := fun s a r h => by
  unfold listP at h
  split at h
  · cases h
  · rename_i h1; exact Nat.le_trans (shr_rep hp _ _ _ _ h) (shr_length _ _ _ h1)
theorem shr_wr : Shr wrP := fun s a r h => by
  unfold wrP at h
  split at h
  · cases h
  · rename_i h1
    split at h
    · cases h
    · rename_i h2; cases h; exact Nat.le_trans (shr_list shr_sec _ _ _ h2) (shr_pair _ _ _ h1)
end Go.Proofs.YtfbjhkpdlihgeaaGreat
namespace Go.Proofs.YtfbjhkpdlihgeaaGreat
open Go.Proofs
/-- A cursor's call: the value and no error, and the rest left behind; or an error, and whatever is left. -/
def Rd {α : Type} (b : Nat) (tk : Tk) (val : α → CV) (Z : CV → Prop) (x : Except Nat (α × List UInt8)) (H : Hp) (V : List Nat) : CV → Hp → List Nat → Prop := fun r H' V' =>
  match x with
  | .ok (a, s) => r = .tup [val a, Go.Proofs.YtfbjhkpdlihgeaaGreat.er 0] ∧ H.set b (some [.sl tk 1 (bs s)]) = H' ∧ V = V'
  | .error e => ∃ z s, Z z ∧ r = .tup [z, Go.Proofs.YtfbjhkpdlihgeaaGreat.er e] ∧ H.set b (some [.sl tk 1 (bs s)]) = H' ∧ V = V'
/-- A cursor's call that gives two numbers. -/
def Rd3 (b : Nat) (tk : Tk) (x : Except Nat ((Nat × Nat) × List UInt8)) (H : Hp) (V : List Nat) : CV → Hp → List Nat → Prop := fun r H' V' =>
  match x with
  | .ok ((m, n), s) => r = .tup [ci m, ci n, Go.Proofs.YtfbjhkpdlihgeaaGreat.er 0] ∧ H.set b (some [.sl tk 1 (bs s)]) = H' ∧ V = V'
  | .error e => ∃ (m n : Int) (s : List UInt8), r = .tup [ci m, ci n, Go.Proofs.YtfbjhkpdlihgeaaGreat.er e] ∧ H.set b (some [.sl tk 1 (bs s)]) = H' ∧ V = V'
section
variable {H : Hp} {V : List Nat} {b : Nat} {tk : Tk} {α : Type} {val : α → CV} {Z : CV → Prop}
theorem Fin.rdOk {z c : CV} {x : Except Nat (α × List UInt8)} {a : α} {s : List UInt8} (hx : x = .ok (a, s)) (hz : okV H.length V.length (val a)) (h1 : Le z (val a)) (h2 : c = Go.Proofs.YtfbjhkpdlihgeaaGreat.er 0) (ht : okTk V.length tk) (hokH : ∀ (b : Nat) cs, H[b]? = some (some cs) → okL H.length V.length cs) {H' : Hp} {V' : List Nat} (hH : H'.take H.length = H.set b (some [.sl tk 1 (bs s)])) (hV : V'.take V.length = V) :
    Fin H.length V.length (Rd b tk val Z x H V) (.tup [z, c]) H' V' := by
  subst hx h2
  exact Fin.pure (r' := .tup [val a, Go.Proofs.YtfbjhkpdlihgeaaGreat.er 0]) (by exact ⟨rfl, rfl, rfl⟩) hH hV (.tup (.cons h1 (.cons (.refl _) .nil))) (by simp -implicitDefEqProofs [go_sem, hz]) (ok_set (by simp -implicitDefEqProofs [go_sem, okV_slt, ht]) hokH)
theorem Fin.rd3Ok {m n c : CV} {x : Except Nat ((Nat × Nat) × List UInt8)} {a a' : Nat} {s : List UInt8} (hx : x = .ok ((a, a'), s)) (h0 : m = ci a) (h1 : n = ci a') (h2 : c = Go.Proofs.YtfbjhkpdlihgeaaGreat.er 0) (ht : okTk V.length tk) (hokH : ∀ (b : Nat) cs, H[b]? = some (some cs) → okL H.length V.length cs) {H' : Hp} {V' : List Nat} (hH : H'.take H.length = H.set b (some [.sl tk 1 (bs s)])) (hV : V'.take V.length = V) :
    Fin H.length V.length (Rd3 b tk x H V) (.tup [m, n, c]) H' V' := by
  subst hx h0 h1 h2
  exact Fin.pure (by exact ⟨rfl, rfl, rfl⟩) hH hV (.refl _) (by simp -implicitDefEqProofs [go_sem]) (ok_set (by simp -implicitDefEqProofs [go_sem, okV_slt, ht]) hokH)
theorem Fin.rd3Err {c : CV} {m n : Int} {x : Except Nat ((Nat × Nat) × List UInt8)} {e : Nat} {s : List UInt8} (hx : x = .error e) (h2 : c = Go.Proofs.YtfbjhkpdlihgeaaGreat.er e) (ht : okTk V.length tk) (hokH : ∀ (b : Nat) cs, H[b]? = some (some cs) → okL H.length V.length cs) {H' : Hp} {V' : List Nat} (hH : H'.take H.length = H.set b (some [.sl tk 1 (bs s)])) (hV : V'.take V.length = V) :
    Fin H.length V.length (Rd3 b tk x H V) (.tup [ci m, ci n, c]) H' V' := by
  subst hx h2
  exact Fin.pure (by exact ⟨m, n, s, rfl, rfl, rfl⟩) hH hV (.refl _) (by simp -implicitDefEqProofs [go_sem]) (ok_set (by simp -implicitDefEqProofs [go_sem, okV_slt, ht]) hokH)
theorem Fin.rdErr {z z' c : CV} {x : Except Nat (α × List UInt8)} {e : Nat} {s : List UInt8} (hx : x = .error e) (hZ : Z z') (hz : okV H.length V.length z') (h1 : Le z z') (h2 : c = Go.Proofs.YtfbjhkpdlihgeaaGreat.er e) (ht : okTk V.length tk) (hokH : ∀ (b : Nat) cs, H[b]? = some (some cs) → okL H.length V.length cs) {H' : Hp} {V' : List Nat} (hH : H'.take H.length = H.set b (some [.sl tk 1 (bs s)])) (hV : V'.take V.length = V) :
    Fin H.length V.length (Rd b tk val Z x H V) (.tup [z, c]) H' V' := by
  subst hx h2
  exact Fin.pure (r' := .tup [z', Go.Proofs.YtfbjhkpdlihgeaaGreat.er e]) (by exact ⟨z', s, hZ, rfl, rfl, rfl⟩) hH hV (.tup (.cons h1 (.cons (.refl _) .nil))) (by simp -implicitDefEqProofs [go_sem, hz]) (ok_set (by simp -implicitDefEqProofs [go_sem, okV_slt, ht]) hokH)
end
section
variable {H L : Hp} {b k : Nat} {c d : Option (List CV)} {cs : List CV} {K : List CV → Prop}
theorem hbx_set (h : b < H.length) : hbx (H.set b (some cs)) b K = K cs := hbx_some (by rw [List.getElem?_set_self h]) K
theorem hbx_left (h : b < H.length) : hbx (H ++ L) b K = hbx H b K := by simp only [hbx, List.getElem?_append_left h]
@[go_sem] theorem hbx_at (h : k = H.length) : hbx (H ++ some cs :: L) k K = K cs := by subst h; exact hbx_new H cs L K
@[go_sem] theorem set_at (h : k = H.length) : (H ++ c :: L).set k d = H ++ d :: L := by
  subst h; rw [List.set_append_right _ _ (Nat.le_refl _), Nat.sub_self]; rfl
theorem set_left (h : b < H.length) : (H ++ L).set b d = H.set b d ++ L := List.set_append_left _ _ h
theorem take_set : (H.set b d).take H.length = H.set b d := List.take_of_length_le (by simp)
theorem take_set2 : (H.set b d ++ L).take H.length = H.set b d := by
  rw [List.take_append_of_le_length (by simp), List.take_of_length_le (by simp)]
end
theorem lt_of_box {H : Hp} {b : Nat} {x : Option (List CV)} (h : H[b]? = some x) : b < H.length := (List.getElem?_eq_some_iff.1 h).1
theorem set_same {H : Hp} {b : Nat} {c : Option (List CV)} (h : H[b]? = some c) : H.set b c = H := by
  obtain ⟨h1, h2⟩ := List.getElem?_eq_some_iff.1 h
  rw [← h2]; exact List.set_getElem_self h1
theorem number_rd (H : Hp) (V : List Nat) (b : Nat) (tk : Tk) (src : List UInt8) (hb : H[b]? = some (some [.sl tk 1 (bs src)])) :
    CC Tryz.prog 83 [.ptr b 0] H V (Rd b tk (fun n : Nat => ci n) (· = ci 0) (number src) H V) := by
  refine CC.mono (number_cc _ _ _ _ _ hb) fun r H' V' h => ?_
  unfold Cur at h
  unfold Rd
  rcases hn : number src with e | ⟨n, s⟩ <;> rw [hn] at h
  · obtain ⟨h1, h2, h3⟩ := h
    exact ⟨_, src, rfl, h1, by rw [set_same hb]; exact h2, h3⟩
  · exact h
theorem Fin.rdErr0 {H : Hp} {V : List Nat} {b : Nat} {tk : Tk} {α : Type} {val : α → CV} {Z : CV → Prop} {z z' c : CV} {src : List UInt8} {x : Except Nat (α × List UInt8)} {e : Nat} (hb : H[b]? = some (some [.sl tk 1 (bs src)])) (hx : x = .error e) (hZ : Z z') (hz : okV H.length V.length z') (h1 : Le z z') (h2 : c = Go.Proofs.YtfbjhkpdlihgeaaGreat.er e) (ht : okTk V.length tk) (hokH : ∀ (b : Nat) cs, H[b]? = some (some cs) → okL H.length V.length cs) {H' : Hp} {V' : List Nat} (hH : H'.take H.length = H) (hV : V'.take V.length = V) :
    Fin H.length V.length (Rd b tk val Z x H V) (.tup [z, c]) H' V' :=
  Fin.rdErr hx hZ hz h1 h2 ht hokH (by rw [hH, set_same hb]) hV
theorem length_rd (H : Hp) (V : List Nat) (b : Nat) (tk : Tk) (src : List UInt8) (hb : H[b]? = some (some [.sl tk 1 (bs src)])) :
    CC Tryz.prog 107 [.ptr b 0] H V (Rd b tk (fun n : Nat => ci n) (fun z => ∃ n, z = ci n) (lengthP src) H V) := by
  have hbl := lt_of_box hb
  refine CC.of_swp Tryz.func107 rfl (by kernel_rfl) (by rw [Tryz.ntmps107]; exact len_le _ _ rfl) fun hok hokH => ?_
  have ht := tk_of_box hb hokH
  refine SWp.seq (Wp.s ?_)
  simp -implicitDefEqProofs [go_sem, args0]
  refine SWp.seq (Wp.s ?_)
  simp -implicitDefEqProofs [go_sem]
  refine CC.mono (number_rd _ _ _ _ _ hb) ?_
  intro r H' V' h
  unfold Rd at h
  rcases hn : number src with e | ⟨n, s⟩ <;> rw [hn] at h
  · obtain ⟨_, s, rfl, rfl, rfl, rfl⟩ := h
    have he := ne0_number _ _ hn
    simp -implicitDefEqProofs [go_sem]
    refine Wp.s ?_
    simp -implicitDefEqProofs [go_sem, he]
    exact Fin.rdErr (by unfold lengthP; rw [hn]) ⟨0, rfl⟩ (by simp -implicitDefEqProofs [go_sem]) (.refl _) rfl ht hokH take_set (by simp)
  · obtain ⟨rfl, rfl, rfl⟩ := h
    simp -implicitDefEqProofs [go_sem]
    refine Wp.s ?_
    simp -implicitDefEqProofs [go_sem]
    exact ⟨fun h => Fin.rdErr (e := 5) (by unfold lengthP; rw [hn]; dsimp only; rw [if_pos (by omega)]) ⟨n, rfl⟩ (by simp -implicitDefEqProofs [go_sem]) (.refl _) rfl ht hokH take_set (by simp), fun h => Fin.rdOk (by unfold lengthP; rw [hn]; dsimp only; rw [if_neg (by omega)]) (by simp -implicitDefEqProofs [go_sem]) (.refl _) rfl ht hokH take_set (by simp)⟩
theorem bytes_rd (H : Hp) (V : List Nat) (b : Nat) (tk : Tk) (src : List UInt8) (n : Nat) (hb : H[b]? = some (some [.sl tk 1 (bs src)])) :
    CC Tryz.prog 119 [.ptr b 0, ci n] H V (Rd b tk (fun s : List UInt8 => .sl .sh 1 (bs s)) (· = .v (.slice none 0 0)) (takeP n src) H V) := by
  have hbl := lt_of_box hb
  refine CC.of_swp Tryz.func119 rfl (by kernel_rfl) (by rw [Tryz.ntmps119]; exact len_le _ _ rfl) fun hok hokH => ?_
  have ht := tk_of_box hb hokH
  refine SWp.seq (Wp.s ?_)
  simp -implicitDefEqProofs [go_sem, args0]
  by_cases hn : src.length < n
  · refine Wp.s ?_
    simp -implicitDefEqProofs [go_sem, hbx_some hb, show (src.length : Int) < n by omega]
    exact Fin.rdErr0 (e := 10) hb (by unfold takeP; rw [if_pos hn]) (by exact rfl) (by simp -implicitDefEqProofs [go_sem]) (.refl _) rfl ht hokH (by simp) (by simp)
  · refine Wp.s ?_
    simp -implicitDefEqProofs [go_sem, hbx_some hb, show ¬ (src.length : Int) < n by omega]
    exact ⟨by omega, Fin.rdOk (by unfold takeP; rw [if_neg hn]) (by simp -implicitDefEqProofs [go_sem]) (.refl _) rfl ht hokH take_set (by simp)⟩
/-- A struct's or an array's value. -/
def Ag (n : Nat) (z : CV) : Prop := ∃ cs, z = .agg cs ∧ cs.length = n ∧ allOne cs = true ∧ ∀ i j, okL i j cs
theorem val_take (s : Sec) : s.val.take 8 = s.val := List.take_of_length_le (by rw [s.len]; exact Nat.le_refl _)
theorem val_len (s : Sec) : s.val.length = 8 := s.len
theorem sec_flat (s : Sec) : (bs s.val).flatten = secC s := by
  have : ∀ l : List UInt8, (bs l).flatten = l.map fun b => CV.v (.int .u8 (b.toNat : Int)) := by
    intro l
    induction l with
    | nil => rfl
    | cons b l ih => rw [bs, List.map_cons, List.flatten_cons, List.map_cons, ← ih]; rfl
  exact this _
theorem sec_take (src : List UInt8) : secP src = (match takeP 8 src with
    | .error e => .error e
    | .ok (q, s) => if h : q.length = 8 then .ok (⟨q, h⟩, s) else .error 10) := by
  unfold secP takeP
  by_cases h : src.length < 8
  · rw [dif_pos h, if_pos h]
  · rw [dif_neg h, if_neg h]; dsimp only; rw [dif_pos (by rw [List.length_take]; omega)]
theorem sector_rd (H : Hp) (V : List Nat) (b : Nat) (tk : Tk) (src : List UInt8) (hb : H[b]? = some (some [.sl tk 1 (bs src)])) :
    CC Tryz.prog 117 [.ptr b 0] H V (Rd b tk (fun s : Sec => .agg (secC s)) (Ag 8) (secP src) H V) := by
  have hbl := lt_of_box hb
  refine CC.of_swp Tryz.func117 rfl (by kernel_rfl) (by rw [Tryz.ntmps117]; exact len_le _ _ rfl) fun hok hokH => ?_
  have ht := tk_of_box hb hokH
  refine SWp.seq (Wp.s ?_)
  simp -implicitDefEqProofs [go_sem, args0]
  refine SWp.seq (Wp.s ?_)
  simp -implicitDefEqProofs [go_sem]
  refine CC.mono (bytes_rd _ _ _ _ _ 8 (by rw [List.getElem?_append_left hbl]; exact hb)) ?_
  intro r H' V' h
  unfold Rd at h
  rcases hn : takeP 8 src with e | ⟨q, s⟩ <;> rw [hn] at h
  · obtain ⟨_, s, rfl, rfl, rfl, rfl⟩ := h
    have he := ne0_take _ _ _ hn
    simp -implicitDefEqProofs [go_sem, set_left hbl]
    refine Wp.s ?_
    simp -implicitDefEqProofs [go_sem, he]
    exact Fin.rdErr (by rw [sec_take, hn]) (by exact ⟨_, rfl, rfl, rfl, fun i j => by simp -implicitDefEqProofs [go_sem]⟩) (by simp -implicitDefEqProofs [go_sem]) (.refl _) rfl ht hokH take_set2 (by simp)
  · obtain ⟨rfl, rfl, rfl⟩ := h
    obtain ⟨s0, rfl, hs0⟩ : ∃ s0 : Sec, q = s0.val ∧ secP src = .ok (s0, s) := by
      rw [sec_take, hn]
      dsimp only
      unfold takeP at hn
      split at hn
      · cases hn
      · rename_i h8
        cases hn
        exact ⟨⟨_, by rw [List.length_take]; omega⟩, rfl, by rw [dif_pos (by rw [List.length_take]; omega)]⟩
    simp -implicitDefEqProofs [go_sem, set_left hbl]
    refine Wp.s ?_
    simp -implicitDefEqProofs [go_sem, val_take, val_len, sec_flat]
    exact Fin.rdOk hs0 (by simp -implicitDefEqProofs [go_sem]) (.refl _) rfl ht hokH take_set2 (by simp)
theorem pair_rd (H : Hp) (V : List Nat) (b : Nat) (tk : Tk) (src : List UInt8) (hb : H[b]? = some (some [.sl tk 1 (bs src)])) :
    CC Tryz.prog 108 [.ptr b 0] H V (Rd3 b tk (pairP src) H V) := by
  have hbl := lt_of_box hb
  refine CC.of_swp Tryz.func108 rfl (by kernel_rfl) (by rw [Tryz.ntmps108]; exact len_le _ _ rfl) fun hok hokH => ?_
  have ht := tk_of_box hb hokH
  refine SWp.seq (Wp.s ?_)
  simp -implicitDefEqProofs [go_sem, args0]
  refine SWp.seq (Wp.s ?_)
  simp -implicitDefEqProofs [go_sem]
  refine CC.mono (number_rd _ _ _ _ _ hb) ?_
  intro r H' V' h
  unfold Rd at h
  rcases hn : number src with e | ⟨n, s⟩ <;> rw [hn] at h
  · obtain ⟨_, s, rfl, rfl, rfl, rfl⟩ := h
    have he := ne0_number _ _ hn
    simp -implicitDefEqProofs [go_sem]
    refine Wp.s ?_
    simp -implicitDefEqProofs [go_sem, he]
    exact Fin.rd3Err (by unfold pairP; rw [hn]) rfl ht hokH take_set (by simp)
  · obtain ⟨rfl, rfl, rfl⟩ := h
    simp -implicitDefEqProofs [go_sem]
    refine Wp.s ?_
    simp -implicitDefEqProofs [go_sem]
    refine CC.mono (number_rd _ _ _ _ _ (List.getElem?_set_self hbl)) ?_
    intro r H' V' h
    unfold Rd at h
    rcases hm : number s with e | ⟨m, s'⟩ <;> rw [hm] at h
    · obtain ⟨_, s', rfl, rfl, rfl, rfl⟩ := h
      have he := ne0_number _ _ hm
      simp -implicitDefEqProofs [go_sem]
      exact Fin.rd3Err (by unfold pairP; rw [hn]; dsimp only; rw [hm]) rfl ht hokH take_set (by simp)
    · obtain ⟨rfl, rfl, rfl⟩ := h
      simp -implicitDefEqProofs [go_sem]
      exact Fin.rd3Ok (by unfold pairP; rw [hn]; dsimp only; rw [hm]) rfl rfl rfl ht hokH take_set (by simp)
end Go.Proofs.YtfbjhkpdlihgeaaGreat
