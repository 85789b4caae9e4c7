import Derived.Test.YtfflhepmkhlppaaGreatDoorB3
import Derived.ChangeKeysEq
import Derived.Test.YtfflhepmkhlppaaGreatDoorChecked
set_option linter.unusedSimpArgs false
set_option linter.unusedVariables false
set_option linter.unusedSectionVars false
set_option maxRecDepth 8000
set_option maxHeartbeats 4000000
open List (all_append all_cons all_eq_true all_map any_eq_true append_assoc append_nil cons_append contains_iff_mem drop_append_of_le_length drop_drop drop_eq_getElem_cons drop_eq_nil_of_le drop_of_length_le drop_one drop_succ_cons drop_take drop_zero eq_nil_of_length_eq_zero ext_getElem ext_getElem? filter_cons flatMap_append flatMap_cons flatMap_nil flatten_append flatten_cons flatten_nil foldl_append foldl_cons getD_eq_getElem?_getD getElem?_append getElem?_append_left getElem?_append_right getElem?_cons_succ getElem?_cons_zero getElem?_drop getElem?_eq_getElem getElem?_eq_none getElem?_map getElem?_of_mem getElem?_replicate getElem?_set getElem?_set_ne getElem?_set_self getElem?_take getElem?_toArray getElem_drop getElem_map getElem_mem getElem_of_mem getElem_set length_append length_cons length_drop length_eq_zero_iff length_map length_nil length_pos_iff length_range length_replicate length_set length_singleton length_take mapM_cons map_append map_congr_left map_cons map_drop map_map map_nil map_set map_take mem_append mem_append_left mem_cons mem_cons_of_mem mem_cons_self mem_flatten mem_map mem_of_getElem? mem_of_mem_drop mem_of_mem_take mem_range mem_replicate mem_singleton nil_append not_mem_nil prefix_refl range_succ replicate_succ replicate_succ' set_append_left set_append_right set_eq_take_append_cons_drop set_getElem_self set_set size_toArray take_append take_append_drop take_append_of_le_length take_left take_length take_of_length_le take_set_of_le take_succ_cons take_succ_eq_append_getElem take_take take_zero zip_cons_cons)
open Nat (le_refl zero_le)
namespace Go.Proofs.YtfflhepmkhlppaaGreatDoor
open Go.Proofs
section
variable {P : Program}
theorem tX {d : Option Tmp} {t ty : TypeId} {pos : String} {after : Array Edge} {x : Operand} {ev : Operand -> CV} {H : Hp} {V : List Nat} (hx : ev x = .v (.slice none 0 0)) (ht : (aZ P t).isSome = true) :
 O0 P ⟨d, .call ⟨.builtin .cap, #[x], #[t]⟩, ty, pos, after, none⟩ ev H V (ci 0) H V := by
 intro m w a hi hev;have hxr := hev x;rw [hx, ag] at hxr;obtain ⟨e, sz, ht⟩ := EO ht;obtain ⟨i, z, hu, dO, hsz, bY, hb0, hb1, hz, hzs⟩ := ba ht;refine ⟨.int .i64 0, w, m, ?_, hi, by rw [ag], bh.refl m w V⟩;simp [execOp, resolve, invoke, builtin, hxr, Builtin.cap_, run_underlying hu, goInt]
 try rfl
theorem St.put {D : Dl} {n : Nat} {m m' : Gh} {w w' : World} {a : Act} {T : Tm} {H H' : Hp} {V V' : List Nat} {d : Option Tmp} {c : CV} {u : Value} (hs : St D n m w a T H V) (hd : kv d n) (h2 : bE m' w' H' V') (h3 : ag m' w' V' c u) (h4 : bh m w V m' w' V') :
 St D n m' w' (a.put d u) (bQ d c T) H' V' :=
 ⟨h2, (dC.mono h4 hs.tm).put h3 (by rw [hs.size]; exact hd), by rw [cg]; exact hs.size, by rw [bu]; exact hs.df.mono h4⟩
def MW (P : Program) (n : Nat) (ops mid : List Oper) (T : Tm) (H : Hp) (V : List Nat) (K : Tm -> Hp -> List Nat -> Prop) : Prop :=
 ∀ (ro : Option Nat) (Q : Exit -> Act -> World -> Prop) (l2 : List Oper) (D : Dl) (a : Act) (m : Gh) (w : World), St D n m w a T H V →
  (∀ T' H' V' a' w' m', K T' H' V' -> St D n m' w' a' T' H' V' -> bh m w V m' w' V' -> wpListIn (g8 ro) 0 P ops.toArray Q l2 a' w') -> wpListIn (g8 ro) 0 P ops.toArray Q (mid ++ l2) a w
section
variable {n nb nv id : Nat} {Q : Exit -> Tm -> Hp -> List Nat -> Prop} {T : Tm} {H : Hp} {V : List Nat} {ops mid mid2 : List Oper} {K : Tm -> Hp -> List Nat -> Prop}
theorem MW.crun {l : List Oper} (h : gC P n (ops.map (·.dst)) l T H V K) : MW P n ops l T H V K := by
 rw [gC, <- bF] at h;exact fun ro Q l2 D a m w hs hK => d7 l hs h hK
theorem MW.app (h : MW P n ops mid T H V fun T H V => MW P n ops mid2 T H V K) : MW P n ops (mid ++ mid2) T H V K := fun ro Q l2 D a m w hs hK => by
 rw [append_assoc];exact h ro Q (mid2 ++ l2) D a m w hs fun T' H' V' a' w' m' k s x => k ro Q l2 D a' m' w' s fun T2 H2 V2 a2 w2 m2 k2 s2 x2 => hK T2 H2 V2 a2 w2 m2 k2 s2 (x.trans x2)
theorem MW.opx {o : Oper} {c : CV} {H' : Hp} {V' : List Nat} (hg : o.guard = none) (hnd : ∀ c, o.op ≠ .defer c) (hd : kv o.dst n) (h : O0 P o (em T) H V c H' V') (hk : K (bQ o.dst c T) H' V') : MW P n ops [o] T H V K := fun ro Q l2 D a m w hs hK => by
 obtain ⟨u, w', m', q1, q2, q3, q4⟩ := h m w a hs.inv (fun x => fw hs.tm x);show wpListIn (g8 ro) 0 P ops.toArray Q (o :: l2) a w;unfold wpListIn;rw [if_pos (by simp [Region.wanted, hg])];exact dL hnd q1 (hK _ _ _ _ _ _ hk (hs.put hd q2 q3 q4) q4)
theorem ac.mw (h : MW P n ops ops T H V (Q .normal)) : ac P n nb nv (.region id ops.toArray false) Q T H V := by
 intro ro D m w a m0 w0 V0 h1 h2 h3 hx hs;refine wpIn_region_list ?_;have := h ro (fun e a' w' => ∃ T' H' V' m', Q e T' H' V' /\ St D n m' w' a' T' H' V' /\ bh m0 w0 V0 m' w' V') [] D a m w hs fun T' H' V' a' w' m' k s x => by
  unfold wpListIn;exact ⟨T', H', V', m', k, s, hx.trans x⟩
 rwa [append_nil] at this
theorem th {a : Act} {i : Nat} {u : Value} (h : i < a.tmps.size) : (a.put (some i) u).tmps.getD i undef = u := by
 simp [Act.put, h]
theorem xh {a : Act} {i j : Nat} {u : Value} (h : i ≠ j) : (a.put (some i) u).tmps.getD j undef = a.tmps.getD j undef := by
 simp only [Act.put, Array.getD_eq_getD_getElem?];rw [Array.getElem?_setIfInBounds_ne h]
theorem MW.room {t tI e : TypeId} {sz : Nat} {zs : List Value} {i1 i2 i3 i4 k0 : Nat} {x y : Operand} {k : IntKind} {N : Int} {ty1 ty2 ty3 ty4 : TypeId} {p1 p2 p3 p4 : String} {f1 f2 f3 f4 : Array Edge}
 (ht : aZ P t = some (e, sz)) (hI : IA P tI = true) (hz' : ck P e = some zs) (hx : em T x = .v (.slice none 0 0)) (hy : em T y = .v (.int k N)) (h0 : bt T k0 = .v (.slice none 0 0)) (hN : 1 <= N) (hN2 : N <= 1099511627776)
 (hn : i1 < n /\ i2 < n /\ i3 < n /\ i4 < n) (hne : i1 ≠ i2 /\ i1 ≠ i3 /\ i2 ≠ i3 /\ i1 ≠ k0) (hk : K ((i4, .sl (.own V.length 0) sz []) :: (i3, .any) :: (i2, .any) :: (i1, .any) :: T) H (V ++ [0])) :
 MW P n ops [⟨some i1, .call ⟨.builtin .append, #[x, y], #[t, tI]⟩, ty1, p1, f1, none⟩, ⟨some i2, .move (.tmp k0), ty2, p2, f2, none⟩, ⟨some i3, .call ⟨.builtin .len, #[.tmp i2], #[t]⟩, ty3, p3, f3, none⟩, ⟨some i4, .slice t (.tmp i1) none (some (.tmp i3)) none, ty4, p4, f4, none⟩] T H V K := fun ro Q l2 D a m w hs hK => by
 obtain ⟨n1, n2, n3, n4⟩ := hn;obtain ⟨e12, e13, e23, e10⟩ := hne;obtain ⟨i, z, hu, dO, hsz, bY, hb0, hb1, hz, hzs⟩ := ba ht;obtain ⟨i', z', q1, q2, q3, q4⟩ := lA hz';rw [dO] at q1; cases q1;rw [hz] at q2; cases q2;subst q3 hsz;have vx := fw hs.tm x;rw [hx, ag] at vx;have vy := fw hs.tm y;rw [hy, ag] at vy;have v0 := hs.tm k0;rw [h0, ag] at v0;have oF := yc.of_int (P := P) (t := t) (tx := tI) (ty := ty1) (w := w) (k := k) hu dO hz hzs bY hb0 hb1 hI q4 (show (0 : Int) <= N by omega) hN2;have hgr := oF.grow none 0 0 [] (run_firstCells_none w.drew i.size 0 0 0) (by omega) (by omega) (by omega);obtain ⟨cells, hcells⟩ : ∃ cells : Array Value, cells = ([] ++ (List.replicate N.toNat z.cells.toList).flatten).toArray ++ Builtin.zeroCells z.cells (grownCap w (0 + N.toNat) 0 e - (0 + N.toNat)) := ⟨_, rfl⟩
 rw [<- hcells] at hgr;obtain ⟨cap, hcap⟩ : ∃ cap, cap = grownCap w (0 + N.toNat) 0 e := ⟨_, rfl⟩
 have hcapg : 0 + N.toNat <= cap := hcap ▸ grownCap_ge w (0 + N.toNat) 0 e;have hcs : cap * i.size <= cells.size := by
  rw [hcells];simp only [Array.size_append, size_toArray, nil_append, size_zeroCells, hzs, oF.newsLen, <- Nat.add_mul];rw [<- hcap];exact Nat.mul_le_mul_right _ (by omega)
 rw [<- hcap] at hgr;have hp := bC.drewAlloc w (.cells cells e);obtain ⟨s1, s2⟩ := lF hs.inv hp 0 (zero_le _);show wpListIn (g8 ro) 0 P ops.toArray Q (_ :: _ :: _ :: _ :: l2) a w;have any : ∀ {m' : Gh} {w' : World} {V' : List Nat} {u : Value}, ag m' w' V' .any u := by intros; rw [ag]; trivial
 have st1 := hs.put (d := some i1) (c := .any) (u := .slice (some ⟨w.heap.size, 0, none⟩) (0 + N.toNat) cap) n1 s1 any s2;have z1 : a.tmps.size = n := hs.size;unfold wpListIn;rw [if_pos (by simp [Region.wanted])];refine dL (u := .slice (some ⟨w.heap.size, 0, none⟩) (0 + N.toNat) cap) (w' := w.drew.alloc (.cells cells e)) (by intro c h; cases h) ?_ ?_
 · simp [execOp, resolve, invoke, builtin, vx, vy, hgr]
 have g1 := th (a := a) (i := i1) (u := .slice (some ⟨w.heap.size, 0, none⟩) (0 + N.toNat) cap) (by omega);have g0 := xh (a := a) (i := i1) (j := k0) (u := .slice (some ⟨w.heap.size, 0, none⟩) (0 + N.toNat) cap) e10;rw [v0] at g0;dsimp only at st1 ⊢;generalize a.put (some i1) (.slice (some ⟨w.heap.size, 0, none⟩) (0 + N.toNat) cap) = a1 at st1 g1 g0 ⊢;have st2 := st1.put (d := some i2) (c := .any) (u := .slice none 0 0) n2 s1 any (bh.refl _ _ _);have z2 : a1.tmps.size = n := st1.size;unfold wpListIn;rw [if_pos (by simp [Region.wanted])];refine dL (u := .slice none 0 0) (w' := w.drew.alloc (.cells cells e)) (by intro c h; cases h) ?_ ?_
 · have : a1.eval (.tmp k0) = .slice none 0 0 := g0
   simp [execOp, this]
 have b1 := (xh (a := a1) (i := i2) (j := i1) (u := .slice none 0 0) (fun q => e12 q.symm)).trans g1;have b2 := th (a := a1) (i := i2) (u := .slice none 0 0) (by omega);dsimp only at st2 ⊢;generalize a1.put (some i2) (.slice none 0 0) = a2 at st2 b1 b2 ⊢;have st3 := st2.put (d := some i3) (c := .any) (u := .int .i64 0) n3 s1 any (bh.refl _ _ _);have z3 : a2.tmps.size = n := st2.size;unfold wpListIn;rw [if_pos (by simp [Region.wanted])];refine dL (u := .int .i64 0) (w' := w.drew.alloc (.cells cells e)) (by intro c h; cases h) ?_ ?_
 · have : a2.eval (.tmp i2) = .slice none 0 0 := b2
   simp [execOp, resolve, invoke, builtin, this, Builtin.len_, run_underlying hu, goInt]
   try rfl
 have c1 := (xh (a := a2) (i := i3) (j := i1) (u := .int .i64 0) (fun q => e13 q.symm)).trans b1;have c3 := th (a := a2) (i := i3) (u := .int .i64 0) (by omega);dsimp only at st3 ⊢;generalize a2.put (some i3) (.int .i64 0) = a3 at st3 c1 c3 ⊢;have st4 := st3.put (d := some i4) (c := .sl (.own V.length 0) i.size []) (u := .slice (some ⟨w.heap.size, 0, none⟩) 0 cap) n4 s1 (by
  rw [ag];refine ⟨_, _, rfl, zero_le _, ⟨0, by rw [getElem?_append_right (le_refl _), Nat.sub_self]; rfl, le_refl _, fun _ => .inr ⟨w.heap.size, 0, cells, e, rfl, ?_, ?_, hp.new, by omega⟩⟩, bY, .inl rfl⟩
  · show (m.tip ++ [some w.heap.size])[V.length]? = _
    rw [<- hs.inv.tiplen, getElem?_append_right (le_refl _), Nat.sub_self]; rfl
  · simp) (bh.refl _ _ _)
 unfold wpListIn;rw [if_pos (by simp [Region.wanted])];refine dL (u := .slice (some ⟨w.heap.size, 0, none⟩) 0 cap) (w' := w.drew.alloc (.cells cells e)) (by intro c h; cases h) ?_ (hK _ _ _ _ _ _ hk st4 s2);have r1 : a3.eval (.tmp i1) = .slice (some ⟨w.heap.size, 0, none⟩) (0 + N.toNat) cap := c1;have r3 : a3.eval (.tmp i3) = .int .i64 0 := c3;have hb := fK (P := P) (m := m) (w := w.drew.alloc (.cells cells e)) (V := V) (lo := none) (hi := some (.tmp 0)) (mx := none) (ev := fun _ => ci 0) (ρ := fun _ => .int .i64 0) (fun _ => by rw [ag]) trivial (Int.le_refl _) trivial true N.toNat cap (by omega) (le_refl _) (zero_le _) (by simp);simp only [Option.map_none, Option.map_some, bU] at hb;simp [execOp, r1, r3, Instr.sliceAt, Instr.slice, run_underlying hu, cW ht, hb, bV]
end
end
def Ge (c d : CV) : Prop := ∀ (m : Gh) (w : World) (V : List Nat) (u : Value), ag m w V c u -> ag m w V d u
theorem Ge.slk {tk : Tk} {sz : Nat} {xs ys : List (List CV)} (h : lz xs ys) : Ge (.sl tk sz xs) (.sl tk sz ys) := fun m w V u hu => by
 rw [ag] at hu ⊢;obtain ⟨base, cap, h1, h2, h3, h4, h5⟩ := hu;have e := h.len;refine ⟨base, cap, by rw [<- e]; exact h1, by rw [<- e]; exact h2, by rw [<- e]; exact h3, h4, ?_⟩;rcases h5 with rfl | ⟨k, o, hb, hl, he⟩
 · refine .inl ?_
   cases h; rfl
 · exact .inr ⟨k, o, hb, by rw [<- e]; exact hl, h.rel he⟩
inductive gE (k : Nat) : CV -> CV -> Prop
 | le {c d : CV} (h : Le c d) : gE k c d
 | nil {sz : Nat} (h : 0 < sz) : gE k (.v (.slice none 0 0)) (.sl (.own k 0) sz [])
 | ti {sz : Nat} {xs : List (List CV)} : gE k (.sl .ti sz xs) (.sl (.own k 0) sz xs)
 | ge {c d e : CV} (h : Ge c d) (g : gE k d e) : gE k c e
theorem gE.rel {m : Gh} {w : World} {V : List Nat} {k : Nat} {c d : CV} {u : Value} (h : gE k c d) (hk : V[k]? = some 0) (hu : ag m w V c u) : ag m w V d u := by
 induction h with
 | ge h _ ih => exact ih (h m w V u hu)
 | le h => exact h.rel hu
 | nil h =>
  rw [ag] at hu; rw [ag];exact ⟨none, 0, hu, le_refl _, ⟨0, hk, le_refl _, fun _ => .inl rfl⟩, h, .inl rfl⟩
 | ti =>
  rw [ag] at hu; rw [ag];obtain ⟨base, cap, q1, q2, q3, q4, q5⟩ := hu;exact ⟨base, cap, q1, q2, ⟨0, hk, le_refl _, fun _ => .inl q3⟩, q4, q5⟩
def ub (k : Nat) (T : Tm) : Tm -> Prop
 | [] => True
 | (i, c) :: r => gE k (bt T i) c /\ ub k T r
theorem ub.get {k : Nat} {T : Tm} : ∀ {T' : Tm}, ub k T T' -> ∀ p ∈ T', gE k (bt T p.1) p.2
 | [], _, p, hp => by cases hp
 | (i, c) :: r, h, p, hp => by
  rcases mem_cons.1 hp with rfl | hp
  · exact h.1
  · exact ub.get h.2 p hp
@[go_sem] theorem aa0 (k : Nat) (T : Tm) : ub k T [] = True := rfl
@[go_sem] theorem VT (k : Nat) (T : Tm) (i : Nat) (c : CV) (r : Tm) : ub k T ((i, c) :: r) = (gE k (bt T i) c /\ ub k T r) := rfl
@[go_sem] theorem RO (k : Nat) (c : CV) : gE k c c = True := eq_true (.le (.refl c))
@[go_sem] theorem VR (k sz : Nat) : gE k (.v (.slice none 0 0)) (.sl (.own k 0) (sz + 1) []) = True := eq_true (.nil (Nat.succ_pos _))
theorem cL.tokT {n nb nv : Nat} {T T' : Tm} {H : Hp} {V : List Nat} (h : ub V.length T T') : cL n nb nv T H V T' H (V ++ [0]) := by
 intro D m w a m0 w0 V0 h1 h2 h3 he hs;obtain ⟨s1, s2⟩ := kz hs.inv;refine ⟨_, ⟨s1, fun k => ?_, hs.size, hs.df⟩, he.trans s2⟩;rcases dR T' k with g1 | ⟨p, g1, rfl, g2⟩
 · rw [g1, ag]; trivial
 · rw [g2]
   exact (h.get p g1).rel (by rw [fL]; rfl) ((dC.mono s2 hs.tm) p.1)
theorem Sh.tokT {n nb nv : Nat} {T T' : Tm} {H H' : Hp} {V V' : List Nat} (h : ub V.length T T') (hH : H = H') (hV : V ++ [0] = V') : Sh n nb nv T H V (T', H', V') := by
 subst hH hV;exact cL.tokT h
theorem cL.ge {n nb nv : Nat} {T T' : Tm} {H : Hp} {V : List Nat} (h : ∀ p ∈ T', Ge (bt T p.1) p.2) : cL n nb nv T H V T' H V := fun D m w a m0 w0 V0 _ _ _ hx hs => by
 refine ⟨m, ⟨hs.inv, fun k => ?_, hs.size, hs.df⟩, hx⟩;rcases dR T' k with h1 | ⟨p, h1, rfl, h2⟩
 · rw [h1, ag]; trivial
 · rw [h2]; exact h p h1 _ _ _ _ (hs.tm p.1)
theorem ao.ge {nb nv : Nat} {R : CV -> Hp -> List Nat -> Prop} {r r1 : CV} {H : Hp} {V : List Nat} (h : Ge r r1) (hf : ao nb nv R r1 H V) : ao nb nv R r H V := by
 obtain ⟨r', H', V', g, hR⟩ := hf;exact ⟨r', H', V', cL.trans (cL.ge fun p hp => by simp at hp; subst hp; exact h) g, hR⟩
theorem bE.weakV {m : Gh} {w : World} {H : Hp} {V : List Nat} {b : Nat} {c d : CV} (hi : bE m w H V) (hb : H[b]? = some (some [c])) (h : ∀ u, ag m w V c u -> ag m w V d u) (hno : c.isObj = false) : bE m w (H.set b (some [d])) V := by
 have hbl : b < H.length := (List.getElem?_eq_some_iff.1 hb).1;refine ⟨by rw [length_set]; exact hi.boxlen, hi.tiplen, hi.limv, hi.tips, hi.boxes, fun b1 b2 k c1 c2 g1 g2 g3 g4 => ?_, fun b1 c1 g => ?_⟩
 · have old : ∀ (b1 : Nat) c1, (H.set b (some [d]))[b1]? = some (some c1) -> ∃ c0, H[b1]? = some (some c0) := fun b1 c1 g => by
    by_cases e : b = b1
    · subst e; exact ⟨_, hb⟩
    · rw [getElem?_set_ne e] at g; exact ⟨_, g⟩
   obtain ⟨_, o1⟩ := old _ _ g1;obtain ⟨_, o2⟩ := old _ _ g2;exact hi.uniq b1 b2 k _ _ o1 o2 g3 g4
 · by_cases e : b = b1
   · subst e
     rw [getElem?_set_self hbl] at g;obtain rfl : [d] = c1 := by simpa using g
     cases hi.live b _ hb with
     | row k cc e h1 h2 h3 h4 h5 =>
      refine .row k cc e h1 h2 h3 h4 ?_;rw [aX, aX] at h5 ⊢;obtain ⟨⟨u, q1, q2, q3⟩, _⟩ := h5;exact ⟨⟨u, q1, h _ q2, q3⟩, trivial⟩
     | obj k x h1 h2 h3 =>
      cases h2
      rw [h3.isObj] at hno; cases hno
   · rw [getElem?_set_ne e] at g
     exact hi.live b1 c1 g
theorem cL.tokB {n nb nv : Nat} {T : Tm} {H : Hp} {V : List Nat} {b : Nat} {c d : CV} (hb : H[b]? = some (some [c])) (h : gE V.length c d) (hno : c.isObj = false) : cL n nb nv T H V T (H.set b (some [d])) (V ++ [0]) := by
 intro D m w a m0 w0 V0 h1 h2 h3 he hs;obtain ⟨s1, s2⟩ := kz hs.inv;exact ⟨_, ⟨s1.weakV hb (fun u hu => h.rel (by rw [fL]; rfl) hu) hno, dC.mono s2 hs.tm, hs.size, hs.df⟩, he.trans s2⟩
theorem Sh.tokB {n nb nv : Nat} {T T' : Tm} {H H' : Hp} {V V' : List Nat} {b : Nat} {c d : CV} (hb : H[b]? = some (some [c])) (h : gE V.length c d) (hno : c.isObj = false) (hT : oT T T') (hH : H.set b (some [d]) = H') (hV : V ++ [0] = V') : Sh n nb nv T H V (T', H', V') := by
 subst hH hV;exact cL.trans (cL.tokB hb h hno) (cL.forget (oT.get hT))
section
inductive OY where
 | n
 | s (i : Nat) (b : Bool) (t : OY)
 | f (i : Nat) (b : Bool) (s : OY) (j : Nat) (b' : Bool) (t : OY)
def uZ (ops : List Oper) : OY -> Nat -> Array Bool -> Bool
 | .n, f, listed => f == 0 && (Region.ready .any ops.toArray listed).isEmpty
 | .s i _ t, f, listed => Region.ready .any ops.toArray listed == [i] && f != 0 && uZ ops t (f - 1) (listed.setIfInBounds i true)
 | .f i _ s j _ t, f, listed => Region.ready .any ops.toArray listed == [i, j] && f != 0 && uZ ops s (f - 1) (listed.setIfInBounds i true) && uZ ops t (f - 1) (listed.setIfInBounds j true)
def iV (P : Program) (n : Nat) (ops : List Oper) (E : List PanicEntry -> Tm -> Hp -> List Nat -> Prop) (i : Nat) (b : Bool) (T : Tm) (H : Hp) (V : List Nat) (K : Tm -> Hp -> List Nat -> Prop) : Prop :=
 bv (ops[i]?) fun o => match b with
  | false => bS P n (ops.map (·.dst)) [o] T H V K
  | true => kv o.dst n /\ ∃ f args, tG o = some (f, args) /\ kD P H V (fun c H' V' => K (bQ o.dst c T) H' V') (fun ch H' V' => E ch T H' V') (em T f) (args.toList.map (em T))
def iC (P : Program) (n : Nat) (ops : List Oper) (N : Tm -> Hp -> List Nat -> Prop) (E : List PanicEntry -> Tm -> Hp -> List Nat -> Prop) : OY -> Tm -> Hp -> List Nat -> Prop
 | .n, T, H, V => N T H V
 | .s i b t, T, H, V => iV P n ops E i b T H V fun T' H' V' => iC P n ops N E t T' H' V'
 | .f i b s j b' t, T, H, V => (iV P n ops E i b T H V fun T' H' V' => iC P n ops N E s T' H' V') /\ iV P n ops E j b' T H V fun T' H' V' => iC P n ops N E t T' H' V'
section
variable {P : Program} {n nb nv id : Nat} {ops : List Oper} {Q : Exit -> Tm -> Hp -> List Nat -> Prop}
theorem nj {D : Dl} {ro : Option Nat} {i : Nat} {b : Bool} {f : Nat} {listed : Array Bool} {m0 : Gh} {w0 : World} {V0 : List Nat} {T : Tm} {H : Hp} {V : List Nat} {m1 : Gh} {w1 : World} {a1 : Act} {K : Tm -> Hp -> List Nat -> Prop}
 (s1 : St D n m1 w1 a1 T H V) (x1 : bh m0 w0 V0 m1 w1 V) (h : iV P n ops (fun ch => Q (.panic ch)) i b T H V K)
 (hk : ∀ T' H' V' m' w' a', K T' H' V' -> St D n m' w' a' T' H' V' -> bh m0 w0 V0 m' w' V' -> wpAnyIn (g8 ro) 0 P .any ops.toArray (fun e a' w' => ∃ T' H' V' m', Q e T' H' V' /\ St D n m' w' a' T' H' V' /\ bh m0 w0 V0 m' w' V') f (listed.setIfInBounds i true) a' w') :
 wpOpIn (g8 ro) 0 P ops.toArray (fun e a' w' => ∃ T' H' V' m', Q e T' H' V' /\ St D n m' w' a' T' H' V' /\ bh m0 w0 V0 m' w' V') i (wpAnyIn (g8 ro) 0 P .any ops.toArray (fun e a' w' => ∃ T' H' V' m', Q e T' H' V' /\ St D n m' w' a' T' H' V' /\ bh m0 w0 V0 m' w' V') f (listed.setIfInBounds i true)) a1 w1 := by
 cases b with
 | false => exact CY s1 x1 h hk
 | true =>
  unfold iV at h
  cases hi : ops[i]? with
  | none => rw [hi] at h; exact (show False from h).elim
  | some o =>
   rw [hi, lC] at h;obtain ⟨hd, fo, args, hc, hk'⟩ := h;obtain ⟨tys, hop, hg⟩ := B7 hc;unfold wpOpIn;rw [getElem?_toArray, hi];dsimp only;rw [if_pos (by simp [Region.wanted, hg])];have hev : ∀ x : Operand, ag m1 w1 V (em T x) (a1.eval x) := fun x => fw s1.tm x;unfold kD at hk'
   split at hk'
   · rename_i l g caps hf
     have ef := hev fo;rw [hf, ag] at ef;obtain ⟨us, eu, hr⟩ := ef;obtain ⟨⟨fn, f1, f2, f3⟩, hc⟩ := hk';have hargs := cf (fW hev args.toList) hr;have fm := hc m1 w1 _ s1.inv hargs;have iF : (execOp a1.eval o).run P w1 = .ok (.enter g (args.toList.map a1.eval ++ us).toArray) w1 := by
      have hb : ¬ fn.body = none := by cases hbb : fn.body <;> simp_all
      have f3' : ¬ fn.name = "runtime.NumGoroutine" := by simpa using f3
      have hfa : args.map a1.eval ++ us.toArray = (args.toList.map a1.eval ++ us).toArray := by
       rw [<- Array.toList_map]; simp
      simp [execOp, hop, resolve, eu, Deferred.ofValue, invoke, callFunc, f1, f3', hb, hfa]
     refine ⟨fun _ _ => trivial, ?_⟩;rw [Oper.semAt_eq _ _ _ (by intro c e; rw [hop] at e; cases e), iF, Oper.uponIn_enter];refine ⟨(fun h => by cases h), iG.2 (Calls.mono fm fun e w' he => ?_)⟩;rcases he with ⟨u, m', r, H', V', q1, q2, q3, q4, q5⟩ | ⟨ch, m', H', V', q1, q2, q3, q4⟩
     · subst q1
       exact hk _ H' V' m' w' _ q2 ⟨q3, (dC.mono q5 s1.tm).put q4 (by rw [s1.size]; exact hd), by rw [cg]; exact s1.size, by rw [bu]; exact s1.df.mono q5⟩ (x1.trans q5)
     · subst q1
       exact ⟨T, H', V', m', q2, ⟨q3, dC.mono q4 s1.tm, s1.size, s1.df.mono q4⟩, x1.trans q4⟩
   · exact hk'.elim
theorem iB {D : Dl} {ro : Option Nat} {m0 : Gh} {w0 : World} {V0 : List Nat} : ∀ (l : OY) (f : Nat) (listed : Array Bool) (T : Tm) (H : Hp) (V : List Nat) (m : Gh) (w : World) (a : Act), uZ ops l f listed = true -> iC P n ops (Q .normal) (fun ch => Q (.panic ch)) l T H V -> St D n m w a T H V -> bh m0 w0 V0 m w V →
 wpAnyIn (g8 ro) 0 P .any ops.toArray (fun e a' w' => ∃ T' H' V' m', Q e T' H' V' /\ St D n m' w' a' T' H' V' /\ bh m0 w0 V0 m' w' V') f listed a w
 | .n, f, listed, T, H, V, m, w, a, ho, h, hs, hx => by
  rw [uZ, Bool.and_eq_true] at ho;obtain ⟨hf, ho⟩ := ho;obtain rfl : f = 0 := by simpa using hf
  exact ⟨by simpa using ho, T, H, V, m, h, hs, hx⟩
 | .s i b t, f, listed, T, H, V, m, w, a, ho, h, hs, hx => by
  rw [uZ, Bool.and_eq_true, Bool.and_eq_true] at ho;obtain ⟨⟨hr, hf⟩, ho⟩ := ho
  replace hr : Region.ready .any ops.toArray listed = [i] := by simpa using hr
  obtain ⟨f, rfl⟩ : ∃ g, f = g + 1 := ⟨f - 1, by have : f ≠ 0 := (by simpa using hf); omega⟩
  rw [Nat.add_sub_cancel] at ho;rw [iC] at h;refine ⟨fun e => (by rw [hr] at e; cases e), fun j hj => ?_⟩;rw [hr] at hj;obtain rfl : j = i := by simpa using hj
  exact nj hs hx h fun T' H' V' m' w' a' k1 k2 k3 => iB t f _ T' H' V' m' w' a' ho k1 k2 k3
 | .f i b s j b' t, f, listed, T, H, V, m, w, a, ho, h, hs, hx => by
  rw [uZ, Bool.and_eq_true, Bool.and_eq_true, Bool.and_eq_true] at ho;obtain ⟨⟨⟨hr, hf⟩, ho1⟩, ho2⟩ := ho
  replace hr : Region.ready .any ops.toArray listed = [i, j] := by simpa using hr
  obtain ⟨f, rfl⟩ : ∃ g, f = g + 1 := ⟨f - 1, by have : f ≠ 0 := (by simpa using hf); omega⟩
  rw [Nat.add_sub_cancel] at ho1 ho2;rw [iC] at h;refine ⟨fun e => (by rw [hr] at e; cases e), fun q hq => ?_⟩;rw [hr] at hq;simp only [mem_cons, not_mem_nil, or_false] at hq;rcases hq with rfl | rfl
  · exact nj hs hx h.1 fun T' H' V' m' w' a' k1 k2 k3 => iB s f _ T' H' V' m' w' a' ho1 k1 k2 k3
  · exact nj hs hx h.2 fun T' H' V' m' w' a' k1 k2 k3 => iB t f _ T' H' V' m' w' a' ho2 k1 k2 k3
theorem ac.drawnY {T : Tm} {H : Hp} {V : List Nat} (l : OY) (hm : P.follows .mixedOrders = true) (ho : uZ ops l ops.length (Array.replicate ops.length false) = true)
 (h : iC P n ops (Q .normal) (fun ch => Q (.panic ch)) l T H V) : ac P n nb nv (.region id ops.toArray true) Q T H V := by
 intro ro D m w a m0 w0 V0 h1 h2 h3 hx hs;refine wpIn_region_any hm ?_;have hd : bE m { w with drawn := w.drawn + 1 } H V /\ bh m w V m { w with drawn := w.drawn + 1 } V := hs.inv.drew;simp only [size_toArray];exact iB l ops.length _ T H V _ _ _ ho h ⟨hd.1, fun k => ag.mono hd.2 _ _ (hs.tm k), hs.size, hs.df.mono hd.2⟩ (hx.trans hd.2)
end
section
variable {P : Program} {n : Nat} {ops : List Oper} {N : Tm -> Hp -> List Nat -> Prop} {E : List PanicEntry -> Tm -> Hp -> List Nat -> Prop} {T T' : Tm} {H H' : Hp} {V V' : List Nat}
def zN (P : Program) (n : Nat) (ops : List Oper) (N : Tm -> Hp -> List Nat -> Prop) (E : List PanicEntry -> Tm -> Hp -> List Nat -> Prop) (t : OY) : Tm -> Hp -> List Nat -> Prop := fun T H V => iC P n ops N E t T H V
@[go_sem ↓] theorem aai (t : OY) : zN P n ops N E t T H V = iC P n ops N E t T H V := id rfl
@[go_sem] theorem adw : iC P n ops N E .n T H V = N T H V := rfl
@[go_sem] theorem adv (i : Nat) (b : Bool) (t : OY) : iC P n ops N E (.s i b t) T H V = iV P n ops E i b T H V (zN P n ops N E t) := rfl
@[go_sem] theorem adx (i : Nat) (b : Bool) (s : OY) (j : Nat) (b' : Bool) (t : OY) : iC P n ops N E (.f i b s j b' t) T H V = (iV P n ops E i b T H V (zN P n ops N E s) /\ iV P n ops E j b' T H V (zN P n ops N E t)) := rfl
@[go_sem] theorem abH (i : Nat) (K : Tm -> Hp -> List Nat -> Prop) : iV P n ops E i false T H V K = bv (ops[i]?) fun o => bS P n (ops.map (·.dst)) [o] T H V K := rfl
@[congr] theorem OD {l : OY} (h1 : T = T') (h2 : H = H') (h3 : V = V') : iC P n ops N E l T H V = iC P n ops N E l T' H' V' := by subst h1 h2 h3; rfl
@[congr] theorem NH {i : Nat} {b : Bool} {K : Tm -> Hp -> List Nat -> Prop} (h1 : T = T') (h2 : H = H') (h3 : V = V') : iV P n ops E i b T H V K = iV P n ops E i b T' H' V' K := by subst h1 h2 h3; rfl
end
theorem yG {P : Program} {n : Nat} {ops : List Oper} {K : Tm -> Hp -> List Nat -> Prop} {E : List PanicEntry -> Tm -> Hp -> List Nat -> Prop} {T : Tm} {H : Hp} {V : List Nat} {i : Nat} {o : Oper} {f : Operand} {args : Array Operand} (hi : ops[i]? = some o) (hc : tG o = some (f, args)) (hd : kv o.dst n)
 (h : kD P H V (fun c H' V' => K (bQ o.dst c T) H' V') (fun ch H' V' => E ch T H' V') (em T f) (args.toList.map (em T))) : iV P n ops E i true T H V K := by
 rw [iV, hi, lC]; exact ⟨hd, f, args, hc, h⟩
end
section
inductive Fk (b : Nat) (cs : List CV) : CV -> CV -> Prop
 | y {c d : CV} (h : Fy b cs c d) : Fk b cs c d
 | slk (tk : Tk) (sz : Nat) {xs ys : List (List CV)} (h : j5 b cs xs ys) : Fk b cs (.sl tk sz xs) (.sl tk sz ys)
section
variable {m : Gh} {w : World} {V : List Nat} {b k : Nat} {cs : List CV}
theorem Fk.rel (hb : m.box[b]? = some k) (hl : cs.length <= m.lim k) (hc : aX m w V k cs 0) {x y : CV} {u : Value} (h : Fk b cs x y) (hu : ag m w V x u) : ag m w V y u := by
 cases h with
 | y h => exact Fy.rel hb hl hc h hu
 | slk tk sz hq =>
  rw [ag] at hu; rw [ag];obtain ⟨base, cap, h1, h2, h3, h4, h5⟩ := hu;have e := hq.len;refine ⟨base, cap, by rw [<- e]; exact h1, by rw [<- e]; exact h2, by rw [<- e]; exact h3, h4, ?_⟩;rcases h5 with h5 | ⟨k', o, h6, h7, h8⟩
  · left
    subst h5;exact eq_nil_of_length_eq_zero e.symm
  · exact .inr ⟨k', o, h6, by rw [<- e]; exact h7, j5.rel hb hl hc hq h8⟩
theorem Fk.relO (hb : m.box[b]? = some k) (hr0 : ¬ gj w k) {x y : CV} {u : Value} (h : Fk b cs x y) (hu : ag m w V x u) : ag m w V y u := by
 cases h with
 | y h => exact Fy.relO hb hr0 h hu
 | slk tk sz hq =>
  rw [ag] at hu; rw [ag];obtain ⟨base, cap, h1, h2, h3, h4, h5⟩ := hu;have e := hq.len;refine ⟨base, cap, by rw [<- e]; exact h1, by rw [<- e]; exact h2, by rw [<- e]; exact h3, h4, ?_⟩;rcases h5 with h5 | ⟨k', o, h6, h7, h8⟩
  · left
    subst h5;exact eq_nil_of_length_eq_zero e.symm
  · exact .inr ⟨k', o, h6, by rw [<- e]; exact h7, j5.relO hb hr0 hq h8⟩
end
section
variable {n nb nv : Nat} {T T' : Tm} {H : Hp} {V : List Nat}
theorem cL.freezeK {b : Nat} {cs : List CV} (hb : H[b]? = some (some cs)) (h : ∀ p ∈ T', Fk b cs (bt T p.1) p.2) : cL n nb nv T H V T' (H.set b none) V := fun D m w a m0 w0 V0 h1 h2 h3 hx hs => by
 cases hs.inv.live b cs hb with
 | row k c e g1 g2 g3 g4 g5 =>
  obtain ⟨hi', hx'⟩ := hs.inv.fix hb g1 g2 g3 g4;refine ⟨_, ⟨hi', fun j => ?_, hs.size, hs.df⟩, hx.trans hx'⟩;have ht := dC.mono hx' hs.tm;rcases dR T' j with h1 | ⟨p, h1, rfl, h2⟩
  · rw [h1, ag]; trivial
  · rw [h2]
    exact Fk.rel (m := { m with lim := fun j => if j = k then cs.length else m.lim j }) (k := k) g1 (by show cs.length <= if k = k then cs.length else m.lim k; rw [if_pos rfl]; exact le_refl _) (i8 hx' rfl g5) (h p h1) (ht p.1)
 | obj k x g1 g2 g3 =>
  refine ⟨m, ⟨hs.inv.kill b, fun j => ?_, hs.size, hs.df⟩, hx⟩;rcases dR T' j with h1 | ⟨p, h1, rfl, h2⟩
  · rw [h1, ag]; trivial
  · rw [h2]
    exact Fk.relO g1 g3.notRow (h p h1) (hs.tm p.1)
def OZ (b : Nat) (cs : List CV) (T : Tm) : Tm -> Prop
 | [] => True
 | (i, c) :: r => Fk b cs (bt T i) c /\ OZ b cs T r
theorem OZ.get {b : Nat} {cs : List CV} {T : Tm} : ∀ {T' : Tm}, OZ b cs T T' -> ∀ p ∈ T', Fk b cs (bt T p.1) p.2
 | [], _, p, hp => by cases hp
 | (i, c) :: r, h, p, hp => by
  rcases mem_cons.1 hp with rfl | hp
  · exact h.1
  · exact OZ.get h.2 p hp
@[go_sem] theorem aen (b : Nat) (cs : List CV) (T : Tm) : OZ b cs T [] = True := rfl
@[go_sem] theorem aa2 (b : Nat) (cs : List CV) (T : Tm) (i : Nat) (c : CV) (r : Tm) : OZ b cs T ((i, c) :: r) = (Fk b cs (bt T i) c /\ OZ b cs T r) := rfl
@[go_sem] theorem aew (b : Nat) (cs : List CV) (c : CV) : Fk b cs c c = True := eq_true (.y (.refl c))
end
end
def rd (k : Nat) : List CV -> List CV -> Prop
 | [], [] => True
 | c :: cs, d :: ds => gE k c d /\ rd k cs ds
 | _, _ => False
@[go_sem] theorem aaZ (k : Nat) : rd k [] [] = True := rfl
@[go_sem] theorem VS (k : Nat) (c d : CV) (cs ds : List CV) : rd k (c :: cs) (d :: ds) = (gE k c d /\ rd k cs ds) := rfl
theorem rd.len {k : Nat} : ∀ {cs ds : List CV}, rd k cs ds -> cs.length = ds.length
 | [], [], _ => rfl
 | _ :: _, _ :: _, h => by rw [length_cons, length_cons, h.2.len]
 | [], _ :: _, h => h.elim
 | _ :: _, [], h => h.elim
theorem rd.relC {m : Gh} {w : World} {V : List Nat} {k kk : Nat} (hk : V[k]? = some 0) : ∀ {cs ds : List CV} {o : Nat}, rd k cs ds -> aX m w V kk cs o -> aX m w V kk ds o
 | [], [], _, _, h => h
 | c :: cs, d :: ds, o, h, g => by
  rw [aX] at g ⊢;obtain ⟨⟨u, q1, q2, q3⟩, g⟩ := g;exact ⟨⟨u, q1, h.1.rel hk q2, q3⟩, h.2.relC hk g⟩
 | [], _ :: _, _, h, _ => h.elim
 | _ :: _, [], _, h, _ => h.elim
theorem bE.weakT {m : Gh} {w : World} {H : Hp} {V : List Nat} {b k : Nat} {cs ds : List CV} (hi : bE m w H V) (hb : H[b]? = some (some cs)) (hk : V[k]? = some 0) (h : rd k cs ds) (hno : ∀ x ∈ cs, x.isObj = false) : bE m w (H.set b (some ds)) V := by
 have hbl : b < H.length := (List.getElem?_eq_some_iff.1 hb).1;refine ⟨by rw [length_set]; exact hi.boxlen, hi.tiplen, hi.limv, hi.tips, hi.boxes, fun b1 b2 k c1 c2 g1 g2 g3 g4 => ?_, fun b1 c1 g => ?_⟩
 · have old : ∀ (b1 : Nat) c1, (H.set b (some ds))[b1]? = some (some c1) -> ∃ c0, H[b1]? = some (some c0) := fun b1 c1 g => by
    by_cases e : b = b1
    · subst e; exact ⟨_, hb⟩
    · rw [getElem?_set_ne e] at g; exact ⟨_, g⟩
   obtain ⟨_, o1⟩ := old _ _ g1;obtain ⟨_, o2⟩ := old _ _ g2;exact hi.uniq b1 b2 k _ _ o1 o2 g3 g4
 · by_cases e : b = b1
   · subst e
     rw [getElem?_set_self hbl] at g;obtain rfl : ds = c1 := by simpa using g
     cases hi.live b cs hb with
     | row k c e h1 h2 h3 h4 h5 => exact .row k c e h1 h2 (by rw [<- h.len]; exact h3) h4 (h.relC hk h5)
     | obj k x h1 h2 h3 =>
      have := hno x (by rw [h2]; simp);rw [h3.isObj] at this; cases this
   · rw [getElem?_set_ne e] at g
     exact hi.live b1 c1 g
theorem cL.tokL {n nb nv : Nat} {T : Tm} {H : Hp} {V : List Nat} {b : Nat} {cs ds : List CV} (hb : H[b]? = some (some cs)) (h : rd V.length cs ds) (hno : ∀ x ∈ cs, x.isObj = false) : cL n nb nv T H V T (H.set b (some ds)) (V ++ [0]) := by
 intro D m w a m0 w0 V0 h1 h2 h3 he hs;obtain ⟨s1, s2⟩ := kz hs.inv;exact ⟨_, ⟨s1.weakT hb (by rw [fL]; rfl) h hno, dC.mono s2 hs.tm, hs.size, hs.df⟩, he.trans s2⟩
theorem Sh.tokL {n nb nv : Nat} {T T' : Tm} {H H' : Hp} {V V' : List Nat} {b : Nat} {cs ds : List CV} (hb : H[b]? = some (some cs)) (h : rd V.length cs ds) (hno : ∀ x ∈ cs, x.isObj = false) (hT : oT T T') (hH : H.set b (some ds) = H') (hV : V ++ [0] = V') : Sh n nb nv T H V (T', H', V') := by
 subst hH hV;exact cL.trans (cL.tokL hb h hno) (cL.forget (oT.get hT))
section
theorem PM {m : Gh} {w : World} {V : List Nat} {sz : Nat} {u : Value} (hsz : 0 < sz) (h : ag m w V (.v (.slice none 0 0)) u) : ag m w V (.sl .ti sz []) u := by
 rw [ag] at h;subst h;rw [ag];exact ⟨none, 0, rfl, le_refl _, rfl, hsz, .inl rfl⟩
@[go_sem] theorem adg (H L : Hp) (k : Nat) (K : List CV -> Prop) : dN (H ++ L) (H.length + k) K = dN L k K := by rw [gv, gv, aC]
open Classical in
theorem M8 {P : Program} {d : Option Tmp} {t tx ty : TypeId} {pos : String} {after : Array Edge} {x y : Operand} {ev : Operand -> CV} {H : Hp} {V : List Nat} {sz szx : Nat} {e ex : TypeId} {tk : Tk} {ys : List (List CV)} (ht : aZ P t = some (e, sz)) (htx : aZ P tx = some (ex, szx))
 (hsz : 0 < sz) (hx : ev x = .v (.slice none 0 0)) (hy : ev y = .sl tk sz ys) (hn : ys ≠ []) (hl : ys.length <= 1099511627776) :
 O0 P ⟨d, .call ⟨.builtin .append, #[x, y], #[t, tx]⟩, ty, pos, after, none⟩ ev H V (.bsa H.length ys.length sz) (H ++ [some ys.flatten]) V := by
 intro m w a hi hev;have hxy : y ≠ x := fun q => by rw [q, hx] at hy; cases hy
 refine mc (tk := tk) (ys := ys) (sz := sz) (szx := szx) (ev := fun o => if o = x then .sl .ti sz [] else ev o) ht htx (by simp) (by simp [hxy, hy]) hn hl m w a hi fun o => ?_;dsimp only
 split
 · rename_i q; subst q
   have := hev o;rw [hx] at this;exact PM hsz this
 · exact hev o
end
section
def wm (P : Program) (ev : Operand -> CV) (H : Hp) (V : List Nat) (K : CV -> Hp -> List Nat -> Prop) (op : Op) : Prop :=
 ∃ (x y : Operand) (t tx : TypeId) (e ex : TypeId) (sz szx : Nat) (tk : Tk) (ys : List (List CV)), op = .call ⟨.builtin .append, #[x, y], #[t, tx]⟩ /\ aZ P t = some (e, sz) /\ aZ P tx = some (ex, szx) /\ 0 < sz ∧
  ev x = .v (.slice none 0 0) /\ ev y = .sl tk sz ys /\ ys ≠ [] /\ ys.length <= 1099511627776 /\ K (.bsa H.length ys.length sz) (H ++ [some ys.flatten]) V
def tR (P : Program) (n : Nat) (ops : List Oper) (o : Oper) (E : En) (H : Hp) (V : List Nat) (K : En -> Hp -> List Nat -> Prop) : Prop :=
 bM P n ops o E H V K \/ (kv o.dst n /\ o.guard = none /\ wm P (oQ E) H V (fun c H' V' => K (cl o.dst c E) H' V') o.op)
section
variable {P : Program} {n : Nat} {ops : List Oper}
theorem sP {ev : Operand -> CV} {H : Hp} {V : List Nat} {K K' : CV -> Hp -> List Nat -> Prop} {op : Op} (h : ∀ c H V, K c H V -> K' c H V) (q : wm P ev H V K op) : wm P ev H V K' op := by
 obtain ⟨x, y, t, tx, e, ex, sz, szx, tk, ys, h1, h2, h3, h4, h5, h6, h7, h8, h9⟩ := q;exact ⟨x, y, t, tx, e, ex, sz, szx, tk, ys, h1, h2, h3, h4, h5, h6, h7, h8, h _ _ _ h9⟩
theorem x8 {ev ev' : Operand -> CV} {H : Hp} {V : List Nat} {K : CV -> Hp -> List Nat -> Prop} {op : Op} (h : ∀ x ∈ op.operands, ev x = ev' x) (q : wm P ev H V K op) : wm P ev' H V K op := by
 obtain ⟨x, y, t, tx, e, ex, sz, szx, tk, ys, h1, h2, h3, h4, h5, h6, h7, h8, h9⟩ := q;subst h1;exact ⟨x, y, t, tx, e, ex, sz, szx, tk, ys, rfl, h2, h3, h4, by rw [<- h x (by simp [Op.operands, Call.operands])]; exact h5, by rw [<- h y (by simp [Op.operands, Call.operands])]; exact h6, h7, h8, h9⟩
theorem vN {o : Oper} {E E' : En} {H : Hp} {V : List Nat} {K K' : En -> Hp -> List Nat -> Prop} (h : ∀ d ∈ o.looksAt ops.toArray, E d = E' d) (hk : ∀ c H V, K (cl o.dst c E) H V -> K' (cl o.dst c E') H V)
 (hs : tR P n ops o E H V K) : tR P n ops o E' H V K' := by
 rcases hs with hs | ⟨h1, h2, h3⟩
 · exact .inl (kJ h hk hs)
 · exact .inr ⟨h1, h2, sP (fun c H V => hk c H V) (x8 (fG h) h3)⟩
theorem tQ {ro : Option Nat} {Q : Exit -> Act -> World -> Prop} {Kw : Act -> World -> Prop} {i : Nat} {o : Oper} (ho : ops[i]? = some o) {E : En} {m : Gh} {w : World} {a : Act} {H : Hp} {V : List Nat} {K : En -> Hp -> List Nat -> Prop}
 (hi : bE m w H V) (ht : ∀ k, ag m w V (E k) (a.tmps.getD k undef)) (hz : a.tmps.size = n) (hs : tR P n ops o E H V K)
 (hK : ∀ E' H' V' a' m' w', K E' H' V' -> bE m' w' H' V' -> (∀ k, ag m' w' V' (E' k) (a'.tmps.getD k undef)) -> a'.tmps.size = n -> a'.defers = a.defers -> bh m w V m' w' V' -> Kw a' w') : wpOpIn (g8 ro) 0 P ops.toArray Q i Kw a w := by
 rcases hs with hs | ⟨hd, hg, q⟩
 · exact gN ho hi ht hz hs hK
 have hput : ∀ {m' : Gh} {w' : World} {V' : List Nat} {c : CV} {u : Value}, kv o.dst n -> bh m w V m' w' V' -> ag m' w' V' c u -> ∀ k, ag m' w' V' (cl o.dst c E k) ((a.put o.dst u).tmps.getD k undef) := fun {m' w' V' c u} hd hx hu k => by
  cases hdst : o.dst with
  | none => exact ag.mono hx _ _ (ht k)
  | some d =>
   rw [hdst] at hd;have hd : d < a.tmps.size := by rw [hz]; exact hd
   simp only [cl, Act.put]
   by_cases hn : k = d
   · subst hn; rw [if_pos rfl]; simpa [Array.getD, hd] using hu
   · rw [if_neg hn]
     have : (a.tmps.setIfInBounds d u).getD k undef = a.tmps.getD k undef := by
      simp only [Array.getD_eq_getD_getElem?];rw [Array.getElem?_setIfInBounds_ne (Ne.symm hn)]
     rw [this]; exact ag.mono hx _ _ (ht k)
 have hev : ∀ x, ag m w V (oQ E x) (a.eval x) := fun x => by
  cases x with
  | tmp t => exact ht t
  | const v => simp only [oQ, Act.eval]; rw [ag]
  | global g => simp only [oQ]; rw [ag]; trivial
  | func f => simp only [oQ, Act.eval]; rw [ag]; exact ⟨[], rfl, by rw [av]⟩
 unfold wpOpIn;rw [getElem?_toArray, ho];dsimp only;rw [if_pos (by simp [Region.wanted, hg])];obtain ⟨x, y, t, tx, e, ex, sz, szx, tk, ys, h1, h2, h3, h4, h5, h6, h7, h8, h9⟩ := q;obtain ⟨d, op, ty, pos, after, g⟩ := o;dsimp only at hg h1 hd h9 hput;subst hg h1;obtain ⟨u, w', m', q1, q2, q3, q4⟩ := M8 (d := d) (ty := ty) (pos := pos) (after := after) h2 h3 h4 h5 h6 h7 h8 m w a hi hev;refine dL (by intro c e; cases e) q1 ?_;exact hK _ _ _ _ _ _ h9 q2 (hput hd q4 q3) (by rw [cg]; exact hz) (by rw [bu]) q4
end
def xf (S : List Nat) : Nat -> Hp -> Hp -> Prop
 | 0, H, H' => H <+: H'
 | 1, H, H' => Kp S H H'
 | _, _, _ => True
theorem xf.refl {S : List Nat} {k : Nat} {H : Hp} : xf S k H H := by
 rcases k with - | - | k
 · exact prefix_refl _
 · exact fun _ _ _ h => h
 · trivial
section
variable (P : Program) (n : Nat) (ops : List Oper) (fl : Nat -> Nat) (S : List Nat)
def wy (K : En -> Hp -> List Nat -> Prop) : Nat -> Array Bool -> En -> Hp -> List Nat -> Prop
 | 0, listed, E, H, V => Region.ready .any ops.toArray listed = [] /\ K E H V
 | f + 1, listed, E, H, V => (Region.ready .any ops.toArray listed = [] -> K E H V) ∧
  ∀ i ∈ Region.ready .any ops.toArray listed, ∀ o, ops[i]? = some o -> tR P n ops o E H V (fun E' H' V' => xf S (fl i) H H' /\ wy K f (listed.setIfInBounds i true) E' H' V')
end
section
variable {P : Program} {n : Nat} {ops : List Oper} {fl : Nat -> Nat} {S : List Nat}
theorem oJ {κ : Bool} {K : En -> Hp -> List Nat -> Prop} {i : Nat} {oi : Oper} {c : CV} (hi : ops[i]? = some oi) :
 ∀ (f : Nat) (listed : Array Bool) (E : En) (H : Hp) (V : List Nat),
  (∀ j oj, ops[j]? = some oj -> j ≠ i -> listed.getD j true = false -> (∀ e ∈ oj.after, Region.binds .any e = true -> e.on ≠ i) -> oi.apart ops.toArray oj = true) →
  (qr oi.op = true -> ∀ j oj, ops[j]? = some oj -> j ≠ i -> listed.getD j true = false -> (1 < fl j \/ (fl j = 1 /\ κ = false)) -> ∃ e ∈ oj.after, Region.binds .any e = true /\ e.on = i) -> i ∈ Region.ready .any ops.toArray listed -> RY P n ops S κ oi c E H →
  wy P n ops fl S K f (listed.setIfInBounds i true) (cl oi.dst c E) H V -> wy P n ops fl S K (f + 1) listed E H V := by
 intro f
 induction f with
 | zero =>
  intro listed E H V _ _ hr hy h;refine ⟨fun e => (by rw [e] at hr; cases hr), fun j hj o ho => ?_⟩
  by_cases hji : j = i
  · subst hji; rw [hi] at ho; cases ho
    exact .inl (hy _ _ _ _ (fun _ _ => rfl) (fun _ => rel.refl) ⟨xf.refl, h⟩)
  · have := ready_mono hj hji
    rw [h.1] at this; cases this
 | succ f ih =>
  intro listed E H V hfree hst hr hy h;refine ⟨fun e => (by rw [e] at hr; cases hr), fun j hj o ho => ?_⟩
  by_cases hji : j = i
  · subst hji; rw [hi] at ho; cases ho
    exact .inl (hy _ _ _ _ (fun _ _ => rfl) (fun _ => rel.refl) ⟨xf.refl, h⟩)
  · have h1 := h.2 j (ready_mono hj hji) o ho
    obtain ⟨hjun, oj, hoj, hall⟩ := mem_ready.1 hj;rw [getElem?_toArray, ho] at hoj; cases hoj;have hnot : ∀ e ∈ o.after, Region.binds .any e = true -> e.on ≠ i := fun e he hb heq => by
     have h1 := hall e he hb;have h0 := (mem_ready.1 hr).1;rw [heq] at h1;rcases Nat.lt_or_ge i listed.size with h' | h'
     · simp [h'] at h0 h1; rw [h0] at h1; cases h1
     · simp [Array.getElem?_eq_none h'] at h1
    obtain ⟨p1, p2, p3⟩ := Oper.apart_spec (hfree j o ho hji hjun hnot);have hfree' : ∀ k ok, ops[k]? = some ok -> k ≠ i -> (listed.setIfInBounds j true).getD k true = false →
     (∀ e ∈ ok.after, Region.binds .any e = true -> e.on ≠ i) -> oi.apart ops.toArray ok = true := fun k ok hk hki hun hno => by
     refine hfree k ok hk hki ?_ hno
     by_cases hjk : j = k
     · subst hjk; exact hjun
     · rw [getD_set_ne true hjk] at hun; exact hun
    have hput : ∀ {d : Option Nat} {c : CV} {E : En} {t : Nat}, (d ≠ some t) -> cl d c E t = E t := fun {d c E t} h => by
     cases d with
     | none => rfl
     | some d => simp only [cl]; rw [if_neg (fun e => h (by rw [e]))]
    refine vN (E := cl oi.dst c E) (fun d hd => hput fun e => p1 d e hd) (fun c' H' V' ⟨q1, q2⟩ => ⟨q1, ?_⟩) h1;rw [ny p2] at q2;rw [Array.setIfInBounds_comm _ _ (Ne.symm hji)] at q2;have hst' : qr oi.op = true -> ∀ k ok, ops[k]? = some ok -> k ≠ i -> (listed.setIfInBounds j true).getD k true = false -> (1 < fl k \/ (fl k = 1 /\ κ = false)) -> ∃ e ∈ ok.after, Region.binds .any e = true /\ e.on = i := fun hl k ok hk hki hun => by
     refine hst hl k ok hk hki ?_
     by_cases hjk : j = k
     · subst hjk; exact hjun
     · rw [getD_set_ne true hjk] at hun; exact hun
    refine ih (listed.setIfInBounds j true) _ H' V' hfree' hst' (ready_mono hr (Ne.symm hji)) (fun E2 H2 V2 K2 ha hl k => hy E2 H2 V2 K2 (fun d hd => ?_) (fun hld => rel.trans ?_ (hl hld)) k) q2
    case refine_2 =>
     rcases hfj : fl j with - | - | f2
     · rw [hfj] at q1
       cases κ
       · exact q1
       · exact Kp.of q1
     · rw [hfj] at q1
       cases κ with
       | true => exact q1
       | false =>
       obtain ⟨e, he, hb, hon⟩ := hst hld j o ho hji hjun (.inr ⟨hfj, rfl⟩);exact absurd hon (hnot e he hb)
     · obtain ⟨e, he, hb, hon⟩ := hst hld j o ho hji hjun (.inl (by omega))
       exact absurd hon (hnot e he hb)
    rw [ha d hd];exact hput fun e => p3 d e hd
theorem oI {ro : Option Nat} {Q : Exit -> Act -> World -> Prop} {K : En -> Hp -> List Nat -> Prop} : ∀ (f : Nat) {listed : Array Bool} {E : En} {m : Gh} {w : World} {a : Act} {H : Hp} {V : List Nat},
 bE m w H V -> (∀ k, ag m w V (E k) (a.tmps.getD k undef)) -> a.tmps.size = n -> wy P n ops fl S K f listed E H V →
 (∀ E' H' V' a' m' w', K E' H' V' -> bE m' w' H' V' -> (∀ k, ag m' w' V' (E' k) (a'.tmps.getD k undef)) -> a'.tmps.size = n -> a'.defers = a.defers -> bh m w V m' w' V' -> Q .normal a' w') -> wpAnyIn (g8 ro) 0 P .any ops.toArray Q f listed a w
 | 0, listed, E, m, w, a, H, V, hi, ht, hz, h, hK => ⟨h.1, hK _ _ _ _ _ _ h.2 hi ht hz rfl (bh.refl m w V)⟩
 | f + 1, listed, E, m, w, a, H, V, hi, ht, hz, h, hK => by
  refine ⟨fun e => hK _ _ _ _ _ _ (h.1 e) hi ht hz rfl (bh.refl m w V), fun i hr => ?_⟩;obtain ⟨_, o, ho, _⟩ := mem_ready.1 hr;rw [getElem?_toArray] at ho;refine tQ ho hi ht hz (h.2 i hr o ho) fun E' H' V' a' m' w' k1 k2 k3 k4 k5 k6 => ?_;exact oI f k2 k3 k4 k1.2 fun E2 H2 V2 a2 m2 w2 q1 q2 q3 q4 q5 q6 => hK _ _ _ _ _ _ q1 q2 q3 q4 (q5.trans k5) (k6.trans q6)
end
inductive Fb where
 | pl
 | ld
 | sb
 | st
instance : DecidableEq Fb := fun a b => by cases a <;> cases b <;> first | exact isTrue rfl | exact isFalse (fun h => by cases h)
def Fb.k : Fb -> Nat
 | .pl => 0
 | .ld => 0
 | .sb => 1
 | .st => 2
def LQ (l0 l1 : List Nat) (i : Nat) : Nat := if l0.contains i then 2 else if l1.contains i then 1 else 0
theorem F4 {l0 l1 : List Nat} {κ : Bool} {i : Nat} {listed : Array Bool} {ops : List Oper} (h : vh ops l0 i listed = true) (h1 : κ = false -> vh ops l1 i listed = true) : ∀ j oj, ops[j]? = some oj -> j ≠ i -> listed.getD j true = false -> (1 < LQ l0 l1 j \/ (LQ l0 l1 j = 1 /\ κ = false)) -> ∃ e ∈ oj.after, Region.binds .any e = true /\ e.on = i := fun j oj hj hne hun hf => by
 unfold LQ at hf;rcases hf with hf | ⟨hf, hκ⟩
 · refine nM h j oj hj hne hun ?_
   split at hf
   · assumption
   · split at hf <;> omega
 · refine nM (h1 hκ) j oj hj hne hun ?_
   split at hf
   · omega
   · split at hf
     · assumption
     · omega
inductive OB where
 | n
 | s (i : Nat) (b : Fb) (t : OB)
 | c (i : Nat) (t : OB)
 | b (i : Nat) (t : OB)
def qh (ops : List Oper) (l0 l1 : List Nat) : OB -> Nat -> Array Bool -> Bool
 | .n, f, listed => f == 0 && (Region.ready .any ops.toArray listed).isEmpty
 | .s i b t, f, listed =>
  LQ l0 l1 i == b.k &&
  ((match ops[i]? with
   | some o => (jJ o.op && (Region.ready .any ops.toArray listed).contains i && Region.free .any ops.toArray listed i && (!qr o.op || (vh ops l0 i listed && (b == Fb.ld || vh ops l1 i listed)))) || Region.ready .any ops.toArray listed == [i]
   | none => false) && f != 0 && qh ops l0 l1 t (f - 1) (listed.setIfInBounds i true))
 | .c i t, f, listed =>
  (match ops[i]? with
   | some o => (Region.ready .any ops.toArray listed).contains i && Region.free .any ops.toArray listed i && !qr o.op && o.guard.isNone
   | none => false) && f != 0 && qh ops l0 l1 t (f - 1) (listed.setIfInBounds i true)
 | .b i t, f, listed => LQ l0 l1 i == 0 && Region.ready .any ops.toArray listed == [i] && f != 0 && qh ops l0 l1 t (f - 1) (listed.setIfInBounds i true)
def kh (P : Program) (n : Nat) (ops : List Oper) (S : List Nat) : OB -> Tm -> Hp -> List Nat -> (Tm -> Hp -> List Nat -> Prop) -> Prop
 | .n, T, H, V, K => K T H V
 | .s i b t, T, H, V, K =>
  match ops[i]? with
  | some o => ff (em T) o.op = true /\ (b = Fb.ld -> F7 S (em T) o.op) /\ crun P n ops [o] T H V fun T' H' V' => xf S b.k H H' /\ kh P n ops S t T' H' V' K
  | none => False
 | .c i t, T, H, V, K =>
  match ops[i]? with
  | some o => kv o.dst n /\ ∃ c, yj P (em T) o.op c /\ kh P n ops S t (bQ o.dst c T) H V K
  | none => False
 | .b i t, T, H, V, K =>
  match ops[i]? with
  | some o => kv o.dst n /\ o.guard = none /\ wm P (em T) H V (fun c H' V' => H <+: H' /\ kh P n ops S t (bQ o.dst c T) H' V' K) o.op
  | none => False
section
variable {P : Program} {n : Nat} {ops : List Oper}
theorem jq {S : List Nat} {l0 l1 : List Nat} {K : Tm -> Hp -> List Nat -> Prop} : ∀ (l : OB) (f : Nat) (listed : Array Bool) (T : Tm) (H : Hp) (V : List Nat), qh ops l0 l1 l f listed = true -> kh P n ops S l T H V K →
 wy P n ops (LQ l0 l1) S (fun E H V => ∃ T', bt T' = E /\ K T' H V) f listed (bt T) H V
 | .n, f, listed, T, H, V, ho, h => by
  rw [qh, Bool.and_eq_true] at ho;obtain ⟨h0, ho⟩ := ho;obtain rfl : f = 0 := by simpa using h0
  exact ⟨by simpa using ho, T, rfl, h⟩
 | .s i b t, f, listed, T, H, V, ho, h => by
  rw [qh, Bool.and_eq_true, Bool.and_eq_true, Bool.and_eq_true] at ho;rw [kh] at h;obtain ⟨hfb, ⟨ho, hf0⟩, iN⟩ := ho;obtain ⟨f, rfl⟩ : ∃ g, f = g + 1 := ⟨f - 1, by have : f ≠ 0 := (by simpa using hf0); omega⟩
  rw [Nat.add_sub_cancel] at iN
  replace hfb : LQ l0 l1 i = b.k := by simpa using hfb
  cases hi : ops[i]? with
  | none => rw [hi] at h; exact h.elim
  | some o =>
   rw [hi] at h ho;dsimp only at h ho;obtain ⟨hk, hin, h⟩ := h;have h1 := jo h;rw [Bool.or_eq_true] at ho;rcases ho with ho | ho
   · rw [Bool.and_eq_true, Bool.and_eq_true, Bool.and_eq_true] at ho
     obtain ⟨⟨⟨hp, hr⟩, hf⟩, hld⟩ := ho;obtain ⟨c, ⟨T', e1, _, e3⟩, hh⟩ := p8 (κ := b == Fb.ld) (S := S) hp (by rw [<- jX]; exact hk) (fun e => by rw [<- jX]; exact hin (by simpa using e)) h1;have := jq t f _ T' H V iN e3;rw [e1] at this;exact oJ hi f listed _ H V (fun j oj hj hne hun hno => Region.free_spec (by rw [getElem?_toArray]; exact hi) hf j oj (by rw [getElem?_toArray]; exact hj) hne hun hno) (fun hl => by
      rw [hl] at hld;have hld : (vh ops l0 i listed && (b == Fb.ld || vh ops l1 i listed)) = true := by simpa using hld
      rw [Bool.and_eq_true, Bool.or_eq_true] at hld;exact F4 hld.1 fun hκ => hld.2.resolve_left (by rw [hκ]; decide)) (by simpa using hr) hh this
   · have hr : Region.ready .any ops.toArray listed = [i] := by simpa using ho
     refine ⟨fun e => (by rw [hr] at e; cases e), fun j hj o' ho' => ?_⟩;rw [hr] at hj;obtain rfl : j = i := by simpa using hj
     rw [hi] at ho'; cases ho';refine .inl (gg (fun E H' V' ⟨T', e1, e2, e3⟩ => ?_) h1);subst e1;exact ⟨by rw [hfb]; exact e2, jq t f _ T' H' V' iN e3⟩
 | .c i t, f, listed, T, H, V, ho, h => by
  rw [qh, Bool.and_eq_true, Bool.and_eq_true] at ho;rw [kh] at h;obtain ⟨⟨ho, hf0⟩, iN⟩ := ho;obtain ⟨f, rfl⟩ : ∃ g, f = g + 1 := ⟨f - 1, by have : f ≠ 0 := (by simpa using hf0); omega⟩
  rw [Nat.add_sub_cancel] at iN
  cases hi : ops[i]? with
  | none => rw [hi] at h; exact h.elim
  | some o =>
   rw [hi] at h ho;dsimp only at h ho;rw [Bool.and_eq_true, Bool.and_eq_true, Bool.and_eq_true] at ho;obtain ⟨⟨⟨hr, hf⟩, hld⟩, hg⟩ := ho
   replace hld : qr o.op = false := by simpa using hld
   replace hg : o.guard = none := by simpa using hg
   obtain ⟨hd, c, GF, h⟩ := h;have := jq t f _ _ H V iN h;rw [gO] at this;refine oJ (κ := true) hi f listed _ H V (fun j oj hj hne hun hno => Region.free_spec (by rw [getElem?_toArray]; exact hi) hf j oj (by rw [getElem?_toArray]; exact hj) hne hun hno) (fun hl => by rw [hld] at hl; cases hl) (by simpa using hr) (fun E2 H2 V2 K2 ha _ k => ?_) this;unfold bM;rw [hg];refine ⟨hd, ?_⟩;rw [jt (fG ha), <- jX];exact GF H2 V2 _ k
 | .b i t, f, listed, T, H, V, ho, h => by
  rw [qh, Bool.and_eq_true, Bool.and_eq_true, Bool.and_eq_true] at ho;rw [kh] at h;obtain ⟨⟨⟨hfb, hr⟩, hf0⟩, iN⟩ := ho;obtain ⟨f, rfl⟩ : ∃ g, f = g + 1 := ⟨f - 1, by have : f ≠ 0 := (by simpa using hf0); omega⟩
  rw [Nat.add_sub_cancel] at iN
  replace hfb : LQ l0 l1 i = 0 := by simpa using hfb
  replace hr : Region.ready .any ops.toArray listed = [i] := by simpa using hr
  cases hi : ops[i]? with
  | none => rw [hi] at h; exact h.elim
  | some o =>
   rw [hi] at h;dsimp only at h;obtain ⟨hd, hg, h⟩ := h;refine ⟨fun e => (by rw [hr] at e; cases e), fun j hj o' ho' => ?_⟩;rw [hr] at hj;obtain rfl : j = i := by simpa using hj
   rw [hi] at ho'; cases ho';refine .inr ⟨hd, hg, ?_⟩;rw [<- jX];refine sP (fun c H' V' ⟨e1, e2⟩ => ?_) h;have := jq t f _ _ H' V' iN e2;rw [gO] at this;exact ⟨by rw [hfb]; exact e1, this⟩
theorem ac.drawn0B {S l0 l1 : List Nat} {id nb nv : Nat} {Q : Exit -> Tm -> Hp -> List Nat -> Prop} {T : Tm} {H : Hp} {V : List Nat} (l : OB) (hm : P.follows .mixedOrders = true) (ho : qh ops l0 l1 l ops.length (Array.replicate ops.length false) = true)
 (h : kh P n ops S l T H V (Q .normal)) : ac P n nb nv (.region id ops.toArray true) Q T H V := by
 intro ro D m w a m0 w0 V0 h1 h2 h3 hx hs;refine wpIn_region_any hm ?_;have hd : bE m { w with drawn := w.drawn + 1 } H V /\ bh m w V m { w with drawn := w.drawn + 1 } V := hs.inv.drew;have := jq l ops.length _ T H V ho h;simp only [size_toArray];refine oI (fl := LQ l0 l1) (S := S) (Q := fun e a' w' => ∃ T' H' V' m', Q e T' H' V' /\ St D n m' w' a' T' H' V' /\ bh m0 w0 V0 m' w' V') ops.length hd.1 (fun k => ag.mono hd.2 _ _ (hs.tm k)) hs.size this fun E' H' V' a' m' w' k1 k2 k3 k4 k5 k6 => ?_;obtain ⟨T', e, hq⟩ := k1;subst e;exact ⟨T', H', V', m', hq, ⟨k2, k3, k4, by rw [k5]; exact hs.df.mono (hd.2.trans k6)⟩, (hx.trans hd.2).trans k6⟩
end
def xz (b : Fb) (S : List Nat) (ev : Operand -> CV) (op : Op) : Prop := b = Fb.ld -> F7 S ev op
@[go_sem] theorem acV (S : List Nat) (ev : Operand -> CV) (op : Op) : xz .pl S ev op = True := eq_true fun h => by cases h
@[go_sem] theorem acT (S : List Nat) (ev : Operand -> CV) (op : Op) : xz .st S ev op = True := eq_true fun h => by cases h
@[go_sem] theorem acU (S : List Nat) (ev : Operand -> CV) (op : Op) : xz .sb S ev op = True := eq_true fun h => by cases h
@[go_sem] theorem acW (S : List Nat) (ev : Operand -> CV) (t : TypeId) (a : Operand) : xz .ld S ev (.load t a) = KW S (ev a) := by
 refine propext ⟨fun h => ?_, fun h _ => ?_⟩
 · have := h rfl; simp only [F7] at this; unfold KW; split <;> simp_all
 · simp only [F7]; unfold KW at h; split <;> simp_all
def uP (S : List Nat) (b : Fb) (H H' : Hp) : Prop := xf S b.k H H'
@[go_sem] theorem abU (S : List Nat) (H H' : Hp) : uP S .pl H H' = (H <+: H') := rfl
@[go_sem] theorem abV (S : List Nat) (H H' : Hp) : uP S .ld H H' = (H <+: H') := rfl
@[go_sem] theorem abT (S : List Nat) (H H' : Hp) : uP S .sb H H' = Kp S H H' := rfl
@[go_sem] theorem abS (S : List Nat) (H H' : Hp) : uP S .st H H' = True := rfl
def cZ (P : Program) (n : Nat) (ds : List (Option Tmp)) (ops : List Oper) (S : List Nat) : OB -> Tm -> Hp -> List Nat -> (Tm -> Hp -> List Nat -> Prop) -> Prop
 | .n, T, H, V, K => K T H V
 | .s i b t, T, H, V, K => bv (ops[i]?) fun o => ff (em T) o.op = true /\ xz b S (em T) o.op /\ bS P n ds [o] T H V fun T' H' V' => uP S b H H' /\ cZ P n ds ops S t T' H' V' K
 | .c i t, T, H, V, K => bv (ops[i]?) fun o => kv o.dst n /\ ∃ c, yj P (em T) o.op c /\ cZ P n ds ops S t (bQ o.dst c T) H V K
 | .b i t, T, H, V, K => bv (ops[i]?) fun o => kv o.dst n /\ o.guard = none /\ wm P (em T) H V (fun c H' V' => H <+: H' /\ cZ P n ds ops S t (bQ o.dst c T) H' V' K) o.op
def qP (P : Program) (n : Nat) (ds : List (Option Tmp)) (ops : List Oper) (S : List Nat) (l : OB) (T : Tm) (H : Hp) (V : List Nat) (K : Tm -> Hp -> List Nat -> Prop) : Prop := cZ P n ds ops S l T H V K
theorem jZ (P : Program) (n : Nat) (ops : List Oper) (S : List Nat) : ∀ (l : OB) (T : Tm) (H : Hp) (V : List Nat) (K : Tm -> Hp -> List Nat -> Prop), kh P n ops S l T H V K = cZ P n (ops.map (·.dst)) ops S l T H V K
 | .n, _, _, _, _ => rfl
 | .s i b t, T, H, V, K => by
  rw [kh, cZ, aV]
  cases ops[i]? with
  | none => simp
  | some o => simp [bF, jZ P n ops S t, xz, uP]
 | .c i t, T, H, V, K => by
  rw [kh, cZ, aV]
  cases ops[i]? with
  | none => simp
  | some o => simp [jZ P n ops S t]
 | .b i t, T, H, V, K => by
  rw [kh, cZ, aV]
  cases ops[i]? with
  | none => simp
  | some o => simp [jZ P n ops S t]
section
variable {P : Program} {n : Nat} {ds : List (Option Tmp)} {ls : List Oper} {S : List Nat} {T T' : Tm} {H H' : Hp} {V V' : List Nat} {K : Tm -> Hp -> List Nat -> Prop}
@[go_sem] theorem U3 (l : OB) : qP P n ds ls S l T H V K = cZ P n ds ls S l T H V K := rfl
@[go_sem] theorem QS : cZ P n ds ls S .n T H V K = K T H V := rfl
def OQ (b : Fb) (P : Program) (n : Nat) (ds : List (Option Tmp)) (ls : List Oper) (S : List Nat) (r : OB) (H : Hp) (K : Tm -> Hp -> List Nat -> Prop) : Tm -> Hp -> List Nat -> Prop := fun T' H' V' => uP S b H H' /\ cZ P n ds ls S r T' H' V' K
@[go_sem ↓] theorem aam (b : Fb) (r : OB) : OQ b P n ds ls S r H K T H' V = (uP S b H H' /\ cZ P n ds ls S r T H' V K) := id rfl
@[go_sem] theorem Z9 (i : Nat) (b : Fb) (r : OB) : cZ P n ds ls S (.s i b r) T H V K = bv (ls[i]?) fun o => ff (em T) o.op = true /\ xz b S (em T) o.op /\ bS P n ds [o] T H V (OQ b P n ds ls S r H K) := rfl
def afw (P : Program) (n : Nat) (ds : List (Option Tmp)) (ls : List Oper) (S : List Nat) (d : Option Tmp) (op : Op) (r : OB) (T : Tm) (H : Hp) (V : List Nat) (K : Tm -> Hp -> List Nat -> Prop) : Prop := ∃ c, yj P (em T) op c /\ cZ P n ds ls S r (bQ d c T) H V K
@[go_sem] theorem aaa (i : Nat) (r : OB) : cZ P n ds ls S (.c i r) T H V K = bv (ls[i]?) fun o => kv o.dst n /\ afw P n ds ls S o.dst o.op r T H V K := rfl
def DD (P : Program) (n : Nat) (ds : List (Option Tmp)) (ls : List Oper) (S : List Nat) (d : Option Tmp) (X Y : CV) (t tx : TypeId) (r : OB) (T : Tm) (H : Hp) (V : List Nat) (K : Tm -> Hp -> List Nat -> Prop) : Prop :=
 ∃ (e ex : TypeId) (sz szx : Nat) (tk : Tk) (ys : List (List CV)), aZ P t = some (e, sz) /\ aZ P tx = some (ex, szx) /\ 0 < sz ∧
  X = .v (.slice none 0 0) /\ Y = .sl tk sz ys /\ ys ≠ [] /\ ys.length <= 1099511627776 /\ cZ P n ds ls S r (bQ d (.bsa H.length ys.length sz) T) (H ++ [some ys.flatten]) V K
def opB (P : Program) (n : Nat) (ds : List (Option Tmp)) (ls : List Oper) (S : List Nat) (d : Option Tmp) (op : Op) (r : OB) (T : Tm) (H : Hp) (V : List Nat) (K : Tm -> Hp -> List Nat -> Prop) : Prop := wm P (em T) H V (fun c H' V' => H <+: H' /\ cZ P n ds ls S r (bQ d c T) H' V' K) op
@[go_sem] theorem ab2 (d : Option Tmp) (x y : Operand) (t tx : TypeId) (r : OB) : opB P n ds ls S d (.call ⟨.builtin .append, #[x, y], #[t, tx]⟩) r T H V K = DD P n ds ls S d (em T x) (em T y) t tx r T H V K := by
 refine propext ⟨?_, ?_⟩
 · rintro ⟨x', y', t', tx', e, ex, sz, szx, tk, ys, h1, h2, h3, h4, h5, h6, h7, h8, -, h9⟩
   cases h1
   exact ⟨e, ex, sz, szx, tk, ys, h2, h3, h4, h5, h6, h7, h8, h9⟩
 · rintro ⟨e, ex, sz, szx, tk, ys, h2, h3, h4, h5, h6, h7, h8, h9⟩
   exact ⟨x, y, t, tx, e, ex, sz, szx, tk, ys, rfl, h2, h3, h4, h5, h6, h7, h8, ⟨_, rfl⟩, h9⟩
@[go_sem] theorem aab (i : Nat) (r : OB) : cZ P n ds ls S (.b i r) T H V K = bv (ls[i]?) fun o => kv o.dst n /\ o.guard = none /\ opB P n ds ls S o.dst o.op r T H V K := rfl
theorem DD.mk {d : Option Tmp} {t tx e ex : TypeId} {r : OB} {sz szx : Nat} {tk : Tk} {ys : List (List CV)} (h1 : aZ P t = some (e, sz)) (h2 : aZ P tx = some (ex, szx)) (h3 : 0 < sz) (h4 : ys ≠ []) (h5 : ys.length <= 1099511627776)
 (h : cZ P n ds ls S r (bQ d (.bsa H.length ys.length sz) T) (H ++ [some ys.flatten]) V K) : DD P n ds ls S d (.v (.slice none 0 0)) (.sl tk sz ys) t tx r T H V K := ⟨e, ex, sz, szx, tk, ys, h1, h2, h3, rfl, rfl, h4, h5, h⟩
@[congr] theorem MN {l : OB} (h1 : T = T') (h2 : H = H') (h3 : V = V') : cZ P n ds ls S l T H V K = cZ P n ds ls S l T' H' V' K := by subst h1 h2 h3; rfl
@[congr] theorem MM {ds' : List (Option Tmp)} {l : OB} (h0 : ds = ds') (h1 : T = T') (h2 : H = H') (h3 : V = V') : qP P n ds ls S l T H V K = qP P n ds' ls S l T' H' V' K := by subst h0 h1 h2 h3; rfl
@[congr] theorem RI {d : Option Tmp} {X X' Y Y' : CV} {t tx : TypeId} {r : OB} (h1 : T = T') (h2 : H = H') (h3 : V = V') (h4 : X = X') (h5 : Y = Y') : DD P n ds ls S d X Y t tx r T H V K = DD P n ds ls S d X' Y' t tx r T' H' V' K := by subst h1 h2 h3 h4 h5; rfl
end
theorem ac.drawnB {P : Program} {n id nb nv : Nat} {ops : List Oper} {Q : Exit -> Tm -> Hp -> List Nat -> Prop} {T : Tm} {H : Hp} {V : List Nat} (S l0 l1 : List Nat) (l : OB) (hm : P.follows .mixedOrders = true) (ho : qh ops l0 l1 l ops.length (Array.replicate ops.length false) = true)
 (h : qP P n (ops.map (·.dst)) ops S l T H V (Q .normal)) : ac P n nb nv (.region id ops.toArray true) Q T H V := ac.drawn0B l hm ho (by rw [jZ]; exact h)
theorem IM {P : Program} {n id nb nv : Nat} {ops : List Oper} {Q : Exit → Tm → Hp → List Nat → Prop} {T : Tm} {H : Hp} {V : List Nat} (S l0 l1 : List Nat) (l : OB)
 (h : qP P n (ops.map (·.dst)) ops S l T H V (Q .normal)) (hm : P.follows .mixedOrders = true := by kernel_rfl) (ho : qh ops l0 l1 l ops.length (Array.replicate ops.length false) = true := by kernel_rfl) : ac P n nb nv (.region id ops.toArray true) Q T H V := ac.drawnB S l0 l1 l hm ho h
end
section
theorem bE.swap {m : Gh} {w : World} {H : Hp} {V : List Nat} {a : Nat} {ds es : List CV} (hi : bE m w H V) (ha : H[a]? = some (some ds)) (hl : ds.length = es.length) (hf : ∀ k o, aX m w V k ds o -> aX m w V k es o) (hno : ∀ x ∈ ds, x.isObj = false) : bE m w (H.set a (some es)) V := by
 have hbl : a < H.length := (List.getElem?_eq_some_iff.1 ha).1;refine ⟨by rw [length_set]; exact hi.boxlen, hi.tiplen, hi.limv, hi.tips, hi.boxes, fun b1 b2 k c1 c2 g1 g2 g3 g4 => ?_, fun b1 c1 g => ?_⟩
 · have old : ∀ (b1 : Nat) c1, (H.set a (some es))[b1]? = some (some c1) -> ∃ c0, H[b1]? = some (some c0) := fun b1 c1 g => by
    by_cases e : a = b1
    · subst e; exact ⟨_, ha⟩
    · rw [getElem?_set_ne e] at g; exact ⟨_, g⟩
   obtain ⟨_, o1⟩ := old _ _ g1;obtain ⟨_, o2⟩ := old _ _ g2;exact hi.uniq b1 b2 k _ _ o1 o2 g3 g4
 · by_cases e : a = b1
   · subst e
     rw [getElem?_set_self hbl] at g;obtain rfl : es = c1 := by simpa using g
     cases hi.live a ds ha with
     | row k c e h1 h2 h3 h4 h5 => exact .row k c e h1 h2 (by rw [<- hl]; exact h3) h4 (hf _ _ h5)
     | obj k x h1 h2 h3 =>
      have := hno x (by rw [h2]; simp);rw [h3.isObj] at this; cases this
   · rw [getElem?_set_ne e] at g
     exact hi.live b1 c1 g
section
variable {n nb nv : Nat} {T T' : Tm} {H : Hp} {V : List Nat}
theorem cL.freezeH {a b : Nat} {cs ds es : List CV} (hab : a ≠ b) (hb : H[b]? = some (some cs)) (hnb : ∀ x ∈ cs, x.isObj = false) (ha : H[a]? = some (some ds)) (h : ki b cs ds es) (hno : ∀ x ∈ ds, x.isObj = false) : cL n nb nv T H V T ((H.set b none).set a (some es)) V := fun D m w A m0 w0 V0 h1 h2 h3 hx hs => by
 cases hs.inv.live b cs hb with
 | row k c e g1 g2 g3 g4 g5 =>
  obtain ⟨hi', hx'⟩ := hs.inv.fix hb g1 g2 g3 g4;have ha' : (H.set b none)[a]? = some (some ds) := by rw [getElem?_set_ne (fun e => hab e.symm)]; exact ha
  refine ⟨_, ⟨hi'.swap ha' h.len (fun k' o hr => ?_) hno, dC.mono hx' hs.tm, hs.size, hs.df⟩, hx.trans hx'⟩;exact FyC.rel (m := { m with lim := fun j => if j = k then cs.length else m.lim j }) (k := k) g1 (by show cs.length <= if k = k then cs.length else m.lim k; rw [if_pos rfl]; exact le_refl _) (i8 hx' rfl g5) h hr
 | obj k x g1 g2 g3 =>
  have := hnb x (by rw [g2]; simp);rw [g3.isObj] at this; cases this
theorem Sh.freezeH {s : Tm × Hp × List Nat} {a b : Nat} {cs ds es : List CV} (hab : a ≠ b) (hb : H[b]? = some (some cs)) (hnb : ∀ x ∈ cs, x.isObj = false) (ha : H[a]? = some (some ds)) (h : ki b cs ds es) (hno : ∀ x ∈ ds, x.isObj = false) (k : Sh n nb nv T ((H.set b none).set a (some es)) V s) : Sh n nb nv T H V s :=
 cL.trans (cL.freezeH hab hb hnb ha h hno) k
end
theorem M7 {P : Program} {d : Option Tmp} {t tx ty : TypeId} {pos : String} {after : Array Edge} {x y : Operand} {ev : Operand -> CV} {H : Hp} {V : List Nat} {sz szx : Nat} {e ex : TypeId} {ys : List (List CV)} (ht : aZ P t = some (e, sz)) (htx : aZ P tx = some (ex, szx))
 (hx : ev x = .sl .ti sz []) (hy : ko H sz (ev y) (fun q => q = ys)) (hn : ys ≠ []) (hl : ys.length <= 1099511627776) :
 O0 P ⟨d, .call ⟨.builtin .append, #[x, y], #[t, tx]⟩, ty, pos, after, none⟩ ev H V (.bsa H.length ys.length sz) (H ++ [some ys.flatten]) V := by
 intro m w a hi hev;obtain ⟨i, z, hu, dO, hsz, bY, hb0, hb1, hz, hzs⟩ := ba ht;obtain ⟨ys', news, hK, oF, hnews, aT⟩ := mT (K := fun q => q = ys) htx bY hi (hev y) hy;subst hK;subst hsz;have hnl := oF.newsLen;have hxr := hev x;rw [hx, ag] at hxr;obtain ⟨base, cap, hxe, hcap, htk, _, _⟩ := hxr;have hc0 : cap = 0 := htk;subst hc0;have hy0 : 0 < ys'.length := length_pos_iff.2 hn;have ho : (Builtin.firstCells i.size 0 (.slice base 0 0)).run P w.drew = .ok (#[] : Array Value) w.drew := by
  cases base with
  | none => exact run_firstCells_none w.drew i.size 0 0 0
  | some a => exact run_firstCells_some w.drew i.size 0 a 0 0 [] (by simp) (by simp)
 have hfit : (0 + ys'.length) * i.bytes <= 140737488355328 := by
  have := Nat.mul_le_mul (show 0 + ys'.length <= 1099511627776 by omega) hb1;omega
 have hg : 0 < 0 + ys'.length := by omega
 have iF := run_append_grow_src (P := P) w t tx ty e i z hu dO hz base 0 0 [] ho (a.eval y) ys'.length news oF hg (by omega) (growslice_fits hg hfit);have hp := bC.drewAlloc w (.cells (([] ++ news).toArray ++ Builtin.zeroCells z.cells (grownCap w (0 + ys'.length) 0 e - (0 + ys'.length))) e);have hcapg := grownCap_ge w (0 + ys'.length) 0 e;obtain ⟨s1, s2⟩ := ni (vs := news) (by simp) (fun j hj => by rw [Array.getElem?_append_left (by simpa using hj)]; simp) hi hp hnews oF.one;refine ⟨Value.slice (some ⟨w.heap.size, 0, none⟩) (0 + ys'.length) (grownCap w (0 + ys'.length) 0 e), _, _, ?_, s1, ?_, s2⟩
 · simp [execOp, resolve, invoke, builtin, hxe, iF]
 · rw [ag]
   refine ⟨w.heap.size, grownCap w (0 + ys'.length) 0 e, _, e, congrArg (fun q => Value.slice (some ⟨w.heap.size, 0, none⟩) q _) (Nat.zero_add _), Nat.le_trans (by omega) hcapg, bY, ?_, hp.new, ?_⟩
   · show (m.box ++ [w.heap.size])[H.length]? = _
     rw [<- hi.boxlen]; simp
   · rw [Array.size_append]
     simp only [nil_append, size_toArray, hnl];rw [size_zeroCells, hzs, <- Nat.add_mul];exact Nat.mul_le_mul_right _ (by omega)
theorem RH {P : Program} {d : Option Tmp} {t t' ty : TypeId} {pos : String} {after : Array Edge} {x y : Operand} {ev : Operand -> CV} {H : Hp} {V : List Nat} {b o n sz : Nat} (ht : (aZ P t).isSome = true) (hx : ev x = .bsl b o n sz) (hn : 0 < n) (hy : ev y = .v (.slice none 0 0)) :
 O0 P ⟨d, .binOp .eql t x y t', ty, pos, after, none⟩ ev H V (.v (.bool false)) H V := by
 intro m w a hi hev;have vx := hev x;rw [hx, ag] at vx;obtain ⟨base, cap, k, ux, h1, h2, hk, h3, hrow⟩ := vx;have vy := hev y;rw [hy, ag] at vy;obtain ⟨e, sz', ht⟩ := EO ht;obtain ⟨_, _, hu, _⟩ := ba ht;rcases h3 with h3 | rfl
 · omega
 have hq := nV (P := P) (w := w) hu (some ⟨k, o, none⟩) n cap;have hg : (eqGuard .eql t x y (.slice (some ⟨k, o, none⟩) n cap) (.slice none 0 0)).run P w = .ok () w := dJ _ _ _ _ _ _ (by simp) (by simp);have hb : (binOp .eql t (.slice (some ⟨k, o, none⟩) n cap) (.slice none 0 0)).run P w = .ok (.bool false) w := by
  have : binOp .eql t (.slice (some ⟨k, o, none⟩) n cap) (.slice none 0 0) = (Op.equal t (.slice (some ⟨k, o, none⟩) n cap) (.slice none 0 0)).bind fun b => .pure (.bool b) := rfl;rw [this, Sem.run_bind', hq]; rfl
 refine ⟨.bool false, w, m, ?_, hi, by rw [ag], bh.refl m w V⟩;simp [execOp, ux, vy, hg, hb]
theorem Ge.bsl0 {b o sz : Nat} : Ge (.bsl b o 0 sz) (.sl .sh sz []) := fun m w V u hu => by
 rw [ag] at hu;obtain ⟨base, cap, k, ux, h1, h2, _⟩ := hu;rw [ag];exact ⟨base, cap, ux, h1, trivial, h2, .inl rfl⟩
theorem CC.ge1 {P : Program} {f : FuncId} {x y : CV} {H : Hp} {V : List Nat} {R : CV -> Hp -> List Nat -> Prop} (h : Ge x y) (hc : CC P f [y] H V R) : CC P f [x] H V R :=
 ⟨hc.1, fun m w us hi hu => hc.2 m w us hi (by
  rw [av] at hu ⊢;obtain ⟨u, r, e, h1, h2⟩ := hu;exact ⟨u, r, e, h _ _ _ _ h1, h2⟩)⟩
end
section
variable {P : Program}
theorem afM {t ty : TypeId} {pos : String} {after : Array Edge} {x : Operand} {ev : Operand -> CV} {H : Hp} {V : List Nat} {b o sz : Nat} {e : TypeId} {zs : List Value} {cs : List CV} (ht : aZ P t = some (e, sz)) (hz : ck P e = some zs) (hx : ev x = .bsl b o 1 sz)
 (hb : H[b]? = some (some cs)) (ho : o + sz <= cs.length) :
 O0 P ⟨none, .call ⟨.builtin .clear, #[x], #[t]⟩, ty, pos, after, none⟩ ev H V .any (H.set b (some (cs.take o ++ zs.map CV.v ++ cs.drop (o + sz)))) V := by
 intro m w a hi hev;obtain ⟨i, z, hu, dO, hsz, bY, hb0, hb1, hzz, hzs⟩ := ba ht;obtain ⟨i', z', q1, q2, q3, q4⟩ := lA hz;rw [dO] at q1; cases q1;rw [hzz] at q2; cases q2;have vx := hev x;rw [hx, ag] at vx;obtain ⟨base, cap, k, ux, h1, h2, hk, h3, hrow⟩ := vx;obtain rfl := h3.resolve_left (by decide);obtain ⟨c, e', r1, r2, r3, r4⟩ := hi.alive hb hk hrow;have hzl : zs.length = sz := by rw [<- q3]; simpa using hzs
 have hst := run_storeCells_at P k o e' zs 0 c w r1 (by omega) q4;rw [Nat.add_zero] at hst;have hrel : ∀ zs : List Value, av m w V (zs.map CV.v) zs := fun zs => by
  induction zs with
  | nil => rw [map_nil, av]
  | cons y ys ih => rw [map_cons, av]; exact ⟨_, _, rfl, by rw [ag], ih⟩
 obtain ⟨s1, s2⟩ := jF (o := o) (us := zs) (ds := zs.map CV.v) hi hb hk r1 (hrel zs) q4 (by rw [length_map]; omega);simp only [length_map, hzl] at s1 s2 hst;have hzc : (Builtin.zeroCells z.cells 1).toList = zs := by
  rw [<- q3];apply ext_getElem
  · simp [Builtin.zeroCells]
  · intro j g1 g2
    have g2' : j < z.cells.size := by simpa using g2
    simp [Builtin.zeroCells, Nat.mod_eq_of_lt g2', g2']
 refine ⟨.tuple #[], _, m, ?_, s1, by rw [ag]; trivial, s2⟩;simp [execOp, resolve, invoke, builtin, Builtin.clear_, ux, run_underlying hu, zeroValue, typeInfo, dO, hzz, hzc, hst]
end
abbrev kS := BitVec 32
def JV : kS := 0x82F63B78#32
def qW (r : kS) : kS := if r.getLsbD 0 then (r >>> 1) ^^^ JV else r >>> 1
def bits : Nat -> kS -> kS
 | 0, r => r
 | n + 1, r => bits n (qW r)
theorem HZ (a b : kS) : qW (a ^^^ b) = qW a ^^^ qW b := by
 unfold qW;rw [BitVec.getLsbD_xor, BitVec.ushiftRight_xor_distrib]
 cases a.getLsbD 0 <;> cases b.getLsbD 0 <;> simp
 · rw [BitVec.xor_assoc]
 · rw [BitVec.xor_assoc, BitVec.xor_assoc, BitVec.xor_comm JV]
 · rw [BitVec.xor_assoc, BitVec.xor_comm JV, BitVec.xor_assoc, BitVec.xor_self, BitVec.xor_zero]
theorem wp : ∀ (n : Nat) (a b : kS), bits n (a ^^^ b) = bits n a ^^^ bits n b
 | 0, _, _ => rfl
 | n + 1, a, b => by rw [bits, bits, bits, HZ, wp n]
theorem wq : ∀ (n : Nat) (a : kS), (∀ i, i < n -> a.getLsbD i = false) -> bits n a = a >>> n
 | 0, a, _ => by rw [bits, BitVec.ushiftRight_zero]
 | n + 1, a, h => by
  have e : qW a = a >>> 1 := by unfold qW; rw [h 0 (by omega)]; rfl
  rw [bits, e, wq n _ fun i hi => by rw [BitVec.getLsbD_ushiftRight]; exact h _ (by omega), <- BitVec.shiftRight_add, Nat.add_comm 1 n]
def JT (r : kS) (b : UInt8) : kS := bits 8 (r ^^^ BitVec.ofNat 32 b.toNat)
def rq (i : Nat) : kS := bits 8 (BitVec.ofNat 32 i)
theorem BE (r : kS) (b : UInt8) : JT r b = (r >>> 8) ^^^ rq ((r ^^^ BitVec.ofNat 32 b.toNat).toNat % 256) := by
 have hb := b.toNat_lt;obtain ⟨x, hx⟩ : ∃ x, r ^^^ BitVec.ofNat 32 b.toNat = x := ⟨_, rfl⟩
 unfold JT rq;rw [hx];have h1 : x = (x &&& 0xFFFFFF00#32) ^^^ (x &&& 0xFF#32) := by
  apply BitVec.eq_of_getLsbD_eq;intro i hi;rw [BitVec.getLsbD_xor, BitVec.getLsbD_and, BitVec.getLsbD_and];have : ∀ j, j < 32 -> ((0xFFFFFF00#32).getLsbD j = !((0xFF#32).getLsbD j)) := by decide
  rw [this i hi]
  cases x.getLsbD i <;> cases (0xFF#32).getLsbD i <;> rfl
 have h2 : x &&& 0xFF#32 = BitVec.ofNat 32 (x.toNat % 256) := by
  apply BitVec.eq_of_toNat_eq;rw [BitVec.toNat_and, BitVec.toNat_ofNat, BitVec.toNat_ofNat];have : (255 % 2 ^ 32 : Nat) = 2 ^ 8 - 1 := by decide
  rw [this, Nat.and_two_pow_sub_one_eq_mod];have := Nat.mod_lt x.toNat (show 0 < 256 by omega);omega
 have h3 : bits 8 (x &&& 0xFFFFFF00#32) = r >>> 8 := by
  rw [wq 8 _ fun i hi => by
   rw [BitVec.getLsbD_and];have : ∀ j, j < 8 -> (0xFFFFFF00#32).getLsbD j = false := by decide
   rw [this i hi, Bool.and_false]]
  apply BitVec.eq_of_getLsbD_eq;intro i hi;rw [BitVec.getLsbD_ushiftRight, BitVec.getLsbD_ushiftRight, BitVec.getLsbD_and, <- hx, BitVec.getLsbD_xor]
  by_cases h : 8 + i < 32
  · have h4 : ∀ j, j < 24 -> (0xFFFFFF00#32).getLsbD (8 + j) = true := by decide
    rw [h4 _ (by omega), Bool.and_true];have h5 : (BitVec.ofNat 32 b.toNat).getLsbD (8 + i) = false := by
     rw [BitVec.getLsbD_ofNat, Nat.testBit_lt_two_pow (Nat.lt_of_lt_of_le hb (Nat.pow_le_pow_right (by omega) (show 8 <= 8 + i by omega)))];simp
    rw [h5, Bool.xor_false]
  · rw [BitVec.getLsbD_of_ge _ _ (by omega), BitVec.getLsbD_of_ge _ _ (by omega)]
    simp
 conv => lhs; rw [h1, wp, h3, h2]
def vP (r : kS) (l : List UInt8) : kS := l.foldl JT r
def HQ (l : List UInt8) : kS := ~~~(vP (~~~ (0#32)) l)
def rn (r : kS) : Int := (r.toNat : Int)
abbrev DQ (r : kS) : CV := .v (.int .u32 (rn r))
theorem wL {n : Nat} (h : n < 4294967296) : IntKind.u32.wrap (n : Int) = (n : Int) := by
 rw [IntKind.wrap_u32]; omega
theorem pc (a : kS) : BitVec.ofInt 32 (a.toNat : Int) = a := by
 rw [BitVec.ofInt_natCast, BitVec.ofNat_toNat, BitVec.setWidth_eq]
theorem yq (a b : kS) : cr .xor .u32 (a.toNat : Int) (b.toNat : Int) = ((a ^^^ b).toNat : Int) := by
 show IntKind.u32.wrap ((BitVec.ofInt 32 (a.toNat : Int) ^^^ BitVec.ofInt 32 (b.toNat : Int)).toNat : Int) = _;rw [pc, pc];exact wL (BitVec.isLt _)
theorem aaR (a b : kS) : cr .and .u32 (a.toNat : Int) (b.toNat : Int) = ((a &&& b).toNat : Int) := by
 show IntKind.u32.wrap ((BitVec.ofInt 32 (a.toNat : Int) &&& BitVec.ofInt 32 (b.toNat : Int)).toNat : Int) = _;rw [pc, pc];exact wL (BitVec.isLt _)
theorem NI (a : kS) (k : Nat) (hk : k <= 32) : shr .u32 (a.toNat : Int) (k : Int) = ((a >>> k).toNat : Int) := by
 unfold shr;have : min ((k : Int)).toNat IntKind.u32.bits = k := by
  have : IntKind.u32.bits = 32 := rfl;omega
 rw [this, Int.fdiv_eq_ediv_of_nonneg _ (Int.le_of_lt (Int.pow_pos (by decide))), BitVec.toNat_ushiftRight, Nat.shiftRight_eq_div_pow]
 push_cast
 rfl
theorem XN (a : kS) : cr .xor .u32 4294967295 (a.toNat : Int) = ((~~~a).toNat : Int) := by
 have := yq (BitVec.allOnes 32) a;rw [show ((BitVec.allOnes 32).toNat : Int) = 4294967295 from rfl] at this;rw [this, BitVec.allOnes_xor]
theorem KO (a : kS) : a.getLsbD 0 = decide (a.toNat % 2 = 1) := by
 rw [BitVec.getLsbD, Nat.testBit_zero]
theorem EJ (r : kS) : cr .xor .u32 ((r >>> 1).toNat : Int) (IntKind.u32.wrap (2197175160 * ((r &&& 1#32).toNat : Int))) = ((qW r).toNat : Int) := by
 have h1 : (r &&& 1#32).toNat = r.toNat % 2 := by
  rw [BitVec.toNat_and]; exact Nat.and_one_is_mod _
 unfold qW;rw [KO, h1];rcases Nat.mod_two_eq_zero_or_one r.toNat with h | h
 · rw [h, if_neg (by simp)]
   have := yq (r >>> 1) 0#32;rw [BitVec.xor_zero] at this;exact this
 · rw [h, if_pos (by simp)]
   exact yq (r >>> 1) JV
theorem aeL (a b : kS) : cr .xor .u32 (rn a) (rn b) = rn (a ^^^ b) := yq a b
theorem aaS (r : kS) : cr .and .u32 (rn r) 1 = rn (r &&& 1#32) := aaR r 1#32
theorem WX (r : kS) : shr .u32 (rn r) 1 = rn (r >>> 1) := NI r 1 (by decide)
theorem WW (r : kS) : shr .u32 (rn r) 8 = rn (r >>> 8) := NI r 8 (by decide)
theorem WR (r : kS) : cr .xor .u32 (rn (r >>> 1)) (IntKind.u32.wrap (2197175160 * rn (r &&& 1#32))) = rn (qW r) := EJ r
theorem XM (r : kS) : cr .xor .u32 4294967295 (rn r) = rn (~~~r) := XN r
theorem PL {i : Nat} (h : i < 4294967296) : IntKind.u32.wrap (i : Int) = rn (BitVec.ofNat 32 i) := by
 rw [rn, BitVec.toNat_ofNat, Nat.mod_eq_of_lt (by omega)]; exact wL h
theorem FY : (if IntKind.u32.signed = true then (-1 : Int) else IntKind.u32.max) = 4294967295 := rfl
theorem aeM (r : kS) (b : UInt8) : cr .xor .u8 (IntKind.u8.wrap (rn r)) (b.toNat : Int) = (((r ^^^ BitVec.ofNat 32 b.toNat).toNat % 256 : Nat) : Int) := by
 have hb := b.toNat_lt;show IntKind.u8.wrap ((BitVec.ofInt 8 (IntKind.u8.wrap (rn r)) ^^^ BitVec.ofInt 8 (b.toNat : Int)).toNat : Int) = _;have e : IntKind.u8.wrap (rn r) = ((r.toNat % 256 : Nat) : Int) := by rw [IntKind.wrap_u8, rn]; omega
 rw [e, BitVec.ofInt_natCast, BitVec.ofInt_natCast, BitVec.toNat_xor, BitVec.toNat_ofNat, BitVec.toNat_ofNat, BitVec.toNat_xor, BitVec.toNat_ofNat, Nat.mod_eq_of_lt (show b.toNat < 2 ^ 32 by omega), show (256 : Nat) = 2 ^ 8 from rfl, Nat.xor_mod_two_pow, Nat.mod_mod];have h1 := Nat.xor_lt_two_pow (Nat.mod_lt r.toNat (show 0 < 2 ^ 8 by decide)) (Nat.mod_lt b.toNat (show 0 < 2 ^ 8 by decide));rw [IntKind.wrap_u8];omega
section
def oo (k : IntKind) (zs : List Int) : Array Value := (zs.map fun z => Value.int k z).toArray
theorem sX (k : IntKind) : ∀ (n : Nat) (zs : List Int), zs.length = n -> (((List.replicate n k).zip zs).map fun p => Value.int p.1 p.2) = zs.map fun z => Value.int k z
 | 0, [], _ => rfl
 | n + 1, z :: zs, h => by
  rw [replicate_succ, zip_cons_cons, map_cons, map_cons, sX k n zs (by simpa using h)]
 | 0, _ :: _, h => by simp at h
 | n + 1, [], h => by simp at h
theorem lx : ∀ (xs ys : List Int), xs.length = ys.length -> ((List.range xs.length).all fun i => xs.getD i 0 == ys.getD i 0) = decide (xs = ys)
 | [], [], _ => rfl
 | x :: xs, y :: ys, h => by
  have ih := lx xs ys (by simpa using h);rw [length_cons, List.range_succ_eq_map, all_cons, all_map];simp only [List.getD_cons_zero, Function.comp_def, List.getD_cons_succ, ih]
  by_cases hx : x = y <;> simp [hx]
 | [], _ :: _, h => by simp at h
 | _ :: _, [], h => by simp at h
section
variable {P : Program}
theorem iW (w : World) (d : Nat) {e : TypeId} {k : IntKind} (he : P.underlying e = some (.int k)) (xs ys : List Int) : ∀ l : List Nat, (∀ i ∈ l, i < xs.length /\ i < ys.length) →
 (Op.eqItems (d + 1) e 1 (oo k xs) (oo k ys) l).run P w = .ok (l.all fun i => xs.getD i 0 == ys.getD i 0) w
 | [], _ => by simp [Op.eqItems]
 | i :: l, h => by
  obtain ⟨h1, h2⟩ := h i (by simp);have px : (part e (oo k xs) (i * 1)).run P w = .ok (.int k (xs.getD i 0)) w := by
   simp [oo, part, isAgg, run_underlying he, List.getD, getElem?_eq_getElem h1]
  have py : (part e (oo k ys) (i * 1)).run P w = .ok (.int k (ys.getD i 0)) w := by
   simp [oo, part, isAgg, run_underlying he, List.getD, getElem?_eq_getElem h2]
  have pe : (Op.equalIn (d + 1) e (.int k (xs.getD i 0)) (.int k (ys.getD i 0))).run P w = .ok (xs.getD i 0 == ys.getD i 0) w := run_equalIn_int w d e k k _ _ he;simp only [Op.eqItems, Sem.run_bind, px, py, pe, Result.andThen_ok, all_cons]
  cases hb : (xs.getD i 0 == ys.getD i 0)
  · simp
  · simp only [Bool.not_true, Bool.false_eq_true, if_false, Bool.true_and]
    exact iW w d he xs ys l fun j hj => h j (mem_cons_of_mem _ hj)
theorem tK {t e : TypeId} {n : Nat} {k : IntKind} {i : TypeInfo} (hu : P.underlying t = some (.array n e)) (hi : P.info? e = some i) (he : P.underlying e = some (.int k)) (hc : P.cellsOf e = 1) (hg : P.eqGuardType P.depth t = false) : uf P t (List.replicate n k) := by
 refine ⟨hg, fun w zs zs' h1 h2 => ?_⟩;rw [length_replicate] at h1 h2;rw [sX k n zs h1, sX k n zs' h2];show (Op.equalIn 10000 t (.agg (oo k zs)) (.agg (oo k zs'))).run P w = _;rw [run_equalIn_array w 9999 _ _ hu hi, hc, iW w 9998 he _ _ _ (fun i hi => by rw [mem_range] at hi; omega), <- h1, lx _ _ (by omega)]
end
theorem vG (k : IntKind) : ∀ zs : List Int, oP (List.replicate zs.length k) (zs.map fun z => CV.v (.int k z))
 | [] => by rw [length_nil, List.replicate_zero, oP]; rfl
 | z :: zs => by rw [length_cons, replicate_succ, oP]; exact ⟨z, _, rfl, vG k zs⟩
end
abbrev bX := List (List au)
def eB (v : List au) : List CV := [aF v]
@[go_sem, simp] theorem ac1 (v : List au) : (eB v).length = 1 := rfl
@[go_sem, simp] theorem ac2 (v : List au) (h : 0 < (eB v).length) : (eB v)[0] = aF v := rfl
@[go_sem] theorem J7 (jb jv : Nat) (v : List au) : okL jb jv (eB v) = True := by simp [eB, okL, aK, gr, cR]
@[go_sem] theorem gH (jb jv : Nat) (l : bX) : fO jb jv (l.map eB) = True := eq_true (fj eB l fun e => by rw [J7]; trivial)
abbrev F9 (l : bX) : CV := .sl .sh 1 (l.map eB)
def aB (l : bX) : List Int := l.map fun v => (v.length : Int)
def bo (l : List Int) : bX := l.map fun n => NE n.toNat
@[go_sem, simp] theorem gP (l : bX) : (aB l).length = l.length := length_map ..
@[go_sem, simp] theorem vn (l : List Int) : (bo l).length = l.length := length_map ..
def m6 (n : Int) : Bool := decide (n < 1) || decide (4096 < n)
def aN (l : List Int) : Nat := if l.length < 1 \/ 8 < l.length then 6 else if l.any m6 = true then 2 else 0
theorem dj {l : List Int} (h : aN l = 0) : 1 <= l.length /\ l.length <= 8 /\ ∀ n ∈ l, 1 <= n /\ n <= 4096 := by
 unfold aN at h
 split at h
 · cases h
 · split at h
   · cases h
   · rename_i h1 h2
     refine ⟨by omega, by omega, fun n hn => ?_⟩;have : ¬ m6 n = true := fun hb => h2 (any_eq_true.2 ⟨n, hn, hb⟩);simp only [m6, Bool.or_eq_true, decide_eq_true_eq] at this;omega
theorem cI {l : List Int} (h : aN l = 0) : aB (bo l) = l := by
 rw [aB, bo, map_map]
 conv => rhs; rw [<- List.map_id l]
 refine map_congr_left fun n hn => ?_;have := (dj h).2.2 n hn;simp only [Function.comp, yp, id];omega
def aS (sizes : List Int) (w : Wr) : Nat :=
 if w.volume < 0 \/ (sizes.length : Int) <= w.volume then 7 else if w.data.length = 0 then 1 else if w.start < 0 \/ sizes.getD w.volume.toNat 0 - w.data.length < w.start then 2 else 0
@[go_sem] theorem jG : aZ Tryz.prog 22 = some (3, 1) := by kernel_rfl
@[go_sem] theorem aeV : aZ Tryz.prog 23 = some (33, 7) := by kernel_rfl
@[go_sem] theorem ta : aZ Tryz.prog 29 = some (66, 8) := by kernel_rfl
@[go_sem] theorem EN : aZ Tryz.prog 39 = some (31, 3) := by kernel_rfl
@[go_sem] theorem aeU : aZ Tryz.prog 40 = some (29, 1) := by kernel_rfl
@[go_sem] theorem aeT : aZ Tryz.prog 41 = some (29, 1) := by kernel_rfl
@[go_sem] theorem wU : aZ Tryz.prog 44 = some (102, 3) := by kernel_rfl
@[go_sem] theorem aeS : aZ Tryz.prog 48 = some (154, 9) := by kernel_rfl
@[go_sem] theorem wT : aZ Tryz.prog 51 = some (203, 2) := by kernel_rfl
@[go_sem] theorem af1 : iQ Tryz.prog 66 = some (8, false, 1) := by kernel_rfl
@[go_sem] theorem aeR : aZ Tryz.prog 87 = some (170, 3) := by kernel_rfl
@[go_sem] theorem abN : aZ Tryz.prog 125 = some (5, 1) := by kernel_rfl
@[go_sem] theorem yK : aZ Tryz.prog 133 = some (4, 1) := by kernel_rfl
@[go_sem] theorem abM : aZ Tryz.prog 187 = some (44, 1) := by kernel_rfl
@[go_sem] theorem aeh : iQ Tryz.prog 191 = some (2, false, 1) := by kernel_rfl
@[go_sem] theorem aeg : iQ Tryz.prog 234 = some (2, true, 3) := by kernel_rfl
@[go_sem] theorem abL : aZ Tryz.prog 287 = some (22, 1) := by kernel_rfl
@[go_sem] theorem aef : iQ Tryz.prog 301 = some (256, false, 1) := by kernel_rfl
@[go_sem] theorem aee : iQ Tryz.prog 310 = some (256, false, 1) := by kernel_rfl
@[go_sem] theorem aed : iQ Tryz.prog 341 = some (256, false, 1) := by kernel_rfl
@[go_sem] theorem aec : iQ Tryz.prog 344 = some (16, true, 2) := by kernel_rfl
@[go_sem] theorem agP : bH Tryz.prog 3 = some (false, 1) := by kernel_rfl
@[go_sem] theorem agO : bH Tryz.prog 4 = some (false, 1) := by kernel_rfl
@[go_sem] theorem agN : bH Tryz.prog 5 = some (false, 1) := by kernel_rfl
@[go_sem] theorem afr : bH Tryz.prog 22 = some (false, 1) := by kernel_rfl
@[go_sem] theorem afq : bH Tryz.prog 29 = some (false, 1) := by kernel_rfl
@[go_sem] theorem afp : bH Tryz.prog 31 = some (true, 3) := by kernel_rfl
@[go_sem] theorem afo : bH Tryz.prog 33 = some (true, 7) := by kernel_rfl
@[go_sem] theorem afn : bH Tryz.prog 36 = some (true, 2) := by kernel_rfl
@[go_sem] theorem afm : bH Tryz.prog 38 = some (true, 6) := by kernel_rfl
@[go_sem] theorem afl : bH Tryz.prog 39 = some (false, 1) := by kernel_rfl
@[go_sem] theorem afk : bH Tryz.prog 41 = some (false, 1) := by kernel_rfl
@[go_sem] theorem afj : bH Tryz.prog 43 = some (true, 11) := by kernel_rfl
@[go_sem] theorem afi : bH Tryz.prog 44 = some (false, 1) := by kernel_rfl
@[go_sem] theorem afh : bH Tryz.prog 45 = some (false, 1) := by kernel_rfl
@[go_sem] theorem afg : bH Tryz.prog 48 = some (false, 1) := by kernel_rfl
@[go_sem] theorem aff : bH Tryz.prog 50 = some (true, 2) := by kernel_rfl
@[go_sem] theorem afe : bH Tryz.prog 51 = some (false, 1) := by kernel_rfl
@[go_sem] theorem afd : bH Tryz.prog 53 = some (true, 3) := by kernel_rfl
@[go_sem] theorem afc : bH Tryz.prog 55 = some (true, 6) := by kernel_rfl
@[go_sem] theorem afb : bH Tryz.prog 66 = some (true, 8) := by kernel_rfl
@[go_sem] theorem afa : bH Tryz.prog 87 = some (false, 1) := by kernel_rfl
@[go_sem] theorem acM : bH Tryz.prog 102 = some (true, 3) := by kernel_rfl
@[go_sem] theorem acL : bH Tryz.prog 125 = some (false, 1) := by kernel_rfl
@[go_sem] theorem acK : bH Tryz.prog 133 = some (false, 1) := by kernel_rfl
@[go_sem] theorem acJ : bH Tryz.prog 135 = some (true, 1) := by kernel_rfl
@[go_sem] theorem acI : bH Tryz.prog 142 = some (true, 2) := by kernel_rfl
@[go_sem] theorem acH : bH Tryz.prog 144 = some (true, 5) := by kernel_rfl
@[go_sem] theorem acG : bH Tryz.prog 154 = some (true, 9) := by kernel_rfl
@[go_sem] theorem acF : bH Tryz.prog 157 = some (true, 2) := by kernel_rfl
@[go_sem] theorem acE : bH Tryz.prog 170 = some (true, 3) := by kernel_rfl
@[go_sem] theorem acD : bH Tryz.prog 172 = some (true, 9) := by kernel_rfl
@[go_sem] theorem acC : bH Tryz.prog 190 = some (false, 1) := by kernel_rfl
@[go_sem] theorem acB : bH Tryz.prog 191 = some (true, 2) := by kernel_rfl
@[go_sem] theorem acA : bH Tryz.prog 203 = some (true, 2) := by kernel_rfl
@[go_sem] theorem acz : bH Tryz.prog 233 = some (true, 3) := by kernel_rfl
@[go_sem] theorem acy : bH Tryz.prog 234 = some (true, 6) := by kernel_rfl
@[go_sem] theorem acx : bH Tryz.prog 240 = some (false, 1) := by kernel_rfl
@[go_sem] theorem acw : bH Tryz.prog 249 = some (false, 1) := by kernel_rfl
@[go_sem] theorem acv : bH Tryz.prog 265 = some (true, 1) := by kernel_rfl
@[go_sem] theorem acu : bH Tryz.prog 301 = some (true, 256) := by kernel_rfl
@[go_sem] theorem act : bH Tryz.prog 310 = some (true, 256) := by kernel_rfl
@[go_sem] theorem acs : bH Tryz.prog 332 = some (false, 1) := by kernel_rfl
@[go_sem] theorem acr : bH Tryz.prog 343 = some (true, 2) := by kernel_rfl
@[go_sem] theorem ZR : bj Tryz.prog 31 0 = some (0, false, 1) := by kernel_rfl
@[go_sem] theorem ZQ : bj Tryz.prog 31 1 = some (1, false, 1) := by kernel_rfl
@[go_sem] theorem ZP : bj Tryz.prog 31 2 = some (2, false, 1) := by kernel_rfl
@[go_sem] theorem ZO : bj Tryz.prog 33 0 = some (0, false, 1) := by kernel_rfl
@[go_sem] theorem ZN : bj Tryz.prog 33 1 = some (1, true, 3) := by kernel_rfl
@[go_sem] theorem ZM : bj Tryz.prog 33 2 = some (4, false, 1) := by kernel_rfl
@[go_sem] theorem ZL : bj Tryz.prog 33 3 = some (5, false, 1) := by kernel_rfl
@[go_sem] theorem ZK : bj Tryz.prog 33 4 = some (6, false, 1) := by kernel_rfl
@[go_sem] theorem ZJ : bj Tryz.prog 36 0 = some (0, false, 1) := by kernel_rfl
@[go_sem] theorem ZI : bj Tryz.prog 36 1 = some (1, false, 1) := by kernel_rfl
@[go_sem] theorem ZH : bj Tryz.prog 38 0 = some (0, true, 2) := by kernel_rfl
@[go_sem] theorem ZG : bj Tryz.prog 38 1 = some (2, false, 1) := by kernel_rfl
@[go_sem] theorem ZF : bj Tryz.prog 38 2 = some (3, false, 1) := by kernel_rfl
@[go_sem] theorem ZE : bj Tryz.prog 38 3 = some (4, false, 1) := by kernel_rfl
@[go_sem] theorem ZD : bj Tryz.prog 38 4 = some (5, false, 1) := by kernel_rfl
@[go_sem] theorem ZC : bj Tryz.prog 43 0 = some (0, false, 1) := by kernel_rfl
@[go_sem] theorem ZB : bj Tryz.prog 43 1 = some (1, true, 6) := by kernel_rfl
@[go_sem] theorem ZA : bj Tryz.prog 43 2 = some (7, false, 1) := by kernel_rfl
@[go_sem] theorem Y9 : bj Tryz.prog 43 3 = some (8, false, 1) := by kernel_rfl
@[go_sem] theorem Y8 : bj Tryz.prog 43 4 = some (9, false, 1) := by kernel_rfl
@[go_sem] theorem Y7 : bj Tryz.prog 43 5 = some (10, false, 1) := by kernel_rfl
@[go_sem] theorem Y6 : bj Tryz.prog 50 0 = some (0, false, 1) := by kernel_rfl
@[go_sem] theorem Y5 : bj Tryz.prog 50 1 = some (1, false, 1) := by kernel_rfl
@[go_sem] theorem Y4 : bj Tryz.prog 53 0 = some (0, false, 1) := by kernel_rfl
@[go_sem] theorem Y3 : bj Tryz.prog 53 1 = some (1, false, 1) := by kernel_rfl
@[go_sem] theorem Y2 : bj Tryz.prog 53 2 = some (2, false, 1) := by kernel_rfl
@[go_sem] theorem Y1 : bj Tryz.prog 55 0 = some (0, true, 3) := by kernel_rfl
@[go_sem] theorem Y0 : bj Tryz.prog 55 1 = some (3, false, 1) := by kernel_rfl
@[go_sem] theorem YZ : bj Tryz.prog 55 2 = some (4, false, 1) := by kernel_rfl
@[go_sem] theorem YY : bj Tryz.prog 55 3 = some (5, false, 1) := by kernel_rfl
@[go_sem] theorem YX : bj Tryz.prog 57 0 = some (0, false, 1) := by kernel_rfl
@[go_sem] theorem YW : bj Tryz.prog 57 1 = some (1, true, 2) := by kernel_rfl
@[go_sem] theorem YV : bj Tryz.prog 57 2 = some (3, true, 11) := by kernel_rfl
@[go_sem] theorem YU : bj Tryz.prog 57 3 = some (14, true, 6) := by kernel_rfl
@[go_sem] theorem UG : bj Tryz.prog 102 0 = some (0, false, 1) := by kernel_rfl
@[go_sem] theorem UF : bj Tryz.prog 102 1 = some (1, false, 1) := by kernel_rfl
@[go_sem] theorem UE : bj Tryz.prog 102 2 = some (2, false, 1) := by kernel_rfl
@[go_sem] theorem UD : bj Tryz.prog 108 0 = some (0, true, 2) := by kernel_rfl
@[go_sem] theorem UC : bj Tryz.prog 135 0 = some (0, false, 1) := by kernel_rfl
@[go_sem] theorem UB : bj Tryz.prog 137 0 = some (0, true, 1) := by kernel_rfl
@[go_sem] theorem UA : bj Tryz.prog 137 1 = some (1, true, 6) := by kernel_rfl
@[go_sem] theorem TZ : bj Tryz.prog 142 0 = some (0, false, 1) := by kernel_rfl
@[go_sem] theorem TY : bj Tryz.prog 142 1 = some (1, false, 1) := by kernel_rfl
@[go_sem] theorem TX : bj Tryz.prog 144 0 = some (0, true, 3) := by kernel_rfl
@[go_sem] theorem TW : bj Tryz.prog 144 1 = some (3, true, 2) := by kernel_rfl
@[go_sem] theorem TV : bj Tryz.prog 154 0 = some (0, false, 1) := by kernel_rfl
@[go_sem] theorem TU : bj Tryz.prog 154 1 = some (1, true, 8) := by kernel_rfl
@[go_sem] theorem TS : bj Tryz.prog 157 0 = some (0, true, 2) := by kernel_rfl
@[go_sem] theorem TQ : bj Tryz.prog 164 0 = some (0, false, 1) := by kernel_rfl
@[go_sem] theorem TP : bj Tryz.prog 164 1 = some (1, false, 1) := by kernel_rfl
@[go_sem] theorem TO : bj Tryz.prog 170 0 = some (0, false, 1) := by kernel_rfl
@[go_sem] theorem TN : bj Tryz.prog 170 1 = some (1, false, 1) := by kernel_rfl
@[go_sem] theorem TM : bj Tryz.prog 170 2 = some (2, false, 1) := by kernel_rfl
@[go_sem] theorem TL : bj Tryz.prog 172 0 = some (0, true, 2) := by kernel_rfl
@[go_sem] theorem TK : bj Tryz.prog 172 1 = some (2, true, 6) := by kernel_rfl
@[go_sem] theorem TJ : bj Tryz.prog 172 2 = some (8, false, 1) := by kernel_rfl
@[go_sem] theorem TI : bj Tryz.prog 203 0 = some (0, false, 1) := by kernel_rfl
@[go_sem] theorem TH : bj Tryz.prog 203 1 = some (1, false, 1) := by kernel_rfl
@[go_sem] theorem TG : bj Tryz.prog 231 0 = some (0, false, 1) := by kernel_rfl
@[go_sem] theorem TF : bj Tryz.prog 231 1 = some (1, false, 1) := by kernel_rfl
@[go_sem] theorem TE : bj Tryz.prog 233 0 = some (0, true, 2) := by kernel_rfl
@[go_sem] theorem TD : bj Tryz.prog 233 1 = some (2, false, 1) := by kernel_rfl
@[go_sem] theorem TB : bj Tryz.prog 265 0 = some (0, false, 1) := by kernel_rfl
@[go_sem] theorem TA : bj Tryz.prog 269 0 = some (0, false, 1) := by kernel_rfl
@[go_sem] theorem S9 : bj Tryz.prog 271 0 = some (0, true, 1) := by kernel_rfl
@[go_sem] theorem S8 : bj Tryz.prog 271 1 = some (1, false, 1) := by kernel_rfl
@[go_sem] theorem S7 : bj Tryz.prog 271 2 = some (2, false, 1) := by kernel_rfl
@[go_sem] theorem S6 : bj Tryz.prog 290 0 = some (0, false, 1) := by kernel_rfl
@[go_sem] theorem S5 : bj Tryz.prog 343 0 = some (0, false, 1) := by kernel_rfl
@[go_sem] theorem S4 : bj Tryz.prog 343 1 = some (1, false, 1) := by kernel_rfl
def wJ : List Value := List.replicate 256 (.int .u32 0)
@[go_sem] theorem agh : ck Tryz.prog 3 = some [.int .i64 0] := by kernel_rfl
@[go_sem] theorem agf : ck Tryz.prog 4 = some [.bool false] := by kernel_rfl
@[go_sem] theorem age : ck Tryz.prog 5 = some [.int .u8 0] := by kernel_rfl
@[go_sem] theorem aeI : ck Tryz.prog 29 = some [.slice none 0 0] := by kernel_rfl
@[go_sem] theorem aeH : ck Tryz.prog 31 = some [.int .i64 0, .int .i64 0, .slice none 0 0] := by kernel_rfl
@[go_sem] theorem aeG : ck Tryz.prog 33 = some [.int .i64 0, .int .i64 0, .int .i64 0, .slice none 0 0, .bool false, .int .u8 0, .slice none 0 0] := by kernel_rfl
@[go_sem] theorem aeF : ck Tryz.prog 38 = some [.int .i64 0, .int .i64 0, .int .i64 0, .int .i64 0, .int .i64 0, .slice none 0 0] := by kernel_rfl
@[go_sem] theorem aeE : ck Tryz.prog 39 = some [.slice none 0 0] := by kernel_rfl
@[go_sem] theorem aeD : ck Tryz.prog 43 = some [.slice none 0 0, .int .i64 0, .int .i64 0, .int .i64 0, .int .i64 0, .int .i64 0, .slice none 0 0, .int .i64 0, .int .i64 0, .slice none 0 0, .slice none 0 0] := by kernel_rfl
@[go_sem] theorem aeC : ck Tryz.prog 44 = some [.slice none 0 0] := by kernel_rfl
@[go_sem] theorem aeB : ck Tryz.prog 45 = some [.int .i64 0] := by kernel_rfl
@[go_sem] theorem aeA : ck Tryz.prog 50 = some [.slice none 0 0, .slice none 0 0] := by kernel_rfl
@[go_sem] theorem aez : ck Tryz.prog 53 = some [.slice none 0 0, .slice none 0 0, .slice none 0 0] := by kernel_rfl
@[go_sem] theorem aey : ck Tryz.prog 55 = some [.slice none 0 0, .slice none 0 0, .slice none 0 0, .slice none 0 0, .slice none 0 0, .bool false] := by kernel_rfl
@[go_sem] theorem aex : ck Tryz.prog 66 = some [.int .u8 0, .int .u8 0, .int .u8 0, .int .u8 0, .int .u8 0, .int .u8 0, .int .u8 0, .int .u8 0] := by kernel_rfl
@[go_sem] theorem abx : ck Tryz.prog 102 = some [.int .i64 0, .int .i64 0, .slice none 0 0] := by kernel_rfl
@[go_sem] theorem abw : ck Tryz.prog 133 = some [.slice none 0 0] := by kernel_rfl
@[go_sem] theorem abv : ck Tryz.prog 144 = some [.slice none 0 0, .slice none 0 0, .slice none 0 0, .slice none 0 0, .slice none 0 0] := by kernel_rfl
@[go_sem] theorem abu : ck Tryz.prog 154 = some [.int .i64 0, .int .u8 0, .int .u8 0, .int .u8 0, .int .u8 0, .int .u8 0, .int .u8 0, .int .u8 0, .int .u8 0] := by kernel_rfl
@[go_sem] theorem abt : ck Tryz.prog 157 = some [.int .i64 0, .int .i64 0] := by kernel_rfl
@[go_sem] theorem abs : ck Tryz.prog 170 = some [.int .i64 0, .int .i64 0, .slice none 0 0] := by kernel_rfl
@[go_sem] theorem abr : ck Tryz.prog 172 = some [.int .i64 0, .int .i64 0, .int .i64 0, .int .i64 0, .int .i64 0, .int .i64 0, .int .i64 0, .slice none 0 0, .int .i64 0] := by kernel_rfl
@[go_sem] theorem abq : ck Tryz.prog 191 = some [.nilFunc, .nilFunc] := by kernel_rfl
@[go_sem] theorem abp : ck Tryz.prog 203 = some [.int .i64 0, .int .i64 0] := by kernel_rfl
@[go_sem] theorem abo : ck Tryz.prog 233 = some [.int .i64 0, .slice none 0 0, .slice none 0 0] := by kernel_rfl
@[go_sem] theorem abn : ck Tryz.prog 234 = some [.int .i64 0, .slice none 0 0, .slice none 0 0, .int .i64 0, .slice none 0 0, .slice none 0 0] := by kernel_rfl
@[go_sem] theorem abm : ck Tryz.prog 265 = some [.int .i64 0] := by kernel_rfl
@[go_sem] theorem abl : ck Tryz.prog 301 = some wJ := by kernel_rfl
@[go_sem] theorem abk : ck Tryz.prog 332 = some [.int .u64 0] := by kernel_rfl
@[go_sem] theorem abj : ck Tryz.prog 343 = some [.int .u8 0, .int .u8 0] := by kernel_rfl
@[go_sem] theorem af0 : eM Tryz.prog 31 = some ([(0, 1), (1, 1), (2, 1)], [.int .i64 0, .int .i64 0, .slice none 0 0]) := by kernel_rfl
@[go_sem] theorem afZ : eM Tryz.prog 33 = some ([(0, 1), (1, 3), (4, 1), (5, 1), (6, 1)], [.int .i64 0, .int .i64 0, .int .i64 0, .slice none 0 0, .bool false, .int .u8 0, .slice none 0 0]) := by kernel_rfl
@[go_sem] theorem afY : eM Tryz.prog 36 = some ([(0, 1), (1, 1)], [.int .i64 0, .int .i64 0]) := by kernel_rfl
@[go_sem] theorem afX : eM Tryz.prog 38 = some ([(0, 2), (2, 1), (3, 1), (4, 1), (5, 1)], [.int .i64 0, .int .i64 0, .int .i64 0, .int .i64 0, .int .i64 0, .slice none 0 0]) := by kernel_rfl
@[go_sem] theorem afW : eM Tryz.prog 43 = some ([(0, 1), (1, 6), (7, 1), (8, 1), (9, 1), (10, 1)], [.slice none 0 0, .int .i64 0, .int .i64 0, .int .i64 0, .int .i64 0, .int .i64 0, .slice none 0 0, .int .i64 0, .int .i64 0, .slice none 0 0, .slice none 0 0]) := by kernel_rfl
@[go_sem] theorem afV : eM Tryz.prog 50 = some ([(0, 1), (1, 1)], [.slice none 0 0, .slice none 0 0]) := by kernel_rfl
@[go_sem] theorem afU : eM Tryz.prog 53 = some ([(0, 1), (1, 1), (2, 1)], [.slice none 0 0, .slice none 0 0, .slice none 0 0]) := by kernel_rfl
@[go_sem] theorem afT : eM Tryz.prog 55 = some ([(0, 3), (3, 1), (4, 1), (5, 1)], [.slice none 0 0, .slice none 0 0, .slice none 0 0, .slice none 0 0, .slice none 0 0, .bool false]) := by kernel_rfl
@[go_sem] theorem afS : eM Tryz.prog 57 = some ([(0, 1), (1, 2), (3, 11), (14, 6)], [.slice none 0 0, .slice none 0 0, .slice none 0 0, .slice none 0 0, .int .i64 0, .int .i64 0, .int .i64 0, .int .i64 0, .int .i64 0, .slice none 0 0, .int .i64 0, .int .i64 0, .slice none 0 0, .slice none 0 0, .slice none 0 0, .slice none 0 0, .slice none 0 0, .slice none 0 0, .slice none 0 0, .bool false]) := by kernel_rfl
@[go_sem] theorem afR : eM Tryz.prog 66 = some ([(0, 1), (1, 1), (2, 1), (3, 1), (4, 1), (5, 1), (6, 1), (7, 1)], [.int .u8 0, .int .u8 0, .int .u8 0, .int .u8 0, .int .u8 0, .int .u8 0, .int .u8 0, .int .u8 0]) := by kernel_rfl
@[go_sem] theorem aea : eM Tryz.prog 102 = some ([(0, 1), (1, 1), (2, 1)], [.int .i64 0, .int .i64 0, .slice none 0 0]) := by kernel_rfl
@[go_sem] theorem ad9 : eM Tryz.prog 108 = some ([(0, 2)], [.slice none 0 0, .slice none 0 0]) := by kernel_rfl
@[go_sem] theorem ad8 : eM Tryz.prog 137 = some ([(0, 1), (1, 6)], [.slice none 0 0, .slice none 0 0, .slice none 0 0, .slice none 0 0, .slice none 0 0, .slice none 0 0, .bool false]) := by kernel_rfl
@[go_sem] theorem ad7 : eM Tryz.prog 144 = some ([(0, 3), (3, 2)], [.slice none 0 0, .slice none 0 0, .slice none 0 0, .slice none 0 0, .slice none 0 0]) := by kernel_rfl
@[go_sem] theorem ad6 : eM Tryz.prog 154 = some ([(0, 1), (1, 8)], [.int .i64 0, .int .u8 0, .int .u8 0, .int .u8 0, .int .u8 0, .int .u8 0, .int .u8 0, .int .u8 0, .int .u8 0]) := by kernel_rfl
@[go_sem] theorem ad5 : eM Tryz.prog 157 = some ([(0, 2)], [.int .i64 0, .int .i64 0]) := by kernel_rfl
@[go_sem] theorem ad4 : eM Tryz.prog 164 = some ([(0, 1), (1, 1)], [.int .i64 0, .int .i64 0]) := by kernel_rfl
@[go_sem] theorem ad3 : eM Tryz.prog 170 = some ([(0, 1), (1, 1), (2, 1)], [.int .i64 0, .int .i64 0, .slice none 0 0]) := by kernel_rfl
@[go_sem] theorem ad2 : eM Tryz.prog 172 = some ([(0, 2), (2, 6), (8, 1)], [.int .i64 0, .int .i64 0, .int .i64 0, .int .i64 0, .int .i64 0, .int .i64 0, .int .i64 0, .slice none 0 0, .int .i64 0]) := by kernel_rfl
@[go_sem] theorem ad1 : eM Tryz.prog 191 = some ([(0, 1), (1, 1)], [.nilFunc, .nilFunc]) := by kernel_rfl
@[go_sem] theorem ad0 : eM Tryz.prog 203 = some ([(0, 1), (1, 1)], [.int .i64 0, .int .i64 0]) := by kernel_rfl
@[go_sem] theorem adZ : eM Tryz.prog 231 = some ([(0, 1), (1, 1)], [.int .i64 0, .slice none 0 0]) := by kernel_rfl
@[go_sem] theorem adY : eM Tryz.prog 233 = some ([(0, 2), (2, 1)], [.int .i64 0, .slice none 0 0, .slice none 0 0]) := by kernel_rfl
@[go_sem] theorem adX : eM Tryz.prog 234 = some ([(0, 3), (3, 3)], [.int .i64 0, .slice none 0 0, .slice none 0 0, .int .i64 0, .slice none 0 0, .slice none 0 0]) := by kernel_rfl
@[go_sem] theorem adW : eM Tryz.prog 265 = some ([(0, 1)], [.int .i64 0]) := by kernel_rfl
@[go_sem] theorem adV : eM Tryz.prog 271 = some ([(0, 1), (1, 1), (2, 1)], [.slice none 0 0, .int .i64 0, .int .i64 0]) := by kernel_rfl
@[go_sem] theorem adU : eM Tryz.prog 290 = some ([(0, 1)], [.slice none 0 0]) := by kernel_rfl
@[go_sem] theorem adq : mS Tryz.prog 3 5 = some (some .u8) := by kernel_rfl
@[go_sem] theorem UT : mS Tryz.prog 3 249 = some (some .u32) := by kernel_rfl
@[go_sem] theorem US : mS Tryz.prog 3 274 = some (some .u64) := by kernel_rfl
@[go_sem] theorem UR : mS Tryz.prog 3 332 = some (some .u64) := by kernel_rfl
@[go_sem] theorem adp : mS Tryz.prog 5 3 = some (some .i64) := by kernel_rfl
@[go_sem] theorem Z2 : mS Tryz.prog 5 21 = some (some .i32) := by kernel_rfl
@[go_sem] theorem UX : mS Tryz.prog 249 3 = some (some .i64) := by kernel_rfl
@[go_sem] theorem UW : mS Tryz.prog 249 5 = some (some .u8) := by kernel_rfl
@[go_sem] theorem UV : mS Tryz.prog 274 3 = some (some .i64) := by kernel_rfl
@[go_sem] theorem OA : mS Tryz.prog 274 249 = some (some .u32) := by kernel_rfl
@[go_sem] theorem UU : mS Tryz.prog 325 5 = some (some .u8) := by kernel_rfl
@[go_sem] theorem acp : nJ Tryz.prog 240 = some (.slice none 0 0) := by kernel_rfl
@[go_sem] theorem aeP : Tryz.prog.underlying 9 = some .string := by kernel_rfl
@[go_sem] theorem adR : Tryz.prog.underlying 4 = some .bool := by kernel_rfl
structure dH where
 pos : Int
 data : au
def dw (c : dH) : List CV := .v (.int .i64 c.pos) :: aE c.data
@[go_sem, simp] theorem VM (c : dH) : (dw c).length = 9 := by rw [dw, length_cons, fc]
@[go_sem, simp] theorem adK (c : dH) (h : 0 < (dw c).length) : (dw c)[0] = CV.v (.int .i64 c.pos) := rfl
@[go_sem, simp] theorem RG (c : dH) : (dw c).drop 1 = aE c.data := rfl
@[go_sem, simp] theorem RE (c : dH) : (dw c).take 9 = dw c := take_of_length_le (by simp)
@[go_sem, simp] theorem VN (c : dH) : aJ (dw c) = true := by rw [dw, ww, uE]; rfl
@[go_sem] theorem BO (jb jv : Nat) (c : dH) : okL jb jv (dw c) = True := by simp [dw, okL, aK, u7]
@[go_sem] theorem f9 (jb jv : Nat) (l : List dH) : fO jb jv (l.map dw) = True := eq_true (fj dw l fun e => by rw [BO]; trivial)
structure Dk where
 stable : List au
 cache : List dH
abbrev oE (l : List dH) : CV := .sl .sh 9 (l.map dw)
def cj (d : Dk) : List CV := [aF d.stable, oE d.cache]
@[go_sem, simp] theorem adn (d : Dk) : (cj d).length = 2 := by rw [cj]; rfl
@[go_sem, simp] theorem ZY (d : Dk) : (cj d).take 2 = cj d := rfl
@[go_sem, simp] theorem ado (d : Dk) : aJ (cj d) = true := rfl
@[go_sem, simp] theorem ahc (d : Dk) (h : 0 < (cj d).length) : (cj d)[0] = aF d.stable := rfl
@[go_sem, simp] theorem ahb (d : Dk) (h : 1 < (cj d).length) : (cj d)[1] = oE d.cache := rfl
@[go_sem] theorem okL_dkC (jb jv : Nat) (d : Dk) : okL jb jv (cj d) = True := by simp [cj, okL, aK, gr, cR, f9]
structure bO where
 kind : Int
 pos : Int
 data : List au
def fN (x : bO) : List CV := [.v (.int .i64 x.kind), .v (.int .i64 x.pos), aF x.data]
@[go_sem, simp] theorem ab0 (x : bO) : (fN x).length = 3 := by rw [fN]; rfl
@[go_sem, simp] theorem XC (x : bO) : (fN x).take 3 = fN x := rfl
@[go_sem, simp] theorem ab1 (x : bO) : aJ (fN x) = true := rfl
@[go_sem, simp] theorem agH (x : bO) (h : 0 < (fN x).length) : (fN x)[0] = CV.v (.int .i64 x.kind) := rfl
@[go_sem, simp] theorem agG (x : bO) (h : 1 < (fN x).length) : (fN x)[1] = CV.v (.int .i64 x.pos) := rfl
@[go_sem, simp] theorem agF (x : bO) (h : 2 < (fN x).length) : (fN x)[2] = aF x.data := rfl
@[go_sem] theorem tw (jb jv : Nat) (x : bO) : okL jb jv (fN x) = True := by simp [fN, okL, aK, gr, cR]
@[go_sem] theorem eF (jb jv : Nat) (l : List bO) : fO jb jv (l.map fN) = True := eq_true (fj fN l fun e => by rw [tw]; trivial)
abbrev gp (l : List bO) : CV := .sl .sh 3 (l.map fN)
def iH (d : Dk) (c : dH) : Bool := decide (c.pos < 0) || decide ((d.stable.length : Int) <= c.pos)
def aH (d : Dk) : Nat := if 4096 < d.stable.length \/ d.cache.any (iH d) = true then 2 else 0
def wW (l : List au) (c : dH) : List au := l.set c.pos.toNat c.data
def aU (d : Dk) : List au := d.cache.foldl wW d.stable
theorem d5 : ∀ (cs : List dH) (l : List au), (cs.foldl wW l).length = l.length
 | [], l => rfl
 | c :: cs, l => by rw [foldl_cons, d5 cs, wW, length_set]
theorem bR (d : Dk) : (aU d).length = d.stable.length := d5 _ _
def bn (d : Dk) (a n : Int) : Bool := decide (0 <= a) && decide (0 <= n) && decide (n <= (d.stable.length : Int)) && decide (a <= (d.stable.length : Int) - n)
def bD (d : Dk) (a n : Int) : List au × Nat :=
 if aH d ≠ 0 then ([], aH d) else if bn d a n = false then ([], 2) else (((aU d).drop a.toNat).take n.toNat, 0)
theorem kO {d : Dk} (h : aH d = 0) : d.stable.length <= 4096 /\ ∀ c ∈ d.cache, 0 <= c.pos /\ c.pos.toNat < d.stable.length := by
 unfold aH at h
 by_cases hc : 4096 < d.stable.length \/ d.cache.any (iH d) = true
 · rw [if_pos hc] at h; cases h
 · obtain ⟨h1, h2⟩ := not_or.1 hc
   refine ⟨by omega, fun c hm => ?_⟩;have h3 : ¬ iH d c = true := fun h3 => h2 (any_eq_true.2 ⟨c, hm, h3⟩);unfold iH at h3;rw [Bool.or_eq_true, decide_eq_true_eq, decide_eq_true_eq, not_or] at h3;omega
def iI (d : Dk) (a : Int) (l : List au) : Option Dk :=
 if bn d a l.length = true then some ⟨d.stable, d.cache ++ (l.zipIdx.map fun p => ⟨a + p.2, p.1⟩)⟩ else none
def fT (d : Dk) (o : bO) : Except Nat Dk :=
 if o.kind < 0 \/ 2 <= o.kind then .error 1 else if o.kind = 0 then (match iI d o.pos o.data with | some d' => .ok d' | none => .error 2) else .ok ⟨aU d, []⟩
def db : Dk -> List bO -> Nat -> Except (Nat × Nat) (Dk × Nat)
 | d, [], i => .ok (d, i)
 | d, o :: os, i => match fT d o with | .ok d' => db d' os (i + 1) | .error e => .error (i, e)
theorem kQ (k : IntKind) (x y : Nat) (hx : x < 2 ^ k.bits) (hy : y < 2 ^ k.bits) : cr .or k (x : Int) (y : Int) = k.wrap ((x ||| y : Nat) : Int) := by
 unfold cr;have h1 : (BitVec.ofInt k.bits (x : Int)).toNat = x := by
  rw [BitVec.ofInt_natCast, BitVec.toNat_ofNat, Nat.mod_eq_of_lt hx]
 have h2 : (BitVec.ofInt k.bits (y : Int)).toNat = y := by
  rw [BitVec.ofInt_natCast, BitVec.toNat_ofNat, Nat.mod_eq_of_lt hy]
 simp only [BitVec.toNat_or, h1, h2]
def sb (s : au) (i : Nat) : Nat := (s.val.getD i 0).toNat
theorem lq (s : au) (i : Nat) : sb s i < 256 := UInt8.toNat_lt _
theorem mq (s : au) (i : Nat) (h : i < (aE s).length) : (aE s)[i] = CV.v (.int .u8 (sb s i : Int)) := by
 have h8 : i < s.val.length := by simpa [aE] using h
 simp only [aE, getElem_map, sb, getD_eq_getElem?_getD, getElem?_eq_getElem h8, Option.getD_some]
def gi (s : au) : Nat -> Nat
 | 0 => 0
 | i + 1 => gi s i * 256 + sb s (3 - i)
def gn (s : au) : Nat := gi s 4
theorem GM (s : au) : ∀ i, gi s i < 256 ^ i
 | 0 => Nat.one_pos
 | i + 1 => by
  have := GM s i;have := lq s (3 - i);rw [gi, Nat.pow_succ]; omega
theorem YQ (s : au) : gn s < 4294967296 := GM s 4
theorem PF (a b : Nat) (hb : b < 256) : a * 256 ||| b = a * 256 + b := by
 have := Nat.two_pow_add_eq_or_of_lt (i := 8) (b := b) hb a;rw [Nat.mul_comm a 256]; exact this.symm
theorem LK (s : au) (i : Nat) (h : i < 4) : cr .or .i64 (shl .i64 (gi s i : Int) 8) (sb s (3 - i) : Int) = ((gi s (i + 1) : Nat) : Int) := by
 have h1 := GM s i;have h2 := lq s (3 - i);have h3 : gi s i < 16777216 := Nat.lt_of_lt_of_le h1 (by
  have := Nat.pow_le_pow_right (show 0 < 256 by decide) (show i <= 3 by omega);exact this)
 have e1 : shl .i64 (gi s i : Int) 8 = ((gi s i * 256 : Nat) : Int) := by
  unfold shl;rw [show (2 : Int) ^ (min (8 : Int).toNat IntKind.i64.bits) = 256 by rfl, IntWalk.i64_in _ ⟨by omega, by omega⟩];omega
 rw [e1, kQ _ _ _ (by show _ < 2 ^ 64; omega) (by show _ < 2 ^ 64; omega), PF _ _ h2, IntWalk.i64_in _ ⟨by omega, by omega⟩, gi]
theorem fa (H : Hp) (V : List Nat) (s : au) : CC Tryz.prog 133 [.agg (aE s)] H V (Pu (ci (gn s)) H V) := by
 refine aj Tryz.func133 rfl fun hok oH => ?_;clear hok;refine aa (ab ?_);simp [go_sem, ai];refine aa (ab ?_);simp [go_sem];refine am (α := Unit) (fun _ => ([(3, ci (gn s))], H ++ [some (aE s)], V)) (fun _ => True) ?_ ?_
 · refine aa (ab ?_)
   simp [go_sem];refine af ?_;refine al (α := Nat) (fun i => ([(1, .ptr H.length 0), (3, ci (gi s i)), (4, ci (3 - (i : Int)))], H ++ [some (aE s)], V)) (fun i => i <= 4) (fun i => 4 - i) 0 (by simp) (ae (by simp [go_sem, gi]) rfl rfl) ?_;intro i hi;dsimp only;refine aa (ab ?_);simp [go_sem];refine ⟨fun h => ?_, fun h => ae (by
    have h' : (3 : Int) < i := h;obtain rfl : i = 4 := by omega
    simp [go_sem, gn]) rfl rfl⟩
   have h4 : i < 4 := by omega
   have e1 : (3 - (i : Int)).toNat = 3 - i := by omega
   have u : IntKind.i64.wrap (sb s (3 - i) : Int) = (sb s (3 - i) : Int) := by have := lq s (3 - i); exact IntWalk.i64_in _ ⟨by omega, by omega⟩
   refine aa (af ?_);refine ab ?_;simp [go_sem, u, show (i : Int) <= 3 by omega, show (3 - (i : Int)) < 8 by omega, e1, mq, show 3 - i < 8 by omega, LK s i h4];refine ab ?_;simp [go_sem, IntWalk.i64_in (3 - (i : Int) - 1) ⟨by omega, by omega⟩];exact ⟨i + 1, by omega, by omega, ae (by simp [go_sem, show (3 - (i : Int) - 1) = 3 - ((i : Int) + 1) by omega]) rfl rfl⟩
 · rintro _ -
   dsimp only;refine ab ?_;simp [go_sem];exact ao.int rfl oH (by simp) (by simp)
theorem o0 (a b i : Nat) (ha : a < 2 ^ i) : a ||| b * 2 ^ i = a + b * 2 ^ i := by
 have := Nat.two_pow_add_eq_or_of_lt (i := i) (b := a) ha b;rw [Nat.or_comm, Nat.mul_comm b, <- this, Nat.add_comm]
theorem pH (H : Hp) (V : List Nat) (d : Dk) (a n : Int) (hl : d.stable.length <= 1000000000) : CC Tryz.prog 126 [.agg (cj d), ci a, ci n] H V (Pu (cb (bn d a n)) H V) := by
 refine aj Tryz.func126 rfl fun hok oH => ?_
 clear hok
 refine aa (ab ?_)
 simp -implicitDefEqProofs [go_sem, ai]
 refine aa (ab ?_)
 by_cases h1 : 0 <= a
 case neg =>
  simp -implicitDefEqProofs [go_sem, h1]
  refine ab ?_
  simp -implicitDefEqProofs [go_sem]
  exact aA (by simp [bn, h1]) oH (by simp) (by simp)
 by_cases h2 : 0 <= n
 case neg =>
  simp -implicitDefEqProofs [go_sem, h1, h2]
  refine ab ?_
  simp -implicitDefEqProofs [go_sem]
  exact aA (by simp [bn, h1, h2]) oH (by simp) (by simp)
 by_cases h3 : n <= (d.stable.length : Int)
 case neg =>
  simp -implicitDefEqProofs [go_sem, h1, h2, h3]
  refine ab ?_
  simp -implicitDefEqProofs [go_sem]
  exact aA (by simp [bn, h1, h2, h3]) oH (by simp) (by simp)
 simp -implicitDefEqProofs [go_sem, h1, h2, h3, IntWalk.i64_in ((d.stable.length : Int) - n) ⟨by omega, by omega⟩]
 refine ab ?_
 simp -implicitDefEqProofs [go_sem]
 exact aA (by simp [bn, h1, h2, h3]) oH (by simp) (by simp)
theorem xe (H : Hp) (V : List Nat) (d : Dk) (c : dH) (b : Nat) (hb : H[b]? = some (some (cj d))) : CC Tryz.prog 71 [.agg (dw c), .ptr b 0] H V (Pu (cb (iH d c)) H V) := by
 refine aj Tryz.func71 rfl fun hok oH => ?_;clear hok;have hb' : ∀ K, dN (H ++ [some (dw c)]) b K = K (cj d) := fun K => by
  have : b < H.length := by
   rcases Nat.lt_or_ge b H.length with h | h
   · exact h
   · rw [getElem?_eq_none h] at hb; cases hb
  unfold dN; rw [getElem?_append_left this, hb]
 refine aa (ab ?_);simp [go_sem, ai];refine aa (ab ?_)
 by_cases h1 : c.pos < 0
 · simp [go_sem, h1]
   refine ab ?_;simp [go_sem];exact aA (by simp [iH, h1]) oH (by simp) (by simp)
 · simp [go_sem, h1, hb']
   refine ab ?_;simp [go_sem];exact aA (by simp [iH, h1]) oH (by simp) (by simp)
def iR (n : Nat) : List UInt8 := [UInt8.ofNat (n % 256), UInt8.ofNat (n / 256 % 256), UInt8.ofNat (n / 65536 % 256), UInt8.ofNat (n / 16777216 % 256)]
theorem de (n : Nat) : (iR n).length = 4 := rfl
def zm (l : List UInt8) : au := if h : l.length = 8 then ⟨l, h⟩ else aP
theorem sd {l : List UInt8} (h : l.length = 8) : (zm l).val = l := by rw [zm, dif_pos h]
def cX (p : List UInt8) : List UInt8 := UInt8.ofNat p.length :: p ++ List.replicate (31 - p.length) 0
theorem lZ {p : List UInt8} (h : p.length <= 31) : (cX p).length = 32 := by simp [cX]; omega
def jM (p : List UInt8) (i : Nat) : List UInt8 := ((cX p).drop (4 * i)).take 4
theorem qd {p : List UInt8} (h : p.length <= 31) {i : Nat} (hi : i < 8) : (jM p i).length = 4 := by
 rw [jM, length_take, length_drop, lZ h]; omega
def fV (n : Nat) (p : List UInt8) (i : Nat) : au := zm (iR n ++ jM p i)
theorem np {p : List UInt8} (n : Nat) (h : p.length <= 31) {i : Nat} (hi : i < 8) : (fV n p i).val = iR n ++ jM p i := sd (by rw [length_append, de, qd h hi])
def bN (n : Nat) (p : List UInt8) : List au := (List.range 8).map (fV n p)
theorem cD (n : Nat) (p : List UInt8) : (bN n p).length = 8 := by simp [bN]
def bb (l : List au) : List UInt8 := l.flatMap fun s => s.val.drop 4
theorem gR (l : List au) : (bb l).length = 4 * l.length := by
 induction l with
 | nil => rfl
 | cons a l ih =>
  have := a.len;rw [bb, flatMap_cons, length_append, length_drop, length_cons, this];rw [bb] at ih;omega
def lO (l : List UInt8) : Bool := decide ((l.getD 0 0).toNat <= 31) && (l.drop ((l.getD 0 0).toNat + 1)).all (· == 0)
def g0 (l : List au) : Nat := gn (l.getD 0 aP)
def j7 (l : List au) : Bool := l.all (fun s => gn s == g0 l) && lO (bb l)
def pay (l : List au) : List UInt8 := ((bb l).drop 1).take ((bb l).getD 0 0).toNat
def bg (l : List au) : Nat × List UInt8 := if j7 l = true then (g0 l, pay l) else (0, [])
def fB (d : Dk) (a : Int) : Nat := (bD d a 16).2
def b7 (d : Dk) (a : Int) : List au := (bD d a 16).1
def cA (l : List au) : Nat × List UInt8 := bg (l.take 8)
def cB (l : List au) : Nat × List UInt8 := bg (l.drop 8)
def eU (l : List au) : Nat := if (cA l).1 < (cB l).1 then 1 else 0
def ii (l : List au) : Nat × List UInt8 := if (cA l).1 < (cB l).1 then cB l else cA l
def eE (d : Dk) (a : Int) : List UInt8 × Nat × Nat :=
 if fB d a ≠ 0 then ([], 0, fB d a) else if (ii (b7 d a)).1 = 0 then ([], 0, 9) else ((ii (b7 d a)).2, (ii (b7 d a)).1, 0)
def d9 (l : List au) : Nat := l.foldl (fun m s => max m (gn s)) 0
def dG (a : Int) (l : List au) : bO := ⟨0, a, l⟩
def cO : bO := ⟨1, 0, []⟩
def b9 (d : Dk) (a : Int) (p : List UInt8) : List bO × Nat :=
 if fB d a ≠ 0 then ([], fB d a) else if (ii (b7 d a)).1 = 0 then ([], 9) else if 31 < p.length then ([], 5) else if d9 (b7 d a) = 4294967295 then ([], 11)
 else ([dG (a + 8 - 8 * (eU (b7 d a) : Int)) (bN (d9 (b7 d a) + 1) p), cO], 0)
def dz (a : Int) (p : List UInt8) : List bO × Nat :=
 if a < 0 \/ 4080 < a then ([], 2) else if 31 < p.length then ([], 5) else ([dG a (List.replicate 16 aP), cO, dG a (bN 1 p), cO], 0)
instance : DecidableEq au := fun a b => decidable_of_iff (a.val = b.val) ⟨fun h => by obtain ⟨x, hx⟩ := a; obtain ⟨y, hy⟩ := b; dsimp only at h; subst h; rfl, fun h => by rw [h]⟩
deriving instance DecidableEq for Wr
theorem vl (H : Hp) (V : List Nat) (tk : Tk) (l : List Int) (g : Nat) (p : Int -> Bool) (hg : ∀ (H : Hp) (V : List Nat) (a : Int), CC Tryz.prog g [ci a] H V (Pu (cb (p a)) H V)) (hl : l.length <= 9223372036854775807) :
 CC Tryz.prog 47 [.sl tk 1 (l.map ic), .fn g []] H V (Ix (l.any p) H V) := by
 refine aj Tryz.func47 rfl fun hok oH => ?_;clear hok;refine aa (ab ?_);simp [go_sem, ai];refine am (α := Unit) (fun _ => ([], H, V)) (fun _ => l.any p = false) ?_ ?_
 · refine aa (ab ?_)
   simp [go_sem];refine af ?_;refine al (α := Nat) (fun i => ([(0, .sl tk 1 (l.map ic)), (1, .fn g []), (7, ci l.length), (8, ci i)], H, V)) (fun i => i <= l.length /\ (l.take i).any p = false) (fun i => l.length - i) 0 ⟨zero_le _, rfl⟩
    (ae (by simp [go_sem]) rfl rfl) ?_
   rintro i ⟨hi, hp⟩;dsimp only;refine ab ?_;simp [go_sem];refine ⟨fun h => ⟨h, ?_⟩, fun h => ⟨?_, ae (by simp [go_sem]) rfl rfl⟩⟩
   · refine ah (hg _ _ _) ?_
     rcases hq : p l[i] with - | -
     · simp [go_sem]
       refine ⟨i + 1, ⟨by omega, by simpa using m7 h hp hq⟩, by omega, ae ?_ rfl rfl⟩;simp [go_sem, gU (show i < 9223372036854775807 by omega)]
     · simp [go_sem]
       exact ao.ix (by rw [ua h hq]; simp) oH (by simp) (by simp)
   · rw [take_of_length_le h] at hp; simpa using hp
 · rintro _ hp
   dsimp only;refine ab ?_;simp [go_sem];exact ao.ix (by rw [hp]; rfl) oH (by simp) (by simp)
theorem kK (H : Hp) (V : List Nat) (tk : Tk) (l : List Int) (g : Nat) (p : Int -> Bool) (hg : ∀ (H : Hp) (V : List Nat) (a : Int), CC Tryz.prog g [ci a] H V (Pu (cb (p a)) H V)) (hl : l.length <= 9223372036854775807) :
 CC Tryz.prog 14 [.sl tk 1 (l.map ic), .fn g []] H V (Pu (cb (l.any p)) H V) := by
 refine aj Tryz.func14 rfl fun hok oH => ab ?_;simp [go_sem, ai];refine CC.mono (vl _ _ _ _ _ _ hg hl) ?_;rintro _ _ _ ⟨k, rfl, hk, rfl, rfl⟩;simp [go_sem];exact aA hk oH (by simp) (by simp)
theorem EQ (H : Hp) (V : List Nat) (a : Int) : CC Tryz.prog 137 [ci a] H V (Pu (cb (m6 a)) H V) := by
 refine aj Tryz.func137 rfl fun hok oH => ?_;clear hok;refine aa (ab ?_);simp [go_sem, ai]
 by_cases h : a < 1
 · refine ab ?_
   simp [go_sem, h];exact aA (by simp [m6, h]) oH (by simp) (by simp)
 · refine ab ?_
   simp [go_sem, h];exact aA (by simp [m6, h]) oH (by simp) (by simp)
theorem lv (H : Hp) (V : List Nat) (tk : Tk) (l : List Int) (hl : l.length <= 9223372036854775807) : CC Tryz.prog 96 [.sl tk 1 (l.map ic)] H V (Pu (er (aN l)) H V) := by
 refine aj Tryz.func96 rfl fun hok oH => ?_;clear hok;refine aa (ab ?_);simp [go_sem, ai];refine aa (ab ?_)
 by_cases h1 : l.length < 1
 · simp [go_sem, h1, show (l.length : Int) < 1 by omega]
   exact ao.er (by rw [aN, if_pos (.inl h1)]) oH (by simp) (by simp)
 by_cases h2 : 8 < l.length
 · simp [go_sem, h1, show ¬ (l.length : Int) < 1 by omega, show (8 : Int) < l.length by omega]
   exact ao.er (by rw [aN, if_pos (.inr h2)]) oH (by simp) (by simp)
 simp [go_sem, h1, show ¬ (l.length : Int) < 1 by omega, show ¬ (8 : Int) < l.length by omega];refine aa (ab ?_);simp [go_sem];refine ah (kK _ _ tk l _ m6 (fun H V a => EQ H V a) hl) ?_;rcases h3 : l.any m6 with - | -
 · simp [go_sem]
   refine ab ?_;simp [go_sem];exact ao.er (by rw [aN, if_neg (by omega), if_neg (by simp [h3])]) oH (by simp) (by simp)
 · simp [go_sem]
   exact ao.er (by rw [aN, if_neg (by omega), if_pos h3]) oH (by simp) (by simp)
section
open Go.Proofs
end
theorem KG (H : Hp) (V : List Nat) (n : Int) (h0 : 0 <= n) (h1 : n <= 1000000) : CC Tryz.prog 98 [ci n] H V (Pu (aF (NE n.toNat)) H V) := by
 refine aj Tryz.func98 rfl fun hok oH => ?_;clear hok;have hz : (List.replicate n.toNat [CV.v (.int .u8 0), CV.v (.int .u8 0), CV.v (.int .u8 0), CV.v (.int .u8 0), CV.v (.int .u8 0), CV.v (.int .u8 0), CV.v (.int .u8 0), CV.v (.int .u8 0)]).flatten = aQ (NE n.toNat) := eG n.toNat;refine aa (ab ?_);simp [go_sem, ai];refine ab ?_;simp [go_sem];refine ⟨h0, by omega, ?_⟩;rw [hz];exact ao.froz (b := H.length) (cs := aQ (NE n.toNat)) ⟨rfl, rfl, rfl⟩ (.refl _) (by simp) (xs := (NE n.toNat).map aE) (by have := cU (NE n.toNat); rw [yp] at this; rw [drop_zero, this]) (by simp; omega) (by omega) (by simp [go_sem]) oH (by simp) (by simp)
theorem BS (H : Hp) (V : List Nat) (tk : Tk) (l : List Int) (hl : l.length <= 1000000) (hn : ∀ n ∈ l, 0 <= n /\ n <= 1000000) : CC Tryz.prog 97 [.sl tk 1 (l.map ic), .fn 98 []] H V (Fr 1 ((bo l).map eB) H V) := by
 refine aj Tryz.func97 rfl fun hok oH => ?_;clear hok;refine aa (ab ?_);simp [go_sem, ai];refine aa (ab ?_);simp [go_sem];refine ⟨by omega, ?_⟩;refine am (α := Unit) (fun _ => ([(5, .sl (.own V.length l.length) 1 ((bo l).map eB))], H, V ++ [l.length])) (fun _ => True) ?_ ?_
 · refine aa (ab ?_)
   simp [go_sem];refine af ?_;refine al (α := Nat) (fun i => ([(1, .fn 98 []), (5, .sl (.own V.length i) 1 ((bo (l.take i)).map eB)), (11, .sl tk 1 (l.map ic)), (12, ci l.length), (13, ci i)], H, V ++ [i])) (fun i => i <= l.length) (fun i => l.length - i) 0 (zero_le _) (ae (by simp [go_sem, bo]) rfl rfl) ?_;intro i hi;dsimp only;refine ab ?_;simp [go_sem];refine ⟨fun h => ⟨h, ?_⟩, fun h => ae (by simp [go_sem]; rw [take_of_length_le h]; exact .of_eq (by rw [show i = l.length by omega])) rfl (by rw [show i = l.length by omega])⟩;obtain ⟨n1, n2⟩ := hn l[i] (getElem_mem h);refine ah (KG _ _ l[i] n1 n2) ?_;simp [go_sem];refine ⟨by omega, i + 1, by omega, by omega, ae ?_ rfl rfl⟩;have : (bo (l.take (i + 1))).map eB = (bo (l.take i)).map eB ++ [eB (NE l[i].toNat)] := by
    rw [take_succ_eq_append_getElem h, bo, map_append, map_append]; rfl
   rw [this];simp [go_sem, aq (show i <= 1000000000 by omega)];exact .refl _
 · rintro _ -
   dsimp only;refine ab ?_;simp [go_sem];exact ao.fr (by simp [go_sem]) oH (by simp)
theorem md (H : Hp) (V : List Nat) (tk : Tk) (l : List Int) (hl : l.length <= 9223372036854775807) : CC Tryz.prog 49 [.sl tk 1 (l.map ic)] H V (Pu (.tup [F9 (if aN l ≠ 0 then [] else bo l), er (aN l)]) H V) := by
 refine aj Tryz.func49 rfl fun hok oH => ?_;clear hok;refine aa (ab ?_);simp [go_sem, ai];refine aa (ab ?_);simp [go_sem];refine ah (lv _ _ tk l hl) ?_
 by_cases he : aN l = 0
 · simp [go_sem, he]
   refine ab ?_;simp [go_sem];obtain ⟨s1, s2, s3⟩ := dj he;refine CC.mono (BS _ _ tk l (by omega) (fun n hn => by have := s3 n hn; omega)) ?_;rintro _ _ _ ⟨v, rfl, rfl, rfl⟩;simp [go_sem];exact ao.tup2 (.sh _ _ _) (.refl _) (by simp [go_sem]) (by simp [go_sem]) oH (by simp) (by simp)
 · simp [go_sem, he]
   exact ao.tup2 (.nil 1 (by decide)) (.refl _) (by simp [go_sem]) (by simp [go_sem]) oH (by simp) (by simp)
theorem AN (H : Hp) (V : List Nat) (v : List au) : CC Tryz.prog 168 [aF v] H V (Pu (ci v.length) H V) := by
 refine aj Tryz.func168 rfl fun hok oH => ?_;clear hok;refine aa (ab ?_);simp [go_sem, ai];refine ab ?_;simp [go_sem];exact ao.int rfl oH (by simp) (by simp)
theorem FZ (H : Hp) (V : List Nat) (tk : Tk) (l : bX) (hl : l.length <= 1000000000) : CC Tryz.prog 167 [.sl tk 1 (l.map eB), .fn 168 []] H V (Fr 1 ((aB l).map ic) H V) := by
 refine aj Tryz.func167 rfl fun hok oH => ?_;clear hok;refine aa (ab ?_);simp [go_sem, ai];refine aa (ab ?_);simp [go_sem];refine ⟨by omega, ?_⟩;refine am (α := Unit) (fun _ => ([(5, .sl (.own V.length l.length) 1 ((aB l).map ic))], H, V ++ [l.length])) (fun _ => True) ?_ ?_
 · refine aa (ab ?_)
   simp [go_sem];refine af ?_;refine al (α := Nat) (fun i => ([(1, .fn 168 []), (5, .sl (.own V.length i) 1 ((aB (l.take i)).map ic)), (11, .sl tk 1 (l.map eB)), (12, ci l.length), (13, ci i)], H, V ++ [i])) (fun i => i <= l.length) (fun i => l.length - i) 0 (zero_le _) (ae (by simp [go_sem, aB]) rfl rfl) ?_;intro i hi;dsimp only;refine ab ?_;simp [go_sem];refine ⟨fun h => ⟨h, ?_⟩, fun h => ae (by simp [go_sem]; rw [take_of_length_le h]; exact .of_eq (by rw [show i = l.length by omega])) rfl (by rw [show i = l.length by omega])⟩;refine ah (AN _ _ l[i]) ?_;simp [go_sem];refine ⟨by omega, i + 1, by omega, by omega, ae ?_ rfl rfl⟩;have : (aB (l.take (i + 1))).map ic = (aB (l.take i)).map ic ++ [[ci l[i].length]] := by
    rw [take_succ_eq_append_getElem h, aB, map_append, map_append]; rfl
   rw [this];simp [go_sem, aq (show i <= 1000000000 by omega)]
 · rintro _ -
   dsimp only;refine ab ?_;simp [go_sem];exact ao.fr (by simp [go_sem, aR]) oH (by simp)
theorem EP (H : Hp) (V : List Nat) (tk : Tk) (l : bX) (hl : l.length <= 1000000000) : CC Tryz.prog 143 [.sl tk 1 (l.map eB)] H V (Fr 1 ((aB l).map ic) H V) := by
 refine aj Tryz.func143 rfl fun hok oH => ?_;clear hok;refine aa (ab ?_);simp [go_sem, ai];refine ab ?_;simp [go_sem];refine CC.mono (FZ _ _ tk l hl) ?_;rintro _ _ _ ⟨v, rfl, rfl, rfl⟩;simp [go_sem];exact ao.fr (by simp [go_sem, aR]) oH (by simp)
theorem sv (H : Hp) (V : List Nat) (tk : Tk) (l : bX) (hl : l.length <= 1000000000) : CC Tryz.prog 107 [.sl tk 1 (l.map eB)] H V (Pu (er (aN (aB l))) H V) := by
 refine aj Tryz.func107 rfl fun hok oH => ?_;clear hok;refine aa (ab ?_);simp [go_sem, ai];refine ab ?_;simp [go_sem];refine CC.mono (EP _ _ tk l hl) ?_;rintro _ _ _ ⟨v, rfl, rfl, rfl⟩;simp [go_sem];refine ah (lv _ _ _ (aB l) (by simp; omega)) ?_;simp [go_sem];exact ao.er rfl oH (by simp) (by simp)
theorem jW (l : bX) (n : Nat) (h : n < l.length) : (aB l).getD n 0 = ((l[n]).length : Int) := by
 rw [getD_eq_getElem?_getD, aB, getElem?_map, getElem?_eq_getElem h]; rfl
theorem LV (H : Hp) (V : List Nat) (tk : Tk) (l : bX) (w : Wr) (hl : l.length <= 1000000000) (hs : ∀ v ∈ l, v.length <= 1000000000) (hw : w.data.length <= 1000000000) : CC Tryz.prog 108 [.sl tk 1 (l.map eB), .agg (bq w)] H V (Pu (er (aS (aB l) w)) H V) := by
 refine aj Tryz.func108 rfl fun hok oH => ?_
 clear hok
 refine aa (ab ?_)
 simp -implicitDefEqProofs [go_sem, ai]
 refine aa (af (aa (ab ?_)))
 by_cases h1 : w.volume < 0
 · simp -implicitDefEqProofs [go_sem, h1]
   refine ab ?_
   simp -implicitDefEqProofs [go_sem]
   exact ao.er (by rw [aS, if_pos (.inl h1)]) oH (by simp) (by simp)
 by_cases h2 : (l.length : Int) <= w.volume
 · simp -implicitDefEqProofs [go_sem, h1, h2]
   refine ab ?_
   simp -implicitDefEqProofs [go_sem]
   exact ao.er (by rw [aS, if_pos (.inr (by simpa using h2))]) oH (by simp) (by simp)
 simp -implicitDefEqProofs [go_sem, h1, h2]
 refine ab ?_
 obtain ⟨n, hn⟩ := Int.eq_ofNat_of_zero_le (Int.not_lt.1 h1)
 have hnl : n < l.length := by omega
 have hvl := hs l[n] (getElem_mem hnl)
 by_cases h3 : w.data.length = 0
 · simp -implicitDefEqProofs [go_sem, h1, h2, h3]
   exact ao.er (by rw [aS, if_neg (by simp; omega), if_pos h3]) oH (by simp) (by simp)
 simp -implicitDefEqProofs [go_sem, h1, h2, h3]
 refine az [] [] (.s 0 .pl <| .s 1 .pl <| .s 2 .pl <| .s 3 .pl <| .s 4 .pl <| .s 5 .pl <| .s 6 .pl <| .s 7 .pl <| .s 8 .pl <| .s 9 .pl <| .s 10 .pl <| .s 11 .pl <| .s 12 .pl <| .s 13 .pl <| .s 14 .pl <| .s 15 .pl <| .s 16 .pl <| .s 17 .pl <| .s 18 .pl <| .n) ?_
 have hg : (aB l).getD w.volume.toNat 0 = (l[n].length : Int) := by rw [hn]; exact jW l n hnl
 have hwr : IntKind.i64.wrap ((l[n].length : Int) - (w.data.length : Int)) = (l[n].length : Int) - (w.data.length : Int) := IntWalk.i64_in _ ⟨by omega, by omega⟩
 have hfit : aS (aB l) w = if w.start < 0 \/ (l[n].length : Int) - (w.data.length : Int) < w.start then 2 else 0 := by
  rw [aS, if_neg (by simp; omega), if_neg h3, hg]
 rw [hfit]
 by_cases h4 : w.start < 0
 · simp -implicitDefEqProofs [go_sem, h4]
   exact ao.er rfl oH (by simp) (by simp)
 · simp -implicitDefEqProofs [go_sem, h4, hn, hnl, hwr]
   refine ⟨fun h5 => ao.er (by rw [if_pos h5]) oH (by simp) (by simp), fun h5 => ?_⟩
   refine ab ?_
   simp -implicitDefEqProofs [go_sem]
   exact ao.er (by rw [if_neg (by omega)]) oH (by simp) (by simp)
def gc (l : bX) (w : Wr) : Nat := if aN (aB l) ≠ 0 then aN (aB l) else aS (aB l) w
theorem pj (H : Hp) (V : List Nat) (tk : Tk) (l : bX) (w : Wr) (hl : l.length <= 1000000000) (hs : ∀ v ∈ l, v.length <= 1000000000) (hw : w.data.length <= 1000000000) : CC Tryz.prog 56 [.sl tk 1 (l.map eB), .agg (bq w)] H V (Pu (er (gc l w)) H V) := by
 refine aj Tryz.func56 rfl fun hok oH => ?_;clear hok;refine aa (ab ?_);simp [go_sem, ai];refine aa (ab ?_);simp [go_sem];refine ah (sv _ _ _ l hl) ?_
 by_cases he : aN (aB l) = 0
 · simp [go_sem, he]
   refine ab ?_;simp [go_sem];refine ah (LV _ _ _ l w hl hs hw) ?_;simp [go_sem];exact ao.er (by rw [gc, if_neg (by simp [he])]) oH (by simp) (by simp)
 · simp [go_sem, he]
   exact ao.er (by rw [gc, if_pos he]) oH (by simp) (by simp)
section
open Go.Proofs
end
theorem qK {α : Type} {x y : List α} (hl : x.length = y.length) {i : Nat} (hi : x.length <= i) (h : x.take i = y.take i) : x = y := by
 rwa [take_of_length_le hi, take_of_length_le (by omega)] at h
theorem mg {α : Type} {x y : List α} {i : Nat} (h1 : i < x.length) (h2 : i < y.length) (h : x.take i = y.take i) (he : x[i] = y[i]) : x.take (i + 1) = y.take (i + 1) := by
 rw [take_succ_eq_append_getElem h1, take_succ_eq_append_getElem h2, h, he]
theorem NM {α : Type} {x y : List α} {i : Nat} (h1 : i < x.length) (h2 : i < y.length) (he : x[i] ≠ y[i]) : x ≠ y := fun e => he (by subst e; rfl)
theorem tJ : uf Tryz.prog 66 (List.replicate 8 .u8) := by
 obtain ⟨i, hi⟩ := Option.isSome_iff_exists.1 (show (Tryz.prog.info? 5).isSome = true by kernel_rfl);exact tK Tryz.underlying66 hi Tryz.underlying5 (by kernel_rfl) (by kernel_rfl)
theorem gQ (s : au) : oP (List.replicate 8 .u8) (aE s) := by
 have := vG .u8 (s.val.map fun b => (b.toNat : Int));rw [length_map, s.len, map_map] at this;exact this
theorem EU {a b : au} (h : aE a = aE b) : a = b := by
 obtain ⟨x, hx⟩ := a;obtain ⟨y, hy⟩ := b;simp only [aE] at h;have hm : ∀ (u v : List UInt8), (u.map fun b => CV.v (.int .u8 (b.toNat : Int))) = (v.map fun b => CV.v (.int .u8 (b.toNat : Int))) -> u = v := by
  intro u
  induction u with
  | nil => intro v hv; cases v; rfl; simp at hv
  | cons c u ih =>
   intro v hv
   cases v with
   | nil => simp at hv
   | cons d v =>
    simp only [map_cons, List.cons.injEq, CV.v.injEq, Value.int.injEq, true_and, Int.natCast_inj] at hv;obtain ⟨h1, h2⟩ := hv;rw [UInt8.toNat_inj.1 h1, ih v h2]
 obtain rfl := hm x y h;rfl
section
open Go.Proofs
end
theorem G8 (H : Hp) (V : List Nat) (t1 t2 : Tk) (x y : List au) (hl : x.length <= 1000000000) : CC Tryz.prog 46 [.sl t1 8 (x.map aE), .sl t2 8 (y.map aE)] H V (Pu (.v (.bool (decide (x = y)))) H V) := by
 refine aj Tryz.func46 rfl fun hok oH => ?_;clear hok;refine aa (ab ?_);simp [go_sem, ai];refine aa (aa (ab ?_))
 by_cases aT : x.length = y.length
 case neg =>
  have hlen' : ¬ (x.length : Int) = (y.length : Int) := by omega
  simp [go_sem, hlen'];refine ab ?_;simp [go_sem, aT, hlen'];exact aA (by simp [show x ≠ y from fun e => aT (by rw [e])]) oH (by simp) (by simp)
 simp [go_sem, aT];refine ab ?_;simp [go_sem, aT];refine am (α := Unit) (fun _ => ([], H, V)) (fun _ => x = y) ?_ ?_
 · refine aa (ab ?_)
   simp [go_sem];refine af ?_;refine al (α := Nat) (fun i => ([(0, .sl t1 8 (x.map aE)), (1, .sl t2 8 (y.map aE)), (12, ci x.length), (13, ci i)], H, V)) (fun i => i <= x.length /\ x.take i = y.take i) (fun i => x.length - i) 0 ⟨zero_le _, rfl⟩ (ae (by simp [go_sem, aT]) rfl rfl) ?_;rintro i ⟨hi, hp⟩;dsimp only;refine aa (ab ?_);simp [go_sem];refine aa (ab ?_);simp [go_sem];refine ⟨fun h => ?_, fun h => ⟨qK aT h hp, ae (by simp [go_sem]) rfl rfl⟩⟩;have h2 : i < y.length := by omega
   refine aa (af (aa (ab ?_)));simp [go_sem];refine aa (az [] [] (.s 0 .pl <| .s 1 .pl <| .s 2 .pl <| .s 3 .pl <| .s 4 .pl <| .s 5 .pl <| .s 6 .pl <| .s 7 .pl <| .s 8 .pl <| .n) ?_);simp [go_sem, h, h2];refine ⟨_, tJ, gQ _, gQ _, fun he => ?_, fun he => ?_⟩
   · refine ab ?_
     simp [go_sem];exact aA (by simp [NM h h2 (fun e => he (by rw [e]))]) oH (by simp) (by simp)
   · refine ab ?_
     simp [go_sem];refine ab ?_;simp [go_sem];refine ⟨i + 1, ⟨by omega, mg h h2 hp (EU he)⟩, by omega, ae ?_ rfl rfl⟩;simp [go_sem, aq (show i <= 1000000000 by omega)]
 · rintro _ he
   dsimp only;refine ab ?_;simp [go_sem];exact aA (by simp [he]) oH (by simp) (by simp)
theorem HA (H : Hp) (V : List Nat) (t1 t2 : Tk) (x y : bX) (hl : x.length <= 1000000000) (hs : ∀ v ∈ x, v.length <= 1000000000) : CC Tryz.prog 45 [.sl t1 1 (x.map eB), .sl t2 1 (y.map eB), .fn 46 []] H V (Pu (.v (.bool (decide (x = y)))) H V) := by
 refine aj Tryz.func45 rfl fun hok oH => ?_;clear hok;refine aa (ab ?_);simp [go_sem, ai];refine aa (aa (ab ?_))
 by_cases aT : x.length = y.length
 case neg =>
  have hlen' : ¬ (x.length : Int) = (y.length : Int) := by omega
  simp [go_sem, hlen'];refine ab ?_;simp [go_sem, aT, hlen'];exact aA (by simp [show x ≠ y from fun e => aT (by rw [e])]) oH (by simp) (by simp)
 simp [go_sem, aT];refine ab ?_;simp [go_sem, aT];refine am (α := Unit) (fun _ => ([], H, V)) (fun _ => x = y) ?_ ?_
 · refine aa (ab ?_)
   simp [go_sem];refine af ?_;refine al (α := Nat) (fun i => ([(1, .sl t2 1 (y.map eB)), (2, .fn 46 []), (15, .sl t1 1 (x.map eB)), (16, ci x.length), (17, ci i)], H, V)) (fun i => i <= x.length /\ x.take i = y.take i) (fun i => x.length - i) 0 ⟨zero_le _, rfl⟩ (ae (by simp [go_sem, aT]) rfl rfl) ?_;rintro i ⟨hi, hp⟩;dsimp only;refine aa (ab ?_);simp [go_sem];refine aa (ab ?_);simp [go_sem];refine ⟨fun h => ?_, fun h => ⟨qK aT h hp, ae (by simp [go_sem]) rfl rfl⟩⟩;have h2 : i < y.length := by omega
   refine aa (af (aa (ab ?_)));simp [go_sem, h];refine aa (ab ?_);simp [go_sem, h2];refine aa (ab ?_);simp [go_sem];refine ah (G8 _ _ .sh .sh x[i] y[i] (hs _ (getElem_mem h))) ?_
   by_cases he : x[i] = y[i]
   · simp [go_sem, he]
     refine ab ?_;simp [go_sem];refine ab ?_;simp [go_sem];refine ⟨i + 1, ⟨by omega, mg h h2 hp he⟩, by omega, ae ?_ rfl rfl⟩;simp [go_sem, aq (show i <= 1000000000 by omega)]
   · simp [go_sem, he]
     refine ab ?_;simp [go_sem];exact aA (by simp [NM h h2 he]) oH (by simp) (by simp)
 · rintro _ he
   dsimp only;refine ab ?_;simp [go_sem];exact aA (by simp [he]) oH (by simp) (by simp)
theorem jk (H : Hp) (V : List Nat) (t1 t2 : Tk) (x y : bX) (hl : x.length <= 1000000000) (hs : ∀ v ∈ x, v.length <= 1000000000) : CC Tryz.prog 13 [.sl t1 1 (x.map eB), .sl t2 1 (y.map eB)] H V (Pu (.v (.bool (decide (x = y)))) H V) := by
 refine aj Tryz.func13 rfl fun hok oH => ?_;clear hok;refine aa (ab ?_);simp [go_sem, ai];refine aa (ab ?_);simp [go_sem];refine ah (HA _ _ t1 t2 x y hl hs) ?_;simp [go_sem];refine ab ?_;simp [go_sem];exact aA rfl oH (by simp) (by simp)
def ln : Nat -> bX -> List (List CV)
 | _, [] => []
 | n, v :: l => [.bsl n 0 v.length 8] :: ln (n + 1) l
@[go_sem, simp] theorem tY : ∀ (n : Nat) (l : bX), (ln n l).length = l.length
 | _, [] => rfl
 | n, v :: l => by rw [ln, length_cons, length_cons, tY (n + 1) l]
@[go_sem, simp] theorem M0 : ∀ (n : Nat) (l : bX) (i : Nat) (h : i < (ln n l).length), (ln n l)[i] = [.bsl (n + i) 0 (l[i]'(by simpa using h)).length 8]
 | n, v :: l, 0, h => rfl
 | n, v :: l, i + 1, h => by
  have hi : i < (ln (n + 1) l).length := by rw [tY]; have := h; rw [tY, length_cons] at this; omega
  have := M0 (n + 1) l i hi;show (ln (n + 1) l)[i]'hi = _;rw [this, show n + 1 + i = n + (i + 1) by omega];rfl
 | n, [], i, h => absurd h (Nat.not_lt_zero _)
theorem wo : ∀ (n : Nat) (l : bX) (v : List au), ln n (l ++ [v]) = ln n l ++ [[.bsl (n + l.length) 0 v.length 8]]
 | n, [], v => rfl
 | n, u :: l, v => by
  rw [cons_append, ln, ln, wo (n + 1) l v, cons_append, length_cons, show n + 1 + l.length = n + (l.length + 1) by omega]
theorem ya : ∀ (n : Nat) {l k : bX}, l.map List.length = k.map List.length -> ln n l = ln n k
 | _, [], [], _ => rfl
 | n, u :: l, v :: k, h => by
  rw [map_cons, map_cons, List.cons.injEq] at h;rw [ln, ln, h.1, ya (n + 1) h.2]
 | _, [], _ :: _, h => by cases h
 | _, _ :: _, [], h => by cases h
def rE (l : bX) : Hp := l.map fun v => some (aQ v)
@[go_sem, simp] theorem KZ (l : bX) : (rE l).length = l.length := length_map ..
theorem pa (jb jv : Nat) : ∀ (n : Nat) (l : bX), n + l.length <= jb -> fO jb jv (ln n l)
 | _, [], _ => trivial
 | n, v :: l, h => by
  rw [length_cons] at h;rw [ln, fO];exact ⟨⟨by rw [aK]; omega, trivial⟩, pa jb jv (n + 1) l (by omega)⟩
theorem tU (H : Hp) (V : List Nat) (tk : Tk) (l : List au) (h0 : l ≠ []) (hx : l.length <= 1000000000) : CC Tryz.prog 88 [.sl tk 8 (l.map aE)] H V (fun r H' V' => r = .bsl H.length 0 l.length 8 /\ H' = H ++ [some (aQ l)] /\ V = V') := by
 refine aj Tryz.func88 rfl fun hok oH => ?_;clear hok;have hne : l.map aE ≠ [] := by simpa using h0
 refine aa (ab ?_);simp [go_sem, ai];refine aa (aa (ab ?_));simp [go_sem, h0];refine ab ?_;simp [go_sem, h0];refine aa (ac.opx (pre := [_, _]) (post := [_]) rfl (by intro c e; cases e) ?_);simp [go_sem];refine ⟨_, _, _, mc (sz := 8) (tk := tk) (ys := l.map aE) ta ta rfl rfl hne (by rw [length_map]; omega), ?_⟩;simp [go_sem];refine ab ?_;simp [go_sem];rw [show (List.map aE l).flatten = aQ l from rfl];refine ao.cut (H.length + 1) V.length ⟨rfl, rfl, rfl⟩ (Nat.le_succ _) (le_refl _) (take_of_length_le (by simp)) (take_of_length_le (le_refl _)) (.bsa _ _ _) (by simp [go_sem]) ?_;intro b cs hb;rw [getElem?_append] at hb
 split at hb
 · exact aO (Nat.le_succ _) (le_refl _) (oH b cs hb)
 · exact cK (i := H.length + 1) (j := V.length) (L := [some (aQ l)]) (by simp [go_sem]) _ _ hb
theorem F0 (H : Hp) (V : List Nat) (tk : Tk) (l : bX) (hl : l.length <= 1000000) (hn : ∀ v ∈ l, v ≠ [] /\ v.length <= 1000000) : CC Tryz.prog 153 [.sl tk 1 (l.map eB), .fn 88 []] H V (fun r H' V' => r = .sl (.own V.length l.length) 1 (ln H.length l) /\ H' = H ++ rE l /\ V' = V ++ [l.length]) := by
 refine aj Tryz.func153 rfl fun hok oH => ?_
 clear hok
 refine aa (ab ?_)
 simp -implicitDefEqProofs [go_sem, ai]
 refine aa (ab ?_)
 simp -implicitDefEqProofs [go_sem]
 refine ⟨by omega, ?_⟩
 refine am (α := Unit) (fun _ => ([(5, .sl (.own V.length l.length) 1 (ln H.length l))], H ++ rE l, V ++ [l.length])) (fun _ => True) ?_ ?_
 · refine aa (ab ?_)
   simp -implicitDefEqProofs [go_sem]
   refine af ?_
   refine al (α := Nat) (fun i => ([(1, .fn 88 []), (5, .sl (.own V.length i) 1 (ln H.length (l.take i))), (11, .sl tk 1 (l.map eB)), (12, ci l.length), (13, ci i)], H ++ rE (l.take i), V ++ [i])) (fun i => i <= l.length) (fun i => l.length - i) 0 (zero_le _) (ae (by simp [go_sem, ln]) (by simp [rE]) rfl) ?_
   intro i hi
   dsimp only
   refine ab ?_
   simp -implicitDefEqProofs [go_sem]
   refine ⟨fun h => ⟨h, ?_⟩, fun h => ae (by simp [go_sem]; rw [take_of_length_le h]; exact .of_eq (by rw [show i = l.length by omega])) (by rw [take_of_length_le h]) (by rw [show i = l.length by omega])⟩
   obtain ⟨n1, n2⟩ := hn l[i] (getElem_mem h)
   refine CC.mono (tU _ _ .sh l[i] n1 (by omega)) ?_
   rintro _ _ _ ⟨rfl, rfl, rfl⟩
   simp -implicitDefEqProofs [go_sem]
   refine ⟨by omega, i + 1, by omega, by omega, ae ?_ ?_ rfl⟩
   · rw [take_succ_eq_append_getElem h, wo, length_take, Nat.min_eq_left (by omega)]
     simp [go_sem, aq (show i <= 1000000000 by omega), Nat.min_eq_left hi]
   · rw [take_succ_eq_append_getElem h, rE, rE, map_append]
     rfl
 · rintro _ -
   dsimp only
   refine ab ?_
   simp -implicitDefEqProofs [go_sem]
   refine ao.cut (H.length + l.length) (V.length + 1) ⟨rfl, rfl, rfl⟩ (by omega) (by omega) (take_of_length_le (by simp)) (take_of_length_le (by simp)) (.refl _) ?_ ?_
   · rw [aK]
     exact ⟨Nat.lt_succ_self _, pa _ _ _ _ (le_refl _)⟩
   intro b cs hb
   rw [getElem?_append] at hb
   split at hb
   · exact aO (by omega) (Nat.le_succ _) (oH b cs hb)
   · obtain ⟨v, -, hv⟩ := mem_map.1 (mem_of_getElem? hb)
     obtain rfl := Option.some.inj hv
     rw [nD]; trivial
theorem vo (H : Hp) (V : List Nat) (tk : Tk) (l : bX) (hl : l.length <= 1000000) (hn : ∀ v ∈ l, v ≠ [] /\ v.length <= 1000000) : CC Tryz.prog 121 [.sl tk 1 (l.map eB)] H V (fun r H' V' => r = .sl (.own V.length l.length) 1 (ln H.length l) /\ H' = H ++ rE l /\ V' = V ++ [l.length]) := by
 refine aj Tryz.func121 rfl fun hok oH => ?_
 clear hok
 refine aa (ab ?_)
 simp -implicitDefEqProofs [go_sem, ai]
 refine aa (ab ?_)
 simp -implicitDefEqProofs [go_sem]
 refine CC.mono (F0 _ _ tk l hl hn) ?_
 rintro _ _ _ ⟨rfl, rfl, rfl⟩
 simp -implicitDefEqProofs [go_sem]
 refine ab ?_
 simp -implicitDefEqProofs [go_sem]
 refine ao.cut (H.length + l.length) (V.length + 1) ⟨rfl, rfl, rfl⟩ (by omega) (by omega) (take_of_length_le (by simp)) (take_of_length_le (by simp)) (.refl _) ?_ ?_
 · rw [aK]
   exact ⟨Nat.lt_succ_self _, pa _ _ _ _ (le_refl _)⟩
 intro b cs hb
 rw [getElem?_append] at hb
 split at hb
 · exact aO (by omega) (Nat.le_succ _) (oH b cs hb)
 · obtain ⟨v, -, hv⟩ := mem_map.1 (mem_of_getElem? hb)
   obtain rfl := Option.some.inj hv
   rw [nD]; trivial
theorem G3 (H : Hp) (V : List Nat) (tk : Tk) (b : Nat) (l : bX) (w : Wr) (hl : l.length <= 1000000000) (hs : ∀ v ∈ l, v.length <= 1000000000) (hw : w.data.length <= 1000000000) (hb : b + l.length <= H.length) : CC Tryz.prog 108 [.sl tk 1 (ln b l), .agg (bq w)] H V (Pu (er (aS (aB l) w)) H V) := by
 refine aj Tryz.func108 rfl fun hok oH => ?_;clear hok;refine aa (ab ?_);simp [go_sem, ai];refine aa (af (aa (ab ?_)))
 by_cases h1 : w.volume < 0
 · simp [go_sem, h1]
   refine ab ?_;simp [go_sem];exact ao.er (by rw [aS, if_pos (.inl h1)]) oH (by simp) (by simp)
 by_cases h2 : (l.length : Int) <= w.volume
 · simp [go_sem, h1, h2]
   refine ab ?_;simp [go_sem];exact ao.er (by rw [aS, if_pos (.inr (by simpa using h2))]) oH (by simp) (by simp)
 simp [go_sem, h1, h2];refine ab ?_;obtain ⟨n, hn⟩ := Int.eq_ofNat_of_zero_le (Int.not_lt.1 h1);have hnl : n < l.length := by omega
 have hvl := hs l[n] (getElem_mem hnl)
 by_cases h3 : w.data.length = 0
 · simp [go_sem, h1, h2, h3]
   exact ao.er (by rw [aS, if_neg (by simp; omega), if_pos h3]) oH (by simp) (by simp)
 simp [go_sem, h1, h2, h3];refine az [] [] (.s 0 .pl <| .s 1 .pl <| .s 2 .pl <| .s 3 .pl <| .s 4 .pl <| .s 5 .pl <| .s 6 .pl <| .s 7 .pl <| .s 8 .pl <| .s 9 .pl <| .s 10 .pl <| .s 11 .pl <| .s 12 .pl <| .s 13 .pl <| .s 14 .pl <| .s 15 .pl <| .s 16 .pl <| .s 17 .pl <| .s 18 .pl <| .n) ?_;have hg : (aB l).getD w.volume.toNat 0 = (l[n].length : Int) := by rw [hn]; exact jW l n hnl
 have hwr : IntKind.i64.wrap ((l[n].length : Int) - (w.data.length : Int)) = (l[n].length : Int) - (w.data.length : Int) := IntWalk.i64_in _ ⟨by omega, by omega⟩;have hfit : aS (aB l) w = if w.start < 0 \/ (l[n].length : Int) - (w.data.length : Int) < w.start then 2 else 0 := by
  rw [aS, if_neg (by simp; omega), if_neg h3, hg]
 rw [hfit]
 by_cases h4 : w.start < 0
 · simp [go_sem, h4]
   exact ao.er rfl oH (by simp) (by simp)
 · simp [go_sem, h4, hn, hnl, hwr]
   refine ⟨fun h5 => ao.er (by rw [if_pos h5]) oH (by simp) (by simp), fun h5 => ?_⟩;refine ab ?_;simp [go_sem];exact ao.er (by rw [if_neg (by omega)]) oH (by simp) (by simp)
def uU (v : List au) (p : Nat) (d : List au) : List au := v.take p ++ d ++ v.drop (p + d.length)
def j3 (l : bX) (w : Wr) : bX := l.set w.volume.toNat (uU (l.getD w.volume.toNat []) w.start.toNat w.data)
def t6 : bX -> List Wr -> Nat -> bX × Nat × Nat
 | l, [], _ => (l, 0, 0)
 | l, w :: ws, i => if aS (aB l) w ≠ 0 then ([], i, aS (aB l) w) else t6 (j3 l w) ws (i + 1)
theorem E5 {v : List au} {p : Nat} {d : List au} (h : p + d.length <= v.length) : (uU v p d).length = v.length := by
 rw [uU, length_append, length_append, length_take, length_drop]; omega
end Go.Proofs.YtfflhepmkhlppaaGreatDoor
