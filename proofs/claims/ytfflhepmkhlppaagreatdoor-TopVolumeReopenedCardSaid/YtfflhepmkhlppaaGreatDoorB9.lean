import Derived.Test.YtfflhepmkhlppaaGreatDoorB8
import Derived.Test.YtfflhepmkhlppaaGreatDoorB7
import Derived.Test.YtfflhepmkhlppaaGreatDoorB5
import Derived.Shelf.SortM.Plain
import Derived.Shelf.SortM.SortNone
import Derived.Test.YtfflhepmkhlppaaGreatDoorB6
import Derived.Test.YtfflhepmkhlppaaGreatDoorB4
set_option linter.unusedSimpArgs false
set_option linter.unusedVariables false
set_option linter.unusedSectionVars false
set_option maxRecDepth 8000
set_option maxHeartbeats 4000000
open List (all_append all_cons all_eq_true all_map any_eq_true append_assoc append_nil cons_append contains_iff_mem drop_append_of_le_length drop_drop drop_eq_getElem_cons drop_eq_nil_of_le drop_of_length_le drop_one drop_succ_cons drop_take drop_zero eq_nil_of_length_eq_zero ext_getElem ext_getElem? filter_cons flatMap_append flatMap_cons flatMap_nil flatten_append flatten_cons flatten_nil foldl_append foldl_cons getD_eq_getElem?_getD getElem?_append getElem?_append_left getElem?_append_right getElem?_cons_succ getElem?_cons_zero getElem?_drop getElem?_eq_getElem getElem?_eq_none getElem?_map getElem?_of_mem getElem?_replicate getElem?_set getElem?_set_ne getElem?_set_self getElem?_take getElem?_toArray getElem_drop getElem_map getElem_mem getElem_of_mem getElem_set length_append length_cons length_drop length_eq_zero_iff length_map length_nil length_pos_iff length_range length_replicate length_set length_singleton length_take mapM_cons map_append map_congr_left map_cons map_drop map_map map_nil map_set map_take mem_append mem_append_left mem_cons mem_cons_of_mem mem_cons_self mem_flatten mem_map mem_of_getElem? mem_of_mem_drop mem_of_mem_take mem_range mem_replicate mem_singleton nil_append not_mem_nil prefix_refl range_succ replicate_succ replicate_succ' set_append_left set_append_right set_eq_take_append_cons_drop set_getElem_self set_set size_toArray take_append take_append_drop take_append_of_le_length take_left take_length take_of_length_le take_set_of_le take_succ_cons take_succ_eq_append_getElem take_take take_zero zip_cons_cons)
open Nat (le_refl zero_le)
namespace Go.Proofs.YtfflhepmkhlppaaGreatDoor
open Go.Proofs
def rk (im : bX) : List cV -> Except Nat (List Wr)
 | [] => .ok []
 | r :: rs => if (oc im r).2 ≠ 0 then .error (oc im r).2 else match rk im rs with
  | .ok l => .ok ((oc im r).1 :: l)
  | .error e => .error e
def f6 (d : Dk) (sizes : List Int) (n : Int) : cF × List bO × Nat :=
 if aH d ≠ 0 then (fz, [], aH d) else if (cd sizes n).2 ≠ 0 then (fz, [], (cd sizes n).2)
 else if (d.stable.length : Int) < (cd sizes n).1 then (fz, [], 2)
 else if (cm 0 n d).2.2.2 ≠ 0 then (fz, [], (cm 0 n d).2.2.2)
 else match rk (da (aU d) n.toNat sizes) (cm 0 n d).2.1 with
  | .error e => (fz, [], e)
  | .ok ws => (⟨sizes, (cm 0 n d).1, n, (cm 0 n d).1.first - 1, ws, (ij (da (aU d) n.toNat sizes) ws).1⟩, (cm 0 n d).2.2.1, 0)
def VP (im : bX) (rs : List cV) (i : Nat) : Prop := ∀ k (h : k < rs.length), k < i -> (oc im rs[k]).2 = 0
def wC (im : bX) (rs : List cV) (i : Nat) : List Wr := (rs.take i).map fun r => (oc im r).1
theorem WF {im : bX} {rs : List cV} {i : Nat} (h : i < rs.length) : wC im rs (i + 1) = wC im rs i ++ [(oc im rs[i]).1] := by
 rw [wC, take_succ_eq_append_getElem h, map_append]; rfl
theorem yr {im : bX} {rs : List cV} {i : Nat} (h : i <= rs.length) : (wC im rs i).length = i := by
 rw [wC, length_map, length_take]; omega
theorem yt {im : bX} : ∀ {rs : List cV}, VP im rs rs.length -> rk im rs = .ok (wC im rs rs.length)
 | [], _ => rfl
 | r :: rs, h => by
  have h0 := h 0 (by simp) (by simp);have ih := yt (im := im) (rs := rs) fun k hk _ => by
   have := h (k + 1) (by simp; omega) (by simp; omega)
   simpa using this
  rw [rk, if_neg (by simpa using h0), ih];show Except.ok ((oc im r).1 :: wC im rs rs.length) = Except.ok (wC im (r :: rs) (rs.length + 1));rw [wC, wC, take_succ_cons]; rfl
theorem uk {im : bX} : ∀ {rs : List cV} {i : Nat} (h : i < rs.length), VP im rs i -> (oc im rs[i]).2 ≠ 0 -> rk im rs = .error (oc im rs[i]).2
 | r :: rs, 0, _, _, h => by rw [rk, if_pos (by simpa using h)]; rfl
 | r :: rs, i + 1, hi, hp, h => by
  have h0 := hp 0 (by simp) (by simp);have ih := uk (im := im) (rs := rs) (i := i) (by simpa using hi) (fun k hk hki => by
   have := hp (k + 1) (by simp; omega) (by omega)
   simpa using this) (by simpa using h)
  rw [rk, if_neg (by simpa using h0), ih];simp
theorem dy {s : List au} {a : Nat} {l : List Int} (hz : ew l) (h : (a : Int) + ay l <= s.length) : aB (da s a l) = l := by
 have key : ∀ i, i <= l.length -> aB (jz s a l i) = l.take i := fun i => by
  induction i with
  | zero => intro _; rfl
  | succ i ih =>
   intro hi;have hsu := hz.sum i;have hil : i < l.length := by omega
   have hl0 := hz.2 l[i] (getElem_mem hil);have htk := fC l i hil;have hmo : ay (l.take (i + 1)) <= ay l := by
    have e := mj (l.take (i + 1)) (l.drop (i + 1));rw [take_append_drop] at e;have hd2 : ew (l.drop (i + 1)) := ⟨by rw [length_drop]; have := hz.1; omega, fun n hn => hz.2 n (mem_of_mem_drop hn)⟩
    have := hd2.sum';omega
   have e : aB (jz s a l (i + 1)) = aB (jz s a l i) ++ [(((s.drop (a + (ay (l.take i)).toNat)).take (l.getD i 0).toNat).length : Int)] := by
    rw [aB, jz, map_append]; rfl
   rw [e, ih (by omega), take_succ_eq_append_getElem hil, getD_eq_getElem?_getD, getElem?_eq_getElem hil, Option.getD_some, length_take, length_drop]
   congr 2
   omega
 have := key l.length (le_refl _)
 rwa [take_length] at this
theorem DY {im : bX} {r : cV} (h : (oc im r).2 = 0) : gc im (oc im r).1 = 0 /\ s9 r = some (oc im r).1 := by
 cases hs : s9 r with
 | none => rw [um hs] at h; cases h
 | some w => rw [pq hs] at h ⊢; exact ⟨h, rfl⟩
theorem sk {α : Type} {e : α -> List UInt8} (he : ∀ a, 1 <= (e a).length) : ∀ l : List α, l.length <= (l.flatMap e).length
 | [] => le_refl _
 | a :: l => by
  rw [flatMap_cons, length_append, length_cons];have := he a;have := sk he l;omega
theorem BM (s c : Int) (d : Dk) : ∀ r ∈ (cm s c d).2.1, r.pay.length <= 4096 := by
 by_cases h : (cp s c d).2.2 = 0
 case neg => rw [nB h]; exact fun r h => by cases h
 obtain ⟨hv, -, -, e⟩ := qk h;rw [e];have hr := pZ (cp s c d).2.1 (eN (cp s c d).1 (c - 16).toNat (bD d (s + 16) (c - 16)).1 (c - 16).toNat);intro r hm;have := hr.1 (ne (r.pay.length : Int)) (mem_map.2 ⟨r, hm, rfl⟩);unfold ne at this
 split at this <;> omega
theorem JK {r : cV} {w : Wr} (h : s9 r = some w) : r.kind = 1 /\ r.pay = bi [w] := by
 unfold s9 at h
 split at h
 · rename_i hk
   refine ⟨hk, ?_⟩;unfold JM at h
   split at h
   · rename_i w' hx
     obtain rfl : w' = w := by simpa using h
     have := zr WH _ _ _ hx;rw [this, append_nil]; rfl
   · cases h
 · cases h
theorem yJ {r : cV} {w : Wr} (h : s9 r = some w) : w.data.length <= r.pay.length := by
 have hf := sk (e := au.val) (fun s => by rw [s.len]; decide) w.data;rw [(JK h).2, bi, flatMap_cons, flatMap_nil, append_nil, iz, gM];simp only [length_append];omega
def dc (l : List Int) (i : Nat) : Nat := (ay (l.take i)).toNat
def lE (l : List Int) (i : Nat) : Nat := (l.getD i 0).toNat
theorem jK {l : List Int} (hz : ew l) {i : Nat} (h : i < l.length) : dc l (i + 1) = dc l i + lE l i /\ l[i] = (lE l i : Int) /\ ay (l.take i) = (dc l i : Int) := by
 have h1 := hz.sum i;have h2 := hz.2 l[i] (getElem_mem h);have h3 := fC l i h;have e : l.getD i 0 = l[i] := by rw [getD_eq_getElem?_getD, getElem?_eq_getElem h]; rfl
 unfold dc lE;rw [e];omega
theorem je {l : List Int} (hz : ew l) {i k : Nat} (h : i <= k) : dc l i <= dc l k := by
 induction k with
 | zero =>
  obtain rfl : i = 0 := by omega
  exact le_refl _
 | succ k ih =>
  rcases Nat.lt_or_eq_of_le h with e | e
  · by_cases hk : k < l.length
    · have := (jK hz hk).1
      have := ih (by omega);omega
    · have : dc l (k + 1) = dc l k := by unfold dc; rw [take_of_length_le (by omega), take_of_length_le (by omega)]
      rw [this]; exact ih (by omega)
  · rw [e]; exact le_refl _
theorem dE {l : List Int} (hz : ew l) : ay l = (dc l l.length : Int) := by
 have := hz.sum';unfold dc; rw [take_length]; omega
theorem mu {l : List Int} (hz : ew l) {i : Nat} (h : i < l.length) : dc l i + lE l i <= dc l l.length := by
 rw [<- (jK hz h).1]; exact je hz h
theorem sQ (s : List au) (a : Nat) (l : List Int) : ∀ (m i : Nat), (jz s a l m)[i]? = if i < m then some ((s.drop (a + dc l i)).take (lE l i)) else none
 | 0, i => by rw [if_neg (by omega)]; rfl
 | m + 1, i => by
  rw [jz, getElem?_append, n7, sQ s a l m i]
  by_cases h : i < m
  · rw [if_pos h, if_pos h, if_pos (by omega)]
  · rw [if_neg h]
    by_cases h2 : i = m
    · subst h2
      rw [if_pos (by omega), Nat.sub_self]; rfl
    · rw [if_neg (by omega), getElem?_eq_none (by simp; omega)]
theorem fD (s : List au) (a : Nat) (l : List Int) (v p : Nat) : ri (da s a l) v p = if v < l.length /\ p < lE l v then s[a + dc l v + p]? else none := by
 rw [ri, da, sQ]
 by_cases h : v < l.length
 · rw [if_pos h, Option.bind_some, getElem?_take, getElem?_drop]
   by_cases h2 : p < lE l v
   · rw [if_pos h2, if_pos ⟨h, h2⟩]
   · rw [if_neg h2, if_neg (fun q => h2 q.2)]
 · rw [if_neg h, if_neg (fun q => h q.1)]; rfl
theorem qG {l : List Int} (hs : aN l = 0) {w : Wr} (h : aS l w = 0) : ∃ n p : Nat, w.volume = n /\ w.start = p /\ n < l.length /\ p + w.data.length <= lE l n := by
 have h' : aS (aB (bo l)) w = 0 := by rw [cI hs]; exact h
 obtain ⟨n, hv, hn, hd, p, hp, hpl⟩ := pg h';have hz := cI hs;have hl : (bo l).length = l.length := by have := congrArg List.length hz; rwa [gP] at this
 refine ⟨n, p, hv, hp, by omega, ?_⟩;have hg := jW (bo l) n hn;rw [hz] at hg;unfold lE;omega
theorem n6 {s t : List au} {a : Nat} {l : List Int} (hl : s.length = t.length) (hz : ew l) (hin : a + dc l l.length <= s.length) (h : ∀ i, a <= i -> i < a + dc l l.length -> s[i]? = t[i]?) : da s a l = da t a l := by
 refine mI (by rw [dy hz (by have := dE hz; omega), dy hz (by have := dE hz; omega)]) fun v p => ?_;rw [fD, fD]
 split
 · rename_i c
   have := mu hz c.1;exact h _ (by omega) (by omega)
 · rfl
theorem FD {v : cF} {l : List Int} {a : Nat} (hs : v.sizes = l) (hd : v.data = a) (hE : aN l = 0) {w : Wr} (h : aS l w = 0) : ∃ b : Nat, gZ v w = dG b w.data /\ a <= b /\ b + w.data.length <= a + dc l l.length ∧
 (∀ i : Nat, b <= i -> i < b + w.data.length -> ∃ n p : Nat, DP w n p /\ i = a + dc l n + p /\ n < l.length /\ p < lE l n) ∧
 ∀ s : List au, a + dc l l.length <= s.length -> da (nA s b w.data) a l = j3 (da s a l) w := by
 have hz := ew.of hE;obtain ⟨n, p, hv, hp, hn, hc⟩ := qG hE h;obtain ⟨q1, q2, q3⟩ := jK hz hn;have q4 := mu hz hn;refine ⟨a + dc l n + p, ?_, by omega, by omega, fun i i1 i2 => ⟨n, i - (a + dc l n), ⟨hv, by omega, by omega⟩, by omega, hn, by omega⟩, fun s hsl => ?_⟩
 · rw [gZ, hs, hd, hv, hp, Int.toNat_natCast, q3]
   exact o7 _ _ (by omega)
 · have hsz := dy (s := s) (a := a) hz (by have := dE hz; omega)
   have hf : aS (aB (da s a l)) w = 0 := by rw [hsz]; exact h
   refine mI (by rw [cC hf, hsz, dy hz (by rw [fY]; have := dE hz; omega)]) fun v' p' => ?_;rw [iw hf, fD, fD];have hcov : DP w v' p' ↔ (n = v' /\ p <= p' /\ p' < p + w.data.length) := by unfold DP; rw [hv, hp]; omega
   by_cases hin : v' < l.length /\ p' < lE l v'
   · rw [if_pos hin, if_pos hin, fZ (by omega)]
     have r1 := jK hz hin.1
     by_cases e : n = v'
     · subst e
       by_cases e1 : p <= p' /\ p' < p + w.data.length
       · rw [if_pos (by omega), if_pos (hcov.2 ⟨rfl, e1⟩), hp, Int.toNat_natCast]
         congr 1; omega
       · rw [if_neg (by omega), if_neg (fun q => e1 (hcov.1 q).2)]
     · rw [if_neg (c := DP w v' p') (fun q => e (hcov.1 q).1), if_neg]
       rcases Nat.lt_or_gt_of_ne e with e2 | e2
       · have := je hz (show n + 1 <= v' by omega)
         omega
       · have := je hz (show v' + 1 <= n by omega)
         omega
   · rw [if_neg hin, if_neg hin, if_neg]
     intro q;obtain ⟨rfl, q1, q2⟩ := hcov.1 q;exact hin ⟨hn, by omega⟩
theorem qx {v : cF} {l : List Int} {a : Nat} (hs : v.sizes = l) (hd : v.data = a) (hE : aN l = 0) : ∀ (ws : List Wr) (s : List au), a + dc l l.length <= s.length -> (∀ w ∈ ws, aS l w = 0) →
 en s.length (ws.map (gZ v)) /\ da (a8 s (ws.map (gZ v))) a l = fM (da s a l) ws ∧
 (∀ q x, io (ws.map (gZ v)) q x -> a <= q /\ ∃ w ∈ ws, ∃ n p : Nat, DP w n p /\ q = a + dc l n + p /\ n < l.length /\ p < lE l n)
 | [], s, _, _ => ⟨fun o ho => (by cases ho), rfl, fun q x ⟨_, _, _, m, _⟩ => (by cases m)⟩
 | w :: ws, s, hl, h => by
  obtain ⟨b, e, a1, a2, a3, a4⟩ := FD hs hd hE (h w (by simp));obtain ⟨h1, h2, h3⟩ := qx hs hd hE ws (nA s b w.data) (by rw [fY]; exact hl) (fun x hx => h x (by simp [hx]));rw [fY] at h1;rw [map_cons, e, gK];refine ⟨fun o ho => ?_, by rw [h2, a4 s hl]; rfl, fun q x hq => ?_⟩
  · rcases mem_cons.1 ho with rfl | ho
    · exact ⟨b, _, rfl, by omega⟩
    · exact h1 o ho
  · obtain ⟨c, m, i, m1, m2, m3⟩ := hq
    rcases mem_cons.1 m1 with e2 | m1
    · obtain ⟨rfl, rfl⟩ := jN e2
      have hi := (List.getElem?_eq_some_iff.1 m2).1;obtain ⟨n, p, r1, r2, r3, r4⟩ := a3 q (by omega) (by omega);exact ⟨by omega, w, by simp, n, p, r1, r2, r3, r4⟩
    · obtain ⟨g1, w', g2, n, p, g3, g4, g5, g6⟩ := h3 q x ⟨c, m, i, m1, m2, m3⟩
      exact ⟨g1, w', by simp [g2], n, p, g3, g4, g5, g6⟩
theorem yQ : ∀ (ws : List Wr) (l k : bX) (v p : Nat), aB l = aB k -> (∀ w ∈ ws, aS (aB l) w = 0) -> (∃ w ∈ ws, DP w v p) -> ri (fM l ws) v p = ri (fM k ws) v p
 | [], l, k, v, p, _, _, ⟨w, hw, _⟩ => by cases hw
 | w :: ws, l, k, v, p, hs, hf, hc => by
  have h0 := hf w (by simp);have h0' : aS (aB k) w = 0 := by rw [<- hs]; exact h0
  show ri (fM (j3 l w) ws) v p = ri (fM (j3 k w) ws) v p;have e1 : aB (j3 l w) = aB (j3 k w) := by rw [cC h0, cC h0', hs]
  have e2 : ∀ x ∈ ws, aS (aB (j3 l w)) x = 0 := fun x hx => by rw [cC h0]; exact hf x (by simp [hx])
  by_cases c : DP w v p
  · refine oX ws _ _ v p e1 e2 ?_
    rw [iw h0, iw h0', if_pos c, if_pos c]
  · refine yQ ws _ _ v p e1 e2 ?_
    obtain ⟨x, hx, hxc⟩ := hc;rcases mem_cons.1 hx with rfl | hx
    · exact absurd hxc c
    · exact ⟨x, hx, hxc⟩
theorem GE {v : cF} {l : List Int} {a : Nat} (hs : v.sizes = l) (hd : v.data = a) (hE : aN l = 0) {ws : List Wr} {s s' : List au} (hl : a + dc l l.length <= s.length) (hf : ∀ w ∈ ws, aS l w = 0) (hm : eA s (io (ws.map (gZ v))) s') : fM (da s' a l) ws = fM (da s a l) ws := by
 have hz := ew.of hE;have hh := (qx hs hd hE ws s hl hf).2.2;have z1 := dy (s := s) (a := a) hz (by have := dE hz; omega);have z2 := dy (s := s') (a := a) hz (by rw [hm.1]; have := dE hz; omega);have f1 : ∀ w ∈ ws, aS (aB (da s a l)) w = 0 := fun w hw => by rw [z1]; exact hf w hw
 have f2 : ∀ w ∈ ws, aS (aB (da s' a l)) w = 0 := fun w hw => by rw [z2]; exact hf w hw
 refine mI (by rw [t7 ws _ f2, t7 ws _ f1, z1, z2]) fun n p => ?_
 by_cases c : ∃ w ∈ ws, DP w n p
 · exact yQ ws _ _ n p (by rw [z1, z2]) f2 c
 · refine oX ws _ _ n p (by rw [z1, z2]) f2 ?_
   rw [fD, fD]
   split
   · rename_i hin
     rcases hm.2 (a + dc l n + p) with e | ⟨x, hx, -⟩
     · exact e
     · obtain ⟨-, w, hw, n', p', hc, he, hn', hp'⟩ := hh _ x hx
       exfalso
       apply c;have r1 := jK hz hin.1;have r2 := jK hz hn';have : n = n' := by
        rcases Nat.lt_trichotomy n n' with e | e | e
        · have := je hz (show n + 1 <= n' by omega); omega
        · exact e
        · have := je hz (show n' + 1 <= n by omega); omega
       subst this;have : p = p' := by omega
       subst this;exact ⟨w, hw, hc⟩
   · rfl
theorem pP (s : Int) : ∀ (f : Nat) (M : List Bool) (p : Nat), (dV s f M p).length <= f /\ ∀ o ∈ dV s f M p, o.data.length <= M.length
 | 0, M, p => ⟨le_refl _, fun o h => by cases h⟩
 | f + 1, M, p => by
  rw [dV]
  split
  · exact ⟨zero_le _, fun o h => by cases h⟩
  · split
    · have := pP s f M (p + 1)
      exact ⟨by omega, this.2⟩
    · have := pP s f M (p + iX (M.drop p) + 1)
      refine ⟨by rw [length_cons]; omega, fun o h => ?_⟩;rcases mem_cons.1 h with rfl | h
      · show (List.replicate _ _).length <= _
        have := oY (M.drop p);rw [length_drop] at this;rw [length_replicate]; omega
      · exact this.2 o h
theorem JS {j : bW} {ct : List au} (h : j.count <= 4096) : (oL j ct).length <= 900000 /\ ∀ o ∈ oL j ct, o.data.length <= 900000 := by
 have hb := pP j.start ((FT j ct).length + 1) (FT j ct) 0;have hl := zn j ct;rw [yU]
 split
 · exact ⟨zero_le _, fun o h => by cases h⟩
 · refine ⟨by rw [length_append]; show _ + 1 <= _; omega, fun o ho => ?_⟩
   rcases mem_append.1 ho with ho | ho
   · have := hb.2 o ho; omega
   · obtain rfl : o = cO := by simpa using ho
     exact zero_le _
theorem FC (s c : Int) (d : Dk) : (cm s c d).1.sizes.length <= 1000000000 /\ (cm s c d).2.1.length <= 1000000 /\ (cm s c d).2.2.1.length <= 900000000 /\ ∀ o ∈ (cm s c d).2.2.1, o.data.length <= 900000000 := by
 by_cases h : (cp s c d).2.2 = 0
 case neg => rw [nB h]; exact ⟨zero_le _, zero_le _, zero_le _, fun o h => by cases h⟩
 obtain ⟨hv, -, -, e⟩ := qk h;rw [e];have hvi := (aM s c).1 hv;have hr := pZ (cp s c d).2.1 (eN (cp s c d).1 (c - 16).toNat (bD d (s + 16) (c - 16)).1 (c - 16).toNat);rw [iS] at hr;have hb := JS (j := jO s c (cp s c d).1 (cp s c d).2.1 (eC (cp s c d).2.1 (eN (cp s c d).1 (c - 16).toNat (bD d (s + 16) (c - 16)).1 (c - 16).toNat))) (ct := (bD d (s + 16) (c - 16)).1) (show c <= 4096 by omega);refine ⟨?_, ?_, ?_, fun o ho => ?_⟩
 · show (eQ _).length <= _
   rw [eQ, length_map]; omega
 · show (eC _ _).length <= _; omega
 · show (oL _ _).length <= _; omega
 · have := hb.2 o ho; omega
theorem J4 {d : Dk} {l : List Int} {n : Int} (h : aH d ≠ 0) : f6 d l n = (fz, [], aH d) := if_pos h
theorem J3 {d : Dk} {l : List Int} {n : Int} (h : aH d = 0) (h2 : (cd l n).2 ≠ 0) : f6 d l n = (fz, [], (cd l n).2) := by rw [f6, if_neg (by simp [h]), if_pos h2]
theorem J2 {d : Dk} {l : List Int} {n : Int} (h : aH d = 0) (h2 : (cd l n).2 = 0) (h3 : (d.stable.length : Int) < (cd l n).1) : f6 d l n = (fz, [], 2) := by rw [f6, if_neg (by simp [h]), if_neg (by simp [h2]), if_pos h3]
theorem J0 {d : Dk} {l : List Int} {n : Int} (h : aH d = 0) (h2 : (cd l n).2 = 0) (h3 : ¬ (d.stable.length : Int) < (cd l n).1) (h4 : (cm 0 n d).2.2.2 ≠ 0) : f6 d l n = (fz, [], (cm 0 n d).2.2.2) := by rw [f6, if_neg (by simp [h]), if_neg (by simp [h2]), if_neg h3, if_pos h4]
theorem y7 {d : Dk} {l : List Int} {n : Int} (h : aH d = 0) (h2 : (cd l n).2 = 0) (h3 : ¬ (d.stable.length : Int) < (cd l n).1) (h4 : (cm 0 n d).2.2.2 = 0) : f6 d l n = match rk (da (aU d) n.toNat l) (cm 0 n d).2.1 with
 | .error e => (fz, [], e)
 | .ok ws => (⟨l, (cm 0 n d).1, n, (cm 0 n d).1.first - 1, ws, (ij (da (aU d) n.toNat l) ws).1⟩, (cm 0 n d).2.2.1, 0) := by
 rw [f6, if_neg (by simp [h]), if_neg (by simp [h2]), if_neg h3, if_neg (by simp [h4])] <;> rfl
theorem BN {s c : Int} {d : Dk} (h : (cm s c d).2.2.2 = 0) : cE (cm s c d).1 = true := by
 by_cases h' : (cp s c d).2.2 = 0
 case neg => rw [nB h'] at h; exact absurd h h'
 obtain ⟨hv, hh, hn, e⟩ := qk h';rw [e];exact zS hv hh.1 hh.2.1 hh.2.2.1 hh.2.2.2 (by rw [iS]; omega)
abbrev SC (l : List Int) (j : bW) (n : Int) (cv im : CV) : List CV := [.sl .sh 1 (l.map ic), iv j.start, iv j.count, iv j.head, iv j.tail, iv j.first, .sl .sh 1 (j.sizes.map ic), iv n, iv (j.first - 1), cv, im]
abbrev HV (H : Hp) (d : Dk) (z : List CV) (er1 : CV) (j : bW) (so : List CV) (im : bX) (rs : List cV) (lp : Option (List CV)) : Hp :=
 H ++ (some (cj d) :: some z :: some [.v (.slice none 0 0)] :: some [er1] :: some (fA j) :: some so :: some [.sl .sh 1 (im.map eB)] :: some [.sl .sh 3 (rs.map gl)] :: lp :: [])
theorem pC (H : Hp) (V : List Nat) (d : Dk) (l : List Int) (n : Int) (hd : rL d) (hl : l.length <= 9223372036854775807) : CC Tryz.prog 10 [.agg (cj d), .sl .sh 1 (l.map ic), ci n] H V (Pu (zG (f6 d l n)) H V) := by
 refine CC.of_swp0 Tryz.func10 rfl (by kernel_rfl) (by rw [Tryz.ntmps10]; exact gu _ _ rfl) fun hok oH => ?_
 have bad : ∀ {e : Nat} {H' : Hp} {V' : List Nat}, f6 d l n = (fz, [], e) -> H'.take H.length = H -> V'.take V.length = V -> ao H.length V.length (Pu (zG (f6 d l n)) H V) (.tup [.agg kj, .v (.slice none 0 0), er e]) H' V' := fun h1 h2 h3 => by
  rw [h1]
  exact ao.pu (.tup (.cons (.agg oU) (.cons (.nil 3 (by decide)) (.cons (.refl _) .nil)))) (jP _ _ _) oH h2 h3
 refine aw (aD (ab ?_))
 simp -implicitDefEqProofs [go_sem, ai]
 refine aw (aD (aa (ab ?_)))
 simp -implicitDefEqProofs [go_sem]
 refine CC.mono (eO _ _ d hd) ?_
 rintro _ _ _ ⟨rfl, rfl, rfl⟩
 simp -implicitDefEqProofs [go_sem]
 refine aa (ab ?_)
 by_cases h0 : aH d = 0
 case neg =>
  simp -implicitDefEqProofs [go_sem, h0]
  refine ab ?_
  simp -implicitDefEqProofs [go_sem]
  exact bad (J4 h0) (by simp) (by simp)
 simp -implicitDefEqProofs [go_sem, h0]
 refine ab ?_
 simp -implicitDefEqProofs [go_sem]
 refine aw (aD (ab ?_))
 simp -implicitDefEqProofs [go_sem]
 refine CC.mono (pz _ _ .sh l n hl) ?_
 rintro _ _ _ ⟨rfl, rfl, rfl⟩
 simp -implicitDefEqProofs [go_sem]
 refine aw (aD (aa (ab ?_)))
 by_cases h1 : (cd l n).2 = 0
 case neg =>
  simp -implicitDefEqProofs [go_sem, h1]
  refine ab ?_
  simp -implicitDefEqProofs [go_sem]
  exact bad (J3 h0 h1) (by simp) (by simp)
 simp -implicitDefEqProofs [go_sem, h1]
 refine ab ?_
 simp -implicitDefEqProofs [go_sem]
 refine aw (aD (aa (ab ?_)))
 by_cases h2 : (d.stable.length : Int) < (cd l n).1
 · simp -implicitDefEqProofs [go_sem, h2]
   refine ab ?_
   simp -implicitDefEqProofs [go_sem]
   exact bad (J2 h0 h1 h2) (by simp) (by simp)
 simp -implicitDefEqProofs [go_sem, h2]
 refine ab ?_
 simp -implicitDefEqProofs [go_sem]
 obtain ⟨z1, z2, z3, z4⟩ := uw h1
 have hz := ew.of z1
 have hzl := (dj z1)
 refine aw (aD (ab ?_))
 simp -implicitDefEqProofs [go_sem]
 refine CC.mono (ND _ _ 0 n d hd (BT d 0)) ?_
 rintro _ _ _ ⟨rfl, rfl, rfl⟩
 have e5 := y7 (l := l) (n := n) h0 h1 h2
 have e4 := J0 (l := l) (n := n) h0 h1 h2
 obtain ⟨o1, o2, o3, o4⟩ := FC 0 n d
 have o5 := BM 0 n d
 have o6 := BN (s := 0) (c := n) (d := d)
 generalize cm 0 n d = oj at e4 e5 o1 o2 o3 o4 o5 o6 ⊢
 obtain ⟨j, rs, ops, eo⟩ := oj
 dsimp only at e4 e5 o1 o2 o3 o4 o5 o6
 simp -implicitDefEqProofs [go_sem, XA]
 refine aw (aD (aa (ab ?_)))
 by_cases h4 : eo = 0
 case neg =>
  have h4' : ¬ (eo : Int) = 0 := by omega
  simp -implicitDefEqProofs [go_sem, h4, h4']
  refine ab ?_
  simp -implicitDefEqProofs [go_sem]
  exact bad (e4 h4) (by simp) (by simp)
 subst h4
 replace e5 := e5 rfl
 have hjf := l6 (o6 rfl)
 simp -implicitDefEqProofs [go_sem]
 refine ab ?_
 simp -implicitDefEqProofs [go_sem]
 obtain ⟨m, rfl⟩ : ∃ m : Nat, n = (m : Int) := ⟨n.toNat, by omega⟩
 have hin : (m : Int) + ay l <= d.stable.length := by rw [z4] at h2; omega
 have hsz := dy (s := aU d) (a := m) hz (by rw [bR]; exact hin)
 rw [Int.toNat_natCast] at e5
 refine aw (aD (ab ?_))
 simp -implicitDefEqProofs [go_sem]
 refine CC.mono (xU _ _ d l m hd h0 hz hin) ?_
 rintro _ _ _ ⟨rfl, rfl, rfl⟩
 generalize da (aU d) m l = im at hsz e5 ⊢
 have him := jj z1 hsz
 simp -implicitDefEqProofs [go_sem]
 refine aw (aD (aa (ab ?_)))
 simp -implicitDefEqProofs [go_sem]
 refine ab ?_
 simp -implicitDefEqProofs [go_sem]
 have w1 : IntKind.i64.wrap (j.first - 1) = j.first - 1 := IntWalk.i64_in _ ⟨by omega, by omega⟩
 refine aw (aD (az [] [9] (.s 0 .pl <| .s 2 .pl <| .s 3 .pl <| .s 4 .pl <| .s 5 .pl <| .s 6 .pl <| .c 1 <| .s 7 .pl <| .s 8 .pl <| .s 9 .st <| .n) ?_))
 simp -implicitDefEqProofs [go_sem, w1]
 refine ⟨_, fun H V => cu H V .sh l (by omega), ?_⟩
 simp -implicitDefEqProofs [go_sem, w1, fA]
 refine aw (aw (aD (ab ?_)))
 simp -implicitDefEqProofs [go_sem]
 refine CC.mono (zZ _ _ im rs) ?_
 rintro _ _ _ ⟨rfl, rfl, rfl⟩
 simp -implicitDefEqProofs [go_sem]
 simp only [Nat.add_assoc, Nat.reduceAdd]
 obtain ⟨TT, hTT⟩ : ∃ TT : Tm, TT = [(6, .ptr (H.length + 1) 0), (7, .ptr (H.length + 2) 0), (8, .ptr (H.length + 3) 0), (14, gp ops), (15, F9 im), (16, .ptr (H.length + 5) 0), (75, .fn 83 [.ptr (H.length + 7) 0, .ptr (H.length + 6) 0])] := ⟨_, rfl⟩
 refine aL.ghost (T' := TT) (H' := H ++ [some (cj d), some kj, some [.v (.slice none 0 0)], some [ci 0], some (fA j), some (SC l j m (.sl (.own V.length 0) 3 []) (.v (.slice none 0 0))), some [.sl .sh 1 (im.map eB)], some [.sl .sh 3 (rs.map gl)]]) (V' := V ++ [0]) (Sh.tokL (b := H.length + 5) (ds := SC l j m (.sl (.own V.length 0) 3 []) (.v (.slice none 0 0))) (aC _ _ 5) (by simp [go_sem]) (by simp [CV.isObj]) (by rw [hTT]; simp [go_sem]) ?_ rfl) ?_
 · simp [go_sem]
   exact ⟨rfl, rfl⟩
 refine aL.block (aL.range TT (by rw [hTT]; rfl) (by rw [hTT]; simp [go_sem]) ?_)
 simp -implicitDefEqProofs [go_sem]
 generalize hbd : Code.block 1 _ = bd
 generalize has : Code.seq (Code.region 17 _ _) _ = asg
 refine CC.mono (wK (HV H d kj (ci 0) j (SC l j m (.sl (.own V.length 0) 3 []) (.v (.slice none 0 0))) im rs (some [fQ 102 #[76, 77] asg bd TT .ready none])) (V ++ [0]) (H.length + 8) (H.length + 7) (H.length + 6) im rs (aC _ _ 7) (aC _ _ 6) (by omega) (fun r hr => by have := o5 r hr; omega) him.1 him.2 (fun r hr w hw => by have := yJ hw; have := o5 r hr; omega)
  (fun i G V' => VP im rs i /\ V' = V ++ [i] /\ G = HV H d kj (ci 0) j (SC l j m (.sl (.own V.length i) 3 ((wC im rs i).map bq)) (.v (.slice none 0 0))) im rs (some [fQ 102 #[76, 77] asg bd TT .ready none]))
  (fun G V' => (VP im rs rs.length /\ V' = V ++ [rs.length] /\ G = HV H d kj (ci 0) j (SC l j m (.sl (.own V.length rs.length) 3 ((wC im rs rs.length).map bq)) (.v (.slice none 0 0))) im rs (some [fQ 102 #[76, 77] asg bd TT .ready none])) ∨
   ∃ i, ∃ h : i < rs.length, VP im rs i /\ (oc im rs[i]).2 ≠ 0 /\ V' = V ++ [i] /\ G = HV H d kj (er (oc im rs[i]).2) j (SC l j m (.sl (.own V.length i) 3 ((wC im rs i).map bq)) (.v (.slice none 0 0))) im rs (some [fQ 102 #[76, 77] asg bd TT .done (some .ret)]))
  ⟨fun k h hk => absurd hk (Nat.not_lt_zero _), rfl, rfl⟩ ?_ ?_ ?_ ?_) ?_
 · rintro i _ V' ⟨-, rfl, rfl⟩
   exact ⟨by simp, aC _ _ 7, aC _ _ 6⟩
 · rintro i h hok' _ _ W ⟨hwi, rfl, rfl⟩
   refine YC.of_round (n := 102) (ps := #[76, 77]) (bd := bd) (T := TT) (by rw [append_assoc]; exact aC _ _ 8) rfl (by decide) ?_
   subst hbd has
   refine aa (ab ?_)
   simp -implicitDefEqProofs [go_sem, yD, hTT]
   refine ab ?_
   simp -implicitDefEqProofs [go_sem]
   generalize hlp : fQ 102 #[76, 77] _ _ _ LoopState.busy none = lp
   generalize hqq : RQ 102 #[76, 77] _ _ _ _ _ = QQ
   refine af (aa (aa (ab ?_)))
   simp -implicitDefEqProofs [go_sem]
   refine ab ?_
   simp -implicitDefEqProofs [go_sem]
   have hwl := yr (im := im) (rs := rs) (i := i) (by omega)
   have hws := WF (im := im) h
   have hwn : VP im rs (i + 1) := fun k hk hki => by
    rcases Nat.lt_or_eq_of_le (Nat.le_of_lt_succ hki) with e | e
    · exact hwi k hk e
    · subst e; exact hok'
   refine ab ?_
   simp -implicitDefEqProofs [go_sem, hwl]
   refine ⟨by omega, ?_⟩
   rw [<- hqq, <- hlp]
   refine ⟨aC _ _ 8, rfl, _, ⟨hwn, rfl, rfl⟩, [some (bq (oc im rs[i]).1)], ?_⟩
   rw [hws]
   simp [go_sem]
 · rintro i h hne _ _ W ⟨hwi, rfl, rfl⟩
   have hne' : ¬ ((oc im rs[i]).2 : Int) = 0 := by omega
   refine YC.of_round (n := 102) (ps := #[76, 77]) (bd := bd) (T := TT) (by rw [append_assoc]; exact aC _ _ 8) rfl (by decide) ?_
   subst hbd has
   refine aa (ab ?_)
   simp -implicitDefEqProofs [go_sem, yD, hTT]
   refine ab ?_
   simp -implicitDefEqProofs [go_sem]
   generalize hlp : fQ 102 #[76, 77] _ _ _ LoopState.busy none = lp
   generalize hqq : RQ 102 #[76, 77] _ _ _ _ _ = QQ
   refine af (aa (aa (ab ?_)))
   simp -implicitDefEqProofs [go_sem, hne, hne']
   refine ab ?_
   simp -implicitDefEqProofs [go_sem]
   rw [<- hqq, <- hlp]
   refine ⟨aC _ _ 8, .inl rfl, _, .inr ⟨i, hwi, h, hne, rfl, rfl⟩, [some (bq (oc im rs[i]).1)], ?_⟩
   simp [go_sem]
   rfl
 · rintro _ _ ⟨h1, rfl, rfl⟩
   exact .inl ⟨h1, rfl, rfl⟩
 · rintro _ _ _ ⟨G, W, hQ, rfl⟩
   rcases hQ with ⟨hw, rfl, rfl⟩ | ⟨i, h, hwi, hne, rfl, rfl⟩
   · refine .inl ⟨by rw [append_assoc]; exact aC _ _ 8, ?_⟩
     have hws := yt hw
     rw [hws] at e5
     have hwl := yr (im := im) (rs := rs) (i := rs.length) (le_refl _)
     have hwd : ∀ w ∈ wC im rs rs.length, w.data.length <= 1000000000 /\ aS (aB im) w = 0 := fun w hm => by
      rw [wC, take_length] at hm
      obtain ⟨r, hr, rfl⟩ := mem_map.1 hm
      obtain ⟨k, hk, rfl⟩ := getElem_of_mem hr
      obtain ⟨f1, f2⟩ := DY (hw k hk hk)
      have := yJ f2
      have := o5 _ (getElem_mem hk)
      refine ⟨by omega, ?_⟩
      rwa [gc, if_neg (by rw [hsz]; simp [z1])] at f1
     generalize wC im rs rs.length = ws at e5 hwl hwd ⊢
     have har : ij im ws = (fM im ws, 0, 0) := sS (by rw [hsz]; exact z1) fun w hm => (hwd w hm).2
     refine aw (aw (aD (ab ?_)))
     simp -implicitDefEqProofs [go_sem, hTT]
     refine CC.le (ys := [.sl .sh 1 (im.map eB), .sl .sh 3 (ws.map bq)]) (.cons (.refl _) (.cons (.sh _ _ _) .nil)) ?_
     refine CC.mono (kZ _ _ .sh im ws him.1 (by omega) (fun w hm => (hwd w hm).1)) ?_
     rintro _ _ _ ⟨rfl, rfl, rfl⟩
     rw [har]
     simp -implicitDefEqProofs [go_sem]
     refine aw (aD (ab ?_))
     simp -implicitDefEqProofs [go_sem]
     refine aD (ab ?_)
     simp -implicitDefEqProofs [go_sem]
     refine aw (aD (ab ?_))
     simp -implicitDefEqProofs [go_sem]
     refine aD (ab ?_)
     simp -implicitDefEqProofs [go_sem]
     have e6 : f6 d l m = (⟨l, j, m, j.first - 1, ws, fM im ws⟩, ops, 0) := by
      rw [e5]
      dsimp only
      rw [har]
     rw [e6]
     refine ao.pu (.tup (.cons (.agg ?_) (.cons (.refl _) (.cons (.refl _) .nil)))) (jP _ _ _) oH (by simp) (by simp)
     exact .cons (.refl _) (.cons (.refl _) (.cons (.refl _) (.cons (.refl _) (.cons (.refl _) (.cons (.refl _) (.cons (.refl _) (.cons (.refl _) (.cons (.refl _) (.cons (.sh _ _ _) (.cons (.refl _) .nil))))))))))
   · refine .inr (.inl ⟨by rw [append_assoc]; exact aC _ _ 8, ?_⟩)
     rw [uk h hwi hne] at e5
     simp -implicitDefEqProofs [go_sem, DS, uq, hTT]
     exact bad e5 (by simp) (by simp)
def i9 (f : Int) : List Wr -> List cV
 | [] => []
 | w :: ws => ⟨1, f, bi [w]⟩ :: i9 (f + 1) ws
theorem uQ : ∀ (ws : List Wr) (f : Int), (i9 f ws).length = ws.length
 | [], f => rfl
 | w :: ws, f => by rw [i9, length_cons, uQ ws]; rfl
theorem rZ : ∀ (ws : List Wr) (f : Int) (w : Wr), i9 f (ws ++ [w]) = i9 f ws ++ [⟨1, f + ws.length, bi [w]⟩]
 | [], f, w => by simp [i9]
 | x :: ws, f, w => by
  rw [cons_append, i9, rZ ws, i9, cons_append, length_cons];rw [show f + 1 + (ws.length : Int) = f + ((ws.length + 1 : Nat) : Int) by omega]
theorem JL {k : Int} {w : Wr} (hd : w.data.length <= 65536) (hv : 0 <= w.volume) (hv2 : w.volume <= 9007199254740991) (hs : 0 <= w.start) (hs2 : w.start <= 9007199254740991) : s9 ⟨1, k, bi [w]⟩ = some w := by
 have h := zq WG [w] [] ⟨by simp, fun a ha => by rw [mem_singleton] at ha; subst ha; exact hd⟩;rw [append_nil] at h;have e : cq po (bi [w]) = .ok ([w], []) := by
  rw [bi, h];obtain ⟨a, b, c⟩ := w;simp only [map_cons, map_nil];dsimp only at hv hv2 hs hs2;rw [mA hv hv2, mA hs hs2]
 rw [s9, if_pos rfl];show JM (cq po (bi [w])) = _;rw [e]; rfl
theorem GZ {l : List Int} (hs : aN l = 0) {w : Wr} (h : aS l w = 0) {k : Int} : s9 ⟨1, k, bi [w]⟩ = some w := by
 obtain ⟨n, p, hv, hp, hn, hc⟩ := qG hs h;have hz := ew.of hs;have h1 := hz.1;have h2 := hz.2 l[n] (getElem_mem hn);have h3 := (jK hz hn).2.1;exact JL (by omega) (by omega) (by omega) (by omega) (by omega)
theorem uj {im : bX} {l : List Int} (hs : aN l = 0) (hi : aB im = l) : ∀ (ws : List Wr) (f : Int), (∀ w ∈ ws, aS l w = 0) -> rk im (i9 f ws) = .ok ws
 | [], f, _ => rfl
 | w :: ws, f, h => by
  have h0 := h w (by simp);have hw := pq (im := im) (GZ hs h0 (k := f));have hf : gc im w = 0 := by rw [gc, if_neg (by rw [hi]; simp [hs]), hi, h0]
  rw [i9, rk, hw, if_neg (by simp [hf]), uj hs hi ws (f + 1) (fun x hx => h x (by simp [hx]))]
structure VI (l : List Int) (J T : Nat) (s : List au) (v : cF) (im : bX) (k : List au) : Prop where
 ok : ud v
 sz : v.sizes = l
 js : v.jr.start = 0
 jc : v.jr.count = (J : Int)
 img : v.img = im
 rj : RJ s v.jr (i9 v.jr.first v.pend) k T
 nx : ax v.jr <= T
 ar : fM (da s J l) v.pend = im
 len : s.length = J + dc l l.length
structure VX (l : List Int) (J : Nat) (s : List au) (v : cF) : Prop where
 dt : v.data = J
 ap : v.applied = v.jr.first - 1
 pl : v.pend.length = v.jr.sizes.length
 hE : aN l = 0
 hz : ew l
 l4 : s.length <= 4096
 fs : ∀ w ∈ v.pend, aS l w = 0
 j2 : 20 <= J
 sl : 2 * (v.jr.sizes.length : Int) <= J - 16
theorem VI.x {l : List Int} {J T : Nat} {s : List au} {v : cF} {im : bX} {k : List au} (h : VI l J T s v im k) : VX l J s v := by
 have hA := h.ok.A.a;have hB := h.ok.A.b;have hE : aN l = 0 := by rw [<- h.sz]; exact h.ok.sz
 obtain ⟨g, hg⟩ := h.rj.jd.gd;have hc := (bG _).1 h.rj.jd.chk;have hv := (aM _ _).1 hc.1;have hsu := kN h.rj.jd.chk;have hge := eY _ hc.2.2.1;have hJ := h.jc;refine ⟨?_, Classical.byContradiction fun e => hB (.inl e), Classical.byContradiction fun e => hB (.inr e), hE, ew.of hE, hg.l2, fun w hw => by rw [<- h.sz]; exact kU h.ok w hw, by omega, by omega⟩;have : v.data = v.jr.count := Classical.byContradiction fun e => hA (.inr (.inl e));omega
theorem VI.mono {l : List Int} {J T T' : Nat} {s : List au} {v : cF} {im : bX} {k : List au} (h : VI l J T s v im k) (ht : T <= T') : VI l J T' s v im k :=
 ⟨h.ok, h.sz, h.js, h.jc, h.img, h.rj.mono ht, by have := h.nx; omega, h.ar, h.len⟩
theorem VI.open {l : List Int} {J T : Nat} {s : List au} {v : cF} {im : bX} {k : List au} (h : VI l J T s v im k) :
 ∃ ws, f6 ⟨s, []⟩ l J = (v, oS ws, 0) /\ en s.length ws /\ ws.length <= J /\ (∀ s', eA s (io ws) s' -> VI l J T s' v im k) /\ VI l J T (a8 s ws) v im [] /\ (k = [] -> ws = []) := by
 have X := h.x;have hpre := dE X.hz;have ho := h.rj.open;obtain ⟨ws, c1, c2, c3, c4, c5, c6, c7⟩ := h.rj.clean;rw [c1, h.js, h.jc] at ho;have aT := h.len;have hsz := dy (s := s) (a := J) X.hz (by omega);have hA := h.ok.A.a;have hsv : cd l J = ((J : Int) + ay l, 0) := by
  rw [cd, if_neg (by simp [X.hE]), if_neg];have := X.l4;have := X.j2;omega
 have hwr := uj X.hE hsz v.pend v.jr.first X.fs;have har : ij (da s J l) v.pend = (fM (da s J l) v.pend, 0, 0) := sS (by rw [hsz]; exact X.hE) (by rw [hsz]; exact X.fs);have e0 := y7 (d := ⟨s, []⟩) (l := l) (n := J) (dg X.l4) (by rw [hsv]) (by rw [hsv]; show ¬ (s.length : Int) < J + ay l; omega) (by rw [ho]);rw [ho, Int.toNat_natCast, show aU ⟨s, []⟩ = s from rfl, hwr] at e0;dsimp only at e0;rw [har, h.ar] at e0;have hP : ∀ q x, io ws q x -> 0 <= q /\ q < J := fun q x hq => by
  have := c3 q x hq;rw [h.js, h.jc] at this;have : q < (0 : Int).toNat + (J : Int).toNat := this.2;omega
 have hto : ∀ s' k', eA s (io ws) s' -> RJ s' v.jr (i9 v.jr.first v.pend) k' T -> VI l J T s' v im k' := fun s' k' hm hr =>
  ⟨h.ok, h.sz, h.js, h.jc, h.img, hr, h.nx, by rw [<- h.ar]; congr 1; exact n6 hm.1 X.hz (by rw [hm.1]; omega) (fun i i1 i2 => mE hm hP (.inr i1)), by rw [hm.1]; exact aT⟩
 refine ⟨ws, ?_, c2, ?_, fun s' hm => hto s' k hm (c4 s' hm), hto _ _ (fv ws s c2) c5, c6⟩
 · rw [e0]
   show ((⟨l, v.jr, J, v.jr.first - 1, v.pend, im⟩ : cF), oS ws, 0) = (v, oS ws, 0);rw [<- h.sz, <- X.dt, <- X.ap, <- h.img]
 · rw [h.jc] at c7
   have := X.j2;omega
theorem VI.wr {l : List Int} {J T : Nat} {s : List au} {v : cF} {im : bX} (h : VI l J T s v im []) (hT : T <= 1000) {w : Wr} (hf : aS l w = 0) (hp : (bi [w]).length <= 4096) :
 (dK v w).2.2.2 = 11 \/ ∃ ws v', dK v w = (v', ax v.jr, ws ++ [cO], 0) /\ v'.jr.first = v.jr.first /\ v'.pend = v.pend ++ [w] /\ ws.length <= 2 /\ en s.length ws ∧
  (∀ s', eA s (io ws) s' -> ∃ k, VI l J (T + 1) s' v im k \/ VI l J (T + 1) s' v' (j3 im w) []) /\ VI l J (T + 1) (a8 s ws) v' (j3 im w) [] := by
 have X := h.x;have hpre := dE X.hz;have aT := h.len;have hJ := h.rj.jd.chk;have hn := fI hJ;have hnx := h.nx;have hnd : ax v.jr = v.jr.first + v.jr.sizes.length := rfl;have hwv : dK v w = if (gh v.jr 1 (bi [w])).2.2 ≠ 0 then (fz, 0, [], (gh v.jr 1 (bi [w])).2.2) else (⟨v.sizes, (gh v.jr 1 (bi [w])).1, v.data, v.applied, v.pend ++ [w], j3 v.img w⟩, ax v.jr, (gh v.jr 1 (bi [w])).2.1, 0) := by
  rw [dK, if_neg (by simp [pF h.ok]), if_neg (by rw [h.sz]; simp [hf])]
 cases hen : hO ⟨1, ax v.jr, bi [w]⟩ with
 | error e =>
  rw [xO (by show ¬ ((1 : Int) < 1 \/ 255 < (1 : Int) \/ ax v.jr < 1 \/ 4294967295 < ax v.jr); omega) (by show ¬ 4096 < (bi [w]).length; omega)] at hen
  cases hen
 | ok rl =>
  by_cases h2 : gB v.jr < rl.length
  · left
    rw [hwv, sR hJ hen (by omega) h2]; rfl
  right
  have h1 : ¬ 1073741824 <= ax v.jr := by omega
  obtain ⟨a1, a2, a3, a4⟩ := h.rj.app hen h1 h2;rw [zU hJ hen h1 h2, if_neg (by simp)] at hwv;dsimp only at hwv;generalize hjd : (⟨v.jr.start, v.jr.count, v.jr.head, (v.jr.tail + rl.length) % (v.jr.count - 16), v.jr.first, v.jr.sizes ++ [(rl.length : Int)]⟩ : bW) = j' at hwv a3 a4;have e1 : j'.start = v.jr.start /\ j'.count = v.jr.count /\ j'.first = v.jr.first /\ j'.sizes.length = v.jr.sizes.length + 1 := by rw [<- hjd]; exact ⟨rfl, rfl, rfl, by simp⟩
  obtain ⟨e1, e2, e3, e4⟩ := e1;have hrec : i9 v.jr.first v.pend ++ [⟨1, ax v.jr, bi [w]⟩] = i9 j'.first (v.pend ++ [w]) := by
   rw [rZ, e3, hnd, X.pl]
  rw [hrec] at a3 a4;have hP : ∀ q x, io (dQ v.jr.start v.jr.count v.jr.tail rl) q x -> 0 <= q /\ q < J := fun q x hq => by
   have := a2 q x hq;rw [h.js, h.jc] at this;have : q < (0 : Int).toNat + (J : Int).toNat := this.2;omega
  have har : ∀ s', eA s (io (dQ v.jr.start v.jr.count v.jr.tail rl)) s' -> da s' J l = da s J l := fun s' hm => n6 hm.1 X.hz (by rw [hm.1]; omega) (fun i i1 i2 => mE hm hP (.inr i1));have hfi : aS (aB v.img) w = 0 := by rw [h.ok.im, h.sz]; exact hf
  have hfs : ∀ x ∈ v.pend, aS (aB v.img) x = 0 := fun x hx => by rw [h.ok.im]; exact kU h.ok x hx
  have hA := h.ok.A.a;have hok' : ud ⟨v.sizes, j', v.data, v.applied, v.pend ++ [w], j3 v.img w⟩ := by
   refine s8 h.ok.sz ⟨a4.jd.chk, ?_, ?_⟩ (fun x hx => ?_) ?_ (DE hfs hfi (EK h.ok))
   · show ¬ (j'.start ≠ 0 \/ v.data ≠ j'.count \/ 4096 - ay v.sizes < v.data)
     rw [e1, e2]; exact hA
   · show ¬ (v.applied ≠ j'.first - 1 \/ (v.pend ++ [w]).length ≠ j'.sizes.length)
     rw [e3, e4, length_append, length_singleton, X.ap, X.pl]; simp
   · rcases mem_append.1 hx with hx | hx
     · exact kU h.ok x hx
     · rw [mem_singleton] at hx; rw [hx]; show aS v.sizes _ = 0; rw [h.sz]; exact hf
   · show aB (j3 v.img w) = v.sizes
     rw [cC hfi, h.ok.im]
  have hold : ∀ s' k', eA s (io (dQ v.jr.start v.jr.count v.jr.tail rl)) s' -> RJ s' v.jr (i9 v.jr.first v.pend) k' T -> VI l J (T + 1) s' v im k' := fun s' k' hm hr =>
   ⟨h.ok, h.sz, h.js, h.jc, h.img, hr.mono (Nat.le_succ _), by omega, by rw [har s' hm]; exact h.ar, by rw [hm.1]; exact aT⟩
  have dT : ∀ s', eA s (io (dQ v.jr.start v.jr.count v.jr.tail rl)) s' -> RJ s' j' (i9 j'.first (v.pend ++ [w])) [] T -> VI l J (T + 1) s' ⟨v.sizes, j', v.data, v.applied, v.pend ++ [w], j3 v.img w⟩ (j3 im w) [] := fun s' hm hr =>
   ⟨hok', h.sz, by rw [<- h.js]; exact e1, by rw [<- h.jc]; exact e2, by rw [<- h.img], hr.mono (Nat.le_succ _), by show j'.first + (j'.sizes.length : Int) <= _; rw [e3, e4]; omega, by rw [har s' hm]; show fM _ (v.pend ++ [w]) = _; rw [qZ, h.ar], by rw [hm.1]; exact aT⟩
  refine ⟨dQ v.jr.start v.jr.count v.jr.tail rl, _, hwv, e3, rfl, rM _ _ _ _, a1, fun s' hm => ?_, dT _ (fv _ s a1) a4⟩;rcases a3 s' hm with e | e
  · exact ⟨rl, .inl (hold s' rl hm e)⟩
  · exact ⟨[], .inr (dT s' hm e)⟩
theorem VI.fl {l : List Int} {J T : Nat} {s : List au} {v : cF} {im : bX} (h : VI l J T s v im []) (hT : T <= 1000) :
 (v.pend = [] /\ fF ⟨s, []⟩ v = (v, [], 0)) ∨
 ∃ w1 w2 v', fF ⟨s, []⟩ v = (v', w1 ++ cO :: (w2 ++ [cO]), 0) /\ v'.pend = [] /\ v'.jr.first = ax v.jr /\ w1.length <= J /\ w2.length <= 2 /\ en s.length w1 /\ en s.length w2 ∧
  (∀ s', eA s (io w1) s' -> VI l J (T + 1) s' v im []) /\ (∀ s', eA (a8 s w1) (io w2) s' -> VI l J (T + 1) s' v im [] \/ VI l J (T + 1) s' v' im []) /\ VI l J (T + 1) (a8 (a8 s w1) w2) v' im [] := by
 have X := h.x;have hpre := dE X.hz;have aT := h.len;have hJ := h.rj.jd.chk;have hnx := h.nx;have hnd : ax v.jr = v.jr.first + v.jr.sizes.length := rfl;have hc := dg X.l4;have e1 : fF ⟨s, []⟩ v = if v.pend.length = 0 then (v, [], 0)
  else if (eS ⟨s, []⟩ v.jr (ax v.jr - 1)).2.2 ≠ 0 then (fz, [], (eS ⟨s, []⟩ v.jr (ax v.jr - 1)).2.2)
  else (⟨v.sizes, (eS ⟨s, []⟩ v.jr (ax v.jr - 1)).1, v.data, ax v.jr - 1, [], v.img⟩, v.pend.map (gZ v) ++ cO :: (eS ⟨s, []⟩ v.jr (ax v.jr - 1)).2.1, 0) := by
  rw [fF, if_neg (by simp [hc]), if_neg (by simp [pF h.ok]), if_neg (by rw [X.dt, h.sz]; show ¬ (s.length : Int) < J + ay l; omega)]
 by_cases h0 : v.pend.length = 0
 · rw [if_pos h0] at e1
   exact .inl ⟨eq_nil_of_length_eq_zero h0, e1⟩
 right
 rw [if_neg h0] at e1;obtain ⟨k1, k2, k3⟩ := qx h.sz X.dt X.hE v.pend s (by omega) X.fs;have hP1 : ∀ q x, io (v.pend.map (gZ v)) q x -> J <= q /\ q < s.length := fun q x hq => by
  obtain ⟨g1, w, -, n, p, -, g4, g5, g6⟩ := k3 q x hq;have := mu X.hz g5;omega
 have hkeep : ∀ s', eA s (io (v.pend.map (gZ v))) s' -> RJ s' v.jr (i9 v.jr.first v.pend) [] T := fun s' hm => by
  have hs : ∀ q, q < J -> s'[q]? = s[q]? := fun q hq => mE hm hP1 (.inl hq);obtain ⟨st, n, hd, u, V⟩ := h.rj.val;obtain ⟨R, hR, hTC⟩ := h.rj.ring;have e0 : v.jr.start.toNat = 0 := by rw [h.js]; rfl
  refine ⟨EV h.rj.jd hm.1 (fun q q1 q2 => hs q ?_), h.rj.sz, h.rj.rc, h.rj.lk, R, ?_, hTC⟩
  · have := X.j2; rw [e0] at q2; omega
  · rw [<- hR, j8, j8, e0, h.jc]
    have : (v.jr.head.toNat) < ((J : Int) - 16).toNat := by
     have := V.ehd; have := V.ehn; have := V.ect; have := h.jc;omega
    refine nu (by have := X.j2; omega) this hm.1 fun q q1 q2 => hs q (by have := X.j2; omega)
 have hmix1 : ∀ s', eA s (io (v.pend.map (gZ v))) s' -> VI l J (T + 1) s' v im [] := fun s' hm =>
  ⟨h.ok, h.sz, h.js, h.jc, h.img, (hkeep s' hm).mono (Nat.le_succ _), by omega, by rw [GE h.sz X.dt X.hE (by omega) X.fs hm]; exact h.ar, by rw [hm.1]; exact aT⟩
 obtain ⟨s1, hs1⟩ : ∃ s1, s1 = a8 s (v.pend.map (gZ v)) := ⟨_, rfl⟩
 have hm1 := fv _ s k1;have hrj1 := hkeep _ hm1;rw [<- hs1] at k2 hm1 hrj1;have hs1l : s1.length = s.length := hm1.1;have hrl : (i9 v.jr.first v.pend).length = v.jr.sizes.length := by rw [uQ, X.pl]
 obtain ⟨ws, r1, r0, r2, r3, r4, r5⟩ := h.rj.rel (by omega) (n := v.jr.sizes.length) (by omega) (by rw [<- X.pl]; exact h0);obtain ⟨ws', r1', -, r2', r3', r4', r5'⟩ := hrj1.rel (by omega) (n := v.jr.sizes.length) (by omega) (by rw [<- X.pl]; exact h0);have hsame : eS ⟨s1, []⟩ v.jr (v.jr.first - 1 + (v.jr.sizes.length : Int)) = eS ⟨s, []⟩ v.jr (v.jr.first - 1 + (v.jr.sizes.length : Int)) := by
  have hc1 := dg (show s1.length <= 4096 by have := X.l4; omega);have hst : ∀ p, b9 ⟨s1, []⟩ v.jr.start p = b9 ⟨s, []⟩ v.jr.start p := fun p => by
   have hl16 : 0 + 16 <= s.length := by have := X.j2; omega
   obtain ⟨f1, f2⟩ := mO (o := 0) hl16 X.l4;obtain ⟨f3, f4⟩ := mO (o := 0) (s := s1) (by omega) (by have := X.l4; omega);have hw : ip 0 s1 = ip 0 s := by
    rw [ip, ip];refine ext_getElem? fun i => ?_;rw [getElem?_take, getElem?_take]
    split
    · rw [getElem?_drop, getElem?_drop, mE hm1 hP1 (.inl (by have := X.j2; omega))]
    · rfl
   rw [h.js];rw [b9, b9];show (if fB ⟨s1, []⟩ ((0 : Nat) : Int) ≠ 0 then _ else _) = (if fB ⟨s, []⟩ ((0 : Nat) : Int) ≠ 0 then _ else _);rw [show (0 : Int) = ((0 : Nat) : Int) from rfl, f1, f3, f2, f4, hw]
  simp only [eS, hst, hc, hc1]
 rw [r1, r1'] at hsame;have hww : ws' = ws := by
  simp only [Prod.mk.injEq] at hsame;exact List.append_cancel_right hsame.2.1
 subst hww;rw [show v.jr.first - 1 + (v.jr.sizes.length : Int) = ax v.jr - 1 by omega] at r1;rw [r1, if_neg (by simp)] at e1;dsimp only at e1;have hdr : (i9 v.jr.first v.pend).drop v.jr.sizes.length = [] := drop_of_length_le (by omega);rw [hdr] at r4' r5';have hP2 : ∀ q x, io ws' q x -> 0 <= q /\ q < 16 := fun q x hq => by
  have := r3' q x hq;rw [h.js] at this;have : q < (0 : Int).toNat + 16 := this.2;omega
 have harea : ∀ s', eA s1 (io ws') s' -> da s' J l = im := fun s' hm => by
  rw [<- h.ar, <- k2];exact n6 hm.1 X.hz (by rw [hm.1]; omega) (fun i i1 i2 => mE hm hP2 (.inr (by have := X.j2; omega)))
 have hA := h.ok.A.a;have hds : (gf v.jr v.jr.sizes.length).sizes = [] := List.drop_length;have hdf : (gf v.jr v.jr.sizes.length).first = ax v.jr := rfl;have hjok : ∀ s', RJ s' (gf v.jr v.jr.sizes.length) [] [] (T + 1) -> ud ⟨v.sizes, gf v.jr v.jr.sizes.length, v.data, ax v.jr - 1, [], v.img⟩ := fun s' hr => by
  refine s8 h.ok.sz ⟨hr.jd.chk, hA, ?_⟩ (fun w hw => (by cases hw)) h.ok.im rfl;show ¬ (ax v.jr - 1 ≠ ax v.jr - 1 \/ ([] : List Wr).length ≠ (gf v.jr v.jr.sizes.length).sizes.length);rw [hds]; simp
 have dT : ∀ s', eA s1 (io ws') s' -> RJ s' (gf v.jr v.jr.sizes.length) [] [] (T + 1) -> VI l J (T + 1) s' ⟨v.sizes, gf v.jr v.jr.sizes.length, v.data, ax v.jr - 1, [], v.img⟩ im [] := fun s' hm hr =>
  ⟨hjok s' hr, h.sz, h.js, h.jc, h.img, hr, by show (gf v.jr v.jr.sizes.length).first + (((gf v.jr v.jr.sizes.length).sizes.length : Nat) : Int) <= _; rw [hds, hdf]; simp; omega, harea s' hm, by rw [hm.1, hs1l]; exact aT⟩
 have hold : ∀ s', eA s1 (io ws') s' -> RJ s' v.jr (i9 v.jr.first v.pend) [] (T + 1) -> VI l J (T + 1) s' v im [] := fun s' hm hr =>
  ⟨h.ok, h.sz, h.js, h.jc, h.img, hr, by omega, by rw [harea s' hm]; have := EK h.ok; rw [h.img] at this; exact this, by rw [hm.1, hs1l]; exact aT⟩
 have hpl := X.pl;have hsl := X.sl;refine ⟨v.pend.map (gZ v), ws', _, e1, rfl, rfl, by rw [length_map]; omega, by omega, k1, by rw [hs1l] at r2'; exact r2', hmix1, fun s' hm => ?_, ?_⟩
 · rw [<- hs1] at hm
   rcases r4' s' hm with e | e
   · exact .inl (hold s' hm e)
   · exact .inr (dT s' hm e)
 · rw [<- hs1]
   exact dT _ (fv ws' s1 r2') r5'
theorem CA {n J : Nat} {l : List Int} (hE : aN l = 0) (h : J + dc l l.length <= n) (hJ : 16 <= J) : da (lQ n 0) J l = bo l := by
 have hz := ew.of hE;have hpre := dE hz;refine mI (by rw [dy hz (by rw [jg]; omega), cI hE]) fun v p => ?_;rw [fD]
 by_cases c : v < l.length /\ p < lE l v
 · have := mu hz c.1
   rw [if_pos c, vb (by omega) (by omega) (by omega), ri, bo, getElem?_map, getElem?_eq_getElem c.1];have e : l[v] = (lE l v : Int) := (jK hz c.1).2.1;show _ = (List.replicate (l[v]).toNat aP)[p]?;rw [getElem?_replicate, if_pos (by omega)]
 · rw [if_neg c, ri, bo, getElem?_map]
   by_cases hv : v < l.length
   · rw [getElem?_eq_getElem hv]
     have e : l[v] = (lE l v : Int) := (jK hz hv).2.1;show _ = (List.replicate (l[v]).toNat aP)[p]?;rw [getElem?_replicate, if_neg (by intro q; exact c ⟨hv, by omega⟩)]
   · rw [getElem?_eq_none (by omega)]; rfl
theorem VI.begin {l : List Int} {J : Nat} (hE : aN l = 0) (hJ : 20 <= J) (h : J + dc l l.length <= 4096) :
 gw l J = (⟨l, oN 0 J, J, 0, [], bo l⟩, (gw l J).2.1, 0) /\ du ⟨me (J + dc l l.length), []⟩ (gw l J).2.1 = (⟨lQ (J + dc l l.length) 0, []⟩, (gw l J).2.1.length, 0) ∧
 VI l J 1 (lQ (J + dc l l.length) 0) ⟨l, oN 0 J, J, 0, [], bo l⟩ (bo l) [] := by
 have hz := ew.of hE;have hpre := dE hz;have hv : bf ((0 : Nat) : Int) J = true := (aM _ _).2 ⟨by omega, by omega, by omega, by omega⟩;have hf := zE hv;obtain ⟨x1, x2, x3⟩ := CQ (n := J + dc l l.length) hv (by omega);rw [show ((0 : Nat) : Int) = 0 from rfl] at hf x1 x2 x3;have hsv : cd l J = ((J : Int) + ay l, 0) := by rw [cd, if_neg (by simp [hE]), if_neg (by omega)]
 have hfm : gw l J = (⟨l, (b8 0 J).1, J, 0, [], bo l⟩, dG J (List.replicate (ay l).toNat aP) :: cO :: (b8 0 J).2.1, 0) := by rw [gw, if_neg (by rw [hsv]; simp)]
 have h1 : gw l J = (⟨l, oN 0 J, J, 0, [], bo l⟩, (gw l J).2.1, 0) := by rw [hfm, hf]
 have hrj := KE (n := J + dc l l.length) hv (by omega) h;rw [show ((0 : Nat) : Int) = 0 from rfl] at hrj;refine ⟨h1, ?_, ?_⟩
 · have ho : ∀ o ∈ (gw l J).2.1, yh (me (J + dc l l.length)).length o := fun o ho => by
    rw [gT];rw [hfm] at ho;rcases mem_cons.1 ho with rfl | ho
    · exact .inr ⟨J, _, rfl, by rw [length_replicate]; omega⟩
    · rcases mem_cons.1 ho with rfl | ho
      · exact .inl rfl
      · exact x2 o ho
   rw [kY (by rw [gT]; exact h) ho (.inr ?_)]
   · congr 2
     rw [hfm];show a8 (me _) (dG J (List.replicate (ay l).toNat aP) :: cO :: (b8 0 J).2.1) = _;rw [gK, gL, tp (by omega), x1]
   · rw [hfm]
     show (dG J _ :: cO :: (b8 0 J).2.1).getLast? = _;rw [List.getLast?_cons, List.getLast?_cons, x3]; rfl
 · have hok : ud ⟨l, oN 0 J, J, 0, [], bo l⟩ := by
    refine s8 hE ⟨hrj.jd.chk, ?_, ?_⟩ (fun w hw => (by cases hw)) (cI hE) rfl
    · show ¬ ((0 : Int) ≠ 0 \/ (J : Int) ≠ J \/ 4096 - ay l < (J : Int)); omega
    · show ¬ ((0 : Int) ≠ 1 - 1 \/ (0 : Nat) ≠ 0); omega
   exact ⟨hok, rfl, rfl, rfl, rfl, hrj, by show (1 : Int) + ((0 : Nat) : Int) <= 1; omega, by show fM (da _ J l) [] = _; rw [zV, CA hE (le_refl _) (by omega)], jg _ _⟩
section
open Go.Proofs
end
structure rg (l : List Int) (J T : Nat) (s : List au) (v : cF) (im : bX) (ops : List bO) (v' : cF) (im' : bX) : Prop where
 len : ops.length <= J + 4
 tot : tot ops <= (J + 4) * s.length
 run : ∃ s1, du ⟨s, []⟩ ops = (⟨s1, []⟩, ops.length, 0) /\ VI l J T s1 v' im' []
 itr : ∀ a : Nat, a <= ops.length -> ∀ d' e, gz ⟨s, []⟩ ops a d' e -> e = 0 /\ ∃ s' k, d' = ⟨s', []⟩ /\ ((a < ops.length /\ VI l J T s' v im k) \/ VI l J T s' v' im' [])
theorem rg.nil {l : List Int} {J T : Nat} {s : List au} {v : cF} {im : bX} (h : VI l J T s v im []) : rg l J T s v im [] v im := by
 have X := h.x;refine ⟨zero_le _, by simp [Go.Proofs.YtfflhepmkhlppaaGreatDoor.tot], ⟨s, yR X.l4, h⟩, fun a ha d' e hI => ?_⟩;obtain rfl : a = 0 := by simpa using ha
 obtain ⟨e0, e1⟩ := zt X.l4 hI;exact ⟨e0, s, [], e1, .inr h⟩
theorem JB (a b : List bO) : tot (a ++ b) = tot a + tot b := by simp [tot]
theorem rg.wr {l : List Int} {J T : Nat} {s : List au} {v v' : cF} {im im' : bX} {ws : List bO} (hs : s.length <= 4096) (hl : ws.length <= 2) (hw : en s.length ws)
 (hm : ∀ s', eA s (io ws) s' -> ∃ k, VI l J T s' v im k \/ VI l J T s' v' im' []) (hf : VI l J T (a8 s ws) v' im' []) : rg l J T s v im (ws ++ [cO]) v' im' := by
 refine ⟨by simp; omega, ?_, ⟨_, by rw [hw.run hs, length_append]; rfl, hf⟩, fun a ha d' e h => ?_⟩
 · exact Nat.le_trans hw.tot (Nat.mul_le_mul_right _ (by omega))
 · rw [length_append, length_singleton] at ha ⊢
   obtain ⟨e0, s', e1, e2, e3⟩ := F5 hs hw ha h;refine ⟨e0, s', ?_⟩
   by_cases c : a = ws.length + 1
   · exact ⟨[], e1, .inr (by rw [e3 c]; exact hf)⟩
   · obtain ⟨k, h | h⟩ := hm s' e2
     · exact ⟨k, e1, .inl ⟨by omega, h⟩⟩
     · exact ⟨k, e1, .inr h⟩
theorem rg.fl {l : List Int} {J T : Nat} {s : List au} {v v' : cF} {im : bX} {w1 w2 : List bO} (hs : s.length <= 4096) (hl1 : w1.length <= J) (hl2 : w2.length <= 2) (hw1 : en s.length w1) (hw2 : en s.length w2)
 (hm1 : ∀ s', eA s (io w1) s' -> VI l J T s' v im []) (hm2 : ∀ s', eA (a8 s w1) (io w2) s' -> VI l J T s' v im [] \/ VI l J T s' v' im []) (hf : VI l J T (a8 (a8 s w1) w2) v' im []) :
 rg l J T s v im (w1 ++ cO :: (w2 ++ [cO])) v' im := by
 have hs1 : (a8 s w1).length = s.length := nU _ _;have aT : (w1 ++ cO :: (w2 ++ [cO])).length = w1.length + 1 + (w2.length + 1) := by simp; omega
 have hw2' : en (a8 s w1).length w2 := by rw [hs1]; exact hw2
 refine ⟨by rw [aT]; omega, ?_, ⟨_, ?_, hf⟩, fun a ha d' e h => ?_⟩
 · have t1 := wP hw1.dat
   have t2 := hw2.tot;rw [JB];have t3 : Go.Proofs.YtfflhepmkhlppaaGreatDoor.tot (cO :: (w2 ++ [cO])) = Go.Proofs.YtfflhepmkhlppaaGreatDoor.tot (w2 ++ [cO]) := by simp [Go.Proofs.YtfflhepmkhlppaaGreatDoor.tot, cO]
   rw [t3];have m1 : w1.length * s.length <= J * s.length := Nat.mul_le_mul_right _ hl1;have m2 : (w2.length + 1) * s.length <= 4 * s.length := Nat.mul_le_mul_right _ (by omega);rw [Nat.add_mul]; omega
 · have ho : ∀ o ∈ w1 ++ cO :: (w2 ++ [cO]), yh s.length o := fun o ho => by
    rcases mem_append.1 ho with ho | ho
    · exact hw1.ok o ho
    · rcases mem_cons.1 ho with rfl | ho
      · exact .inl rfl
      · rcases mem_append.1 ho with ho | ho
        · exact hw2.ok o ho
        · rw [mem_singleton] at ho; exact .inl ho
   rw [kY hs ho (.inr (by rw [List.getLast?_append, List.getLast?_cons, List.getLast?_append]; simp)), jn, gL, jn, gL]; rfl
 · rw [aT] at ha
   by_cases c : a <= w1.length
   · obtain ⟨e0, s', e1, e2⟩ := KV hs hw1 c h
     exact ⟨e0, s', [], e1, .inl ⟨by rw [aT]; omega, hm1 s' e2⟩⟩
   · obtain ⟨b, rfl⟩ : ∃ b, a = w1.length + 1 + b := ⟨a - (w1.length + 1), by omega⟩
     have h2 := KU hs hw1 h (by simp; omega);obtain ⟨e0, s', e1, e2, e3⟩ := F5 (by omega) hw2' (by omega) h2;refine ⟨e0, s', [], e1, ?_⟩
     by_cases c2 : b = w2.length + 1
     · exact .inr (by rw [e3 c2]; exact hf)
     · rcases hm2 s' e2 with h | h
       · exact .inl ⟨by rw [aT]; omega, h⟩
       · exact .inr h
theorem VI.flN {l : List Int} {J T : Nat} {s : List au} {v : cF} {im : bX} (h : VI l J T s v im []) (hT : T <= 1000) : ∃ v' ops, fF ⟨s, []⟩ v = (v', ops, 0) /\ v'.pend = [] /\ rg l J (T + 1) s v im ops v' im /\ ax v'.jr = ax v.jr := by
 have X := h.x;rcases h.fl hT with ⟨hp, e⟩ | ⟨w1, w2, v', e, hp, hfst, a1, a2, a3, a4, a5, a6, a7⟩
 · exact ⟨v, [], e, hp, .nil (h.mono (Nat.le_succ _)), rfl⟩
 · refine ⟨v', _, e, hp, .fl X.l4 a1 a2 a3 a4 a5 a6 a7, ?_⟩
   have hpl := a7.x.pl;rw [hp] at hpl;show v'.jr.first + (v'.jr.sizes.length : Int) = _;rw [hfst, <- hpl]; simp
theorem VI.S {l : List Int} {J T : Nat} {s : List au} {v : cF} {im : bX} {k : List au} (h : VI l J T s v im k) : StS v := by
 have X := h.x;have hJ := h.len;obtain ⟨i1, i2⟩ := nl (l := v.img) (by rw [h.ok.im]; exact h.ok.sz);have hl4 := X.l4;have hpl := X.pl;have hsl := X.sl;have hzl := (dj X.hE).2.1;refine ⟨by rw [h.sz]; omega, by omega, by omega, fun w hw => ?_, by omega, fun u hu => by have := (i2 u hu).2; omega⟩;obtain ⟨n, p, -, -, hn, hc⟩ := qG X.hE (X.fs w hw);have := mu X.hz hn;omega
section
open Go.Proofs Go.Shelf Go.Sort
def JI : Go.Shelf.Ren := ⟨fun | 5 => 165 | 8 => 184 | 7 => 183 | 19 => 202 | 20 => 203 | 10 => 193 | 11 => 194 | 12 => 195 | 13 => 196 | 14 => 197 | 15 => 198 | 16 => 199 | 17 => 200 | 18 => 201 | 30 => 208 | 31 => 209 | 32 => 210 | 33 => 211 | 34 => 212 | 35 => 213 | 40 => 216 | n => n, fun | 23 => 22 | 25 => 3 | 3 => 3 | 32 => 274 | 22 => 22 | 0 => 0 | 44 => 249 | 46 => 325 | 4 => 4 | 36 => 317 | 35 => 316 | 41 => 321 | 5 => 5 | 9 => 9 | 53 => 332 | 57 => 336 | 63 => 338 | 64 => 339 | n => n, fun | n => n⟩
theorem yI : SlLaysM.n5 Tryz.prog JI := {
 mixed := by kernel_rfl
 f5 := ⟨Tryz.f165.name, by decide, Tryz.func165.trans (congrArg some (by kernel_rfl))⟩
 f7 := ⟨Tryz.f183.name, by decide, Tryz.func183.trans (congrArg some (by kernel_rfl))⟩
 f8 := Tryz.func184.trans (congrArg some (by kernel_rfl))
 f10 := ⟨Tryz.f193.name, by decide, Tryz.func193.trans (congrArg some (by kernel_rfl))⟩
 f11 := ⟨Tryz.f194.name, by decide, Tryz.func194.trans (congrArg some (by kernel_rfl))⟩
 f12 := ⟨Tryz.f195.name, by decide, Tryz.func195.trans (congrArg some (by kernel_rfl))⟩
 f13 := ⟨Tryz.f196.name, by decide, Tryz.func196.trans (congrArg some (by kernel_rfl))⟩
 f14 := ⟨Tryz.f197.name, by decide, Tryz.func197.trans (congrArg some (by kernel_rfl))⟩
 f15 := ⟨Tryz.f198.name, by decide, Tryz.func198.trans (congrArg some (by kernel_rfl))⟩
 f16 := ⟨Tryz.f199.name, by decide, Tryz.func199.trans (congrArg some (by kernel_rfl))⟩
 f17 := ⟨Tryz.f200.name, by decide, Tryz.func200.trans (congrArg some (by kernel_rfl))⟩
 f18 := ⟨Tryz.f201.name, by decide, Tryz.func201.trans (congrArg some (by kernel_rfl))⟩
 f19 := Tryz.func202.trans (congrArg some (by kernel_rfl))
 f20 := Tryz.func203.trans (congrArg some (by kernel_rfl))
 f30 := ⟨Tryz.f208.name, by decide, Tryz.func208.trans (congrArg some (by kernel_rfl))⟩
 f31 := Tryz.func209.trans (congrArg some (by kernel_rfl))
 f32 := Tryz.func210.trans (congrArg some (by kernel_rfl))
 f33 := ⟨Tryz.f211.name, by decide, Tryz.func211.trans (congrArg some (by kernel_rfl))⟩
 f34 := ⟨Tryz.f212.name, by decide, Tryz.func212.trans (congrArg some (by kernel_rfl))⟩
 f35 := ⟨Tryz.f213.name, by decide, Tryz.func213.trans (congrArg some (by kernel_rfl))⟩
 f40 := ⟨Tryz.f216.name, by decide, Tryz.func216.trans (congrArg some (by kernel_rfl))⟩
 t0 := Tryz.underlying0
 a0 := Tryz.isAgg0
 z0 := Tryz.sizeOf0
 v0 := Tryz.zeroValue0
 t3 := Tryz.underlying3
 a3 := Tryz.isAgg3
 z3 := Tryz.sizeOf3
 v3 := Tryz.zeroValue3
 t4 := Tryz.underlying4
 a4 := Tryz.isAgg4
 z4 := Tryz.sizeOf4
 v4 := Tryz.zeroValue4
 t5 := Tryz.underlying5
 a5 := Tryz.isAgg5
 z5 := Tryz.sizeOf5
 v5 := Tryz.zeroValue5
 t9 := Tryz.underlying9
 a9 := Tryz.isAgg9
 z9 := Tryz.sizeOf9
 v9 := Tryz.zeroValue9
 t22 := Tryz.underlying22
 a22 := Tryz.isAgg22
 z22 := Tryz.sizeOf22
 v22 := Tryz.zeroValue22
 t23 := Tryz.underlying22
 a23 := Tryz.isAgg22
 z23 := Tryz.sizeOf22
 v23 := Tryz.zeroValue22
 t25 := Tryz.underlying3
 a25 := Tryz.isAgg3
 z25 := Tryz.sizeOf3
 v25 := Tryz.zeroValue3
 t32 := Tryz.underlying274
 a32 := Tryz.isAgg274
 z32 := Tryz.sizeOf274
 v32 := Tryz.zeroValue274
 t35 := Tryz.underlying316
 a35 := Tryz.isAgg316
 z35 := Tryz.sizeOf316
 v35 := Tryz.zeroValue316
 t36 := Tryz.underlying317
 a36 := Tryz.isAgg317
 z36 := Tryz.sizeOf317
 v36 := Tryz.zeroValue317
 t41 := Tryz.underlying321
 a41 := Tryz.isAgg321
 z41 := Tryz.sizeOf321
 v41 := Tryz.zeroValue321
 t44 := Tryz.underlying249
 a44 := Tryz.isAgg249
 z44 := Tryz.sizeOf249
 v44 := Tryz.zeroValue249
 t46 := Tryz.underlying325
 a46 := Tryz.isAgg325
 z46 := Tryz.sizeOf325
 v46 := Tryz.zeroValue325
 t53 := Tryz.underlying332
 a53 := Tryz.isAgg332
 z53 := Tryz.sizeOf332
 v53 := Tryz.zeroValue332
 t57 := Tryz.underlying336
 a57 := Tryz.isAgg336
 z57 := Tryz.sizeOf336
 v57 := Tryz.zeroValue336
 t63 := Tryz.underlying338
 a63 := Tryz.isAgg338
 z63 := Tryz.sizeOf338
 v63 := Tryz.zeroValue338
 t64 := Tryz.underlying339
 a64 := Tryz.isAgg339
 z64 := Tryz.sizeOf339
 v64 := Tryz.zeroValue339 }
theorem bE.more {m : Gh} {w w' : World} {H : List (Option (List CV))} {V : List Nat} (hi : bE m w H V) (h1 : w'.os = w.os) (h2 : w'.tape = w.tape) (h3 : w'.output = w.output) (h4 : w.heap.size <= w'.heap.size) (h5 : ∀ j, j < w.heap.size -> w'.heap[j]? = w.heap[j]?) :
 bE m w' H V /\ bh m w V m w' V := by
 have hlt : ∀ {k : Nat} {x : Obj}, w.heap[k]? = some x -> w'.heap[k]? = some x := fun h => by
  rw [h5 _ (Array.getElem?_eq_some_iff.1 h).1]; exact h
 have hx : bh m w V m w' V := by
  refine ⟨h1, h2, h3, h4, fun k c e fr h => ⟨c, hlt h, rfl⟩, fun _ => le_refl _, fun k o ho => ?_, fun k ds h => hlt h, fun k hk _ _ => h5 k hk, fun _ _ h => h, fun b _ h => .inl ⟨b, h⟩, fun _ _ h => .inl h, fun _ v h => ⟨v, h, le_refl _, fun _ => ⟨rfl, fun _ _ => rfl⟩⟩⟩;rcases Nat.lt_or_ge k w.heap.size with h | h
  · exact World.cell?_of_block (w := w) (a := ⟨k, o, none⟩) (h5 k h)
  · rw [hi.lim_new h] at ho; omega
 refine ⟨⟨hi.boxlen, hi.tiplen, fun k hk => ?_, fun t k h => ?_, fun b k h => Nat.lt_of_lt_of_le (hi.boxes b k h) h4, hi.uniq, fun b cs h => (hi.live b cs h).mono hx fun k hk => ⟨h5 k (hi.boxes b k hk), rfl⟩⟩, hx⟩
 · obtain ⟨c, e, fr, q1, q2⟩ := hi.limv k hk
   exact ⟨c, e, fr, hlt q1, q2⟩
 · obtain ⟨⟨c, e, q1⟩, q2, q3⟩ := hi.tips t k h
   exact ⟨⟨c, e, hlt q1⟩, q2, q3⟩
theorem uM (m : Gh) (w : World) (V : List Nat) : ∀ ys : List Int, av m w V (ys.map ci) (ys.map (Value.int .i64))
 | [] => by rw [map_nil, av]; rfl
 | y :: ys => by rw [map_cons, av]; exact ⟨_, _, rfl, by rw [ag], uM m w V ys⟩
theorem oe {m : Gh} {w : World} {H : List (Option (List CV))} {V : List Nat} {b k : Nat} {xs ys : List Int} {c : Array Value} {e : TypeId} (hi : bE m w H V) (hb : H[b]? = some (some (xs.map ci))) (hk : m.box[b]? = some k)
 (hc : w.heap[k]? = some (.cells c e (0, 0))) (hl : ys.length = xs.length) (n : Nat) (os : Array Obj) :
 let w' := grow (putRow (Value.int .i64) (Sort.ahead w n) k 0 ys.toArray) os
 bE m w' (H.set b (some (ys.map ci))) V /\ bh m w V m w' V := by
 intro w';have hkl := (Array.getElem?_eq_some_iff.1 hc).1;have hcl : xs.length <= c.size := by
  obtain ⟨c', e', g1, g2, _⟩ := hi.alive hb hk ⟨c, e, _, hc⟩;rw [hc] at g1; cases g1
  simpa using g2
 obtain ⟨s1, s2⟩ := jF (o := 0) (us := ys.map (Value.int .i64)) (ds := ys.map ci) hi hb hk hc (uM _ _ _ _) (fun u hu => by obtain ⟨z, _, rfl⟩ := mem_map.1 hu; rfl) (by simp; omega);have dT := setRow_heap w k c ((c.toList.take 0 ++ ys.map (Value.int .i64) ++ c.toList.drop (0 + (ys.map (Value.int .i64)).length)).toArray) e (0, 0) hc;have dB := fun j hj => setRow_other w k j ((c.toList.take 0 ++ ys.map (Value.int .i64) ++ c.toList.drop (0 + (ys.map (Value.int .i64)).length)).toArray) hj;have he : H.set b (some ((xs.map ci).take 0 ++ ys.map ci ++ (xs.map ci).drop (0 + (ys.map ci).length))) = H.set b (some (ys.map ci)) := by
  congr 2
  rw [drop_of_length_le (by simp; omega)]; simp
 rw [he] at s1;obtain ⟨t1, t2⟩ := s1.more (w' := w') rfl rfl rfl (by simp [w', grow, World.setRow, putRow, mapBlock, Sort.ahead]) (fun j hj => by
  have hj' : j < w.heap.size := by simpa [World.setRow] using hj
  have hg : w'.heap[j]? = (putRow (Value.int .i64) (Sort.ahead w n) k 0 ys.toArray).heap[j]? := by
   show (_ ++ os)[j]? = _;rw [Array.getElem?_append_left (by simpa [Sort.ahead] using hj')]
  rw [hg];show ((w.heap.modify k _)[j]?) = _;rw [Array.getElem?_modify]
  by_cases hjk : k = j
  · subst hjk
    rw [if_pos rfl, hc, dT];simp only [Option.map_some, onCells]
    congr 2
    apply Array.ext
    · simp [putCells]; omega
    · intro i h1 h2
      simp only [putCells, Array.getElem_mapIdx, zero_le, true_and, Nat.zero_add, size_toArray, List.getElem_toArray, take_zero, nil_append, length_map, Nat.sub_zero]
      by_cases hi2 : i < ys.length
      · rw [if_pos hi2, List.getElem_append_left (by simpa using hi2), getElem_map, getElem!_pos _ i (by simpa using hi2)]
        simp
      · rw [if_neg hi2, List.getElem_append_right (by simp; omega), getElem_drop]
        simp only [length_map, Array.getElem_toList]
        congr 1; omega
  · rw [if_neg hjk, dB j (Ne.symm hjk)])
 exact ⟨t1, s2.trans t2⟩
theorem EM : ue where
 box H V b xs hb hx := by
  refine ⟨⟨Tryz.f165, Tryz.func165, rfl, by kernel_rfl⟩, fun m w us hi hu => ?_⟩;rw [av] at hu;obtain ⟨u, r, rfl, h1, h2⟩ := hu;rw [av] at h2; subst h2;rw [ag] at h1;obtain ⟨k, cap, c, e, rfl, g1, g2, hk, hc, g3⟩ := h1;obtain ⟨c', e', q1, q2, q3, q4⟩ := hi.alive hb hk ⟨c, e, _, hc⟩;rw [hc] at q1; cases q1;have hH : Holds (Value.int .i64) w k 0 xs.toArray := by
   intro j hj;have hj' : j < xs.length := by simpa using hj
   obtain ⟨v, a1, a2, _⟩ := cH q4 j (ci xs[j]) (by rw [getElem?_map, getElem?_eq_getElem hj']; rfl);rw [ag] at a2; subst a2;refine ⟨by rw [a1, getElem!_pos _ j (by simpa using hj')]; simp, ?_⟩;simp [World.frozen?, hc]
  refine (AnyM.slices_Sort_int yI k 0 cap xs w hH (Array.getElem?_eq_some_iff.1 hc).1 (by omega)).mono ?_;rintro _ _ ⟨rfl, n, os, rfl⟩;obtain ⟨s1, s2⟩ := oe (ys := xs.mergeSort fun x y => decide (x <= y)) hi hb hk hc (by simp) n os;exact ⟨_, m, .any, _, _, rfl, ⟨_, fun y hy => by simpa using hy, by simp, rfl, rfl⟩, s1, by rw [ag]; trivial, s2⟩
 none H V := by
  refine ⟨⟨Tryz.f165, Tryz.func165, rfl, by kernel_rfl⟩, fun m w us hi hu => ?_⟩;rw [av] at hu;obtain ⟨u, r, rfl, h1, h2⟩ := hu;rw [av] at h2; subst h2;rw [ag] at h1;obtain ⟨base, cap, rfl, g1, g2, g3, g4⟩ := h1;refine (AnyM.slices_Sort_int_none yI base cap w).mono ?_;rintro _ _ ⟨rfl, rfl⟩;exact ⟨_, m, .any, _, _, rfl, ⟨rfl, rfl⟩, hi, by rw [ag]; trivial, bh.refl _ _ _⟩
end
@[go_sem] theorem abG (s : cF) (h : 10 < (bK s).length) : (bK s)[10] = F9 s.img := rfl
def DR (b : Bool) : List CV := [.v (.bool b)]
@[go_sem, simp] theorem adT (b : Bool) : (DR b).length = 1 := rfl
@[go_sem, simp] theorem ahk (b : Bool) (h : 0 < (DR b).length) : (DR b)[0] = .v (.bool b) := rfl
abbrev eL (b : Bool) : CV := .v (.bool b)
theorem zF : ∀ l : List Bool, (l.map DR).flatten = l.map eL
 | [] => rfl
 | b :: l => by rw [map_cons, flatten_cons, zF l]; rfl
theorem KN (l : List Bool) : (l.map eL).map (fun c => [c]) = l.map DR := by rw [map_map]; rfl
@[go_sem] theorem J9 (i j : Nat) (l : List Bool) : okL i j (l.map eL) = True := eq_true (co.2 fun c hc => by
 obtain ⟨b, -, rfl⟩ := mem_map.1 hc;rw [aK]; trivial)
def CO (l : List Bool) : Bool := l.contains false
def CN (l : List Bool) (i : Nat) : Bool := (l.take i).contains false
theorem CM {l : List Bool} {i : Nat} (h : i < l.length) (h1 : CN l i = false) (h2 : l[i] = true) : CN l (i + 1) = false := by
 unfold CN at *;rw [take_succ_eq_append_getElem h, h2, Bool.eq_false_iff];rw [Bool.eq_false_iff] at h1
 simpa using h1
theorem LN {l : List Bool} {i : Nat} (h : i < l.length) (h2 : l[i] = false) : CO l = true := contains_iff_mem.2 (h2 ▸ getElem_mem h)
theorem GN {l : List Bool} {i : Nat} (h : l.length <= i) (h1 : CN l i = false) : CO l = false := by
 unfold CN at h1; rwa [take_of_length_le h] at h1
theorem xw (H : Hp) (V : List Nat) (tk : Tk) (l : List Bool) (hl : l.length <= 1000000000) : CC Tryz.prog 141 [.sl tk 1 (l.map DR), .v (.bool false)] H V (Ix (CO l) H V) := by
 refine aj Tryz.func141 rfl fun hok oH => ?_
 clear hok
 refine aa (ab ?_)
 simp -implicitDefEqProofs [go_sem, ai]
 refine am (α := Unit) (fun _ => ([], H, V)) (fun _ => CO l = false) ?_ ?_
 · refine aa (ab ?_)
   simp -implicitDefEqProofs [go_sem]
   refine af ?_
   refine al (α := Nat) (fun i => ([(0, .sl tk 1 (l.map DR)), (1, .v (.bool false)), (7, ci l.length), (8, ci i)], H, V)) (fun i => i <= l.length /\ CN l i = false) (fun i => l.length - i) 0 ⟨zero_le _, rfl⟩
    (ae (by simp [go_sem]) rfl rfl) ?_
   rintro i ⟨hi, hp⟩
   dsimp only
   refine aa (ab ?_)
   simp -implicitDefEqProofs [go_sem]
   refine aa (ab ?_)
   simp -implicitDefEqProofs [go_sem]
   refine ⟨fun h => ?_, fun h => ⟨GN h hp, ae (by simp [go_sem]) rfl rfl⟩⟩
   · refine aa (af (aa (ab ?_)))
     simp -implicitDefEqProofs [go_sem, h]
     refine aa (ab ?_)
     cases hq : l[i]
     · simp -implicitDefEqProofs [go_sem, h, hq]
       refine ab ?_
       simp -implicitDefEqProofs [go_sem]
       exact ao.ix (by rw [decide_eq_true (by omega)]; exact (LN h hq).symm) oH (by simp) (by simp)
     · simp -implicitDefEqProofs [go_sem, h, hq]
       refine ab ?_
       simp -implicitDefEqProofs [go_sem]
       refine ab ?_
       simp -implicitDefEqProofs [go_sem]
       refine ⟨i + 1, ⟨by omega, CM h hp hq⟩, by omega, ae ?_ rfl rfl⟩
       simp [go_sem, gU (show i < 9223372036854775807 by omega)]
 · rintro _ hp
   dsimp only
   refine aa (ab ?_)
   simp -implicitDefEqProofs [go_sem]
   refine ab ?_
   simp -implicitDefEqProofs [go_sem]
   exact ao.ix (by rw [hp]; rfl) oH (by simp) (by simp)
theorem rH (H : Hp) (V : List Nat) (tk : Tk) (l : List Bool) (hl : l.length <= 1000000000) : CC Tryz.prog 102 [.sl tk 1 (l.map DR), .v (.bool false)] H V (Pu (.v (.bool (CO l))) H V) := by
 refine aj Tryz.func102 rfl fun hok oH => ?_;clear hok;refine aa (ab ?_);simp [go_sem, ai];refine aa (ab ?_);simp [go_sem];refine CC.mono (xw _ _ _ l hl) ?_;rintro _ _ _ ⟨k, rfl, hk, rfl, rfl⟩;simp [go_sem];refine ab ?_;simp [go_sem];exact aA hk oH (by simp) (by simp)
def bT (n : Nat) : List Int := (List.range n).map fun i : Nat => (i : Int)
theorem fp (n : Nat) : (bT n).length = n := by rw [bT, length_map, length_range]
theorem sy (n : Nat) : bT (n + 1) = bT n ++ [(n : Int)] := by rw [bT, range_succ, map_append]; rfl
theorem M4 (H : Hp) (V : List Nat) (tk : Tk) (l : List Int) (hl : l.length <= 1) : CC Tryz.prog 150 [.sl tk 1 (l.map ic)] H V (Pu (cb true) H V) := by
 refine aj Tryz.func150 rfl fun hok oH => ?_;clear hok;refine aa (ab ?_);simp [go_sem, ai];refine am (α := Unit) (fun _ => ([], H, V)) (fun _ => True) ?_ ?_
 · refine aa (ab ?_)
   simp [go_sem];refine af ?_;refine al (α := Unit) (fun _ => ([(0, .sl tk 1 (l.map ic)), (3, ci 1)], H, V)) (fun _ => True) (fun _ => 0) () trivial (ae (by simp [go_sem]) rfl rfl) ?_;rintro - -;dsimp only;refine aa (aa (ab ?_));have h' : ¬ 1 < (l.length : Int) := by omega
   have h2 : ¬ 1 < l.length := by omega
   simp [go_sem, h', h2];refine ab ?_;simp [go_sem];exact ae (by simp [go_sem]) rfl rfl
 rintro _ -;dsimp only;refine aa (ab ?_);simp [go_sem];refine ab ?_;simp [go_sem];exact aA rfl oH (by simp) (by simp)
theorem WE : ck Tryz.prog 3 = some [.int .i64 0] := by kernel_rfl
theorem GL (H : Hp) (V : List Nat) (n : Nat) (hn : n <= 1000000000) : CC Tryz.prog 171 [.v (.slice none 0 0), ci n] H V (Fr 1 [] H V) := by
 refine aj Tryz.func171 rfl fun hok oH => ?_;clear hok;refine aa (ab ?_);simp [go_sem, ai];refine aa (ab ?_);simp [go_sem, show ¬ (n : Int) < 0 by omega];refine aa (aa ?_);refine ac.opx (pre := [_, _]) (post := [_, _, _, _, _]) rfl (by intro c e; cases e) ?_;simp [go_sem];refine ⟨_, _, _, tX (by rfl) (by rw [jG]; rfl), ?_⟩;have w0 : IntKind.i64.wrap 0 = 0 := rfl;have wn : IntKind.i64.wrap (n : Int) = n := IntWalk.i64_in _ ⟨by omega, by omega⟩;simp [go_sem, w0, wn];refine aa (ab ?_);rcases Nat.eq_zero_or_pos n with rfl | h0
 · simp [go_sem, w0]
   refine ab ?_;simp [go_sem];refine aa (ab ?_);simp [go_sem];refine ab ?_;simp [go_sem];exact ao.frtok (by decide) (.inl ⟨rfl, rfl⟩) (by simp [go_sem]) oH (by simp) (by simp)
 · have h0' : (0 : Int) < n := by omega
   simp [go_sem, h0];refine ac.condT rfl ?_;refine ac.mw (MW.app (mid := [_, _, _, _, _]) (mid2 := [_, _, _, _, _]) ?_);refine MW.app (mid := [_, _]) (mid2 := [_, _, _]) (MW.crun ?_);simp [go_sem];refine MW.app (mid := [_]) (mid2 := [_, _]) (MW.opx rfl (by intro c e; cases e) (by simp [kv]) (tX (by rfl) (by rw [jG]; rfl)) (MW.crun ?_));simp [go_sem];refine MW.app (mid := [_, _, _, _]) (mid2 := [_]) (MW.room (N := n) (k0 := 0) jG (by kernel_rfl) WE rfl rfl rfl (by omega) (by omega) (by decide) (by decide) (MW.crun ?_));simp [go_sem];refine aa (ab ?_);simp [go_sem];refine ab ?_;simp [go_sem];exact ao.fresh rfl (by simp [go_sem]) oH (by simp)
def NO (l : List Int) : List CV := [.sl .sh 1 (l.map ic)]
@[go_sem, simp] theorem acX (l : List Int) : (NO l).length = 1 := rfl
@[go_sem, simp] theorem acY (l : List Int) (h : 0 < (NO l).length) : (NO l)[0] = .sl .sh 1 (l.map ic) := rfl
def wj (l : List (List Int)) : List Int := l.flatten
def wF (l : List (List Int)) (i : Nat) : List Int := (l.take i).flatten
theorem zA {l : List (List Int)} {i : Nat} (h : i < l.length) : (wF l (i + 1)).length = (wF l i).length + l[i].length := by
 unfold wF; rw [mN h, length_append]
theorem GS {l : List (List Int)} {i : Nat} (h : i < l.length) : wF l i ++ l[i] = wF l (i + 1) := by
 unfold wF; rw [mN h]
theorem GT (l : List (List Int)) (i : Nat) : (wF l i).length <= (wj l).length := GU l i
theorem zB {l : List (List Int)} {i : Nat} (h : l.length <= i) : wF l i = wj l := by unfold wF; rw [take_of_length_le h]; rfl
theorem oB (H : Hp) (V : List Nat) (tk : Tk) (l : List (List Int)) (hl : l.length <= 1000000000) (hf : (wj l).length <= 1000000000) : CC Tryz.prog 152 [.sl tk 1 (l.map NO)] H V (Fr 1 ((wj l).map ic) H V) := by
 refine aj Tryz.func152 rfl fun hok oH => ?_
 clear hok
 refine aa (ab ?_)
 simp -implicitDefEqProofs [go_sem, ai]
 refine aa (ab ?_)
 simp -implicitDefEqProofs [go_sem]
 refine am (α := Unit) (fun _ => ([(0, .sl tk 1 (l.map NO)), (3, ci (wj l).length)], H, V)) (fun _ => True) ?_ ?_
 · refine aa (ab ?_)
   simp -implicitDefEqProofs [go_sem]
   refine af ?_
   refine al (α := Nat) (fun i => ([(0, .sl tk 1 (l.map NO)), (9, .sl tk 1 (l.map NO)), (10, ci l.length), (11, ci i), (3, ci (wF l i).length)], H, V)) (fun i => i <= l.length) (fun i => l.length - i) 0 (zero_le _) (ae (by simp [go_sem, wF]) rfl rfl) ?_
   intro i hi
   dsimp only
   refine aa (ab ?_)
   simp -implicitDefEqProofs [go_sem]
   refine aa (ab ?_)
   simp -implicitDefEqProofs [go_sem]
   refine ⟨fun h => ?_, fun h => ae (by simp [go_sem, zB h]) rfl rfl⟩
   have q1 := zA h
   have q2 := GT l (i + 1)
   refine aa (af (aa (ab ?_)))
   simp -implicitDefEqProofs [go_sem, h]
   have w1 : IntKind.i64.wrap (((wF l i).length : Int) + (l[i].length : Int)) = ((wF l (i + 1)).length : Int) := by rw [IntWalk.i64_in _ ⟨by omega, by omega⟩]; omega
   refine aa (ab ?_)
   simp -implicitDefEqProofs [go_sem, w1]
   refine aa (ab ?_)
   simp -implicitDefEqProofs [go_sem, show ¬ ((wF l (i + 1)).length : Int) < 0 by omega]
   refine ab ?_
   simp -implicitDefEqProofs [go_sem]
   refine ab ?_
   simp -implicitDefEqProofs [go_sem]
   refine ⟨i + 1, by omega, by omega, ae ?_ rfl rfl⟩
   simp [go_sem, gU (show i < 9223372036854775807 by omega)]
 · rintro _ -
   dsimp only
   refine aa (ab ?_)
   simp -implicitDefEqProofs [go_sem]
   refine CC.mono (GL _ _ _ hf) ?_
   rintro _ _ _ ⟨v, rfl, rfl, rfl⟩
   simp -implicitDefEqProofs [go_sem]
   refine am (α := Nat) (fun v => ([(6, .sl (.own V.length v) 1 ((wj l).map ic))], H, V ++ [v])) (fun _ => True) ?_ ?_
   · refine aa (ab ?_)
     simp -implicitDefEqProofs [go_sem]
     refine af ?_
     refine al (α := Nat × Nat) (fun x => ([(25, .sl tk 1 (l.map NO)), (26, ci l.length), (27, ci x.1), (6, .sl (.own V.length x.2) 1 ((wF l x.1).map ic))], H, V ++ [x.2])) (fun x => x.1 <= l.length) (fun x => l.length - x.1) (0, v) (zero_le _) (ae (by simp [go_sem, wF]) rfl rfl) ?_
     rintro ⟨i, v⟩ hi
     dsimp only at hi ⊢
     refine aa (ab ?_)
     simp -implicitDefEqProofs [go_sem]
     refine aa (ab ?_)
     simp -implicitDefEqProofs [go_sem]
     refine ⟨fun h => ?_, fun h => ⟨v, ae (by simp [go_sem, zB h]) rfl rfl⟩⟩
     have q1 := zA h
     have q2 := GT l (i + 1)
     refine aa (af (aa (ab ?_)))
     simp -implicitDefEqProofs [go_sem, h]
     refine ab ?_
     simp -implicitDefEqProofs [go_sem]
     refine ⟨by omega, ?_⟩
     refine ab ?_
     simp -implicitDefEqProofs [go_sem]
     refine ⟨i + 1, by omega, by omega, v + 1, ae ?_ rfl (by simp)⟩
     rw [<- GS h]
     simp [go_sem, gU (show i < 9223372036854775807 by omega)]
   · rintro v -
     dsimp only
     refine aa (ab ?_)
     simp -implicitDefEqProofs [go_sem]
     refine ab ?_
     simp -implicitDefEqProofs [go_sem]
     exact ao.fresh rfl (by simp [go_sem]) oH (by simp)
structure ie where
 sizes : List Int
 ws : List Wr
 evs : List (Int × Int)
def bl (x : Int × Int) : List CV := [iv x.1, iv x.2]
@[go_sem, simp] theorem ZU (x : Int × Int) : (bl x).length = 2 := rfl
@[go_sem, simp] theorem ZV (x : Int × Int) : aJ (bl x) = true := rfl
@[go_sem, simp] theorem afK (x : Int × Int) (h : 0 < (bl x).length) : (bl x)[0] = iv x.1 := rfl
@[go_sem, simp] theorem afJ (x : Int × Int) (h : 1 < (bl x).length) : (bl x)[1] = iv x.2 := rfl
@[go_sem] theorem u9 (i j : Nat) (x : Int × Int) : okL i j (bl x) = True := by simp [bl, go_sem, okL, aK]
@[go_sem] theorem dq (i j : Nat) (l : List (Int × Int)) : fO i j (l.map bl) = True := eq_true (fj bl l fun x => by rw [u9]; trivial)
def PX : ie := ⟨[], [], []⟩
def gI (h : ie) : List CV := [.sl .sh 1 (h.sizes.map ic), .sl .sh 3 (h.ws.map bq), .sl .sh 2 (h.evs.map bl)]
@[go_sem, simp] theorem ac9 (h : ie) : (gI h).length = 3 := rfl
@[go_sem, simp] theorem X8 (h : ie) : (gI h).take 3 = gI h := rfl
@[go_sem, simp] theorem X9 (h : ie) : (gI h).drop 3 = [] := rfl
@[go_sem, simp] theorem adb (h : ie) : aJ (gI h) = true := rfl
@[go_sem, simp] theorem ag1 (x : ie) (h : 0 < (gI x).length) : (gI x)[0] = .sl .sh 1 (x.sizes.map ic) := rfl
@[go_sem, simp] theorem ag0 (x : ie) (h : 1 < (gI x).length) : (gI x)[1] = .sl .sh 3 (x.ws.map bq) := rfl
@[go_sem, simp] theorem agZ (x : ie) (h : 2 < (gI x).length) : (gI x)[2] = .sl .sh 2 (x.evs.map bl) := rfl
@[go_sem] theorem okL_hiC (i j : Nat) (h : ie) : okL i j (gI h) = True := by simp [gI, go_sem, okL, aK, aR, dq, cQ]
theorem LI (H : Hp) (V : List Nat) (l : List Int) (hl : l.length <= 1000000) : CC Tryz.prog 52 [.sl .sh 1 (l.map ic)] H V (Pu (.tup [.agg (gI (if aN l ≠ 0 then PX else ⟨l, [], []⟩)), er (aN l)]) H V) := by
 refine aj Tryz.func52 rfl fun hok oH => ?_;clear hok;refine aa (ab ?_);simp [go_sem, ai];refine aa (ab ?_);simp [go_sem];refine ah (md _ _ .sh l (by omega)) ?_;simp [go_sem];refine ⟨fun he => ?_, fun he => ?_⟩
 · rw [if_neg he]
   exact ao.pu (r0 := .tup [.agg (gI PX), er (aN l)]) (.tup (.cons (.agg (.cons (.nil 1 (by decide)) (.cons (.nil 3 (by decide)) (.cons (.nil 2 (by decide)) .nil)))) (.cons (.refl _) .nil))) (by simp [go_sem, okL_hiC]) oH (by simp) (by simp)
 rw [if_pos he, he];refine aa (ab ?_);simp [go_sem];refine ah (cu _ _ .sh l (by omega)) ?_;simp [go_sem];refine ab ?_;simp [go_sem];exact ao.pu (r0 := .tup [.agg (gI ⟨l, [], []⟩), er 0]) (.tup (.cons (.agg (.cons (.refl _) (.cons (.nil 3 (by decide)) (.cons (.nil 2 (by decide)) .nil)))) (.cons (.refl _) .nil))) (by simp [go_sem, okL_hiC]) oH (by simp) (by simp)
theorem l5 (H : Hp) (V : List Nat) (tk : Tk) (l : List (Int × Int)) (hx : l.length <= 1000000000) : CC Tryz.prog 116 [.sl tk 2 (l.map bl)] H V (Fr 2 (l.map bl) H V) := by
 refine aj Tryz.func116 rfl fun hok oH => ?_;clear hok;refine aa (ab ?_);simp [go_sem, ai];refine aa (ab ?_);simp [go_sem];refine ⟨ab ?_, fun e => ao.frtok (by decide) (.inl ⟨rfl, by rw [e]; rfl⟩) (by simp [go_sem, dq]) oH (by simp) (by simp)⟩;simp [go_sem];exact ⟨by omega, ao.fr (by simp [go_sem, dq]) oH (by simp)⟩
theorem vH {α : Type} {x y : List α} {i : Nat} (hl : x.length = y.length) (h : x.length <= i) (e : x.take i = y.take i) : x = y := by
 rwa [take_of_length_le h, take_of_length_le (by omega)] at e
theorem rp {α : Type} {x y : List α} {i : Nat} (h : i < x.length) (h2 : i < y.length) (e : x.take i = y.take i) (he : x[i] = y[i]) : x.take (i + 1) = y.take (i + 1) := by
 rw [take_succ_eq_append_getElem h, take_succ_eq_append_getElem h2, e, he]
theorem PN {α : Type} {x y : List α} {i : Nat} (h : i < x.length) (h2 : i < y.length) (he : ¬ x[i] = y[i]) : ¬ x = y := fun e => he (by subst e; rfl)
theorem G9 (H : Hp) (V : List Nat) (t1 t2 : Tk) (x y : List Int) (hl : x.length <= 1000000000) : CC Tryz.prog 26 [.sl t1 1 (x.map ic), .sl t2 1 (y.map ic)] H V (Pu (.v (.bool (decide (x = y)))) H V) := by
 refine aj Tryz.func26 rfl fun hok oH => ?_;clear hok;refine aa (ab ?_);simp [go_sem, ai];refine aa (aa (ab ?_))
 by_cases aT : x.length = y.length
 case neg =>
  have hlen' : ¬ (x.length : Int) = (y.length : Int) := by omega
  simp [go_sem, hlen'];refine ab ?_;simp [go_sem, aT, hlen'];exact aA (by simp [show x ≠ y from fun e => aT (by rw [e])]) oH (by simp) (by simp)
 simp [go_sem, aT];refine ab ?_;simp [go_sem, aT];refine am (α := Unit) (fun _ => ([], H, V)) (fun _ => x = y) ?_ ?_
 · refine aa (ab ?_)
   simp [go_sem];refine af ?_;refine al (α := Nat) (fun i => ([(0, .sl t1 1 (x.map ic)), (1, .sl t2 1 (y.map ic)), (12, ci x.length), (13, ci i)], H, V)) (fun i => i <= x.length /\ x.take i = y.take i) (fun i => x.length - i) 0 ⟨zero_le _, rfl⟩ (ae (by simp [go_sem, aT]) rfl rfl) ?_;rintro i ⟨hi, hp⟩;dsimp only;refine aa (ab ?_);simp [go_sem];refine aa (ab ?_);simp [go_sem];refine ⟨fun h => ?_, fun h => ⟨vH aT h hp, ae (by simp [go_sem]) rfl rfl⟩⟩;have h2 : i < y.length := by omega
   refine aa (af (aa (ab ?_)));simp [go_sem];refine aa (az [] [] (.s 0 .pl <| .s 1 .pl <| .s 2 .pl <| .s 3 .pl <| .s 4 .pl <| .s 5 .pl <| .s 6 .pl <| .s 7 .pl <| .s 8 .pl <| .n) ?_)
   by_cases he : x[i] = y[i]
   · simp [go_sem, h, h2, he]
     refine ab ?_;simp [go_sem];refine ab ?_;simp [go_sem];refine ⟨i + 1, ⟨by omega, rp h h2 hp he⟩, by omega, ae ?_ rfl rfl⟩;simp [go_sem, aq (show i <= 1000000000 by omega)]
   · simp [go_sem, h, h2, he]
     refine ab ?_;simp [go_sem];exact aA (by simp [PN h h2 he]) oH (by simp) (by simp)
 · rintro _ he
   dsimp only;refine ab ?_;simp [go_sem];exact aA (by simp [he]) oH (by simp) (by simp)
def dv (h : ie) (iss ack : List Int) : List CV := [.sl .sh 1 (h.sizes.map ic), .sl .sh 3 (h.ws.map bq), .sl .sh 2 (h.evs.map bl), .sl .sh 1 (iss.map ic), .sl .sh 1 (ack.map ic)]
@[go_sem, simp] theorem YE (h : ie) (i a : List Int) : (dv h i a).length = 5 := rfl
@[go_sem, simp] theorem SX (h : ie) (i a : List Int) : (dv h i a).take 5 = dv h i a := rfl
@[go_sem, simp] theorem SY (h : ie) (i a : List Int) : (dv h i a).drop 5 = [] := rfl
@[go_sem, simp] theorem YG (h : ie) (i a : List Int) : aJ (dv h i a) = true := rfl
@[go_sem, simp] theorem afz (x : ie) (i a : List Int) (h : 1 < (dv x i a).length) : (dv x i a)[1] = .sl .sh 3 (x.ws.map bq) := rfl
@[go_sem, simp] theorem afy (x : ie) (i a : List Int) (h : 3 < (dv x i a).length) : (dv x i a)[3] = .sl .sh 1 (i.map ic) := rfl
@[go_sem, simp] theorem afx (x : ie) (i a : List Int) (h : 4 < (dv x i a).length) : (dv x i a)[4] = .sl .sh 1 (a.map ic) := rfl
@[go_sem] theorem okL_chkC (jb jv : Nat) (h : ie) (i a : List Int) : okL jb jv (dv h i a) = True := by simp [dv, go_sem, okL, aK, aR, dq, cQ]
def O4 (iss ack : List Int) : List CV := [.sl .sh 1 (iss.map ic), .sl .sh 1 (ack.map ic)]
@[go_sem, simp] theorem abD (i a : List Int) : (O4 i a).length = 2 := rfl
@[go_sem, simp] theorem abE (i a : List Int) : aJ (O4 i a) = true := rfl
@[go_sem, simp] theorem agn (i a : List Int) (h : 0 < (O4 i a).length) : (O4 i a)[0] = .sl .sh 1 (i.map ic) := rfl
@[go_sem, simp] theorem agm (i a : List Int) (h : 1 < (O4 i a).length) : (O4 i a)[1] = .sl .sh 1 (a.map ic) := rfl
@[go_sem] theorem ade (h : ie) (i a : List Int) : (dv h i a).drop 3 = O4 i a := rfl
theorem vj (H : Hp) (V : List Nat) (h : ie) (iss ack : List Int) (n : Nat) (hn : n = h.ws.length) (hl : n <= 1000000) : CC Tryz.prog 66 [.agg (dv h iss ack), .sl .sh 1 ((bT n).map ic)] H V (Pu (cb true) H V) := by
 refine aj Tryz.func66 rfl fun hok oH => ?_
 clear hok
 have hfl := fp n
 refine aa (ab ?_)
 simp -implicitDefEqProofs [go_sem, ai]
 refine am (α := Unit) (fun _ => ([], H ++ [some (dv h iss ack)], V)) (fun _ => True) ?_ ?_
 · refine aa (ab ?_)
   simp -implicitDefEqProofs [go_sem]
   refine af ?_
   refine al (α := Nat) (fun i => ([(1, .sl .sh 1 ((bT n).map ic)), (2, .ptr H.length 0), (7, .sl .sh 1 ((bT n).map ic)), (8, ci n), (9, ci i)], H ++ [some (dv h iss ack)], V)) (fun i => i <= n) (fun i => n - i) 0 (zero_le _) (ae (by simp [go_sem, hfl]) rfl rfl) ?_
   intro i hi
   dsimp only
   refine aa (ab ?_)
   simp -implicitDefEqProofs [go_sem]
   refine aa (ab ?_)
   by_cases hin : i < n
   case neg =>
    obtain rfl : i = n := by omega
    simp -implicitDefEqProofs [go_sem]
    exact ae (by simp [go_sem]) rfl rfl
   simp -implicitDefEqProofs [go_sem, hin]
   refine aa (af (aa (ab ?_)))
   have hgi : ∀ (k : Nat) (hk : k < (bT n).length), (bT n)[k] = (k : Int) := fun k hk => by simp [bT]
   simp -implicitDefEqProofs [go_sem, hin, hfl, hgi]
   have a1 : ¬ (i : Int) < 0 := by omega
   have a2 : ¬ (h.ws.length : Int) <= (i : Int) := by omega
   have a2' : ¬ h.ws.length <= i := by omega
   have a5 : ¬ h.ws = [] := fun e => by rw [e] at hn; simp at hn; omega
   refine aa (ab ?_)
   rcases Nat.eq_zero_or_pos i with rfl | hp
   · simp -implicitDefEqProofs [go_sem, a2, a2', a5]
     refine ab ?_
     simp -implicitDefEqProofs [go_sem]
     refine ab ?_
     simp -implicitDefEqProofs [go_sem]
     refine ⟨1, by omega, by omega, ae ?_ rfl rfl⟩
     simp [go_sem]
     rw [show IntKind.i64.wrap (1 : Int) = 1 from rfl]
     exact .refl _
   · have a3 : (0 : Int) < (i : Int) := by omega
     have w1 : IntKind.i64.wrap ((i : Int) - 1) = ((i - 1 : Nat) : Int) := by rw [IntWalk.i64_in _ ⟨by omega, by omega⟩]; omega
     have h1 : i - 1 < n := by omega
     have a4 : ¬ (i : Int) <= ((i - 1 : Nat) : Int) := by omega
     have a4' : ¬ i <= i - 1 := by omega
     simp -implicitDefEqProofs [go_sem, a1, a2, a2', a3, hp, w1, h1, hfl, hgi, a4, a4']
     refine ab ?_
     simp -implicitDefEqProofs [go_sem]
     refine ab ?_
     simp -implicitDefEqProofs [go_sem]
     refine ⟨i + 1, by omega, by omega, ae ?_ rfl rfl⟩
     simp [go_sem, aq (show i <= 1000000000 by omega)]
 rintro _ -
 dsimp only
 refine aa (ab ?_)
 simp -implicitDefEqProofs [go_sem]
 refine ab ?_
 simp -implicitDefEqProofs [go_sem]
 exact aA rfl oH (by simp) (by simp)
structure d8 where
 h : ie
 wait : List Int
 held : List Int
 frozen : Bool
def P6 : d8 := ⟨PX, [], [], false⟩
def dY (g : d8) : List CV := [.sl .sh 1 (g.h.sizes.map ic), .sl .sh 3 (g.h.ws.map bq), .sl .sh 2 (g.h.evs.map bl), .sl .sh 1 (g.wait.map ic), .sl .sh 1 (g.held.map ic), cb g.frozen]
@[go_sem, simp] theorem adk (g : d8) : (dY g).length = 6 := rfl
@[go_sem, simp] theorem YO (g : d8) : (dY g).take 6 = dY g := rfl
@[go_sem, simp] theorem YP (g : d8) : (dY g).drop 6 = [] := rfl
@[go_sem, simp] theorem adl (g : d8) : aJ (dY g) = true := rfl
@[go_sem, simp] theorem ag4 (g : d8) : (dY g).take 3 = gI g.h := rfl
@[go_sem, simp] theorem ag7 (x : d8) (h : 3 < (dY x).length) : (dY x)[3] = .sl .sh 1 (x.wait.map ic) := rfl
@[go_sem, simp] theorem ag6 (x : d8) (h : 4 < (dY x).length) : (dY x)[4] = .sl .sh 1 (x.held.map ic) := rfl
@[go_sem, simp] theorem ag5 (x : d8) (h : 5 < (dY x).length) : (dY x)[5] = cb x.frozen := rfl
@[go_sem] theorem okL_grC (i j : Nat) (g : d8) : okL i j (dY g) = True := by simp [dY, go_sem, okL, aK, aR, dq, cQ]
theorem KR : jD [.v (.slice none 0 0), .v (.slice none 0 0), .v (.slice none 0 0), .v (.slice none 0 0), .v (.slice none 0 0), cb false] (dY P6) :=
 .cons (.nil 1 (by decide)) (.cons (.nil 3 (by decide)) (.cons (.nil 2 (by decide)) (.cons (.nil 1 (by decide)) (.cons (.nil 1 (by decide)) (.cons (.refl _) .nil)))))
theorem LO (H : Hp) (V : List Nat) (l : List Int) (hl : l.length <= 1000000) : CC Tryz.prog 21 [.sl .sh 1 (l.map ic)] H V (Pu (.tup [.agg (dY (if aN l ≠ 0 then P6 else ⟨⟨l, [], []⟩, [], [], false⟩)), er (aN l)]) H V) := by
 refine aj Tryz.func21 rfl fun hok oH => ?_;clear hok;refine aa (ab ?_);simp [go_sem, ai];refine aa (ab ?_);simp [go_sem];refine ah (LI _ _ l hl) ?_;simp [go_sem];refine aa (ab ?_)
 by_cases he : aN l = 0
 case neg =>
  simp [go_sem, he];exact ao.pu (r0 := .tup [.agg (dY P6), er (aN l)]) (.tup (.cons (.agg KR) (.cons (.refl _) .nil))) (by simp [go_sem, okL_grC]) oH (by simp) (by simp)
 simp [go_sem, he];refine aa (ab ?_);simp [go_sem];refine ⟨rfl, ab ?_⟩;simp [go_sem];exact ao.pu (r0 := .tup [.agg (dY ⟨⟨l, [], []⟩, [], [], false⟩), er 0]) (.tup (.cons (.agg (.cons (.refl _) (.cons (.refl _) (.cons (.refl _) (.cons (.nil 1 (by decide)) (.cons (.nil 1 (by decide)) (.cons (.refl _) .nil))))))) (.cons (.refl _) .nil))) (by simp [go_sem, okL_grC]) oH (by simp) (by simp)
@[go_sem] theorem abA (w : Wr) : List.take 3 (List.take 2 (bq w) ++ CV.sl .sh 8 (List.map aE w.data) :: List.drop 3 (bq w)) = bq w := rfl
def yz (l : List Bool) (p : Nat) : List Nat := (List.range p).filter fun i => !l.getD i true
def s5 (l : List Bool) (p : Nat) : List Int := (yz l p).map fun i : Nat => (i : Int)
theorem D6 {l : List Bool} {i : Nat} (h : i < l.length) : s5 l (i + 1) = s5 l i ++ (if l[i] = true then [] else [(i : Int)]) := by
 rw [s5, yz, range_succ, List.filter_append, map_append]
 congr 1
 rw [filter_cons, List.filter_nil, getD_eq_getElem?_getD, getElem?_eq_getElem h]
 cases hl : l[i] <;> simp
theorem yA (l : List Bool) (p : Nat) : (s5 l p).length <= p := by
 rw [s5, length_map, yz];have := List.length_filter_le (fun i => !l.getD i true) (List.range p)
 rwa [length_range] at this
theorem uo (H : Hp) (V : List Nat) (b : Nat) (l : List Bool) (hb : H[b]? = some (some (l.map eL))) (p : Nat) (hp : p <= l.length) (hl : l.length <= 1000000) : CC Tryz.prog 105 [.agg [.bsl b 0 l.length 1], ci p] H V (Fr 1 ((s5 l p).map ic) H V) := by
 refine aj Tryz.func105 rfl fun hok oH => ?_;clear hok;have hmn : min p l.length = p := by omega
 have hbl := (List.getElem?_eq_some_iff.1 hb).1;have hb2 : ∀ L, (H ++ L)[b]? = some (some (l.map eL)) := fun L => by rw [getElem?_append_left hbl]; exact hb
 have hpc : (p : Int) <= (l.length : Int) := by omega
 refine aa (ab ?_);simp [go_sem, ai];refine aa (ab ?_);simp [go_sem];refine am (α := Nat) (fun v => ([(5, .sl (.own V.length v) 1 ((s5 l p).map ic))], H ++ [some [.bsl b 0 l.length 1]], V ++ [v])) (fun _ => True) ?_ ?_
 · refine aa (ab ?_)
   simp [go_sem, hp, hpc];refine af ?_;refine al (α := Nat × Nat) (fun x => ([(11, .bsl b 0 p 1), (12, ci p), (13, ci x.1), (5, .sl (.own V.length x.2) 1 ((s5 l x.1).map ic))], H ++ [some [.bsl b 0 l.length 1]], V ++ [x.2])) (fun x => x.1 <= p) (fun x => p - x.1) (0, 0) (zero_le _) (Sh.tokT (by simp [go_sem, s5, yz]) rfl rfl) ?_;rintro ⟨i, v⟩ hi;dsimp only at hi ⊢;refine aa (ab ?_);simp [go_sem];refine aa (ab ?_)
   by_cases h : i < p
   case neg =>
    obtain rfl : i = p := by omega
    simp [go_sem];exact ⟨v, ae (by simp [go_sem]) rfl rfl⟩
   have hil : i < l.length := by omega
   have wi : IntKind.i64.wrap ((i : Int) + 1) = (i : Int) + 1 := aq (show i <= 1000000000 by omega);have hst := D6 hil;have hln := yA l i;simp [go_sem, h];refine aa (af (aa (ab ?_)));simp [go_sem, h, ak (hb2 _), hil];refine aa (ab ?_)
   cases hq : l[i] with
   | true =>
    rw [hq, if_pos rfl, append_nil] at hst;simp [go_sem];refine ab ?_;simp [go_sem];refine ab ?_;simp [go_sem, wi];refine ⟨i + 1, by omega, by omega, v, ae ?_ rfl rfl⟩;rw [hst]; simp [go_sem]
   | false =>
    rw [hq, if_neg (by decide)] at hst;simp [go_sem];refine ab ?_;simp [go_sem];refine ⟨by omega, ?_⟩;refine ab ?_;simp [go_sem, wi];refine ⟨i + 1, by omega, by omega, v + 1, ae ?_ rfl (by simp)⟩;rw [hst]; simp [go_sem];exact .refl _
 rintro v -;dsimp only;refine aa (ab ?_);simp [go_sem];refine ab ?_;simp [go_sem];exact ao.fresh rfl (by simp [go_sem, aR]) oH (by simp)
theorem vp {H : Hp} {i j : Nat} {b : Nat} {c : List CV} (hc : okL i j c) (oH : ∀ (b : Nat) cs, H[b]? = some (some cs) -> okL i j cs) (b' : Nat) (cs : List CV) (h : (H.set b (some c))[b']? = some (some cs)) : okL i j cs := by
 by_cases e : b = b'
 · subst e
   rw [getElem?_set] at h
   split at h
   · obtain rfl : c = cs := by
      split at h <;> simp_all
     exact hc
   · exact absurd rfl ‹_›
 · rw [getElem?_set_ne e] at h
   exact oH _ _ h
theorem mX (M : List Bool) (i : Nat) (h : i < M.length) : (M.map eL).take i ++ eL true :: (M.map eL).drop (i + 1) = (M.set i true).map eL := by
 rw [map_set, set_eq_take_append_cons_drop, if_pos (by simpa using h)]
def tb (c n k v : Nat) (A W : CV) (evs : List (Int × Int)) (X Y Z : CV) : List CV := [.bsl c 0 n 1, A, W, .sl (.own k v) 2 (evs.map bl), X, Y, Z]
@[go_sem, simp] theorem abO (c n k v : Nat) (A W : CV) (evs : List (Int × Int)) (X Y Z : CV) : (tb c n k v A W evs X Y Z).length = 7 := rfl
@[go_sem, simp] theorem agx (c n k v : Nat) (A W : CV) (evs : List (Int × Int)) (X Y Z : CV) (h : 0 < (tb c n k v A W evs X Y Z).length) : (tb c n k v A W evs X Y Z)[0] = .bsl c 0 n 1 := rfl
@[go_sem, simp] theorem agw (c n k v : Nat) (A W : CV) (evs : List (Int × Int)) (X Y Z : CV) (h : 3 < (tb c n k v A W evs X Y Z).length) : (tb c n k v A W evs X Y Z)[3] = .sl (.own k v) 2 (evs.map bl) := rfl
@[go_sem] theorem WY (c n k v v' : Nat) (A W : CV) (evs : List (Int × Int)) (xs : List (List CV)) (X Y Z : CV) : List.take 3 (tb c n k v A W evs X Y Z) ++ .sl (.own k v') 2 xs :: List.drop 4 (tb c n k v A W evs X Y Z) = [.bsl c 0 n 1, A, W, .sl (.own k v') 2 xs, X, Y, Z] := rfl
theorem zX (H : Hp) (V : List Nat) (b c k v : Nat) (l : List Bool) (A W X Y Z : CV) (evs : List (Int × Int)) (hb : H[b]? = some (some (tb c l.length k v A W evs X Y Z))) (hc : H[c]? = some (some (l.map eL))) (hbc : b ≠ c) (hk : V[k]? = some v) (w : Nat) (hw : w < l.length) (he : evs.length <= 1000000) : CC Tryz.prog 64 [.ptr b 0, ci w] H V (fun _ H' V' => H' = (H.set b (some (tb c l.length k (v + 1) A W (evs ++ [(1, (w : Int))]) X Y Z))).set c (some ((l.set w true).map eL)) /\ V' = V.set k (v + 1)) := by
 refine aj Tryz.func64 rfl fun hok oH => ?_
 clear hok
 have hbl := (List.getElem?_eq_some_iff.1 hb).1
 have hcl := (List.getElem?_eq_some_iff.1 hc).1
 have hkl := (List.getElem?_eq_some_iff.1 hk).1
 have hb1 : ∀ K : List CV -> Prop, dN H b K = K (tb c l.length k v A W evs X Y Z) := fun K => ak hb K
 have hc1 : ∀ (Q : List CV) (K : List CV -> Prop), dN (H.set b (some Q)) c K = K (l.map eL) := fun Q K => ak (by rw [getElem?_set_ne hbc]; exact hc) K
 have hb3 : ∀ (Q : List CV) (K : List CV -> Prop), dN (H.set b (some Q)) b K = K Q := fun Q K => ak (getElem?_set_self hbl) K
 refine aa (ab ?_)
 simp -implicitDefEqProofs [go_sem, ai]
 rw [hb1]
 simp -implicitDefEqProofs [go_sem, hk]
 refine ⟨by omega, ?_⟩
 rw [hb1]
 simp -implicitDefEqProofs [go_sem]
 refine ab ?_
 simp -implicitDefEqProofs [go_sem, hb3, hc1, hw]
 refine ⟨by omega, ao.self ⟨?_, rfl⟩⟩
 have e1 : tb c l.length k (v + 1) A W (evs ++ [(1, (w : Int))]) X Y Z = [CV.bsl c 0 l.length 1, A, W, CV.sl (Tk.own k (v + 1)) 2 (List.map bl evs ++ [[iv 1, iv w]]), X, Y, Z] := by rw [tb, map_append]; rfl
 rw [e1, <- map_set, <- mX l w hw]
theorem aeX {H : Hp} {b c : Nat} (h : b ≠ c) (x y x' y' : Option (List CV)) : (((H.set b x).set c y).set b x').set c y' = (H.set b x').set c y' := by
 refine ext_getElem? fun i => ?_;simp only [getElem?_set, length_set]
 by_cases h1 : c = i
 · subst h1
   by_cases h2 : c < H.length
   · simp [h2]
   · simp [h2]
 · by_cases h2 : b = i
   · subst h2; simp [h1]
   · simp [h1, h2]
def LU (l : List Bool) (ws : List Nat) : List Bool := ws.foldl (fun l w => l.set w true) l
theorem zI : ∀ (ws : List Nat) (l : List Bool), (LU l ws).length = l.length
 | [], l => rfl
 | w :: ws, l => by rw [LU, foldl_cons]; exact (zI ws _).trans (length_set ..)
theorem GY (l : List Bool) (ws : List Nat) (w : Nat) : LU l (ws ++ [w]) = (LU l ws).set w true := by rw [LU, foldl_append]; rfl
def G7 (evs : List (Int × Int)) (ws : List Nat) : List (Int × Int) := evs ++ ws.map fun w : Nat => ((1 : Int), (w : Int))
theorem G6 (evs : List (Int × Int)) (ws : List Nat) (w : Nat) : G7 evs (ws ++ [w]) = G7 evs ws ++ [(1, (w : Int))] := by rw [G7, G7, map_append, append_assoc]; rfl
def nI (ws : List Nat) : List Int := ws.map fun w : Nat => (w : Int)
theorem nG (ws : List Nat) : (nI ws).length = ws.length := length_map ..
theorem PP (ws : List Nat) (i : Nat) (h : i < (nI ws).length) : (nI ws)[i] = ((ws[i]'(by simpa [nI] using h) : Nat) : Int) := by simp [nI]
def GD (H : Hp) (b c n k v : Nat) (A W X Y Z : CV) (l : List Bool) (evs : List (Int × Int)) (ws : List Nat) : Hp := (H.set b (some (tb c n k (v + ws.length) A W (G7 evs ws) X Y Z))).set c (some ((LU l ws).map eL))
theorem MB (H : Hp) (V : List Nat) (b c k v : Nat) (l : List Bool) (A W X Y Z : CV) (evs : List (Int × Int)) (hb : H[b]? = some (some (tb c l.length k v A W evs X Y Z))) (hc : H[c]? = some (some (l.map eL))) (hbc : b ≠ c) (hk : V[k]? = some v) (tk : Tk) (ws : List Nat) (hw : ∀ w ∈ ws, w < l.length) (he : evs.length + ws.length <= 1000000) : CC Tryz.prog 106 [.sl tk 1 ((nI ws).map ic), .bm 64 [.ptr b 0]] H V (fun _ H' V' => H' = GD H b c l.length k v A W X Y Z l evs ws /\ V' = V.set k (v + ws.length)) := by
 refine aj Tryz.func106 rfl fun hok oH => ?_;clear hok;have hbl := (List.getElem?_eq_some_iff.1 hb).1;have hcl := (List.getElem?_eq_some_iff.1 hc).1;have hkl := (List.getElem?_eq_some_iff.1 hk).1;have h0 : GD H b c l.length k v A W X Y Z l evs [] = H := by
  have e1 : H.set b (some (tb c l.length k v A W evs X Y Z)) = H := by
   obtain ⟨q1, q2⟩ := List.getElem?_eq_some_iff.1 hb;rw [<- q2, set_getElem_self]
  have e2 : H.set c (some (l.map eL)) = H := by
   obtain ⟨q1, q2⟩ := List.getElem?_eq_some_iff.1 hc;rw [<- q2, set_getElem_self]
  rw [GD];show (H.set b (some (tb c l.length k v A W (evs ++ []) X Y Z))).set c (some (l.map eL)) = H;rw [append_nil, e1, e2]
 have v0 : V.set k v = V := by
  obtain ⟨q1, q2⟩ := List.getElem?_eq_some_iff.1 hk;rw [<- q2, set_getElem_self]
 have hnl := nG ws;refine aa (ab ?_);simp [go_sem, ai];refine af ?_;refine al (α := Nat) (fun i => ([(1, .bm 64 [.ptr b 0]), (6, .sl tk 1 ((nI ws).map ic)), (7, ci ws.length), (8, ci i)], GD H b c l.length k v A W X Y Z l evs (ws.take i), V.set k (v + i))) (fun i => i <= ws.length) (fun i => ws.length - i) 0 (zero_le _) (ae (by simp [go_sem, hnl]) (by rw [take_zero, h0]) (by rw [Nat.add_zero, v0])) ?_;intro i hi;dsimp only;refine aa (ab ?_);simp [go_sem];refine aa (ab ?_)
 by_cases h : i < ws.length
 case neg =>
  obtain rfl : i = ws.length := by omega
  simp [go_sem];exact ao.self ⟨rfl, rfl⟩
 have hwi := hw _ (getElem_mem h);have hg : (nI ws)[i]'(by omega) = ((ws[i] : Nat) : Int) := PP ws i (by omega);have hfl := zI (ws.take i) l;have htl : (ws.take i).length = i := by rw [length_take]; omega
 have wi : IntKind.i64.wrap ((i : Int) + 1) = (i : Int) + 1 := aq (show i <= 1000000000 by omega);simp [go_sem, h];refine aa (af (aa (ab ?_)));simp [go_sem, h, hnl, hg];refine ab ?_;simp [go_sem];have q1 : (GD H b c l.length k v A W X Y Z l evs (ws.take i))[b]? = some (some (tb c (LU l (ws.take i)).length k (v + i) A W (G7 evs (ws.take i)) X Y Z)) := by
  rw [GD, getElem?_set_ne (fun e => hbc e.symm), getElem?_set_self hbl, hfl, htl]
 have q2 : (GD H b c l.length k v A W X Y Z l evs (ws.take i))[c]? = some (some ((LU l (ws.take i)).map eL)) := by
  rw [GD, getElem?_set_self (by simpa using hcl)]
 have q3 : (V.set k (v + i))[k]? = some (v + i) := getElem?_set_self hkl;refine CC.mono (zX _ _ b c k (v + i) (LU l (ws.take i)) A W X Y Z (G7 evs (ws.take i)) q1 q2 hbc q3 ws[i] (by omega) (by rw [G7, length_append, length_map, htl]; omega)) ?_;rintro _ _ _ ⟨rfl, rfl⟩;simp [go_sem];refine ab ?_;simp [go_sem, wi];refine ⟨i + 1, by omega, by omega, ae (by simp [go_sem]) ?_ ?_⟩
 · rw [GD, GD, aeX hbc, take_succ_eq_append_getElem h, GY, G6, hfl, length_append, htl, map_set]; rfl
 · rfl
def vA (l : List Bool) (o n : Nat) (x : Bool) : Bool := ((l.drop o).take n).contains x
def ou (l : List Bool) (o : Nat) (x : Bool) (i : Nat) : Prop := ((l.drop o).take i).contains x = false
theorem LH (l : List Bool) (o : Nat) (x : Bool) : ou l o x 0 := by unfold ou; simp
theorem xF {l : List Bool} {o i : Nat} {x : Bool} (h : o + i < l.length) (h1 : ou l o x i) (h2 : ¬ x = l[o + i]) : ou l o x (i + 1) := by
 unfold ou at *;rw [take_succ_eq_append_getElem (by rw [length_drop]; omega)];rw [Bool.eq_false_iff] at h1 ⊢;intro q;have q := contains_iff_mem.1 q;rw [mem_append, mem_singleton] at q;rcases q with q | q
 · exact h1 (contains_iff_mem.2 q)
 · rw [getElem_drop] at q; exact h2 q
theorem LG {l : List Bool} {o i n : Nat} {x : Bool} (h : o + i < l.length) (hn : i < n) (h2 : x = l[o + i]) : vA l o n x = true := by
 refine contains_iff_mem.2 ?_;rw [h2];exact List.mem_iff_getElem?.2 ⟨i, by rw [getElem?_take, if_pos hn, getElem?_drop, getElem?_eq_getElem h]⟩
theorem xy (H : Hp) (V : List Nat) (b o n : Nat) (l : List Bool) (x : Bool) (hb : H[b]? = some (some (l.map eL))) (hn : o + n <= l.length) (hl : l.length <= 1000000) : CC Tryz.prog 141 [.bsl b o n 1, eL x] H V (Ix (vA l o n x) H V) := by
 refine aj Tryz.func141 rfl fun hok oH => ?_;clear hok;have hb2 : ∀ K : List CV -> Prop, dN H b K = K (l.map eL) := fun K => ak hb K;refine aa (ab ?_);simp [go_sem, ai];refine am (α := Unit) (fun _ => ([], H, V)) (fun _ => ou l o x n) ?_ ?_
 · refine aa (ab ?_)
   simp [go_sem];refine af ?_;refine al (α := Nat) (fun i => ([(0, .bsl b o n 1), (1, eL x), (7, ci n), (8, ci i)], H, V)) (fun i => i <= n /\ ou l o x i) (fun i => n - i) 0 ⟨zero_le _, LH _ _ _⟩
    (ae (by simp [go_sem]) rfl rfl) ?_
   rintro i ⟨hi, hp⟩;dsimp only;refine aa (ab ?_);simp [go_sem];refine aa (ab ?_)
   by_cases h : i < n
   case neg =>
    obtain rfl : i = n := by omega
    simp [go_sem];exact ⟨hp, ae (by simp [go_sem]) rfl rfl⟩
   have hil : o + i < l.length := by omega
   have wi : IntKind.i64.wrap ((i : Int) + 1) = (i : Int) + 1 := aq (show i <= 1000000000 by omega);simp [go_sem, h];refine aa (af (aa (ab ?_)));simp [go_sem, h, hb2, hil];refine aa (ab ?_)
   by_cases hq : x = l[o + i]
   · simp [go_sem, h, hb2, hil, hq]
     refine ab ?_;simp [go_sem];exact ao.ix (by rw [decide_eq_true (by omega)]; exact (LG hil h rfl).symm) oH (by simp) (by simp)
   · simp [go_sem, h, hb2, hil, hq]
     refine ab ?_;simp [go_sem];refine ⟨fun e => absurd e hq, fun _ => ab ?_⟩;simp [go_sem, wi];refine ⟨i + 1, ⟨by omega, xF hil hp hq⟩, by omega, ae (by simp [go_sem]) rfl rfl⟩
 · rintro _ hp
   dsimp only;refine aa (ab ?_);simp [go_sem];refine ab ?_;simp [go_sem];exact ao.ix (by unfold ou at hp; rw [vA, hp]; rfl) oH (by simp) (by simp)
theorem iM (H : Hp) (V : List Nat) (b o n : Nat) (l : List Bool) (x : Bool) (hb : H[b]? = some (some (l.map eL))) (hn : o + n <= l.length) (hl : l.length <= 1000000) : CC Tryz.prog 102 [.bsl b o n 1, eL x] H V (Pu (.v (.bool (vA l o n x))) H V) := by
 refine aj Tryz.func102 rfl fun hok oH => ?_;clear hok;refine aa (ab ?_);simp [go_sem, ai];refine aa (ab ?_);simp [go_sem];refine CC.mono (xy _ _ b o n l x hb hn hl) ?_;rintro _ _ _ ⟨k, rfl, hk, rfl, rfl⟩;simp [go_sem];refine ab ?_;simp [go_sem];exact aA hk oH (by simp) (by simp)
structure ku where
 kind : Int
 w : Wr
 crash : Bool
 after : UInt8
 ch : List Int
def iP (x : ku) : List CV := [iv x.kind, iv x.w.volume, iv x.w.start, .sl .sh 8 (x.w.data.map aE), cb x.crash, .v (.int .u8 (x.after.toNat : Int)), .sl .sh 1 (x.ch.map ic)]
@[go_sem, simp] theorem adL (x : ku) : (iP x).length = 7 := rfl
@[go_sem, simp] theorem aaH (x : ku) : (iP x).take 7 = iP x := rfl
@[go_sem, simp] theorem aaI (x : ku) : (iP x).drop 7 = [] := rfl
@[go_sem, simp] theorem adM (x : ku) : aJ (iP x) = true := rfl
@[go_sem, simp] theorem ahj (x : ku) (h : 0 < (iP x).length) : (iP x)[0] = iv x.kind := rfl
@[go_sem, simp] theorem ahi (x : ku) (h : 3 < (iP x).length) : (iP x)[3] = .sl .sh 8 (x.w.data.map aE) := rfl
@[go_sem, simp] theorem ahh (x : ku) (h : 4 < (iP x).length) : (iP x)[4] = cb x.crash := rfl
@[go_sem, simp] theorem ahg (x : ku) (h : 5 < (iP x).length) : (iP x)[5] = .v (.int .u8 (x.after.toNat : Int)) := rfl
@[go_sem, simp] theorem ahf (x : ku) (h : 6 < (iP x).length) : (iP x)[6] = .sl .sh 1 (x.ch.map ic) := rfl
@[go_sem, simp] theorem ahe (x : ku) : ((iP x).drop 1).take 3 = bq x.w := rfl
@[go_sem] theorem J8 (i j : Nat) (x : ku) : okL i j (iP x) = True := by simp [iP, go_sem, okL, aK, aR, cR]
@[go_sem] theorem zi (i j : Nat) (l : List ku) : fO i j (l.map iP) = True := eq_true (fj iP l fun x => by rw [J8]; trivial)
theorem xv (H : Hp) (V : List Nat) (tk : Tk) (l : List ku) (g : Nat) (p : ku -> Bool) (hg : ∀ (H : Hp) (V : List Nat) (a : ku), CC Tryz.prog g [.agg (iP a)] H V (Pu (cb (p a)) H V)) (hl : l.length <= 9223372036854775807) :
 CC Tryz.prog 48 [.sl tk 7 (l.map iP), .fn g []] H V (Ix (l.any p) H V) := by
 refine aj Tryz.func48 rfl fun hok oH => ?_;clear hok;refine aa (ab ?_);simp [go_sem, ai];refine am (α := Unit) (fun _ => ([], H, V)) (fun _ => l.any p = false) ?_ ?_
 · refine aa (ab ?_)
   simp [go_sem];refine af ?_;refine al (α := Nat) (fun i => ([(0, .sl tk 7 (l.map iP)), (1, .fn g []), (7, ci l.length), (8, ci i)], H, V)) (fun i => i <= l.length /\ (l.take i).any p = false) (fun i => l.length - i) 0 ⟨zero_le _, rfl⟩
    (ae (by simp [go_sem]) rfl rfl) ?_
   rintro i ⟨hi, hp⟩;dsimp only;refine ab ?_;simp [go_sem];refine ⟨fun h => ⟨h, ?_⟩, fun h => ⟨?_, ae (by simp [go_sem]) rfl rfl⟩⟩
   · refine ah (hg _ _ _) ?_
     rcases hq : p l[i] with - | -
     · simp [go_sem]
       refine ⟨i + 1, ⟨by omega, by simpa using m7 h hp hq⟩, by omega, ae ?_ rfl rfl⟩;simp [go_sem, gU (show i < 9223372036854775807 by omega)]
     · simp [go_sem]
       exact ao.ix (by rw [ua h hq]; simp) oH (by simp) (by simp)
   · rw [take_of_length_le h] at hp; simpa using hp
 · rintro _ hp
   dsimp only;refine ab ?_;simp [go_sem];exact ao.ix (by rw [hp]; rfl) oH (by simp) (by simp)
theorem rG (H : Hp) (V : List Nat) (tk : Tk) (l : List ku) (g : Nat) (p : ku -> Bool) (hg : ∀ (H : Hp) (V : List Nat) (a : ku), CC Tryz.prog g [.agg (iP a)] H V (Pu (cb (p a)) H V)) (hl : l.length <= 9223372036854775807) :
 CC Tryz.prog 16 [.sl tk 7 (l.map iP), .fn g []] H V (Pu (cb (l.any p)) H V) := by
 refine aj Tryz.func16 rfl fun hok oH => ab ?_;simp [go_sem, ai];refine CC.mono (xv _ _ _ _ _ _ hg hl) ?_;rintro _ _ _ ⟨k, rfl, hk, rfl, rfl⟩;simp [go_sem];exact aA hk oH (by simp) (by simp)
def OV (n : Int) : Bool := decide (n < 1) || decide (16 < n)
def MY (x : ku) : Bool := decide (16 < x.w.data.length) || decide (60 < x.ch.length)
theorem AL (H : Hp) (V : List Nat) (n : Int) : CC Tryz.prog 15 [ci n] H V (Pu (cb (OV n)) H V) := by
 refine aj Tryz.func15 rfl fun hok oH => ?_;clear hok;refine aa (ab ?_);simp [go_sem, ai]
 by_cases h1 : n < 1
 · have h1' : ¬ 1 <= n := by omega
   refine aa (ab ?_);simp [go_sem, h1, h1'];refine ab ?_;simp [go_sem];exact aA (by simp [OV, h1]) oH (by simp) (by simp)
 · have h1' : 1 <= n := by omega
   refine aa (ab ?_);simp [go_sem, h1, h1'];refine ab ?_;simp [go_sem];exact aA (by simp [OV, h1]) oH (by simp) (by simp)
theorem AK (H : Hp) (V : List Nat) (x : ku) : CC Tryz.prog 17 [.agg (iP x)] H V (Pu (cb (MY x)) H V) := by
 refine aj Tryz.func17 rfl fun hok oH => ?_
 clear hok
 refine aa (ab ?_)
 simp -implicitDefEqProofs [go_sem, ai]
 by_cases h1 : 16 < x.w.data.length
 · have h1' : 16 < (x.w.data.length : Int) := by omega
   refine aa (ab ?_)
   simp -implicitDefEqProofs [go_sem, h1, h1']
   refine ab ?_
   simp -implicitDefEqProofs [go_sem]
   exact aA (by simp [MY, h1]) oH (by simp) (by simp)
 · have h1' : ¬ 16 < (x.w.data.length : Int) := by omega
   by_cases h2 : 60 < x.ch.length
   · have h2' : 60 < (x.ch.length : Int) := by omega
     refine aa (ab ?_)
     simp -implicitDefEqProofs [go_sem, h1, h2, h1', h2']
     refine ab ?_
     simp -implicitDefEqProofs [go_sem]
     exact aA (by simp [MY, h1, h2]) oH (by simp) (by simp)
   · have h2' : ¬ 60 < (x.ch.length : Int) := by omega
     refine aa (ab ?_)
     simp -implicitDefEqProofs [go_sem, h1, h2, h1', h2']
     refine ab ?_
     simp -implicitDefEqProofs [go_sem]
     exact aA (by simp [MY, h1, h2]) oH (by simp) (by simp)
def eZ (sizes : List Int) (l : List ku) : Bool := decide (sizes.length <= 8) && (!sizes.any OV) && decide (0 < sizes.length) && decide (l.length <= 24) && !(l.any MY)
theorem nk {sizes : List Int} {l : List ku} (h : eZ sizes l = true) : sizes.length <= 8 /\ (∀ n ∈ sizes, 1 <= n /\ n <= 16) /\ 0 < sizes.length /\ l.length <= 24 /\ ∀ x ∈ l, x.w.data.length <= 16 /\ x.ch.length <= 60 := by
 simp only [eZ, Bool.and_eq_true, decide_eq_true_eq, Bool.not_eq_true', List.any_eq_false] at h;obtain ⟨⟨⟨⟨h1, h2⟩, h3⟩, h4⟩, h5⟩ := h;refine ⟨h1, fun n hn => ?_, h3, h4, fun x hx => ?_⟩
 · have := h2 n hn
   simp [OV] at this; omega
 · have := h5 x hx
   simp [MY] at this; omega
theorem mZ (H : Hp) (V : List Nat) (sizes : List Int) (l : List ku) (h1 : sizes.length <= 9223372036854775807) (h2 : l.length <= 9223372036854775807) : CC Tryz.prog 5 [.sl .sh 1 (sizes.map ic), .sl .sh 7 (l.map iP)] H V (Pu (cb (eZ sizes l)) H V) := by
 refine aj Tryz.func5 rfl fun hok oH => ?_;clear hok;have e1 : ∀ (H : Hp) (V : List Nat), CC Tryz.prog 14 [.sl .sh 1 (sizes.map ic), .fn 15 []] H V (Pu (cb (sizes.any OV)) H V) := fun H V => kK H V .sh sizes _ OV (fun H V a => AL H V a) h1;have e2 : ∀ (H : Hp) (V : List Nat), CC Tryz.prog 16 [.sl .sh 7 (l.map iP), .fn 17 []] H V (Pu (cb (l.any MY)) H V) := fun H V => rG H V .sh l _ MY (fun H V a => AK H V a) h2;refine aa (ab ?_);simp [go_sem, ai]
 by_cases c1 : sizes.length <= 8
 case neg =>
  have c1' : ¬ (sizes.length : Int) <= 8 := by omega
  refine aa (ab ?_);simp [go_sem, c1, c1'];refine ab ?_;simp [go_sem];exact aA (by simp [eZ, c1]) oH (by simp) (by simp)
 have c1' : (sizes.length : Int) <= 8 := by omega
 refine aa (ab ?_);simp [go_sem, c1, c1'];refine ah (e1 _ _) ?_
 cases c2 : sizes.any OV with
 | true =>
  simp [go_sem];refine ab ?_;simp [go_sem];exact aA (by simp only [eZ, c2]; simp) oH (by simp) (by simp)
 | false =>
 by_cases c3 : 0 < sizes.length
 case neg =>
  have c3' : ¬ (0 : Int) < (sizes.length : Int) := by omega
  simp [go_sem, c3, c3'];refine ab ?_;simp [go_sem];exact aA (by simp only [eZ, c2]; simp [c3]) oH (by simp) (by simp)
 have c3' : (0 : Int) < (sizes.length : Int) := by omega
 by_cases c4 : l.length <= 24
 case neg =>
  have c4' : ¬ (l.length : Int) <= 24 := by omega
  simp [go_sem, c3, c3', c4, c4'];refine ab ?_;simp [go_sem];exact aA (by simp only [eZ, c2]; simp [c4]) oH (by simp) (by simp)
 have c4' : (l.length : Int) <= 24 := by omega
 simp [go_sem, c3, c3', c4, c4'];refine ah (e2 _ _) ?_
 cases c5 : l.any MY with
 | true =>
  simp [go_sem];refine ab ?_;simp [go_sem];exact aA (by simp only [eZ, c5]; simp) oH (by simp) (by simp)
 | false =>
  simp [go_sem];refine ab ?_;simp [go_sem];exact aA (by simp only [eZ, c2, c5]; simp [c1, c3, c4]) oH (by simp) (by simp)
theorem tO (H : Hp) (V : List Nat) (x : Int × Int) (b : Nat) (p : Int) (hb : H[b]? = some (some [ci p])) : CC Tryz.prog 104 [.agg (bl x), .ptr b 0] H V (Pu (cb (decide (p <= x.2))) H V) := by
 refine aj Tryz.func104 rfl fun hok oH => ?_
 clear hok
 have hbl := (List.getElem?_eq_some_iff.1 hb).1
 have hb2 : ∀ (Y : List CV) (K : List CV -> Prop), dN (H ++ [some Y]) b K = K [ci p] := fun Y K => ak (by rw [getElem?_append_left hbl]; exact hb) K
 refine aa (ab ?_)
 simp -implicitDefEqProofs [go_sem, ai]
 refine aa (ab ?_)
 by_cases h : p <= x.2
 · simp -implicitDefEqProofs [go_sem, hb2, h]
   refine ab ?_
   simp -implicitDefEqProofs [go_sem]
   exact aA (by simp [h]) oH (by simp) (by simp)
 · simp -implicitDefEqProofs [go_sem, hb2, h]
   refine ab ?_
   simp -implicitDefEqProofs [go_sem]
   exact aA (by simp [h]) oH (by simp) (by simp)
def iL (m : Nat) : List (Int × Int) := (List.range m).map fun i => (((i % 2 : Nat) : Int), ((i / 2 : Nat) : Int))
theorem cJ (m : Nat) : (iL m).length = m := by rw [iL, length_map, length_range]
theorem qJ (m i : Nat) (h : i < (iL m).length) : (iL m)[i] = (((i % 2 : Nat) : Int), ((i / 2 : Nat) : Int)) := by simp [iL]
theorem lc (m : Nat) : iL (m + 1) = iL m ++ [(((m % 2 : Nat) : Int), ((m / 2 : Nat) : Int))] := by rw [iL, range_succ, map_append]; rfl
def eI (i : Nat) : List Int := (List.range ((i + 1) / 2)).map fun k => ((2 * k : Nat) : Int)
def II (i k : Nat) : Int := if 2 * k + 1 < i then ((2 * k + 1 : Nat) : Int) else -1
def ee (i : Nat) : List Int := (List.range ((i + 1) / 2)).map (II i)
theorem qp (i : Nat) : (eI i).length = (i + 1) / 2 := by rw [eI, length_map, length_range]
theorem ib (i : Nat) : (ee i).length = (i + 1) / 2 := by rw [ee, length_map, length_range]
theorem m9 (i k : Nat) (h : k < (ee i).length) : (ee i)[k] = II i k := by simp [ee]
theorem qq {i : Nat} (h : i % 2 = 0) : eI (i + 1) = eI i ++ [(i : Int)] := by
 rw [eI, eI, show (i + 1 + 1) / 2 = (i + 1) / 2 + 1 by omega, range_succ, map_append]
 congr 1
 rw [map_cons, map_nil, show 2 * ((i + 1) / 2) = i by omega]
theorem F6 {i : Nat} (h : i % 2 = 1) : eI (i + 1) = eI i := by rw [eI, eI, show (i + 1 + 1) / 2 = (i + 1) / 2 by omega]
theorem yb {i : Nat} (h : i % 2 = 0) : ee (i + 1) = ee i ++ [-1] := by
 rw [ee, ee, show (i + 1 + 1) / 2 = (i + 1) / 2 + 1 by omega, range_succ, map_append]
 congr 1
 · refine map_congr_left fun k hk => ?_
   have := mem_range.1 hk;rw [II, II]
   by_cases c : 2 * k + 1 < i
   · rw [if_pos (by omega), if_pos c]
   · omega
 · rw [map_cons, map_nil, II, if_neg (by omega)]
theorem IJ {i : Nat} (h : i % 2 = 1) : ee (i + 1) = (ee i).set (i / 2) (i : Int) := by
 refine ext_getElem (by rw [length_set, ib, ib]; omega) fun k h1 h2 => ?_;rw [m9, getElem_set];rw [ib] at h1
 split
 · rename_i e; subst e
   rw [II, if_pos (by omega)]; omega
 · rw [m9, II, II]
   by_cases c : 2 * k + 1 < i
   · rw [if_pos c, if_pos (by omega)]
   · rw [if_neg c, if_neg (by omega)]
def bL (m : Nat) : List Bool := (List.range ((m + 1) / 2)).map fun k => decide (2 * k + 1 < m)
theorem fq (i : Nat) : (bL i).length = (i + 1) / 2 := by rw [bL, length_map, length_range]
theorem qF (i k : Nat) (h : k < (bL i).length) : (bL i)[k] = decide (2 * k + 1 < i) := by simp [bL]
def gV (m : Nat) : List Nat := if m % 2 = 1 then [m / 2] else []
theorem sB {n : Nat} : bL (2 * n) = List.replicate n true := by
 refine ext_getElem (by rw [fq, length_replicate]; omega) fun k h1 h2 => ?_;rw [fq] at h1;rw [qF, List.getElem_replicate, decide_eq_true (by omega)]
theorem qE {n : Nat} : bL (2 * n + 1) = List.replicate n true ++ [false] := by
 refine ext_getElem (by rw [fq, length_append, length_replicate]; show _ = n + 1; omega) fun k h1 h2 => ?_;rw [fq] at h1;rw [qF, List.getElem_append]
 split
 · rename_i h; rw [length_replicate] at h; rw [List.getElem_replicate, decide_eq_true (by omega)]
 · rename_i h; rw [length_replicate] at h; rw [decide_eq_false (by omega)]; simp
abbrev G5 (h : ie) (iss ack : CV) : List CV := [.sl .sh 1 (h.sizes.map ic), .sl .sh 3 (h.ws.map bq), .sl .sh 2 (h.evs.map bl), iss, ack]
theorem MU (M : List Int) (i : Nat) (x : Int) (h : i < M.length) : (M.map ci).take i ++ ci x :: (M.map ci).drop (i + 1) = (M.set i x).map ci := by
 rw [map_set, set_eq_take_append_cons_drop, if_pos (by simpa using h)]
def RZ (c j k0 : Nat) (h : ie) (i : Nat) (G : Hp) (W : List Nat) : Prop :=
 ∃ v ack, W[k0]? = some v /\ G[c]? = some (some (G5 h (.sl (.own k0 v) 1 ((eI i).map ic)) ack)) /\ ((i = 0 /\ ack = .v (.slice none 0 0)) \/ ∃ b, j <= b /\ ack = .bsa b ((i + 1) / 2) 1 /\ G[b]? = some (some ((ee i).map ci)))
def EvN (c j k0 : Nat) (h : ie) (i : Nat) (H : Hp) (V : List Nat) (H' : Hp) (V' : List Nat) : Prop :=
 RZ c j k0 h (i + 1) H' V' /\ V'.length = V.length /\ (∀ d, d ≠ k0 -> V'[d]? = V[d]?) /\ (∀ d, d < j -> d ≠ c -> H'[d]? = H[d]?) /\ H.length <= H'.length
theorem QA (H : Hp) (V : List Nat) (c j k0 : Nat) (h : ie) (i : Nat) (hcj : c < j) (hj : j <= H.length) (hi2 : i % 2 = 0) (hi : i / 2 < h.ws.length) (hl : h.ws.length <= 1000000) (hs : RZ c j k0 h i H V) : CC Tryz.prog 119 [.ptr c 0, ci i, .agg (bl (((i % 2 : Nat) : Int), ((i / 2 : Nat) : Int)))] H V (fun r H' V' => r = er 0 /\ EvN c j k0 h i H V H' V') := by
 refine aj Tryz.func119 rfl fun hok oH => ?_;clear hok;obtain ⟨v, ack, hk, hc, hack⟩ := hs;have hkl := (List.getElem?_eq_some_iff.1 hk).1;have hc2 : ∀ L, (H ++ L)[c]? = some (some (G5 h (.sl (.own k0 v) 1 ((eI i).map ic)) ack)) := fun L => by rw [getElem?_append_left (by omega)]; exact hc
 have hc3 : ∀ (L : Hp) (Q : List CV) (K : List CV -> Prop), dN ((H ++ L).set c (some Q)) c K = K Q := fun L Q K => ak (getElem?_set_self (by rw [length_append]; omega)) K;have hil := qp i;have e1 : (eI i).length = i / 2 := by rw [hil]; omega
 rw [hi2];have hi' : ¬ h.ws.length <= i / 2 := by omega
 have hi'' : ¬ (h.ws.length : Int) <= ((i / 2 : Nat) : Int) := by omega
 generalize hq : i / 2 = q at *;refine aa (ab ?_);simp -implicitDefEqProofs [go_sem, ai];refine aa (aa (ab ?_));simp -implicitDefEqProofs [go_sem];refine af (aa (ab ?_));simp -implicitDefEqProofs [go_sem];refine ac.condT rfl ?_;refine aa (aa (az [] [] (.s 0 .pl <| .s 1 .pl <| .s 2 .pl <| .s 3 .pl <| .s 4 .pl <| .s 5 .pl <| .s 6 .pl <| .s 7 .pl <| .s 8 .pl <| .s 9 .pl <| .s 10 .pl <| .s 11 .pl <| .s 12 .pl <| .s 13 .pl <| .s 14 .pl <| .s 15 .pl <| .s 16 .pl <| .s 17 .pl <| .s 18 .pl <| .s 19 .pl <| .n) ?_));simp -implicitDefEqProofs [go_sem, ak (hc2 _), e1, hi', hi''];refine ac.condF rfl ?_;refine ab ?_;simp -implicitDefEqProofs [go_sem];rcases hack with ⟨rfl, rfl⟩ | ⟨b, hjb, rfl, hb⟩
 · refine IM [] [20, 24] [] (.s 0 .pl <| .s 1 .pl <| .s 2 .pl <| .s 3 .pl <| .s 4 .pl <| .s 5 .pl <| .s 6 .pl <| .s 7 .pl <| .s 8 .pl <| .s 10 .pl <| .s 11 .pl <| .s 12 .pl <| .s 13 .pl <| .s 14 .pl <| .s 15 .pl <| .s 9 .pl <| .b 16 <| .s 17 .pl <| .s 18 .pl <| .s 19 .pl <| .s 20 .st <| .s 21 .pl <| .s 22 .pl <| .s 23 .pl <| .s 24 .st <| .n) ?_
   simp -implicitDefEqProofs [go_sem, ak (hc2 _), hk];refine ⟨by omega, DD.mk jG jG (by decide) (by simp) (by simp) ?_⟩;simp -implicitDefEqProofs [go_sem, ak (hc2 _), hc3];refine aa (ab ?_);simp -implicitDefEqProofs [go_sem];refine ab ?_;simp -implicitDefEqProofs [go_sem];have hcl : c < (H ++ [some (bl (0, (q : Int))), some [iv (-1)]]).length := by rw [length_append]; omega
   refine ao.self ⟨rfl, ⟨v + 1, .bsa (H.length + 1) 1 1, getElem?_set_self hkl, ?_, .inr ⟨H.length + 1, by omega, rfl, ?_⟩⟩, by simp, fun d hd => getElem?_set_ne (fun e => hd e.symm), fun d hd hdc => ?_, by simp⟩
   · rw [getElem?_set_self hcl, qq hi2, map_append]; rfl
   · rw [getElem?_set_ne (by omega), aC]; rfl
   · rw [getElem?_set_ne (fun e => hdc e.symm), getElem?_append_left (by omega)]
 · refine IM [c] [20, 24] [16] (.s 0 .pl <| .s 1 .pl <| .s 2 .pl <| .s 3 .pl <| .s 4 .pl <| .s 5 .pl <| .s 6 .ld <| .s 7 .pl <| .s 8 .pl <| .s 10 .pl <| .s 11 .pl <| .s 12 .pl <| .s 13 .pl <| .s 14 .ld <| .s 15 .pl <| .s 9 .pl <| .s 16 .sb <| .s 17 .pl <| .s 18 .pl <| .s 19 .pl <| .s 20 .st <| .s 21 .pl <| .s 22 .pl <| .s 23 .pl <| .s 24 .st <| .n) ?_
   have hb2 : ∀ L, (H ++ L)[b]? = some (some ((ee i).map ci)) := fun L => by rw [getElem?_append_left (List.getElem?_eq_some_iff.1 hb).1]; exact hb
   have hcb : c ≠ b := by omega
   have hc4 : ∀ (y : Option (List CV)) (L L' : Hp) (K : List CV -> Prop), dN ((H ++ L).set b y ++ L') c K = K (G5 h (.sl (.own k0 v) 1 ((eI i).map ic)) (.bsa b ((i + 1) / 2) 1)) := fun y L L' K => ak (by rw [getElem?_append_left (by simp; omega), getElem?_set_ne (fun e => hcb e.symm)]; exact hc2 _) K;have hc5 : ∀ (y : Option (List CV)) (L L' : Hp) (Q : List CV) (K : List CV -> Prop), dN (((H ++ L).set b y ++ L').set c (some Q)) c K = K Q := fun y L L' Q K => ak (getElem?_set_self (by simp; omega)) K;simp -implicitDefEqProofs [go_sem, ak (hc2 _), hk, ak (hb2 _), hc4, hc5];have hal := ib i;refine ⟨by omega, by omega, by omega, fun y hy cs hcs => ?_, ?_⟩
   · obtain rfl : y = c := by simpa using hy
     rwa [getElem?_append_left (by simp; omega), getElem?_set_ne (fun e => hcb e.symm)]
   refine aa (ab ?_);simp -implicitDefEqProofs [go_sem];refine ab ?_;simp -implicitDefEqProofs [go_sem];have hcl : c < ((H ++ [some (bl (0, (q : Int)))]).set b none ++ [some ((ee i).map ci ++ [iv (-1)])]).length := by simp; omega
   have hx : (i + 1) / 2 + 1 = (i + 1 + 1) / 2 := by omega
   refine ao.self ⟨rfl, ⟨v + 1, .bsa (H.length + 1) ((i + 1) / 2 + 1) 1, getElem?_set_self hkl, ?_, .inr ⟨H.length + 1, by omega, by rw [hx], ?_⟩⟩, by simp, fun d hd => getElem?_set_ne (fun e => hd e.symm), fun d hd hdc => ?_, ?_⟩
   · rw [getElem?_set_self hcl, qq hi2, map_append]; rfl
   · rw [getElem?_set_ne (by omega), getElem?_append_right (by simp), yb hi2, map_append]; simp
   · rw [getElem?_set_ne (fun e => hdc e.symm), getElem?_append_left (by simp; omega), getElem?_set_ne (by omega), getElem?_append_left (by omega)]
   · simp; omega
theorem QB (H : Hp) (V : List Nat) (c j k0 : Nat) (h : ie) (i : Nat) (hcj : c < j) (hj : j <= H.length) (hi2 : i % 2 = 1) (hl : i <= 1000000) (hs : RZ c j k0 h i H V) : CC Tryz.prog 119 [.ptr c 0, ci i, .agg (bl (((i % 2 : Nat) : Int), ((i / 2 : Nat) : Int)))] H V (fun r H' V' => r = er 0 /\ EvN c j k0 h i H V H' V') := by
 refine aj Tryz.func119 rfl fun hok oH => ?_;clear hok;obtain ⟨v, ack, hk, hc, hack⟩ := hs;rcases hack with ⟨rfl, -⟩ | ⟨b, hjb, rfl, hb⟩
 · simp at hi2
 have hkl := (List.getElem?_eq_some_iff.1 hk).1;have hc2 : ∀ L, (H ++ L)[c]? = some (some (G5 h (.sl (.own k0 v) 1 ((eI i).map ic)) (.bsa b ((i + 1) / 2) 1))) := fun L => by rw [getElem?_append_left (by omega)]; exact hc
 have hbl := (List.getElem?_eq_some_iff.1 hb).1;have hb2 : ∀ L, (H ++ L)[b]? = some (some ((ee i).map ci)) := fun L => by rw [getElem?_append_left hbl]; exact hb
 obtain ⟨q, hq⟩ : ∃ q, i / 2 = q := ⟨_, rfl⟩
 have e2 : (i + 1) / 2 = q + 1 := by omega
 have hil : (eI i).length = q + 1 := by rw [qp]; omega
 have hal : (ee i).length = q + 1 := by rw [ib]; omega
 have hq1 : q < (ee i).length := by omega
 have hav : (ee i)[q] = -1 := by rw [m9, II, if_neg (by omega)]
 have hst := IJ hi2;have e3 : (i + 1 + 1) / 2 = q + 1 := by omega
 have hiss := F6 hi2;rw [hi2, hq];rw [hq] at hst;have w1 : ¬ ((q : Int) + 1) <= (q : Int) := by omega
 rw [e2] at hc hc2;refine aa (ab ?_);simp -implicitDefEqProofs [go_sem, ai];refine aa (aa (ab ?_));simp -implicitDefEqProofs [go_sem];refine af (aa (ab ?_));simp -implicitDefEqProofs [go_sem];refine ac.condF rfl ?_;refine aa (ab ?_);simp -implicitDefEqProofs [go_sem];refine ac.condT rfl ?_;refine aa (aa (az [] [] (.s 0 .pl <| .s 1 .pl <| .s 2 .pl <| .s 3 .pl <| .s 4 .pl <| .s 5 .pl <| .s 6 .pl <| .s 7 .pl <| .s 8 .pl <| .s 9 .pl <| .s 10 .pl <| .s 11 .pl <| .s 12 .pl <| .s 13 .pl <| .n) ?_));simp -implicitDefEqProofs [go_sem, ak (hc2 _), hil, w1];refine ac.condF rfl ?_;refine ab ?_;simp -implicitDefEqProofs [go_sem];refine aa (aa (az [] [] (.s 0 .pl <| .s 1 .pl <| .s 2 .pl <| .s 3 .pl <| .s 4 .pl <| .s 5 .pl <| .s 6 .pl <| .s 7 .pl <| .s 8 .pl <| .s 9 .pl <| .n) ?_));simp -implicitDefEqProofs [go_sem, ak (hc2 _), ak (hb2 _), hq1, hav];refine ⟨by omega, ac.condF rfl ?_⟩;refine ab ?_;simp -implicitDefEqProofs [go_sem];refine az [] [9] (.s 0 .pl <| .s 1 .pl <| .s 2 .pl <| .s 3 .pl <| .s 4 .pl <| .s 5 .pl <| .s 6 .pl <| .s 7 .pl <| .s 8 .pl <| .s 9 .st <| .n) ?_;simp -implicitDefEqProofs [go_sem, ak (hc2 _), ak (hb2 _), hq1];refine ⟨by omega, by omega, ?_⟩;refine aa (ab ?_);simp -implicitDefEqProofs [go_sem];refine ab ?_;simp -implicitDefEqProofs [go_sem];have hcb : b ≠ c := by omega
 have hvs : V.set k0 v = V := by
  obtain ⟨q1, q2⟩ := List.getElem?_eq_some_iff.1 hk;rw [<- q2, set_getElem_self]
 refine ao.self ⟨rfl, ⟨v, .bsa b (q + 1) 1, hk, ?_, .inr ⟨b, hjb, by rw [e3], ?_⟩⟩, rfl, fun _ _ => rfl, fun d hd hdc => ?_, by simp⟩
 · rw [getElem?_set_ne hcb, hc2, hiss]
 · rw [getElem?_set_self (by simp; omega), hst, <- MU _ _ _ hq1]
 · rw [getElem?_set_ne (by omega), getElem?_append_left (by omega)]
structure jC (h : ie) (m : Nat) : Prop where
 sz : aN h.sizes = 0
 fs : ∀ w ∈ h.ws, aS h.sizes w = 0
 dl : ∀ w ∈ h.ws, w.data.length <= 1000000
 wl : h.ws.length = (m + 1) / 2
 ev : h.evs = iL m
 ml : m <= 1000
theorem jC.sl {h : ie} {m : Nat} (q : jC h m) : h.sizes.length <= 1000000 := by
 have := (dj q.sz).2.1;omega
theorem jC.im {h : ie} {m : Nat} (q : jC h m) : (bo h.sizes).length <= 1000000000 /\ ∀ v ∈ bo h.sizes, v.length <= 1000000000 := jj q.sz (cI q.sz)
theorem jC.fi {h : ie} {m : Nat} (q : jC h m) {w : Wr} (hw : w ∈ h.ws) : gc (bo h.sizes) w = 0 := by
 rw [gc, if_neg (by rw [cI q.sz]; simp [q.sz]), cI q.sz, q.fs w hw]
@[go_sem] theorem UI (x : Int × Int) : (bl x).take 2 = bl x := rfl
@[go_sem] theorem UJ (x : Int × Int) : (bl x).drop 2 = [] := rfl
@[go_sem] theorem ada (h : ie) (a b : CV) : gI h ++ [a, b] = G5 h a b := rfl
abbrev aI : CV := .v (.slice none 0 0)
theorem mJ (H : Hp) (V : List Nat) (h : ie) (m : Nat) (hh : jC h m) : CC Tryz.prog 65 [.agg (gI h)] H V (Pu (.tup [.agg (dv h (eI m) (ee m)), er 0]) H V) := by
 refine aj Tryz.func65 rfl fun hok oH => ?_;clear hok;have hsl := hh.sl;have him := hh.im;have hwl := hh.wl;have hml := hh.ml;have hel : h.evs.length = m := by rw [hh.ev, cJ]
 refine aa (ab ?_);simp -implicitDefEqProofs [go_sem, ai];refine aa (ab ?_);simp -implicitDefEqProofs [go_sem];refine aa (ab ?_);simp -implicitDefEqProofs [go_sem];refine ah (md _ _ .sh h.sizes (by omega)) ?_;rw [hh.sz, if_neg (by simp)];simp -implicitDefEqProofs [go_sem];refine aa (aa (ab ?_));simp -implicitDefEqProofs [go_sem];refine ab ?_;simp -implicitDefEqProofs [go_sem];refine aa (aa (ab ?_));have hw4 : ¬ 4096 < h.ws.length := by omega
 have hw4' : ¬ 4096 < (h.ws.length : Int) := by omega
 simp -implicitDefEqProofs [go_sem, hw4, hw4'];refine ab ?_;simp -implicitDefEqProofs [go_sem];refine am (α := Unit) (fun _ => ([(1, .ptr H.length 0), (2, .ptr (H.length + 1) 0), (4, .ptr (H.length + 2) 0), (3, ci 0)], H ++ [some (gI h), some [aI, aI, aI, aI, aI], some (G5 h aI aI)], V)) (fun _ => True) ?_ ?_
 · refine aa (ab ?_)
   simp -implicitDefEqProofs [go_sem];refine af ?_;refine al (α := Nat) (fun i => ([(1, .ptr H.length 0), (2, .ptr (H.length + 1) 0), (4, .ptr (H.length + 2) 0), (3, ci 0), (5, F9 (bo h.sizes)), (31, .sl .sh 3 (h.ws.map bq)), (32, ci h.ws.length), (33, ci i)], H ++ [some (gI h), some [aI, aI, aI, aI, aI], some (G5 h aI aI)], V)) (fun i => i <= h.ws.length) (fun i => h.ws.length - i) 0 (zero_le _) (ae (by simp [go_sem]) rfl rfl) ?_;intro i hi;dsimp only;refine aa (ab ?_);simp -implicitDefEqProofs [go_sem];refine aa (ab ?_)
   by_cases h0 : i < h.ws.length
   case neg =>
    simp -implicitDefEqProofs [go_sem, h0];exact ae (by simp [go_sem]) rfl rfl
   have hmem := getElem_mem h0;have hfi := hh.fi hmem;have hdl := hh.dl _ hmem;have wi : IntKind.i64.wrap ((i : Int) + 1) = (i : Int) + 1 := aq (show i <= 1000000000 by omega);simp -implicitDefEqProofs [go_sem, h0];refine aa (af (aa (ab ?_)));simp -implicitDefEqProofs [go_sem, h0];refine aa (ab ?_);simp -implicitDefEqProofs [go_sem];refine ah (pj _ _ .sh (bo h.sizes) h.ws[i] him.1 him.2 (by omega)) ?_;rw [hfi];simp -implicitDefEqProofs [go_sem];refine aa (ab ?_);simp -implicitDefEqProofs [go_sem];refine ab ?_;simp -implicitDefEqProofs [go_sem];refine ab ?_;simp -implicitDefEqProofs [go_sem, wi];refine ⟨i + 1, by omega, by omega, ?_⟩;refine Sh.trim (L := [some (gI h), some [aI, aI, aI, aI, aI], some (G5 h aI aI)]) (by simp [go_sem]) (by simp [go_sem, cQ, gH]) oH (by simp [go_sem, okL, aK, okL_hiC, aR, cQ, dq]) (by simp) (by simp) (by simp)
 rintro _ -;dsimp only;have e0 : RZ (H.length + 2) (H.length + 3) V.length h 0 (H ++ [some (gI h), some [aI, aI, aI, aI, aI], some (G5 h (.sl (.own V.length 0) 1 []) aI)]) (V ++ [0]) := ⟨0, aI, fL _ _, aC H _ 2, .inl ⟨rfl, rfl⟩⟩
 refine am (α := Hp × List Nat) (fun x => ([(1, .ptr H.length 0), (2, .ptr (H.length + 1) 0), (4, .ptr (H.length + 2) 0), (3, ci 0)], x.1, x.2)) (fun x => RZ (H.length + 2) (H.length + 3) V.length h m x.1 x.2 /\ x.2.take V.length = V /\ x.1.take (H.length + 2) = H ++ [some (gI h), some [aI, aI, aI, aI, aI]]) ?_ ?_
 · refine aa (ab ?_)
   simp -implicitDefEqProofs [go_sem];refine af ?_;refine al (α := Nat × Hp × List Nat) (fun x => ([(1, .ptr H.length 0), (2, .ptr (H.length + 1) 0), (4, .ptr (H.length + 2) 0), (3, ci 0), (46, .sl .sh 2 (h.evs.map bl)), (47, ci m), (48, ci x.1)], x.2.1, x.2.2))
    (fun x => x.1 <= m /\ RZ (H.length + 2) (H.length + 3) V.length h x.1 x.2.1 x.2.2 /\ x.2.2.take V.length = V /\ x.2.1.take (H.length + 2) = H ++ [some (gI h), some [aI, aI, aI, aI, aI]]) (fun x => m - x.1)
    (0, H ++ [some (gI h), some [aI, aI, aI, aI, aI], some (G5 h (.sl (.own V.length 0) 1 []) aI)], V ++ [0]) ⟨zero_le _, e0, by simp, by simp⟩ (Sh.tokL (b := H.length + 2) (ds := G5 h (.sl (.own V.length 0) 1 []) aI) (aC _ _ 2) (by simp [go_sem]) (by simp [CV.isObj]) (by simp [go_sem, hel]) (by simp) rfl) ?_
   rintro ⟨i, G, W⟩ ⟨hi, hs, hW, hG⟩;dsimp only at hi hs hW hG ⊢;refine aa (ab ?_);simp -implicitDefEqProofs [go_sem];refine aa (ab ?_)
   by_cases h0 : i < m
   case neg =>
    obtain rfl : i = m := by omega
    simp -implicitDefEqProofs [go_sem];exact ⟨G, W, ⟨hs, hW, hG⟩, ae (by simp [go_sem]) rfl rfl⟩
   have hie : i < h.evs.length := by omega
   obtain ⟨x, hx⟩ : ∃ x : Int × Int, x = (((i % 2 : Nat) : Int), ((i / 2 : Nat) : Int)) := ⟨_, rfl⟩
   have hev : ∀ (p : i < h.evs.length), h.evs[i] = x := fun p => by
    rw [hx];have := qJ m i (by rw [cJ]; omega);rw [<- this]
    congr 1
    exact hh.ev
   have wi : IntKind.i64.wrap ((i : Int) + 1) = (i : Int) + 1 := aq (show i <= 1000000000 by omega);have hGl : H.length + 2 <= G.length := by
    have := congrArg List.length hG;simp at this; omega
   simp -implicitDefEqProofs [go_sem, h0];refine aa (af (aa (ab ?_)));simp -implicitDefEqProofs [go_sem, hie, hev];refine aa (ab ?_);simp -implicitDefEqProofs [go_sem];obtain ⟨v, ack, hk, hc, hack⟩ := hs;have hcl := (List.getElem?_eq_some_iff.1 hc).1;have hs' : RZ (H.length + 2) (H.length + 3) V.length h i (G ++ [some (bl x)]) W := by
    refine ⟨v, ack, hk, by rw [getElem?_append_left hcl]; exact hc, ?_⟩;rcases hack with h | ⟨b, h1, h2, h3⟩
    · exact .inl h
    · exact .inr ⟨b, h1, h2, by rw [getElem?_append_left (List.getElem?_eq_some_iff.1 h3).1]; exact h3⟩
   have hcc : CC Tryz.prog 119 [.ptr (H.length + 2) 0, ci i, .agg (bl x)] (G ++ [some (bl x)]) W (fun r H' V' => r = er 0 /\ EvN (H.length + 2) (H.length + 3) V.length h i (G ++ [some (bl x)]) W H' V') := by
    subst hx;rcases Nat.mod_two_eq_zero_or_one i with h2 | h2
    · exact QA _ _ _ _ _ h i (by omega) (by simp; omega) h2 (by omega) (by omega) hs'
    · exact QB _ _ _ _ _ h i (by omega) (by simp; omega) h2 (by omega) hs'
   refine CC.mono hcc ?_;rintro _ G' W' ⟨rfl, q1, q2, q3, q4, q5⟩;simp -implicitDefEqProofs [go_sem];refine aa (ab ?_);simp -implicitDefEqProofs [go_sem];refine ab ?_;simp -implicitDefEqProofs [go_sem];refine ab ?_;simp -implicitDefEqProofs [go_sem, wi];refine ⟨i + 1, G', W', ⟨by omega, q1, ?_, ?_⟩, by omega, ae (by simp [go_sem, wi]) rfl rfl⟩
   · refine Eq.trans ?_ hW
     refine ext_getElem? fun d => ?_;rw [getElem?_take, getElem?_take]
     split
     · exact q3 d (by omega)
     · rfl
   · refine Eq.trans ?_ hG
     refine ext_getElem? fun d => ?_;rw [getElem?_take, getElem?_take]
     split
     · rw [q4 d (by omega) (by omega), getElem?_append_left (by omega)]
     · rfl
 rintro ⟨G, W⟩ ⟨hs, hW, hG⟩;dsimp only at hs hW hG ⊢;obtain ⟨v, ack, hk, hc, hack⟩ := hs;have hil := qp m;have hGl := (List.getElem?_eq_some_iff.1 hc).1;have hG0 : G[H.length]? = some (some (gI h)) := rQ (n := 2) hG 0 (by decide);have hG1 : G[H.length + 1]? = some (some [aI, aI, aI, aI, aI]) := rQ hG 1 (by decide);have hGH : G.take H.length = H := by
  have := congrArg (List.take H.length) hG
  rwa [take_take, Nat.min_eq_left (by omega), take_left] at this
 refine aa (aa (ab ?_));simp -implicitDefEqProofs [go_sem, ak hc, ak hG0, hil, hwl];refine ab ?_;simp -implicitDefEqProofs [go_sem];have hGs : ∀ (Q : List CV) (K : List CV -> Prop), dN (G.set (H.length + 1) (some Q)) (H.length + 1) K = K Q := fun Q K => ak (getElem?_set_self (by omega)) K;have hGt : ∀ (Q : List CV), (G.set (H.length + 1) (some Q)).take H.length = H := fun Q => by rw [take_set_of_le (by omega)]; exact hGH
 rcases hack with ⟨rfl, rfl⟩ | ⟨b, hjb, rfl, hb⟩
 · refine ab ?_
   simp -implicitDefEqProofs [go_sem, ak hc, ak hG1];rw [hGs];refine ⟨by simp, ?_⟩;refine ao.pu (r0 := .tup [.agg (dv h (eI 0) (ee 0)), er 0]) (.tup (.cons (.agg ?_) (.cons (.refl _) .nil))) (by simp [go_sem, okL_chkC]) oH (hGt _) hW;exact .cons (.refl _) (.cons (.refl _) (.cons (.refl _) (.cons (.sh _ _ _) (.cons (.nil 1 (by decide)) .nil))))
 · refine ab ?_
   simp -implicitDefEqProofs [go_sem, ak hc, ak hG1];rw [hGs];refine ⟨by simp, ?_⟩;have hal := ib m;refine ao.frozG (b := b) (cs := (ee m).map ci) (r1 := .tup [.agg [.sl .sh 1 (h.sizes.map ic), .sl .sh 3 (h.ws.map bq), .sl .sh 2 (h.evs.map bl), .sl .sh 1 ((eI m).map ic), .bsl b 0 ((m + 1) / 2) 1], er 0]) (r2 := .tup [.agg (dv h (eI m) (ee m)), er 0]) ⟨rfl, rfl, rfl⟩ ?_ ?_ ?_ (by omega) (by simp [go_sem, okL_chkC]) oH (hGt _) hW
   · exact .tup (.cons (.agg (.cons (.refl _) (.cons (.refl _) (.cons (.refl _) (.cons (.sh _ _ _) (.cons (.bsa _ _ _) .nil)))))) (.cons (.refl _) .nil))
   · rw [getElem?_set_ne (by omega)]; exact hb
   · have := Fz.bsl (b := b) (cs := (ee m).map ci) 0 ((m + 1) / 2) 1 (by simp; omega)
     rw [drop_zero, <- hal, <- length_map (f := ci), qT, map_map] at this;refine .tup (.cons (.agg (.cons (.refl _) (.cons (.refl _) (.cons (.refl _) (.cons (.refl _) (.cons ?_ .nil)))))) (.cons (.refl _) .nil));rw [<- hal, <- length_map (f := ci)];exact this
@[go_sem] theorem YF (h : ie) (i a : List Int) : (dv h i a).take 3 = gI h := rfl
theorem CK (H : Hp) (V : List Nat) (h : ie) (m : Nat) (hh : jC h m) : CC Tryz.prog 114 [.agg (gI h)] H V (Pu (er 0) H V) := by
 refine aj Tryz.func114 rfl fun hok oH => ?_;clear hok;refine aa (ab ?_);simp [go_sem, ai];refine aa (ab ?_);simp [go_sem];refine ah (mJ _ _ h m hh) ?_;simp [go_sem];refine ab ?_;simp [go_sem];exact ao.er rfl oH (by simp) (by simp)
theorem LJ (H : Hp) (V : List Nat) (h : ie) (m : Nat) (hh : jC h m) : CC Tryz.prog 54 [.agg (gI h), ci m] H V (Pu (.sl .sh 1 ((bT (m / 2)).map ic)) H V) := by
 refine aj Tryz.func54 rfl fun hok oH => ?_;clear hok;have hml := hh.ml;refine aa (ab ?_);simp -implicitDefEqProofs [go_sem, ai];refine aa (ab ?_);simp -implicitDefEqProofs [go_sem];refine ah (mJ _ _ h m hh) ?_;simp -implicitDefEqProofs [go_sem];refine aa (aa (ab ?_));simp -implicitDefEqProofs [go_sem];refine ab ?_;simp -implicitDefEqProofs [go_sem];refine aa (ab ?_);simp -implicitDefEqProofs [go_sem];obtain ⟨q, hq⟩ : ∃ q, (m + 1) / 2 = q := ⟨_, rfl⟩
 have hal : (ee m).length = q := by rw [ib]; exact hq
 have hgt := m9 m;generalize ee m = A at hal hgt ⊢;refine am (α := Nat) (fun v => ([(7, .sl (.own V.length v) 1 ((bT (m / 2)).map ic))], H ++ [some (gI h), some (dv h (eI m) A)], V ++ [v])) (fun _ => True) ?_ ?_
 · refine aa (ab ?_)
   simp -implicitDefEqProofs [go_sem, hal];refine af ?_;refine al (α := Nat × Nat) (fun x => ([(1, ci m), (7, .sl (.own V.length x.2) 1 ((bT (min x.1 (m / 2))).map ic)), (19, .sl .sh 1 (A.map ic)), (20, ci q), (21, ci x.1)], H ++ [some (gI h), some (dv h (eI m) A)], V ++ [x.2])) (fun x => x.1 <= q) (fun x => q - x.1) (0, 0) (zero_le _) (Sh.tokT (by simp [go_sem, bT]) rfl rfl) ?_;rintro ⟨i, v⟩ hi;dsimp only at hi ⊢;refine aa (ab ?_);simp -implicitDefEqProofs [go_sem];refine aa (ab ?_)
   by_cases h0 : i < q
   case neg =>
    obtain rfl : i = q := by omega
    have e : min i (m / 2) = m / 2 := by omega
    simp -implicitDefEqProofs [go_sem];exact ⟨v, ae (by simp [go_sem, e]) rfl rfl⟩
   have hiA : i < A.length := by omega
   have hg := hgt i hiA;have wi : IntKind.i64.wrap ((i : Int) + 1) = (i : Int) + 1 := aq (show i <= 1000000000 by omega);have hfl := fp (min i (m / 2));simp -implicitDefEqProofs [go_sem, h0];refine aa (af (aa (ab ?_)));simp -implicitDefEqProofs [go_sem, hiA];refine aa (ab ?_)
   by_cases h1 : 2 * i + 1 < m
   · rw [II, if_pos h1] at hg
     obtain ⟨a, ha⟩ : ∃ a : Int, a = ((2 * i + 1 : Nat) : Int) := ⟨_, rfl⟩
     rw [<- ha] at hg;have a0 : 0 <= a := by omega
     have a1 : a < (m : Int) := by omega
     have e1 : min i (m / 2) = i := by omega
     have e2 : min (i + 1) (m / 2) = i + 1 := by omega
     rw [e1] at hfl ⊢;simp -implicitDefEqProofs [go_sem, hg, a0, a1];refine ab ?_;simp -implicitDefEqProofs [go_sem, hfl];refine ⟨by omega, ?_⟩;refine ab ?_;simp -implicitDefEqProofs [go_sem, wi];refine ⟨i + 1, by omega, by omega, v + 1, ae ?_ rfl (by simp)⟩;rw [e2, sy, map_append];simp [go_sem];exact .refl _
   · rw [II, if_neg h1] at hg
     have e1 : min i (m / 2) = min (i + 1) (m / 2) := by omega
     simp -implicitDefEqProofs [go_sem, hg];refine ab ?_;simp -implicitDefEqProofs [go_sem];refine ab ?_;simp -implicitDefEqProofs [go_sem, wi];refine ⟨i + 1, by omega, by omega, v, ae ?_ rfl rfl⟩;rw [<- e1];simp [go_sem]
 rintro v -;dsimp only;refine aa (ab ?_);simp -implicitDefEqProofs [go_sem];refine ab ?_;simp -implicitDefEqProofs [go_sem];exact ao.pu (.sh _ _ _) (by simp [go_sem, aR]) oH (by simp) (by simp)
theorem lS (H : Hp) (V : List Nat) (h : ie) (iss ack : List Int) (l : List Int) : CC Tryz.prog 67 [.agg (dv h iss ack), .sl .sh 1 (l.map ic)] H V (fun r H' V' => r = .fn 120 [.ptr (H.length + 1) 0, .ptr H.length 0] /\ H' = H ++ [some (dv h iss ack), some [.sl .sh 1 (l.map ic)]] /\ V = V') := by
 refine aj Tryz.func67 rfl fun hok oH => ?_;clear hok;refine aa (ab ?_);simp [go_sem, ai];refine ab ?_;simp [go_sem];refine ao.cut (H.length + 2) V.length ⟨rfl, rfl, rfl⟩ (by omega) (le_refl _) (take_of_length_le (by simp)) (take_of_length_le (le_refl _)) (.refl _) (by simp [go_sem]) ?_;intro b cs hb;rw [getElem?_append] at hb
 split at hb
 · exact aO (by omega) (le_refl _) (oH b cs hb)
 · exact cK (i := H.length + 2) (j := V.length) (L := [some (dv h iss ack), some [.sl .sh 1 (l.map ic)]]) (by simp [go_sem, okL, aK, okL_chkC, aR]) _ _ hb
theorem tD (H : Hp) (V : List Nat) (L b1 b2 : Nat) (h : ie) (iss ack : List Int) (n : Nat) (hn : n = h.ws.length) (hnl : n <= 1000000) (hb1 : H[b1]? = some (some [.sl .sh 1 ((bT n).map ic)])) (hb2 : H[b2]? = some (some (dv h iss ack)))
 (I : Nat -> Hp -> List Nat -> Prop) (h0 : I 0 H V)
 (hI : ∀ i G V', I i G V' -> G.length = H.length /\ G[b1]? = some (some [.sl .sh 1 ((bT n).map ic)]) /\ G[b2]? = some (some (dv h iss ack)))
 (hy : ∀ i (hi : i < h.ws.length), ∀ G V' W, I i G V' -> YC Tryz.prog L [ci i, .agg (bq h.ws[i])] (G ++ W) V' (fun r H2 V2 => r = .v (.bool true) /\ ∃ G' W', I (i + 1) G' V2 /\ H2 = G' ++ (W ++ W'))) :
 CC Tryz.prog 120 [.yl L, .ptr b1 0, .ptr b2 0] H V (fun _ H' V' => ∃ G W, I n G V' /\ H' = G ++ W) := by
 have lt1 := (List.getElem?_eq_some_iff.1 hb1).1;have lt2 := (List.getElem?_eq_some_iff.1 hb2).1;have hfl := fp n;refine aj Tryz.func120 rfl fun hok oH => ?_;clear hok;refine aa (ab ?_);simp -implicitDefEqProofs [go_sem, ai, ak hb1, hfl];refine af ?_;refine al (α := Nat × Hp × Hp × List Nat) (fun x => ([(0, .yl L), (1, .ptr b1 0), (2, .ptr b2 0), (6, .sl .sh 1 ((bT n).map ic)), (7, ci n), (8, ci x.1)], x.2.1 ++ x.2.2.1, x.2.2.2)) (fun x => x.1 <= n /\ I x.1 x.2.1 x.2.2.2) (fun x => n - x.1) (0, H, [], V) ⟨zero_le _, h0⟩ (ae (by simp [go_sem]) (by simp) rfl) ?_;rintro ⟨i, G, W, V1⟩ ⟨hi, hi1⟩;dsimp only at hi hi1 ⊢;obtain ⟨g0, g1, g2⟩ := hI _ _ _ hi1;refine aa (ab ?_);simp -implicitDefEqProofs [go_sem];refine aa (ab ?_)
 by_cases hin : i < n
 case neg =>
  obtain rfl : i = n := by omega
  simp -implicitDefEqProofs [go_sem];exact ao.self ⟨G, hi1, W, rfl⟩
 have hK1 : (G ++ W)[b1]? = some (some [.sl .sh 1 ((bT n).map ic)]) := by rw [getElem?_append_left (by omega)]; exact g1
 have hK2 : (G ++ W)[b2]? = some (some (dv h iss ack)) := by rw [getElem?_append_left (by omega)]; exact g2
 have hif : i < (bT n).length := by omega
 have hiw : i < h.ws.length := by omega
 have hgi : ∀ (p : i < (bT n).length), (bT n)[i] = (i : Int) := fun p => by simp [bT]
 have wi : IntKind.i64.wrap ((i : Int) + 1) = (i : Int) + 1 := aq (show i <= 1000000000 by omega);have hyy := hy i hiw G V1 W hi1;simp -implicitDefEqProofs [go_sem, hin];refine aa (af (aa (ab ?_)));simp -implicitDefEqProofs [go_sem, hif, hgi];refine aa (ab ?_);simp -implicitDefEqProofs [go_sem, ak hK2, hiw];refine YC.mono hyy ?_;rintro _ _ V2 ⟨rfl, G', W', hQ, rfl⟩;simp -implicitDefEqProofs [go_sem];refine ab ?_;simp -implicitDefEqProofs [go_sem];refine ab ?_;simp -implicitDefEqProofs [go_sem, wi];refine ⟨i + 1, G', W ++ W', V2, ⟨by omega, hQ⟩, by omega, ae ?_ rfl rfl⟩;simp [go_sem, wi]
end Go.Proofs.YtfflhepmkhlppaaGreatDoor
