import Derived.Test.YtfflhepmkhlppaaGreatDoorB3
import Derived.ProofKit
import Derived.OpenShut
import Derived.Below
import Derived.Test.YtfflhepmkhlppaaGreatDoorB7
import Derived.Test.YtfflhepmkhlppaaGreatDoorB10
set_option linter.unusedSimpArgs false
set_option linter.unusedVariables false
set_option linter.unusedSectionVars false
set_option maxRecDepth 8000
set_option maxHeartbeats 4000000
open List (all_append all_cons all_eq_true all_map any_eq_true append_assoc append_nil cons_append contains_iff_mem drop_append_of_le_length drop_drop drop_eq_getElem_cons drop_eq_nil_of_le drop_of_length_le drop_one drop_succ_cons drop_take drop_zero eq_nil_of_length_eq_zero ext_getElem ext_getElem? filter_cons flatMap_append flatMap_cons flatMap_nil flatten_append flatten_cons flatten_nil foldl_append foldl_cons getD_eq_getElem?_getD getElem?_append getElem?_append_left getElem?_append_right getElem?_cons_succ getElem?_cons_zero getElem?_drop getElem?_eq_getElem getElem?_eq_none getElem?_map getElem?_of_mem getElem?_replicate getElem?_set getElem?_set_ne getElem?_set_self getElem?_take getElem?_toArray getElem_drop getElem_map getElem_mem getElem_of_mem getElem_set length_append length_cons length_drop length_eq_zero_iff length_map length_nil length_pos_iff length_range length_replicate length_set length_singleton length_take mapM_cons map_append map_congr_left map_cons map_drop map_map map_nil map_set map_take mem_append mem_append_left mem_cons mem_cons_of_mem mem_cons_self mem_flatten mem_map mem_of_getElem? mem_of_mem_drop mem_of_mem_take mem_range mem_replicate mem_singleton nil_append not_mem_nil prefix_refl range_succ replicate_succ replicate_succ' set_append_left set_append_right set_eq_take_append_cons_drop set_getElem_self set_set size_toArray take_append take_append_drop take_append_of_le_length take_left take_length take_of_length_le take_set_of_le take_succ_cons take_succ_eq_append_getElem take_take take_zero zip_cons_cons)
open Nat (le_refl zero_le)
namespace Go.Proofs.YtfflhepmkhlppaaGreatDoor
open Go.Proofs
section
open Go.RowKit
def uh (w : World) : Gh where
 lim k := match w.heap[k]? with
  | some (.cells c _ _) => c.size
  | _ => 0
 box := []
 tip := []
theorem LM (w : World) : bE (uh w) w [] [] where
 boxlen := rfl
 tiplen := rfl
 limv k h := by
  simp only [uh] at h ⊢
  split at h
  · rename_i c e fr hc
    exact ⟨c, e, fr, hc, by simp⟩
  · omega
 tips := by intro t k h; simp [uh] at h
 boxes := by intro b k h; simp [uh] at h
 uniq := by intro b b' k cs cs' h; simp at h
 live := by intro b cs h; simp at h
theorem LL {w : World} {k o : Nat} {u : Value} (h : w.cell? ⟨k, o, none⟩ = some u) : o < (uh w).lim k := by
 simp only [World.cell?] at h;simp only [uh]
 split at h
 · rename_i c e fr hc
   simp only [hc];simp at h;obtain ⟨h, _⟩ := Array.getElem?_eq_some_iff.1 h;exact h
 · cases h
theorem sr {P : Program} {f : FuncId} {args : Array Value} {W : World} {cs : List CV} {R : CV -> Hp -> List Nat -> Prop} (hrel : av (uh W) W [] cs args.toList) (h : CC P f cs [] [] R)
 (hR : ∀ r H V, R r H V -> r = .v (.bool true)) : Calls P f args W fun e W' => e = .returned (.bool true) /\ Below W.heap.size W W' := by
 have := h.2 (uh W) W args.toList (LM W) hrel;rw [Array.toArray_toList] at this;refine this.mono ?_;rintro e w' ⟨u, m', r, H', V', rfl, hr, _, hu, hx⟩;obtain rfl := hR _ _ _ hr;rw [ag] at hu;subst hu;exact ⟨rfl, hx.os, hx.tape, hx.output, hx.size, fun k hk => hx.same k hk (by simp [uh]) (by simp [uh])⟩
def bI (P : Program) (t : TypeId) (S : List CV -> Prop) : Prop :=
 ∀ (H : Type) (dP : TypeId × Value -> H) (w : World) (base : Nat) (spare : Nat -> Bool) (held : Bool) (fuel : Nat) (us : List Value) (x : DataW H × List MemPlace),
  DataW.trod dP P w base spare held fuel t us = some x -> ∃ cs, S cs /\ av (uh w) w [] cs us /\ ∀ u ∈ us, u.oneCell' = true
theorem kA {m : Gh} {w : World} {V : List Nat} {c : CV} {u : Value} (h : ag m w V c u) : av m w V [c] [u] := by
 rw [av]; exact ⟨u, [], rfl, h, by rw [av]⟩
theorem BC {m : Gh} {w : World} {V : List Nat} {c : CV} {u : Value} (h : av m w V [c] [u]) : ag m w V c u := by
 rw [av] at h; obtain ⟨_, _, h1, h2, _⟩ := h; cases h1; exact h2
theorem uL {m : Gh} {w : World} {V : List Nat} : av m w V [] [] := by rw [av]
theorem mr {m : Gh} {w : World} {V : List Nat} {c : CV} {u : Value} {cs : List CV} {us : List Value} (h : ag m w V c u) (h2 : av m w V cs us) : av m w V (c :: cs) (u :: us) := by
 rw [av]; exact ⟨u, us, rfl, h, h2⟩
variable {P : Program} {t e : TypeId}
theorem bI.int {k : IntKind} (ht : P.underlying t = some (.int k)) : bI P t fun cs => ∃ n, cs = [.v (.int k n)] /\ (Lit.int k n).wf = true := by
 intro H dP w base spare held fuel us x h;obtain ⟨n, rfl, _, hw⟩ := DataW.trod_int ht h;exact ⟨_, ⟨n, rfl, hw⟩, kA (by rw [ag]), by simp [Value.oneCell']⟩
theorem bI.bool (ht : P.underlying t = some .bool) : bI P t fun cs => ∃ b, cs = [.v (.bool b)] := by
 intro H dP w base spare held fuel us x h;obtain ⟨n, rfl, _⟩ := DataW.trod_bool ht h;exact ⟨_, ⟨n, rfl⟩, kA (by rw [ag]), by simp [Value.oneCell']⟩
theorem C5 {w : World} {base : Nat} {a : Addr} {n : Nat} {us : List Value} (h : w.cells? base a n = some us) : us.length = n /\ ∀ j, j < n -> w.cell? (a.add j) = us[j]? := by
 unfold World.cells? at h
 split at h
 · exact ⟨by simpa using mapM_some_length h, fun j hj => mapM_some_get h j j (by simp [hj])⟩
 · cases h
theorem m8 {a : Addr} (ha : a.spot = none) (i : Nat) : a.add i = ⟨a.block, a.off + i, none⟩ := by
 cases a with
 | mk b o s =>
  simp only at ha;subst ha;unfold Addr.add
  split <;> simp_all
theorem bI.slice {sz : Nat} {S : List CV -> Prop} (ht : P.underlying t = some (.slice e)) (hs : P.cellsOf e = sz) (h0 : 0 < sz) (he : bI P e S) :
 bI P t fun cs => ∃ xs, cs = [.sl .sh sz xs] /\ xs.length <= maxLen /\ ∀ x ∈ xs, S x := by
 intro H dP w base spare held fuel us x h;rcases DataW.trod_slice ht h with ⟨rfl, _⟩ | ⟨a, len, cap, elems, rest, n, _, rfl, rfl, hb, hl, hm, aT, hel, hsp, hns⟩
 · refine ⟨_, ⟨[], rfl, by simp, by simp⟩, kA ?_, by simp [Value.oneCell']⟩
   rw [ag];exact ⟨none, 0, rfl, by simp, trivial, h0, .inl rfl⟩
 · have key : ∀ i, i < len -> ∃ (cs : List CV) (vs : List Value), S cs /\ av (uh w) w [] cs vs /\ (∀ u ∈ vs, u.oneCell' = true) /\ vs.length = sz /\ ∀ j, j < sz -> w.cell? ((a.add (i * sz)).add j) = vs[j]? := by
    intro i hi;have h1 := hel i hi;rw [getElem?_eq_getElem (by omega)] at h1;obtain ⟨vs, h2, h3⟩ := Option.bind_eq_some_iff.1 h1;obtain ⟨cs, h4, h5, h6⟩ := he _ dP w base spare held n vs _ h3;rw [hs] at h2;obtain ⟨h7, h8⟩ := C5 h2;exact ⟨cs, vs, h4, h5, h6, h7, h8⟩
   by_cases hz : len = 0
   · subst hz
     refine ⟨_, ⟨[], rfl, by simp, by simp⟩, kA ?_, by simp [Value.oneCell']⟩;rw [ag];exact ⟨some a, cap, rfl, by simp, trivial, h0, .inl rfl⟩
   · have hsp : a.spot = none := by
      obtain ⟨cs, vs, _, _, _, h7, h8⟩ := key 0 (by omega);have h9 := h8 0 h0;rw [getElem?_eq_getElem (by omega)] at h9;have : (a.add (0 * sz)).add 0 = a := by simp [Addr.add]
      rw [this] at h9;simp only [World.cell?] at h9
      split at h9
      · split at h9
        · cases h9
        · rename_i h; simpa using h
      · cases h9
     let g : Nat -> List CV := fun i => if h : i < len then Classical.choose (key i h) else []
     have hg : ∀ i (h : i < len), ∃ (vs : List Value), S (g i) /\ av (uh w) w [] (g i) vs /\ (∀ u ∈ vs, u.oneCell' = true) /\ vs.length = sz /\ ∀ j, j < sz -> w.cell? ((a.add (i * sz)).add j) = vs[j]? := by
      intro i h;have := Classical.choose_spec (key i h);simp only [g, h, dif_pos];exact this
     have cell : ∀ i j, i < len -> j < sz -> ∃ u, w.cell? ⟨a.block, a.off + i * sz + j, none⟩ = some u := by
      intro i j hi hj;obtain ⟨vs, _, _, _, h7, h8⟩ := hg i hi;have h9 := h8 j hj;rw [getElem?_eq_getElem (by omega), m8 hsp, m8 rfl] at h9;exact ⟨_, h9⟩
     refine ⟨_, ⟨(List.range len).map g, rfl, by simp; omega, ?_⟩, kA ?_, by simp [Value.oneCell']⟩
     · intro x hx
       obtain ⟨i, hi, rfl⟩ := mem_map.1 hx;obtain ⟨_, h4, _⟩ := hg i (by simpa using hi);exact h4
     · rw [ag]
       refine ⟨some a, cap, by simp, by simp; omega, trivial, h0, .inr ⟨a.block, a.off, by cases a; simp_all, ?_, mt fun j c hc => ?_⟩⟩
       · obtain ⟨u, hu⟩ := cell (len - 1) (sz - 1) (by omega) (by omega)
         have := LL hu;simp only [length_map, length_range];have h1 : len * sz = (len - 1) * sz + sz := by
          rw [<- Nat.succ_mul]; congr 1; omega
         omega
       · simp only [getElem?_map, Option.map_eq_some_iff] at hc
         obtain ⟨i, hi, rfl⟩ := hc;obtain ⟨hi', hi⟩ := List.getElem?_eq_some_iff.1 hi;simp at hi hi';subst hi;obtain ⟨vs, h4, h5, h6, h7, h8⟩ := hg j hi';have hl := aG h5;refine ⟨by omega, fe fun q c hc => ?_⟩;obtain ⟨u, hu, hv⟩ := dn h5 q c hc;have hq : q < sz := by
          have := (List.getElem?_eq_some_iff.1 hc).1;omega
         have h9 := h8 q hq;rw [hu, m8 hsp, m8 rfl] at h9;exact ⟨u, h9, hv, h6 u (mem_of_getElem? hu)⟩
def n8 (P : Program) (N : Nat) (fs : List Field) (o : Nat) (S : List CV -> Prop) : Prop :=
 ∀ (H : Type) (dP : TypeId × Value -> H) (w : World) (base : Nat) (spare : Nat -> Bool) (held : Bool) (fuel : Nat) (us : List Value), us.length = N →
  (∀ f ∈ fs, ∃ x, DataW.trod dP P w base spare held fuel f.type ((us.drop f.offset).take (P.cellsOf f.type)) = some x) →
  ∃ cs, S cs /\ av (uh w) w [] cs (us.drop o) /\ ∀ u ∈ us.drop o, u.oneCell' = true
theorem n8.nil {N : Nat} : n8 P N [] N fun cs => cs = [] := by
 intro H dP w base spare held fuel us hl h;subst hl;exact ⟨_, rfl, by rw [List.drop_length, av], by simp⟩
theorem n8.cons {N : Nat} {f : Field} {fs : List Field} {o n : Nat} {S S' : List CV -> Prop} (ho : f.offset = o) (hn : P.cellsOf f.type = n) (h1 : bI P f.type S) (h2 : n8 P N fs (o + n) S') :
 n8 P N (f :: fs) o fun cs => ∃ a b, cs = a ++ b /\ S a /\ S' b := by
 intro H dP w base spare held fuel us hl h;obtain ⟨x, hx⟩ := h f (by simp);rw [ho, hn] at hx;obtain ⟨a, ha, ra, oa⟩ := h1 _ dP w base spare held fuel _ _ hx;obtain ⟨b, hb, rb, ob⟩ := h2 _ dP w base spare held fuel us hl fun g hg => h g (mem_cons_of_mem _ hg);have hd : us.drop o = (us.drop o).take n ++ us.drop (o + n) := by
  rw [<- drop_drop, take_append_drop]
 refine ⟨_, ⟨a, b, rfl, ha, hb⟩, ?_, ?_⟩
 · rw [hd]; exact cf ra rb
 · rw [hd]
   intro u hu;rcases mem_append.1 hu with h | h
   · exact oa u h
   · exact ob u h
theorem bI.struct {fs : Array Field} {S : List CV -> Prop} (ht : P.underlying t = some (.struct fs)) {N : Nat} (hN : P.cellsOf t = N) (h : n8 P N fs.toList 0 S) : bI P t S := by
 intro H dP w base spare held fuel us x hx;obtain ⟨xs, n, _, _, hl, hl2, hf⟩ := DataW.trod_struct ht hx;obtain ⟨cs, h1, h2, h3⟩ := h _ dP w base spare held n us (by omega) (by
  intro f hf';obtain ⟨i, hi⟩ := getElem?_of_mem hf';have := hf i f (by simpa using hi);have hi' : i < fs.size := by
   have := (List.getElem?_eq_some_iff.1 hi).1
   simpa using this
  rw [this, getElem?_eq_getElem (by omega)];exact ⟨_, rfl⟩)
 exact ⟨cs, h1, by simpa using h2, by simpa using h3⟩
theorem bI.array {n sz : Nat} {S : List CV -> Prop} (ht : P.underlying t = some (.array n e)) (hs : P.cellsOf e = sz) (hN : P.cellsOf t = n * sz) (he : bI P e S) :
 bI P t fun cs => ∃ xs : List (List CV), cs = xs.flatten /\ xs.length = n /\ ∀ x ∈ xs, S x := by
 intro H dP w base spare held fuel us x hx;obtain ⟨xs, m, _, _, hl, hl2, hf⟩ := DataW.trod_array ht hx;rw [hN] at hl;rw [hs] at hf;have key : ∀ q, q <= n -> ∃ ys : List (List CV), ys.length = q /\ (∀ x ∈ ys, S x) /\ av (uh w) w [] ys.flatten (us.drop ((n - q) * sz)) /\ ∀ u ∈ us.drop ((n - q) * sz), u.oneCell' = true := by
  intro q
  induction q with
  | zero =>
   intro _;refine ⟨[], rfl, by simp, ?_, ?_⟩
   · rw [Nat.sub_zero, drop_of_length_le (by omega), flatten_nil, av]
   · rw [Nat.sub_zero, drop_of_length_le (by omega)]; simp
  | succ q ih =>
   intro hq;obtain ⟨ys, h1, h2, h3, h4⟩ := ih (by omega);have hx := hf (n - (q + 1)) (by omega);rw [getElem?_eq_getElem (by omega)] at hx;obtain ⟨a, ha, ra, oa⟩ := he _ dP w base spare held m _ _ hx;have hd : us.drop ((n - (q + 1)) * sz) = (us.drop ((n - (q + 1)) * sz)).take sz ++ us.drop ((n - q) * sz) := by
    have : (n - q) * sz = (n - (q + 1)) * sz + sz := by
     rw [<- Nat.succ_mul]; congr 1; omega
    rw [this, <- drop_drop, take_append_drop]
   refine ⟨a :: ys, by simp [h1], by simpa using ⟨ha, h2⟩, ?_, ?_⟩
   · rw [hd, flatten_cons]; exact cf ra h3
   · rw [hd]
     intro u hu;rcases mem_append.1 hu with h | h
     · exact oa u h
     · exact h4 u h
 obtain ⟨ys, h1, h2, h3, h4⟩ := key n (le_refl _);rw [Nat.sub_self, Nat.zero_mul, drop_zero] at h3 h4;exact ⟨_, ⟨ys, rfl, h1, h2⟩, h3, h4⟩
theorem bI.mono {S S' : List CV -> Prop} (h : bI P t S) (hs : ∀ cs, S cs -> S' cs) : bI P t S' := by
 intro H dP w base spare held fuel us x hx;obtain ⟨cs, h1, h2, h3⟩ := h _ dP w base spare held fuel us x hx;exact ⟨cs, hs cs h1, h2, h3⟩
variable {H : Type} {dP : TypeId × Value -> H} {w : World} {base : Nat} {spare : Nat -> Bool} {held : Bool}
theorem bI.arg {S : List CV -> Prop} (h : bI P t S) {v : Value} {d : DataW H} {p : List MemPlace} (hv : v.cells.toList = [v]) (hd : DataW.Trod dP P w base spare held t v d p) :
 ∃ c, S [c] /\ ag (uh w) w [] c v := by
 obtain ⟨fuel, hf⟩ := hd;rw [hv] at hf;obtain ⟨cs, h1, h2, _⟩ := h _ dP w base spare held fuel _ _ hf;have := aG h2
 match cs, this with
 | [c], _ => exact ⟨c, h1, BC h2⟩
theorem iJ (hl : laidOutB P = true) {W W' : World} (hb : Below W.heap.size W W') : ∀ {ts : List TypeId} {vs : List Value} {ds : List (DataW H)} {p : List MemPlace},
 (ts.all fun t => P.readableRec t && decide (t < P.types.size)) = true -> DataW.TrodAll dP P W 0 (fun _ => true) true ts vs ds p -> DataW.TrodAll dP P W' 0 (fun b => decide (b < W.heap.size)) true ts vs ds p
 | [], [], [], p, _, h => h
 | t :: ts, v :: vs, d :: ds, p, ht, h => by
  obtain ⟨p, q, h1, h2, rfl⟩ := h;simp only [all_cons, Bool.and_eq_true, decide_eq_true_eq] at ht;refine ⟨p, q, Below.trod hl ht.1.1 ht.1.2 h1 hb ?_, iJ hl hb ht.2 h2, rfl⟩;obtain ⟨m, hm⟩ := h1;exact DataW.trod_lt m _ _ _ hm
 | [], [], _ :: _, _, _, h => h.elim
 | [], _ :: _, _, _, _, h => h.elim
 | _ :: _, [], _, _, _, h => h.elim
 | _ :: _, _ :: _, [], _, _, h => h.elim
end
theorem xM {α : Type} {f : α -> List CV} : ∀ {xs : List (List CV)}, (∀ x ∈ xs, ∃ a, x = f a) -> ∃ ys : List α, xs = ys.map f
 | [], _ => ⟨[], rfl⟩
 | x :: xs, h => by
  obtain ⟨a, rfl⟩ := h x (by simp);obtain ⟨ys, rfl⟩ := xM fun y hy => h y (mem_cons_of_mem _ hy);exact ⟨a :: ys, rfl⟩
theorem k8 : bI Tryz.prog 3 fun cs => ∃ n, cs = ic n :=
 (bI.int Tryz.underlying3).mono fun _ ⟨n, h, _⟩ => ⟨n, h⟩
theorem u0 : bI Tryz.prog 5 fun cs => ∃ b, cs = u8 b :=
 (bI.int Tryz.underlying5).mono fun _ ⟨n, h, hw⟩ => ⟨wH n, by
  simp only [Lit.wf, Bool.and_eq_true, decide_eq_true_eq] at hw;have h1 : 0 <= n := hw.1;have h2 : n <= 255 := hw.2;rw [h, u8, fJ, Int.emod_eq_of_lt h1 (by omega)]⟩
theorem qi {t e sz : Nat} {α : Type} {f : α -> List CV} (ht : Tryz.prog.underlying t = some (.slice e)) (hs : Tryz.prog.cellsOf e = sz) (h0 : 0 < sz) (he : bI Tryz.prog e fun cs => ∃ a, cs = f a) :
 bI Tryz.prog t fun cs => ∃ l : List α, cs = [.sl .sh sz (l.map f)] /\ l.length <= maxLen :=
 (bI.slice ht hs h0 he).mono fun _ ⟨xs, h, hl, hx⟩ => by
  obtain ⟨ys, rfl⟩ := xM hx;exact ⟨ys, h, by simpa using hl⟩
theorem lN : bI Tryz.prog 22 fun cs => ∃ l : List Int, cs = [.sl .sh 1 (l.map ic)] /\ l.length <= 9223372036854775807 := (qi Tryz.underlying22 (by kernel_rfl) (by decide) k8).mono fun _ ⟨l, h, hl⟩ => ⟨l, h, Nat.le_trans hl (by decide)⟩
theorem vE : ∀ l : List UInt8, (l.map u8).flatten = l.map fun b => CV.v (.int .u8 (b.toNat : Int))
 | [] => rfl
 | b :: l => by rw [map_cons, flatten_cons]; exact congrArg (_ :: ·) (vE l)
theorem BK : bI Tryz.prog 66 fun cs => ∃ s : au, cs = aE s :=
 (bI.array (sz := 1) Tryz.underlying66 (by kernel_rfl) (by kernel_rfl) u0).mono fun cs ⟨xs, h, hl, hx⟩ => by
  obtain ⟨l, rfl⟩ := xM hx;refine ⟨⟨l, by simpa using hl⟩, ?_⟩;rw [h]; exact vE l
theorem xm : bI Tryz.prog 29 fun cs => ∃ l : List au, cs = [.sl .sh 8 (l.map aE)] /\ l.length <= maxLen := qi Tryz.underlying29 (by kernel_rfl) (by decide) BK
theorem FB : bI Tryz.prog 31 fun cs => ∃ x, cs = bq x :=
 (bI.struct Tryz.underlying31 (N := 3) (by kernel_rfl) (.cons rfl (n := 1) (by kernel_rfl) k8 (.cons rfl (n := 1) (by kernel_rfl) k8 (.cons rfl (n := 1) (by kernel_rfl) xm .nil)))).mono fun cs h => by
  obtain ⟨_, _, rfl, ⟨a, rfl⟩, _, _, rfl, ⟨b, rfl⟩, _, _, rfl, ⟨c, rfl, _⟩, rfl⟩ := h;exact ⟨⟨a, b, c⟩, rfl⟩
theorem u1 : bI Tryz.prog 4 fun cs => ∃ b, cs = [.v (.bool b)] := bI.bool Tryz.underlying4
theorem BL : bI Tryz.prog 33 fun cs => ∃ x, cs = iP x :=
 (bI.struct Tryz.underlying33 (N := 7) (by kernel_rfl) (.cons rfl (n := 1) (by kernel_rfl) k8 (.cons rfl (n := 3) (by kernel_rfl) FB (.cons rfl (n := 1) (by kernel_rfl) u1 (.cons rfl (n := 1) (by kernel_rfl) u0 (.cons rfl (n := 1) (by kernel_rfl) lN .nil)))))).mono fun cs h => by
  obtain ⟨_, _, rfl, ⟨a, rfl⟩, _, _, rfl, ⟨b, rfl⟩, _, _, rfl, ⟨c, rfl⟩, _, _, rfl, ⟨d, rfl⟩, _, _, rfl, ⟨e, rfl, _⟩, rfl⟩ := h;exact ⟨⟨a, b, c, d, e⟩, rfl⟩
theorem qj : bI Tryz.prog 23 fun cs => ∃ l : List ku, cs = [.sl .sh 7 (l.map iP)] /\ l.length <= 9223372036854775807 := (qi Tryz.underlying23 (by kernel_rfl) (by decide) BL).mono fun cs ⟨l, h, hl⟩ => ⟨l, h, Nat.le_trans hl (by decide)⟩
end Go.Proofs.YtfflhepmkhlppaaGreatDoor
