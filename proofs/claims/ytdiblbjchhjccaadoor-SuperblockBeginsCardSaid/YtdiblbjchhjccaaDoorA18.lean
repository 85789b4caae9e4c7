import Derived.Test.YtdiblbjchhjccaaDoorA16
import Derived.Shelf.SortM.Plain
import Derived.Shelf.SortM.SortNone
set_option linter.unusedSimpArgs false
set_option linter.unusedVariables false
set_option linter.unusedSectionVars false
namespace Go.Proofs.YtdiblbjchhjccaaDoor
open Go.Proofs Go.Shelf Go.Sort
def sortRen : Go.Shelf.Ren := ⟨fun | 5 => 63 | 8 => 71 | 7 => 70 | 19 => 84 | 20 => 85 | 10 => 75 | 11 => 76 | 12 => 77 | 13 => 78 | 14 => 79 | 15 => 80 | 16 => 81 | 17 => 82 | 18 => 83 | 30 => 88 | 31 => 89 | 32 => 90 | 33 => 91 | 34 => 92 | 35 => 93 | 40 => 95 | n => n, fun | 23 => 52 | 25 => 3 | 3 => 3 | 32 => 96 | 22 => 52 | 0 => 0 | 44 => 74 | 46 => 155 | 4 => 4 | 36 => 146 | 35 => 145 | 41 => 151 | 5 => 5 | 9 => 9 | 53 => 156 | 57 => 160 | 63 => 162 | 64 => 163 | n => n, fun | n => n⟩
theorem sortLay : SlLaysM.n5 Tryd.prog sortRen := {
  mixed := by kernel_rfl
  f5 := ⟨Tryd.f63.name, by decide, Tryd.func63.trans (congrArg some (by kernel_rfl))⟩
  f7 := ⟨Tryd.f70.name, by decide, Tryd.func70.trans (congrArg some (by kernel_rfl))⟩
  f8 := Tryd.func71.trans (congrArg some (by kernel_rfl))
  f10 := ⟨Tryd.f75.name, by decide, Tryd.func75.trans (congrArg some (by kernel_rfl))⟩
  f11 := ⟨Tryd.f76.name, by decide, Tryd.func76.trans (congrArg some (by kernel_rfl))⟩
  f12 := ⟨Tryd.f77.name, by decide, Tryd.func77.trans (congrArg some (by kernel_rfl))⟩
  f13 := ⟨Tryd.f78.name, by decide, Tryd.func78.trans (congrArg some (by kernel_rfl))⟩
  f14 := ⟨Tryd.f79.name, by decide, Tryd.func79.trans (congrArg some (by kernel_rfl))⟩
  f15 := ⟨Tryd.f80.name, by decide, Tryd.func80.trans (congrArg some (by kernel_rfl))⟩
  f16 := ⟨Tryd.f81.name, by decide, Tryd.func81.trans (congrArg some (by kernel_rfl))⟩
  f17 := ⟨Tryd.f82.name, by decide, Tryd.func82.trans (congrArg some (by kernel_rfl))⟩
  f18 := ⟨Tryd.f83.name, by decide, Tryd.func83.trans (congrArg some (by kernel_rfl))⟩
  f19 := Tryd.func84.trans (congrArg some (by kernel_rfl))
  f20 := Tryd.func85.trans (congrArg some (by kernel_rfl))
  f30 := ⟨Tryd.f88.name, by decide, Tryd.func88.trans (congrArg some (by kernel_rfl))⟩
  f31 := Tryd.func89.trans (congrArg some (by kernel_rfl))
  f32 := Tryd.func90.trans (congrArg some (by kernel_rfl))
  f33 := ⟨Tryd.f91.name, by decide, Tryd.func91.trans (congrArg some (by kernel_rfl))⟩
  f34 := ⟨Tryd.f92.name, by decide, Tryd.func92.trans (congrArg some (by kernel_rfl))⟩
  f35 := ⟨Tryd.f93.name, by decide, Tryd.func93.trans (congrArg some (by kernel_rfl))⟩
  f40 := ⟨Tryd.f95.name, by decide, Tryd.func95.trans (congrArg some (by kernel_rfl))⟩
  t0 := Tryd.underlying0
  a0 := Tryd.isAgg0
  z0 := Tryd.sizeOf0
  v0 := Tryd.zeroValue0
  t3 := Tryd.underlying3
  a3 := Tryd.isAgg3
  z3 := Tryd.sizeOf3
  v3 := Tryd.zeroValue3
  t4 := Tryd.underlying4
  a4 := Tryd.isAgg4
  z4 := Tryd.sizeOf4
  v4 := Tryd.zeroValue4
  t5 := Tryd.underlying5
  a5 := Tryd.isAgg5
  z5 := Tryd.sizeOf5
  v5 := Tryd.zeroValue5
  t9 := Tryd.underlying9
  a9 := Tryd.isAgg9
  z9 := Tryd.sizeOf9
  v9 := Tryd.zeroValue9
  t22 := Tryd.underlying52
  a22 := Tryd.isAgg52
  z22 := Tryd.sizeOf52
  v22 := Tryd.zeroValue52
  t23 := Tryd.underlying52
  a23 := Tryd.isAgg52
  z23 := Tryd.sizeOf52
  v23 := Tryd.zeroValue52
  t25 := Tryd.underlying3
  a25 := Tryd.isAgg3
  z25 := Tryd.sizeOf3
  v25 := Tryd.zeroValue3
  t32 := Tryd.underlying96
  a32 := Tryd.isAgg96
  z32 := Tryd.sizeOf96
  v32 := Tryd.zeroValue96
  t35 := Tryd.underlying145
  a35 := Tryd.isAgg145
  z35 := Tryd.sizeOf145
  v35 := Tryd.zeroValue145
  t36 := Tryd.underlying146
  a36 := Tryd.isAgg146
  z36 := Tryd.sizeOf146
  v36 := Tryd.zeroValue146
  t41 := Tryd.underlying151
  a41 := Tryd.isAgg151
  z41 := Tryd.sizeOf151
  v41 := Tryd.zeroValue151
  t44 := Tryd.underlying74
  a44 := Tryd.isAgg74
  z44 := Tryd.sizeOf74
  v44 := Tryd.zeroValue74
  t46 := Tryd.underlying155
  a46 := Tryd.isAgg155
  z46 := Tryd.sizeOf155
  v46 := Tryd.zeroValue155
  t53 := Tryd.underlying156
  a53 := Tryd.isAgg156
  z53 := Tryd.sizeOf156
  v53 := Tryd.zeroValue156
  t57 := Tryd.underlying160
  a57 := Tryd.isAgg160
  z57 := Tryd.sizeOf160
  v57 := Tryd.zeroValue160
  t63 := Tryd.underlying162
  a63 := Tryd.isAgg162
  z63 := Tryd.sizeOf162
  v63 := Tryd.zeroValue162
  t64 := Tryd.underlying163
  a64 := Tryd.isAgg163
  z64 := Tryd.sizeOf163
  v64 := Tryd.zeroValue163 }

/-- More objects behind, and all else as it was. -/
theorem Inv.more {m : Gh} {w w' : World} {H : List (Option (List CV))} {V : List Nat} (hi : Inv m w H V) (h1 : w'.os = w.os) (h2 : w'.tape = w.tape) (h3 : w'.output = w.output) (h4 : w.heap.size ≤ w'.heap.size) (h5 : ∀ j, j < w.heap.size → w'.heap[j]? = w.heap[j]?) :
    Inv m w' H V ∧ Ext m w V m w' V := by
  have hlt : ∀ {k : Nat} {x : Obj}, w.heap[k]? = some x → w'.heap[k]? = some x := fun h => by
    rw [h5 _ (Array.getElem?_eq_some_iff.1 h).1]; exact h
  have hx : Ext m w V m w' V := by
    refine ⟨h1, h2, h3, h4, fun k c e fr h => ⟨c, hlt h, rfl⟩, fun _ => Nat.le_refl _, fun k o ho => ?_, fun k ds h => hlt h, fun k hk _ _ => h5 k hk, fun _ _ h => h, fun b _ h => .inl ⟨b, h⟩, fun _ _ h => .inl h, fun _ v h => ⟨v, h, Nat.le_refl _, fun _ => ⟨rfl, fun _ _ => rfl⟩⟩⟩
    rcases Nat.lt_or_ge k w.heap.size with h | h
    · exact World.cell?_of_block (w := w) (a := ⟨k, o, none⟩) (h5 k h)
    · rw [hi.lim_new h] at ho; omega
  refine ⟨⟨hi.boxlen, hi.tiplen, fun k hk => ?_, fun t k h => ?_, fun b k h => Nat.lt_of_lt_of_le (hi.boxes b k h) h4, hi.uniq, fun b cs h => (hi.live b cs h).mono hx fun k hk => ⟨h5 k (hi.boxes b k hk), rfl⟩⟩, hx⟩
  · obtain ⟨c, e, fr, q1, q2⟩ := hi.limv k hk
    exact ⟨c, e, fr, hlt q1, q2⟩
  · obtain ⟨⟨c, e, q1⟩, q2, q3⟩ := hi.tips t k h
    exact ⟨⟨c, e, hlt q1⟩, q2, q3⟩
theorem relL_cis (m : Gh) (w : World) (V : List Nat) : ∀ ys : List Int, RelL m w V (ys.map ci) (ys.map (Value.int .i64))
  | [] => by rw [List.map_nil, RelL]; rfl
  | y :: ys => by rw [List.map_cons, RelL]; exact ⟨_, _, rfl, by rw [RelV], relL_cis m w V ys⟩
theorem step_sorted {m : Gh} {w : World} {H : List (Option (List CV))} {V : List Nat} {b k : Nat} {xs ys : List Int} {c : Array Value} {e : TypeId} (hi : Inv m w H V) (hb : H[b]? = some (some (xs.map ci))) (hk : m.box[b]? = some k)
    (hc : w.heap[k]? = some (.cells c e (0, 0))) (hl : ys.length = xs.length) (n : Nat) (os : Array Obj) :
    let w' := grow (putRow (Value.int .i64) (Sort.ahead w n) k 0 ys.toArray) os
    Inv m w' (H.set b (some (ys.map ci))) V ∧ Ext m w V m w' V := by
  intro w'
  have hkl := (Array.getElem?_eq_some_iff.1 hc).1
  have hcl : xs.length ≤ c.size := by
    obtain ⟨c', e', g1, g2, _⟩ := hi.alive hb hk ⟨c, e, _, hc⟩
    rw [hc] at g1; cases g1
    simpa using g2
  obtain ⟨s1, s2⟩ := step_store (o := 0) (us := ys.map (Value.int .i64)) (ds := ys.map ci) hi hb hk hc (relL_cis _ _ _ _) (fun u hu => by obtain ⟨z, _, rfl⟩ := List.mem_map.1 hu; rfl) (by simp; omega)
  have hnew := setRow_heap w k c ((c.toList.take 0 ++ ys.map (Value.int .i64) ++ c.toList.drop (0 + (ys.map (Value.int .i64)).length)).toArray) e (0, 0) hc
  have hoth := fun j hj => setRow_other w k j ((c.toList.take 0 ++ ys.map (Value.int .i64) ++ c.toList.drop (0 + (ys.map (Value.int .i64)).length)).toArray) hj
  have he : H.set b (some ((xs.map ci).take 0 ++ ys.map ci ++ (xs.map ci).drop (0 + (ys.map ci).length))) = H.set b (some (ys.map ci)) := by
    congr 2
    rw [List.drop_of_length_le (by simp; omega)]; simp
  rw [he] at s1
  obtain ⟨t1, t2⟩ := s1.more (w' := w') rfl rfl rfl (by simp [w', grow, World.setRow, putRow, mapBlock, Sort.ahead]) (fun j hj => by
    have hj' : j < w.heap.size := by simpa [World.setRow] using hj
    have hg : w'.heap[j]? = (putRow (Value.int .i64) (Sort.ahead w n) k 0 ys.toArray).heap[j]? := by
      show (_ ++ os)[j]? = _
      rw [Array.getElem?_append_left (by simpa [Sort.ahead] using hj')]
    rw [hg]
    show ((w.heap.modify k _)[j]?) = _
    rw [Array.getElem?_modify]
    by_cases hjk : k = j
    · subst hjk
      rw [if_pos rfl, hc, hnew]
      simp only [Option.map_some, onCells]
      congr 2
      apply Array.ext
      · simp [putCells]; omega
      · intro i h1 h2
        simp only [putCells, Array.getElem_mapIdx, Nat.zero_le, true_and, Nat.zero_add, List.size_toArray, List.getElem_toArray, List.take_zero, List.nil_append, List.length_map, Nat.sub_zero]
        by_cases hi2 : i < ys.length
        · rw [if_pos hi2, List.getElem_append_left (by simpa using hi2), List.getElem_map, getElem!_pos _ i (by simpa using hi2)]
          simp
        · rw [if_neg hi2, List.getElem_append_right (by simp; omega), List.getElem_drop]
          simp only [List.length_map, Array.getElem_toList]
          congr 1; omega
    · rw [if_neg hjk, hoth j (Ne.symm hjk)])
  exact ⟨t1, s2.trans t2⟩
theorem sortOK : SortOK where
  box H V b xs hb hx := by
    refine ⟨⟨Tryd.f63, Tryd.func63, rfl, by kernel_rfl⟩, fun m w us hi hu => ?_⟩
    rw [RelL] at hu
    obtain ⟨u, r, rfl, h1, h2⟩ := hu
    rw [RelL] at h2; subst h2
    rw [RelV] at h1
    obtain ⟨k, cap, c, e, rfl, g1, g2, hk, hc, g3⟩ := h1
    obtain ⟨c', e', q1, q2, q3, q4⟩ := hi.alive hb hk ⟨c, e, _, hc⟩
    rw [hc] at q1; cases q1
    have hH : Holds (Value.int .i64) w k 0 xs.toArray := by
      intro j hj
      have hj' : j < xs.length := by simpa using hj
      obtain ⟨v, a1, a2, _⟩ := relC_get q4 j (ci xs[j]) (by rw [List.getElem?_map, List.getElem?_eq_getElem hj']; rfl)
      rw [RelV] at a2; subst a2
      refine ⟨by rw [a1, getElem!_pos _ j (by simpa using hj')]; simp, ?_⟩
      simp [World.frozen?, hc]
    refine (AnyM.slices_Sort_int sortLay k 0 cap xs w hH (Array.getElem?_eq_some_iff.1 hc).1 (by omega)).mono ?_
    rintro _ _ ⟨rfl, n, os, rfl⟩
    obtain ⟨s1, s2⟩ := step_sorted (ys := xs.mergeSort fun x y => decide (x ≤ y)) hi hb hk hc (by simp) n os
    exact ⟨_, m, .any, _, _, rfl, ⟨_, fun y hy => by simpa using hy, by simp, rfl, rfl⟩, s1, by rw [RelV]; trivial, s2⟩
  none H V := by
    refine ⟨⟨Tryd.f63, Tryd.func63, rfl, by kernel_rfl⟩, fun m w us hi hu => ?_⟩
    rw [RelL] at hu
    obtain ⟨u, r, rfl, h1, h2⟩ := hu
    rw [RelL] at h2; subst h2
    rw [RelV] at h1
    obtain ⟨base, cap, rfl, g1, g2, g3, g4⟩ := h1
    refine (AnyM.slices_Sort_int_none sortLay base cap w).mono ?_
    rintro _ _ ⟨rfl, rfl⟩
    exact ⟨_, m, .any, _, _, rfl, ⟨rfl, rfl⟩, hi, by rw [RelV]; trivial, Ext.refl _ _ _⟩
end Go.Proofs.YtdiblbjchhjccaaDoor
