import Derived.Test.YtdiblbjchhjccaaDoorA2
import Derived.OrdersHeld
set_option linter.unusedSimpArgs false
set_option linter.unusedVariables false
set_option linter.unusedSectionVars false
namespace Go.Proofs.YtdiblbjchhjccaaDoor
/-- What simp is to look at. (So that a congruence always counts as used: else simp would look into what follows.) -/
def mk {α : Type} (x : α) : α := x
def mkp (p : Prop) : Prop := p
/-- What follows, as a constant with its data: simp doesn't look into it. -/
def kc (K : CV → Hp → List Nat → Prop) (H : Hp) (V : List Nat) : CV → Prop := fun c => K c H V
@[go_sem ↓] theorem kc_eq (K : CV → Hp → List Nat → Prop) (H : Hp) (V : List Nat) (c : CV) : kc K H V c = K c H V := rfl
@[go_sem] theorem mk_eq {α : Type} (x : α) : mk x = x := id rfl
@[go_sem] theorem mkp_eq (p : Prop) : mkp p = p := id rfl


def withO {α : Type} : Option α → (α → Prop) → Prop
  | some a, K => K a
  | none, _ => False
theorem withO_eq {α : Type} (o : Option α) (K : α → Prop) : withO o K = ∃ a, o = some a ∧ K a := by
  cases o <;> simp [withO]

def hpick : CV → CV → CV → (CV → Prop) → Prop
  | .v (.bool t), x, y, K => K (cpick t x y)
  | _, _, _, _ => False
/-- The contents of a box. -/
def hbx (H : Hp) (b : Nat) (K : List CV → Prop) : Prop :=
  match H[b]? with
  | some (some cs) => K cs
  | _ => False
theorem hbx_eq (H : Hp) (b : Nat) (K : List CV → Prop) : hbx H b K = ∃ cs, H[b]? = some (some cs) ∧ K cs := by
  unfold hbx
  split
  · rename_i cs h; simp [h]
  · rename_i h
    simp only [eq_iff_iff, false_iff]
    rintro ⟨cs, h1, _⟩
    exact h cs h1
def hload (g : Bool) (n : Nat) : CV → Hp → (CV → Prop) → Prop
  | .ptr b o, H, K => hbx H b fun cs => ld g n cs o K
  | .eptr cs o, _, K => ld g n cs o K
  | _, _, _ => False
def hstore (n : Nat) : CV → CV → Hp → (Hp → Prop) → Prop
  | .ptr b o, y, H, K => hbx H b fun cs => allOne y.cells = true ∧ y.cells.length = n ∧ o + n ≤ cs.length ∧ K (H.set b (some (cs.take o ++ y.cells ++ cs.drop (o + n))))
  | _, _, _, _ => False
def hnil : CV → (CV → Prop) → Prop
  | .ptr b o, K => K (.ptr b o)
  | .eptr cs o, K => K (.eptr cs o)
  | .fn f caps, K => K (.fn f caps)
  | .bm f caps, K => K (.bm f caps)
  | .yl b, K => K (.yl b)
  | _, _ => False
def hconv : Option IntKind → CV → (CV → Prop) → Prop
  | some k, .v (.int _ n), K => K (.v (.int k (k.wrap n)))
  | none, .sl _ _ xs, K => ∃ bs : List UInt8, xs = bs.map u8 ∧ K (.v (.string ⟨bs.toArray⟩))
  | none, .v (.slice none 0 0), K => K (.v (.string .empty))
  | _, _, _ => False
def hs2a (n sz : Nat) : CV → (CV → Prop) → Prop
  | .sl _ sz' xs, K => sz' = sz ∧ n ≤ xs.length ∧ K (.eptr (xs.take n).flatten 0)
  | _, _ => False
def hfaddr (o : Nat) : CV → (CV → Prop) → Prop
  | .ptr b o', K => K (.ptr b (o' + o))
  | .eptr cs o', K => K (.eptr cs (o' + o))
  | _, _ => False
def hfield (o : Nat) (g : Bool) (n : Nat) : CV → (CV → Prop) → Prop
  | .agg cs, K => ld g n cs o K
  | _, _ => False
def hindex (len : Nat) (g : Bool) (n : Nat) : CV → CV → (CV → Prop) → Prop
  | .agg cs, .v (.int _ j), K => 0 ≤ j ∧ j < len ∧ ld g n cs (j.toNat * n) K
  | _, _, _ => False
def hext (i : Nat) : CV → (CV → Prop) → Prop
  | .tup cs, K => ∃ h : i < cs.length, K cs[i]
  | _, _ => False
def hmk (sz : Nat) (zs : List Value) (H : Hp) : CV → CV → (CV → Hp → Prop) → Prop
  | .v (.int _ n), .v (.int _ n'), K => n = n' ∧ 0 ≤ n ∧ n ≤ 1099511627776 ∧ K (.bsl H.length 0 n.toNat sz) (H ++ [some ((List.replicate n.toNat (zs.map CV.v)).flatten)])
  | _, _, _ => False
def hcall (P : Program) (H : Hp) (V : List Nat) : CV → List CV → (CV → Hp → List Nat → Prop) → Prop
  | .fn g caps, args, K => CC P g (args ++ caps) H V K
  | .bm g first, args, K => CC P g (first ++ args) H V K
  | .yl b, args, K => YC P b args H V K
  | _, _, _ => False
def hcopy (x : CV) (sz : Nat) (ys : List (List CV)) (H : Hp) (V : List Nat) (K : CV → Hp → List Nat → Prop) : Prop :=
  match x with
  | .bsl b o n sz' => sz' = sz ∧ ys.length ≤ n ∧ hbx H b fun cs => allOne ys.flatten = true ∧ o + ys.length * sz ≤ cs.length ∧
      K (.v (.int .i64 ys.length)) (H.set b (some (cs.take o ++ ys.flatten ++ cs.drop (o + ys.length * sz)))) V
  | _ => False
/-- The contents of a map. -/
def hbm (H : Hp) (b : Nat) (K : List Int → List CV → Prop) : Prop :=
  match H[b]? with
  | some (some [.objm ks vs]) => K ks vs
  | _ => False
theorem hbm_eq (H : Hp) (b : Nat) (K : List Int → List CV → Prop) : hbm H b K = ∃ ks vs, H[b]? = some (some [.objm ks vs]) ∧ K ks vs := by
  unfold hbm
  split
  · rename_i ks vs h
    simp only [h, Option.some.injEq, List.cons.injEq, CV.objm.injEq, and_true, eq_iff_iff]
    exact ⟨fun k => ⟨_, _, ⟨rfl, rfl⟩, k⟩, fun ⟨_, _, ⟨h1, h2⟩, k⟩ => by subst h1 h2; exact k⟩
  · rename_i h
    simp only [eq_iff_iff, false_iff]
    rintro ⟨ks, vs, h1, _⟩
    exact h ks vs h1
theorem hbm_some {H : Hp} {b : Nat} {ks : List Int} {vs : List CV} (h : H[b]? = some (some [.objm ks vs])) (K : List Int → List CV → Prop) : hbm H b K = K ks vs := by unfold hbm; rw [h]
def hlook (z : Value) (H : Hp) : CV → CV → (CV → Prop) → Prop
  | .mv b, .v (.int .i64 n), K => hbm H b fun ks vs => K (mlook z ks vs n)
  | _, _, _ => False
def hmput (H : Hp) (y : CV) : CV → CV → (Hp → Prop) → Prop
  | .mv b, .v (.int .i64 n), K => hbm H b fun ks vs => K (H.set b (some [mput ks vs n y]))
  | _, _, _ => False
def hrange (H : Hp) : CV → (CV → Hp → Prop) → Prop
  | .mv b, K => hbm H b fun ks _ => K (.it H.length) (H ++ [some [.obji b ks.length []]])
  | _, _ => False

section
variable (P : Program) (ev : Operand → CV) (H : Hp) (V : List Nat) (K : CV → Hp → List Nat → Prop)
@[go_sem ↓] theorem cop_move (x : Operand) : cop P ev H V K (.move x) = K (ev x) H V := rfl
@[go_sem ↓] theorem cop_assign (x : Operand) : cop P ev H V K (.assign x) = K (ev x) H V := rfl
@[go_sem ↓] theorem cop_pick (c x y : Operand) : cop P ev H V K (.pick c x y) = hpick (ev c) (ev x) (ev y) (kc K H V) := by
  unfold kc
  simp only [cop]; unfold hpick; split <;> simp_all
@[go_sem ↓] theorem cop_alloc (e : TypeId) : cop P ev H V K (.alloc e) = withO (zcTy P e) fun zs => K (.ptr H.length 0) (H ++ [some (zs.map .v)]) V := by
  rw [withO_eq]; rfl
@[go_sem ↓] theorem cop_box (e : TypeId) (x : Operand) : cop P ev H V K (.box e x) = (allOne (ev x).cells = true ∧ K (.ptr H.length 0) (H ++ [some (ev x).cells]) V) := rfl
@[go_sem ↓] theorem cop_load (t : TypeId) (a : Operand) : cop P ev H V K (.load t a) = withO (ldTy P t) fun x => hload x.1 x.2 (ev a) H (kc K H V) := by
  unfold kc
  rw [withO_eq]; simp only [cop, Prod.exists]
  cases ev a <;> simp only [hload, hbx_eq]
@[go_sem ↓] theorem cop_store (t : TypeId) (a x : Operand) : cop P ev H V K (.store t a x) = withO (ldTy P t) fun q => hstore q.2 (ev a) (ev x) H fun H' => K .any H' V := by
  rw [withO_eq]; simp only [cop, Prod.exists]
  cases ev a <;> simp only [hstore, hbx_eq]
@[go_sem ↓] theorem cop_nilCheck (x : Operand) : cop P ev H V K (.nilCheck x) = hnil (ev x) (kc K H V) := by
  unfold kc
  simp only [cop]; unfold hnil; split <;> simp_all
@[go_sem ↓] theorem cop_binOp (op : BinOp) (t ty : TypeId) (x y : Operand) : cop P ev H V K (.binOp op t x y ty) = cbin P op t (ev x) (ev y) (kc K H V) := rfl
@[go_sem ↓] theorem cop_unOp (op : UnOp) (t : TypeId) (x : Operand) : cop P ev H V K (.unOp op t x) = cun op (ev x) (kc K H V) := rfl
@[go_sem ↓] theorem cop_convert (s d : TypeId) (x : Operand) : cop P ev H V K (.convert s d x) = withO (cvTy P s d) fun k => hconv k (ev x) (kc K H V) := by
  unfold kc
  rw [withO_eq]; simp only [cop]
  congr 1; funext k; congr 1; unfold hconv; split <;> simp_all
@[go_sem ↓] theorem cop_s2a (t : TypeId) (x : Operand) : cop P ev H V K (.sliceToArrayPointer t x) = withO (arTy P t) fun q => hs2a q.1 q.2.2 (ev x) (kc K H V) := by
  unfold kc
  rw [withO_eq]; simp only [cop, Prod.exists]
  cases ev x <;> simp only [hs2a]
@[go_sem ↓] theorem cop_makeFunc (f : FuncId) (captured : Array Operand) : cop P ev H V K (.makeFunc (.func f) #[] captured) = K (.fn f (captured.toList.map ev)) H V := rfl
@[go_sem ↓] theorem cop_makeFunc1 (f : FuncId) (x : Operand) : cop P ev H V K (.makeFunc (.func f) #[x] #[]) = K (.bm f [ev x]) H V := rfl
@[go_sem ↓] theorem cop_copy (x y : Operand) (t tx : TypeId) : cop P ev H V K (.call ⟨.builtin .copy, #[x, y], #[t, tx]⟩) = ccopy P t tx (ev x) (ev y) H V K := by
  simp [cop]
  exact ⟨fun ⟨_, _, ⟨h1, h2⟩, _, _, ⟨h3, h4⟩, h⟩ => by subst h1 h2 h3 h4; exact h, fun h => ⟨_, _, ⟨rfl, rfl⟩, _, _, ⟨rfl, rfl⟩, h⟩⟩
@[go_sem ↓] theorem cop_min (x y : Operand) (tys : Array TypeId) : cop P ev H V K (.call ⟨.builtin .min, #[x, y], tys⟩) = cmm min (ev x) (ev y) (kc K H V) := by
  unfold kc
  simp [cop]
  exact ⟨fun ⟨_, _, ⟨h3, h4⟩, h⟩ => by subst h3 h4; exact h, fun h => ⟨_, _, ⟨rfl, rfl⟩, h⟩⟩
@[go_sem ↓] theorem cop_max (x y : Operand) (tys : Array TypeId) : cop P ev H V K (.call ⟨.builtin .max, #[x, y], tys⟩) = cmm max (ev x) (ev y) (kc K H V) := by
  unfold kc
  simp [cop]
  exact ⟨fun ⟨_, _, ⟨h3, h4⟩, h⟩ => by subst h3 h4; exact h, fun h => ⟨_, _, ⟨rfl, rfl⟩, h⟩⟩
@[go_sem ↓] theorem cop_makeMap (t : TypeId) : cop P ev H V K (.makeMap t none) = ((mpTy P t).isSome = true ∧ K (.mv H.length) (H ++ [some [.objm [] []]]) V) := by simp [cop]
@[go_sem ↓] theorem cop_lookup (t : TypeId) (x i : Operand) : cop P ev H V K (.lookup t x i false) = withO (mpTy P t) fun z => hlook z H (ev x) (ev i) (kc K H V) := by
  unfold kc
  rw [withO_eq]; simp only [cop, clook, true_and]
  congr 1; funext z; congr 1
  unfold hlook; split <;> simp_all [hbm_eq]
@[go_sem ↓] theorem cop_mapUpdate (t : TypeId) (x i y : Operand) : cop P ev H V K (.mapUpdate t x i y) = ((mpTy P t).isSome = true ∧ (ev y).one = true ∧ hmput H (ev y) (ev x) (ev i) fun H' => K .any H' V) := by
  simp only [cop, cmput]
  congr 2
  unfold hmput; split <;> simp_all [hbm_eq]
@[go_sem ↓] theorem cop_range (t : TypeId) (x : Operand) : cop P ev H V K (.range t x) = ((mpTy P t).isSome = true ∧ hrange H (ev x) fun c H' => K c H' V) := by
  simp only [cop, crange]
  congr 1
  unfold hrange; split <;> simp_all [hbm_eq]
@[go_sem ↓] theorem cop_next (x : Operand) : cop P ev H V K (.next x false) = cnext (ev x) false H fun c H' => K c H' V := rfl
@[go_sem ↓] theorem cop_entry (x : Operand) : cop P ev H V K (.entry x) = centry (ev x) H (kc K H V) := rfl
@[go_sem ↓] theorem cop_makeSlice (t : TypeId) (l c : Operand) : cop P ev H V K (.makeSlice t l c) = withO (slTy P t) fun q => withO (zcTy P q.1) fun zs => hmk q.2 zs H (ev l) (ev c) fun c H' => K c H' V := by
  rw [withO_eq]; simp only [cop, Prod.exists, withO_eq]
  congr 1; funext e; congr 1; funext sz; congr 1; congr 1; funext zs; congr 1
  unfold hmk; split <;> simp_all
@[go_sem ↓] theorem cop_slice (t : TypeId) (x : Operand) (lo hi mx : Option Operand) : cop P ev H V K (.slice t x lo hi mx) = cslice P t (ev x) (lo.map ev) (hi.map ev) (mx.map ev) (kc K H V) := rfl
@[go_sem ↓] theorem cop_fieldAddr (s : TypeId) (x : Operand) (f : Nat) : cop P ev H V K (.fieldAddr s x f) = withO (fdTy P s f) fun q => hfaddr q.1 (ev x) (kc K H V) := by
  unfold kc
  rw [withO_eq]; simp only [cop, Prod.exists]
  congr 1; funext o; congr 1; funext g; congr 1; funext n; congr 1
  unfold hfaddr; split <;> simp_all
@[go_sem ↓] theorem cop_field (s : TypeId) (x : Operand) (f : Nat) : cop P ev H V K (.field s x f) = withO (fdTy P s f) fun q => hfield q.1 q.2.1 q.2.2 (ev x) (kc K H V) := by
  unfold kc
  rw [withO_eq]; simp only [cop, Prod.exists]
  congr 1; funext o; congr 1; funext g; congr 1; funext n; congr 1
  unfold hfield; split <;> simp_all
@[go_sem ↓] theorem cop_indexAddr (t : TypeId) (x i : Operand) : cop P ev H V K (.indexAddr t x i) = cidx P t (ev x) (ev i) (kc K H V) := rfl
@[go_sem ↓] theorem cop_index (t : TypeId) (x i : Operand) : cop P ev H V K (.index t x i) = cindex P t (ev x) (ev i) (kc K H V) := rfl
@[go_sem ↓] theorem cop_extract (x : Operand) (i : Nat) : cop P ev H V K (.extract x i) = hext i (ev x) (kc K H V) := by
  unfold kc
  simp only [cop]; unfold hext; split <;> simp_all
@[go_sem ↓] theorem cop_build (t : TypeId) (parts : Array (Nat × Operand)) : cop P ev H V K (.build t parts) = withO (bdTy P t) fun q => withO (cfill q.1 (q.2.map .v) (parts.toList.map fun p => (p.1, ev p.2))) fun cs => K (.agg cs) H V := by
  rw [withO_eq]; simp only [cop, Prod.exists, withO_eq]
  congr 1; funext o; congr 1; funext g
  simp only [exists_and_left]
@[go_sem ↓] theorem cop_buildSlice (t : TypeId) (len : Nat) (parts : Array (Nat × Operand)) : cop P ev H V K (.buildSlice t len parts) = withO (slTy P t) fun q => parts.toList.map (·.1) = List.range len ∧ (parts.toList.all fun p => (ev p.2).cells.length == q.2 && allOne (ev p.2).cells) = true ∧ len * q.2 ≤ 1048576 ∧
    K (.sl .ti q.2 (parts.toList.map fun p => (ev p.2).cells)) H V := by
  rw [withO_eq]; simp only [cop, Prod.exists]
@[go_sem ↓] theorem cop_call (f : Operand) (args : Array Operand) (tys : Array TypeId) : cop P ev H V K (.call ⟨.value f, args, tys⟩) = hcall P H V (ev f) (args.toList.map ev) K := by
  simp only [cop]; unfold hcall; split <;> simp_all
@[go_sem ↓] theorem cop_len (x : Operand) (t : TypeId) : cop P ev H V K (.call ⟨.builtin .len, #[x], #[t]⟩) = clen P t (ev x) fun r => K r H V := by
  simp [cop]
@[go_sem ↓] theorem cop_append (x y : Operand) (t tx : TypeId) : cop P ev H V K (.call ⟨.builtin .append, #[x, y], #[t, tx]⟩) = capp P t tx (ev x) (ev y) H V K := by
  simp [cop]
  exact ⟨fun ⟨_, _, ⟨h1, h2⟩, _, _, ⟨h3, h4⟩, h⟩ => by subst h1 h2 h3 h4; exact h, fun h => ⟨_, _, ⟨rfl, rfl⟩, _, _, ⟨rfl, rfl⟩, h⟩⟩
end

/-! ### What the pieces come to, at a value that is known -/
section
@[go_sem] theorem withO_some {α : Type} (a : α) (K : α → Prop) : withO (some a) K = K a := rfl
@[go_sem] theorem hpick_b (t : Bool) (x y : CV) (K : CV → Prop) : hpick (.v (.bool t)) x y K = K (cpick t x y) := rfl
@[go_sem] theorem cpick_t (x y : CV) : cpick true x y = x := rfl
@[go_sem] theorem cpick_f (x y : CV) : cpick false x y = y := rfl
@[go_sem] theorem hload_ptr (g : Bool) (n b o : Nat) (H : Hp) (K : CV → Prop) : hload g n (.ptr b o) H K = hbx H b fun cs => ld g n cs o K := rfl
@[go_sem] theorem hload_eptr (g : Bool) (n o : Nat) (cs : List CV) (H : Hp) (K : CV → Prop) : hload g n (.eptr cs o) H K = ld g n cs o K := rfl
@[go_sem] theorem hstore_ptr (n b o : Nat) (y : CV) (H : Hp) (K : Hp → Prop) : hstore n (.ptr b o) y H K = hbx H b fun cs => allOne y.cells = true ∧ y.cells.length = n ∧ o + n ≤ cs.length ∧ K (H.set b (some (cs.take o ++ y.cells ++ cs.drop (o + n)))) := rfl
@[go_sem] theorem hnil_ptr (b o : Nat) (K : CV → Prop) : hnil (.ptr b o) K = K (.ptr b o) := rfl
@[go_sem] theorem hnil_eptr (cs : List CV) (o : Nat) (K : CV → Prop) : hnil (.eptr cs o) K = K (.eptr cs o) := rfl
@[go_sem] theorem hnil_bm (f : Nat) (cs : List CV) (K : CV → Prop) : hnil (.bm f cs) K = K (.bm f cs) := rfl
@[go_sem] theorem hnil_yl (b : Nat) (K : CV → Prop) : hnil (.yl b) K = K (.yl b) := rfl
@[go_sem] theorem hlook_mv (z : Value) (H : Hp) (b : Nat) (n : Int) (K : CV → Prop) : hlook z H (.mv b) (.v (.int .i64 n)) K = hbm H b fun ks vs => K (mlook z ks vs n) := rfl
@[go_sem] theorem hmput_mv (H : Hp) (y : CV) (b : Nat) (n : Int) (K : Hp → Prop) : hmput H y (.mv b) (.v (.int .i64 n)) K = hbm H b fun ks vs => K (H.set b (some [mput ks vs n y])) := rfl
@[go_sem] theorem hrange_mv (H : Hp) (b : Nat) (K : CV → Hp → Prop) : hrange H (.mv b) K = hbm H b fun ks _ => K (.it H.length) (H ++ [some [.obji b ks.length []]]) := rfl
@[go_sem] theorem cindex_agg (P : Program) (t : TypeId) (cs : List CV) (k : IntKind) (j : Int) (K : CV → Prop) : cindex P t (.agg cs) (.v (.int k j)) K = withO (arTy P t) fun q => hindex q.1 q.2.1 q.2.2 (.agg cs) (.v (.int k j)) K := by
  rw [withO_eq]; simp only [cindex, Prod.exists, hindex]
@[go_sem] theorem cindex_str (P : Program) (t : TypeId) (s : ByteArray) (k : IntKind) (j : Int) (K : CV → Prop) : cindex P t (.v (.string s)) (.v (.int k j)) K = (P.underlying t = some .string ∧ 0 ≤ j ∧ ∃ h : j.toNat < s.size, K (.v (.int .u8 (s[j.toNat].toNat : Int)))) := rfl
@[go_sem] theorem cmm_int (f : Int → Int → Int) (k k' : IntKind) (a b : Int) (K : CV → Prop) : cmm f (.v (.int k a)) (.v (.int k' b)) K = (k = k' ∧ K (.v (.int k (f a b)))) := rfl
@[go_sem] theorem hcopy_bsl (b o n sz' sz : Nat) (ys : List (List CV)) (H : Hp) (V : List Nat) (K : CV → Hp → List Nat → Prop) : hcopy (.bsl b o n sz') sz ys H V K = (sz' = sz ∧ ys.length ≤ n ∧ hbx H b fun cs => allOne ys.flatten = true ∧ o + ys.length * sz ≤ cs.length ∧
      K (.v (.int .i64 ys.length)) (H.set b (some (cs.take o ++ ys.flatten ++ cs.drop (o + ys.length * sz)))) V) := rfl
@[go_sem] theorem ccopy_eq (P : Program) (t tx : TypeId) (x y : CV) (H : Hp) (V : List Nat) (K : CV → Hp → List Nat → Prop) : ccopy P t tx x y H V K = withO (slTy P t) fun q => (slTy P tx).isSome = true ∧ csrc H q.2 y fun ys => hcopy x q.2 ys H V K := by
  rw [withO_eq]; simp only [Prod.exists, ccopy]
  congr 1; funext e; congr 1; funext sz; congr 2
  congr 1; funext ys
  unfold hcopy; split <;> simp_all [hbx_eq]
@[go_sem] theorem hcall_bm (P : Program) (H : Hp) (V : List Nat) (g : Nat) (first args : List CV) (K : CV → Hp → List Nat → Prop) : hcall P H V (.bm g first) args K = CC P g (first ++ args) H V K := rfl
@[go_sem] theorem hcall_yl (P : Program) (H : Hp) (V : List Nat) (b : Nat) (args : List CV) (K : CV → Hp → List Nat → Prop) : hcall P H V (.yl b) args K = YC P b args H V K := rfl
@[go_sem] theorem hnil_fn (f : Nat) (cs : List CV) (K : CV → Prop) : hnil (.fn f cs) K = K (.fn f cs) := rfl
@[go_sem] theorem hconv_int (k k' : IntKind) (n : Int) (K : CV → Prop) : hconv (some k) (.v (.int k' n)) K = K (.v (.int k (k.wrap n))) := rfl
@[go_sem] theorem hconv_sl (tk : Tk) (sz : Nat) (xs : List (List CV)) (K : CV → Prop) : hconv none (.sl tk sz xs) K = ∃ bs : List UInt8, xs = bs.map u8 ∧ K (.v (.string ⟨bs.toArray⟩)) := rfl
@[go_sem] theorem hconv_nil (K : CV → Prop) : hconv none (.v (.slice none 0 0)) K = K (.v (.string .empty)) := rfl
@[go_sem] theorem hs2a_sl (n sz sz' : Nat) (tk : Tk) (xs : List (List CV)) (K : CV → Prop) : hs2a n sz (.sl tk sz' xs) K = (sz' = sz ∧ n ≤ xs.length ∧ K (.eptr (xs.take n).flatten 0)) := rfl
@[go_sem] theorem hfaddr_ptr (o b o' : Nat) (K : CV → Prop) : hfaddr o (.ptr b o') K = K (.ptr b (o' + o)) := rfl
@[go_sem] theorem hfaddr_eptr (o o' : Nat) (cs : List CV) (K : CV → Prop) : hfaddr o (.eptr cs o') K = K (.eptr cs (o' + o)) := rfl
@[go_sem] theorem hfield_agg (o : Nat) (g : Bool) (n : Nat) (cs : List CV) (K : CV → Prop) : hfield o g n (.agg cs) K = ld g n cs o K := rfl
@[go_sem] theorem hindex_agg (len : Nat) (g : Bool) (n : Nat) (cs : List CV) (k : IntKind) (j : Int) (K : CV → Prop) : hindex len g n (.agg cs) (.v (.int k j)) K = (0 ≤ j ∧ j < len ∧ ld g n cs (j.toNat * n) K) := rfl
@[go_sem] theorem hext_tup (i : Nat) (cs : List CV) (K : CV → Prop) : hext i (.tup cs) K = ∃ h : i < cs.length, K cs[i] := rfl
@[go_sem] theorem hmk_int (sz : Nat) (zs : List Value) (H : Hp) (k k' : IntKind) (n n' : Int) (K : CV → Hp → Prop) : hmk sz zs H (.v (.int k n)) (.v (.int k' n')) K =
    (n = n' ∧ 0 ≤ n ∧ n ≤ 1099511627776 ∧ K (.bsl H.length 0 n.toNat sz) (H ++ [some ((List.replicate n.toNat (zs.map CV.v)).flatten)])) := rfl
@[go_sem] theorem hcall_fn (P : Program) (H : Hp) (V : List Nat) (g : Nat) (caps args : List CV) (K : CV → Hp → List Nat → Prop) : hcall P H V (.fn g caps) args K = CC P g (args ++ caps) H V K := rfl
@[go_sem] theorem ld_agg (n : Nat) (cs : List CV) (o : Nat) (K : CV → Prop) : ld true n cs o K = (o + n ≤ cs.length ∧ K (.agg ((cs.drop o).take n))) := rfl
@[go_sem] theorem ld_one (n : Nat) (cs : List CV) (o : Nat) (K : CV → Prop) : ld false n cs o K = ∃ h : o < cs.length, K cs[o] := rfl
@[go_sem] theorem cbin_int (P : Program) (op : BinOp) (t : TypeId) (k k' : IntKind) (a b : Int) (K : CV → Prop) : cbin P op t (.v (.int k a)) (.v (.int k' b)) K = (sameK op k k' ∧ ibin op k a b K) := rfl
@[go_sem] theorem cbin_bool (P : Program) (op : BinOp) (t : TypeId) (a b : Bool) (K : CV → Prop) : cbin P op t (.v (.bool a)) (.v (.bool b)) K = (P.underlying t = some .bool ∧ eqNeq op (a == b) K) := rfl
@[go_sem] theorem cbin_str (P : Program) (op : BinOp) (t : TypeId) (a b : ByteArray) (K : CV → Prop) : cbin P op t (.v (.string a)) (.v (.string b)) K = eqNeq op (a.toList == b.toList) K := rfl
@[go_sem] theorem cbin_nil (P : Program) (op : BinOp) (t : TypeId) (tk : Tk) (sz : Nat) (xs : List (List CV)) (K : CV → Prop) : cbin P op t (.sl tk sz xs) (.v (.slice none 0 0)) K = ((slTy P t).isSome = true ∧ ∀ b : Bool, (b = true → xs = []) → eqNeq op b K) := rfl
@[go_sem] theorem cbin_nilnil (P : Program) (op : BinOp) (t : TypeId) (K : CV → Prop) : cbin P op t (.v (.slice none 0 0)) (.v (.slice none 0 0)) K = ((slTy P t).isSome = true ∧ eqNeq op true K) := rfl
@[go_sem] theorem cbin_agg (P : Program) (op : BinOp) (t : TypeId) (cs ds : List CV) (K : CV → Prop) : cbin P op t (.agg cs) (.agg ds) K = ∃ ks, FlatEq P t ks ∧ fits ks cs ∧ fits ks ds ∧ ∀ b : Bool, (b = true ↔ cs = ds) → eqNeq op b K := rfl
attribute [go_sem] ibin.eq_1 ibin.eq_2 ibin.eq_3 ibin.eq_4 ibin.eq_5 ibin.eq_6 ibin.eq_7 ibin.eq_8 ibin.eq_9 ibin.eq_10 ibin.eq_11 ibin.eq_12 ibin.eq_13 ibin.eq_14 ibin.eq_15 ibin.eq_16 ibin.eq_17
@[go_sem] theorem eqNeq_eql (b : Bool) (K : CV → Prop) : eqNeq .eql b K = K (.v (.bool b)) := rfl
@[go_sem] theorem eqNeq_neq (b : Bool) (K : CV → Prop) : eqNeq .neq b K = K (.v (.bool (!b))) := rfl
@[go_sem] theorem cun_not (b : Bool) (K : CV → Prop) : cun .not (.v (.bool b)) K = K (.v (.bool (!b))) := rfl
@[go_sem] theorem cun_xor (k : IntKind) (n : Int) (K : CV → Prop) : cun .xor (.v (.int k n)) K = K (.v (.int k (bitop .xor k (if k.signed then -1 else k.max) n))) := rfl
@[go_sem] theorem cun_neg (k : IntKind) (n : Int) (K : CV → Prop) : cun .neg (.v (.int k n)) K = K (.v (.int k (k.wrap (0 - n)))) := rfl
@[go_sem] theorem sameK_same (op : BinOp) (k : IntKind) : sameK op k k = True := by cases op <;> simp [sameK]
@[go_sem] theorem sameK_shl (k k' : IntKind) : sameK .shl k k' = True := rfl
@[go_sem] theorem sameK_shr (k k' : IntKind) : sameK .shr k k' = True := rfl
@[go_sem] theorem cidx_sl (P : Program) (t : TypeId) (tk : Tk) (sz : Nat) (xs : List (List CV)) (k : IntKind) (n : Int) (K : CV → Prop) : cidx P t (.sl tk sz xs) (.v (.int k n)) K = ((slTy P t).map (·.2) = some sz ∧ 0 ≤ n ∧ ∃ h : n.toNat < xs.length, K (.eptr xs[n.toNat] 0)) := rfl
@[go_sem] theorem cidx_bsl (P : Program) (t : TypeId) (b o n' sz : Nat) (k : IntKind) (n : Int) (K : CV → Prop) : cidx P t (.bsl b o n' sz) (.v (.int k n)) K = ((slTy P t).map (·.2) = some sz ∧ 0 ≤ n ∧ n < n' ∧ K (.ptr b (o + n.toNat * sz))) := rfl
@[go_sem] theorem cidx_ptr (P : Program) (t : TypeId) (b o : Nat) (k : IntKind) (n : Int) (K : CV → Prop) : cidx P t (.ptr b o) (.v (.int k n)) K = withO (arTy P t) fun q => 0 ≤ n ∧ n < q.1 ∧ K (.ptr b (o + n.toNat * q.2.2)) := by
  rw [withO_eq]; simp [cidx]
@[go_sem] theorem cidx_eptr (P : Program) (t : TypeId) (cs : List CV) (o : Nat) (k : IntKind) (n : Int) (K : CV → Prop) : cidx P t (.eptr cs o) (.v (.int k n)) K = withO (arTy P t) fun q => 0 ≤ n ∧ n < q.1 ∧ K (.eptr cs (o + n.toNat * q.2.2)) := by
  rw [withO_eq]; simp [cidx]
@[go_sem] theorem clen_sl (P : Program) (t : TypeId) (tk : Tk) (sz : Nat) (xs : List (List CV)) (K : CV → Prop) : clen P t (.sl tk sz xs) K = ((slTy P t).isSome = true ∧ K (.v (.int .i64 xs.length))) := rfl
@[go_sem] theorem clen_bsa (P : Program) (t : TypeId) (b n sz : Nat) (K : CV → Prop) : clen P t (.bsa b n sz) K = ((slTy P t).isSome = true ∧ K (.v (.int .i64 n))) := rfl
@[go_sem] theorem clen_bsl (P : Program) (t : TypeId) (b o n sz : Nat) (K : CV → Prop) : clen P t (.bsl b o n sz) K = ((slTy P t).isSome = true ∧ K (.v (.int .i64 n))) := rfl
@[go_sem] theorem clen_nil (P : Program) (t : TypeId) (K : CV → Prop) : clen P t (.v (.slice none 0 0)) K = ((slTy P t).isSome = true ∧ K (.v (.int .i64 0))) := rfl
@[go_sem] theorem clen_str (P : Program) (t : TypeId) (s : ByteArray) (K : CV → Prop) : clen P t (.v (.string s)) K = (P.underlying t = some .string ∧ K (.v (.int .i64 s.size))) := rfl
@[go_sem] theorem bok_none : bok none = True := rfl
@[go_sem] theorem bok_int (k : IntKind) (n : Int) : bok (some (.v (.int k n))) = (0 ≤ n) := rfl
@[go_sem] theorem bvl_none (d : Nat) : bvl none d = d := rfl
@[go_sem] theorem bvl_int (k : IntKind) (n : Int) (d : Nat) : bvl (some (.v (.int k n))) d = n.toNat := rfl
section
variable (P : Program) (t : TypeId) (tk : Tk) (sz : Nat) (xs : List (List CV)) (lo : Option CV) (h q : CV) (K : CV → Prop)
@[go_sem] theorem cslice_lo : cslice P t (.sl tk sz xs) lo none none K = (bok lo ∧ (slTy P t).map (·.2) = some sz ∧ bvl lo 0 ≤ xs.length ∧ K (.sl tk sz (xs.drop (bvl lo 0)))) := by
  simp [cslice, bok, bvl]
@[go_sem] theorem cslice_lohi : cslice P t (.sl tk sz xs) lo (some h) none K = (bok lo ∧ bok (some h) ∧ (slTy P t).map (·.2) = some sz ∧ bvl lo 0 ≤ bvl (some h) xs.length ∧ bvl (some h) xs.length ≤ xs.length ∧ K (.sl .sh sz ((xs.take (bvl (some h) 0)).drop (bvl lo 0)))) := by
  simp [cslice, bok]
@[go_sem] theorem cslice_three : cslice P t (.sl tk sz xs) lo (some h) (some q) K = (bok lo ∧ bok (some h) ∧ bok (some q) ∧ (slTy P t).map (·.2) = some sz ∧ bvl lo 0 ≤ bvl (some h) xs.length ∧ bvl (some h) xs.length ≤ xs.length ∧ bvl (some q) 0 = bvl (some h) 0 ∧ K (.sl .ti sz ((xs.take (bvl (some h) 0)).drop (bvl lo 0)))) := rfl
variable (hi mx : Option CV) (b o n : Nat)
@[go_sem] theorem cslice_nil : cslice P t (.v (.slice none 0 0)) lo hi mx K = (bok lo ∧ bok hi ∧ bok mx ∧ (slTy P t).isSome = true ∧ mx.isNone = true ∧ bvl lo 0 = 0 ∧ bvl hi 0 = 0 ∧ K (.v (.slice none 0 0))) := rfl
@[go_sem] theorem cslice_ptr : cslice P t (.ptr b o) lo hi mx K = (bok lo ∧ bok hi ∧ bok mx ∧ mx.isNone = true ∧ withO (arTy P t) fun q => bvl lo 0 ≤ bvl hi q.1 ∧ bvl hi q.1 ≤ q.1 ∧ K (.bsl b (o + bvl lo 0 * q.2.2) (bvl hi q.1 - bvl lo 0) q.2.2)) := by
  rw [withO_eq]; simp [cslice]
@[go_sem] theorem cslice_eptr (cs : List CV) : cslice P t (.eptr cs o) lo hi mx K = (bok lo ∧ bok hi ∧ bok mx ∧ mx.isNone = true ∧ withO (arTy P t) fun q => bvl lo 0 ≤ bvl hi q.1 ∧ bvl hi q.1 ≤ q.1 ∧ o + q.1 * q.2.2 ≤ cs.length ∧ K (.sl .sh q.2.2 (chunks q.2.2 (bvl hi q.1 - bvl lo 0) (cs.drop (o + bvl lo 0 * q.2.2))))) := by
  rw [withO_eq]; simp [cslice]
@[go_sem] theorem cslice_bsl : cslice P t (.bsl b o n sz) lo hi mx K = (bok lo ∧ bok hi ∧ bok mx ∧ mx.isNone = true ∧ (slTy P t).map (·.2) = some sz ∧ bvl lo 0 ≤ bvl hi n ∧ bvl hi n ≤ n ∧ K (.bsl b (o + bvl lo 0 * sz) (bvl hi n - bvl lo 0) sz)) := rfl
end
/-- To append to. -/
def happ (x : CV) (sz : Nat) (ys : List (List CV)) (H : Hp) (V : List Nat) (K : CV → Hp → List Nat → Prop) : Prop :=
  match x with
  | .sl .ti sz' xs => sz' = sz ∧ xs.length + ys.length ≤ 1099511627776 ∧ K (.sl (.own V.length 0) sz (xs ++ ys)) H (V ++ [0])
  | .v (.slice none 0 0) => ys.length ≤ 1099511627776 ∧ K (.sl (.own V.length 0) sz ys) H (V ++ [0])
  | .bsa b n sz' => sz' = sz ∧ n + ys.length ≤ 1099511627776 ∧ ∃ cs, H[b]? = some (some cs) ∧ cs.length = n * sz ∧ K (.bsa H.length (n + ys.length) sz) (H.set b none ++ [some (cs ++ ys.flatten)]) V
  | .sl (.own k v) sz' xs => sz' = sz ∧ V[k]? = some v ∧ xs.length + ys.length ≤ 1099511627776 ∧ K (.sl (.own k (v + 1)) sz (xs ++ ys)) H (V.set k (v + 1))
  | _ => False
@[go_sem] theorem capp_eq (P : Program) (t tx : TypeId) (x y : CV) (H : Hp) (V : List Nat) (K : CV → Hp → List Nat → Prop) : capp P t tx x y H V K = withO (slTy P t) fun q => asrc P H tx q.1 q.2 y fun ys => happ x q.2 ys H V K := by
  rw [withO_eq]; simp only [Prod.exists]; rfl
section
variable (sz : Nat) (xs ys : List (List CV)) (H : Hp) (V : List Nat) (K : CV → Hp → List Nat → Prop) (K' : List (List CV) → Prop)
@[go_sem] theorem happ_ti (sz' : Nat) : happ (.sl .ti sz' xs) sz ys H V K = (sz' = sz ∧ xs.length + ys.length ≤ 1099511627776 ∧ K (.sl (.own V.length 0) sz (xs ++ ys)) H (V ++ [0])) := rfl
@[go_sem] theorem happ_nil : happ (.v (.slice none 0 0)) sz ys H V K = (ys.length ≤ 1099511627776 ∧ K (.sl (.own V.length 0) sz ys) H (V ++ [0])) := rfl
@[go_sem] theorem happ_bsa (sz' b n : Nat) : happ (.bsa b n sz') sz ys H V K = (sz' = sz ∧ n + ys.length ≤ 1099511627776 ∧ hbx H b fun cs => cs.length = n * sz ∧ K (.bsa H.length (n + ys.length) sz) (H.set b none ++ [some (cs ++ ys.flatten)]) V) := by
  rw [hbx_eq]; rfl
@[go_sem] theorem happ_own (sz' k v : Nat) : happ (.sl (.own k v) sz' xs) sz ys H V K = (sz' = sz ∧ V[k]? = some v ∧ xs.length + ys.length ≤ 1099511627776 ∧ K (.sl (.own k (v + 1)) sz (xs ++ ys)) H (V.set k (v + 1))) := rfl
@[go_sem] theorem asrc_sl (P : Program) (tx e : TypeId) (tk : Tk) (sz' : Nat) : asrc P H tx e sz (.sl tk sz' ys) K' = ((slTy P tx).isSome = true ∧ csrc H sz (.sl tk sz' ys) K') := rfl
@[go_sem] theorem asrc_nil (P : Program) (tx e : TypeId) : asrc P H tx e sz (.v (.slice none 0 0)) K' = ((slTy P tx).isSome = true ∧ csrc H sz (.v (.slice none 0 0)) K') := rfl
@[go_sem] theorem asrc_bsl (P : Program) (tx e : TypeId) (b o n sz' : Nat) : asrc P H tx e sz (.bsl b o n sz') K' = ((slTy P tx).isSome = true ∧ csrc H sz (.bsl b o n sz') K') := rfl
@[go_sem] theorem asrc_int (P : Program) (tx e : TypeId) (k : IntKind) (n : Int) : asrc P H tx e sz (.v (.int k n)) K' = (azTy P tx = true ∧ 0 ≤ n ∧ n ≤ 1099511627776 ∧ withO (zcTy P e) fun zs => K' (List.replicate n.toNat (zs.map CV.v))) := by
  rw [withO_eq]; rfl
@[go_sem] theorem csrc_sl (tk : Tk) (sz' : Nat) : csrc H sz (.sl tk sz' ys) K' = (sz' = sz ∧ K' ys) := rfl
@[go_sem] theorem csrc_nil : csrc H sz (.v (.slice none 0 0)) K' = K' [] := rfl
@[go_sem] theorem csrc_bsl (b o n sz' : Nat) : csrc H sz (.bsl b o n sz') K' = (sz' = sz ∧ hbx H b fun cs => o + n * sz ≤ cs.length ∧ K' (chunks sz n (cs.drop o))) := by
  rw [hbx_eq]; rfl
end
/-- Two ways; simp looks at the condition first. -/
def br (p yes no : Prop) : Prop := (p → yes) ∧ (¬p → no)
@[congr] theorem br_congr {p p' yes no : Prop} (h : p = p') : br p yes no = br p' yes no := by subst h; rfl
@[go_sem] theorem br_true (yes no : Prop) : br True yes no = yes := by simp [br]
@[go_sem] theorem br_false (yes no : Prop) : br False yes no = no := by simp [br]
@[go_sem low] theorem br_split (p yes no : Prop) : br p yes no = ((p → yes) ∧ (¬p → no)) := rfl
@[go_sem] theorem cguard_b (want b : Bool) (yes no : Prop) : cguard want (.v (.bool b)) yes no = br (b = want) yes no := by
  cases b <;> cases want <;> simp [cguard, br]
@[go_sem] theorem cguard_u (want : Bool) (vs : Array Value) (yes no : Prop) : cguard want (.v (.tuple vs)) yes no = no := rfl
@[go_sem] theorem cbranch_b (b : Bool) (yes no : Prop) : cbranch (.v (.bool b)) yes no = br (b = true) yes no := by cases b <;> simp [cbranch, br]
@[go_sem] theorem dOk_some (d n : Nat) : dOk (some d) n = (d < n) := rfl
@[go_sem] theorem dOk_none (n : Nat) : dOk none n = True := rfl
@[go_sem] theorem tput_some (d : Nat) (c : CV) (T : Tm) : tput (some d) c T = (d, c) :: T := rfl
@[go_sem] theorem tput_none (c : CV) (T : Tm) : tput none c T = T := rfl
@[go_sem] theorem evT_tmp (T : Tm) (t : Nat) : evT T (.tmp t) = tget T t := rfl
@[go_sem] theorem evT_const (T : Tm) (v : Value) : evT T (.const v) = .v v := rfl
@[go_sem] theorem evT_func (T : Tm) (f : FuncId) : evT T (.func f) = .fn f [] := rfl
@[go_sem] theorem tget_nil (n : Nat) : tget [] n = .any := rfl
@[go_sem] theorem tget_cons (k : Nat) (c : CV) (r : Tm) (n : Nat) : tget ((k, c) :: r) n = if n = k then c else tget r n := rfl
@[go_sem] theorem cells_agg (cs : List CV) : (CV.agg cs).cells = cs := rfl
@[go_sem] theorem cells_v (v : Value) : (CV.v v).cells = [.v v] := rfl
@[go_sem] theorem cells_sl (tk : Tk) (sz : Nat) (xs : List (List CV)) : (CV.sl tk sz xs).cells = [.sl tk sz xs] := rfl
@[go_sem] theorem cells_bsl (b o n sz : Nat) : (CV.bsl b o n sz).cells = [.bsl b o n sz] := rfl
@[go_sem] theorem cells_ptr (b o : Nat) : (CV.ptr b o).cells = [.ptr b o] := rfl
@[go_sem] theorem cells_fn (f : Nat) (cs : List CV) : (CV.fn f cs).cells = [.fn f cs] := rfl
@[go_sem] theorem cells_bm (f : Nat) (cs : List CV) : (CV.bm f cs).cells = [.bm f cs] := rfl
@[go_sem] theorem cells_yl (b : Nat) : (CV.yl b).cells = [.yl b] := rfl
@[go_sem] theorem cells_mv (b : Nat) : (CV.mv b).cells = [.mv b] := rfl
@[go_sem] theorem cells_it (b : Nat) : (CV.it b).cells = [.it b] := rfl
@[go_sem] theorem cells_bsa (b n sz : Nat) : (CV.bsa b n sz).cells = [.bsa b n sz] := rfl
@[go_sem] theorem one_bm (f : Nat) (cs : List CV) : (CV.bm f cs).one = true := rfl
@[go_sem] theorem one_yl (b : Nat) : (CV.yl b).one = true := rfl
@[go_sem] theorem one_mv (b : Nat) : (CV.mv b).one = true := rfl
@[go_sem] theorem one_it (b : Nat) : (CV.it b).one = true := rfl
@[go_sem] theorem one_bsa (b n sz : Nat) : (CV.bsa b n sz).one = true := rfl
@[go_sem] theorem allOne_nil : allOne [] = true := rfl
@[go_sem] theorem allOne_cons (c : CV) (cs : List CV) : allOne (c :: cs) = (c.one && allOne cs) := rfl
@[go_sem] theorem one_sl (tk : Tk) (sz : Nat) (xs : List (List CV)) : (CV.sl tk sz xs).one = true := rfl
@[go_sem] theorem one_bsl (b o n sz : Nat) : (CV.bsl b o n sz).one = true := rfl
@[go_sem] theorem one_ptr (b o : Nat) : (CV.ptr b o).one = true := rfl
@[go_sem] theorem one_fn (f : Nat) (cs : List CV) : (CV.fn f cs).one = true := rfl
@[go_sem] theorem one_int (k : IntKind) (n : Int) : (CV.v (.int k n)).one = true := rfl
@[go_sem] theorem one_bool (b : Bool) : (CV.v (.bool b)).one = true := rfl
@[go_sem] theorem one_string (b : ByteArray) : (CV.v (.string b)).one = true := rfl
@[go_sem] theorem one_slice (a : Option Addr) (n c : Nat) : (CV.v (.slice a n c)).one = true := rfl
end

section
variable (P : Program) (n nb nv : Nat) (ops rest : List Oper) (T : Tm) (H : Hp) (V : List Nat) (K : Tm → Hp → List Nat → Prop) (Q : Exit → Tm → Hp → List Nat → Prop)
end
section
variable (P : Program) (n : Nat) (ds : List (Option Tmp))
def gt : List (Option Tmp) → Nat → Option Nat
  | [], _ => none
  | d :: _, 0 => d
  | _ :: r, j + 1 => gt r j
def crunL : List Oper → Tm → Hp → List Nat → (Tm → Hp → List Nat → Prop) → Prop
  | [], T, H, V, K => K T H V
  | ⟨d, op, _, _, _, none⟩ :: r, T, H, V, K => dOk d n ∧ cop P (evT T) H V (fun c H' V' => crunL r (tput d c T) H' V' K) op
  | ⟨d, op, _, _, _, some (j, want)⟩ :: r, T, H, V, K => dOk d n ∧
    match gt ds j with
    | none => False
    | some g =>
      match tget T g with
      | .v (.bool b) => br (b = want) (cop P (evT ((g, .v (.bool want)) :: T)) H V (fun c H' V' => crunL r (tput d c ((g, .v (.bool want)) :: T)) H' V' K) op) (crunL r (tput d (.v undef) ((g, .v (.bool (!want))) :: T)) H V K)
      | .v (.tuple _) => crunL r (tput d (.v undef) T) H V K
      | _ => False
/-- What follows an operation. -/
def contL (d : Option Tmp) (r : List Oper) (T : Tm) (K : Tm → Hp → List Nat → Prop) : CV → Hp → List Nat → Prop := fun c H V => crunL P n ds r (tput d c T) H V K
/-- A guarded operation: its guard's temporary; what that holds. -/
def gdL (d : Option Tmp) (op : Op) (want : Bool) (r : List Oper) (T : Tm) (H : Hp) (V : List Nat) (K : Tm → Hp → List Nat → Prop) : Option Nat → Prop
  | some g => gvL d op want r T H V K g (tget T g)
  | none => False
where
  gvL (d : Option Tmp) (op : Op) (want : Bool) (r : List Oper) (T : Tm) (H : Hp) (V : List Nat) (K : Tm → Hp → List Nat → Prop) (g : Nat) : CV → Prop
  | .v (.bool b) => br (b = want) (cop P (evT ((g, .v (.bool want)) :: T)) H V (fun c H' V' => crunL P n ds r (tput d c ((g, .v (.bool want)) :: T)) H' V' K) op) (crunL P n ds r (tput d (.v undef) ((g, .v (.bool (!want))) :: T)) H V K)
  | .v (.tuple _) => crunL P n ds r (tput d (.v undef) T) H V K
  | _ => False
end
theorem gt_eq : ∀ (ops : List Oper) (j : Nat), gt (ops.map (·.dst)) j = gtmp ops j
  | [], j => by simp [gt, gtmp]
  | o :: r, 0 => by simp [gt, gtmp]
  | o :: r, j + 1 => by
    rw [List.map_cons, gt, gt_eq r j]; simp [gtmp]
theorem crun_lite (P : Program) (n : Nat) (ops : List Oper) : ∀ (l : List Oper) (T : Tm) (H : Hp) (V : List Nat) (K : Tm → Hp → List Nat → Prop), crun P n ops l T H V K = crunL P n (ops.map (·.dst)) l T H V K
  | [], T, H, V, K => rfl
  | ⟨d, op, ty, pos, after, none⟩ :: r, T, H, V, K => by
    rw [crun, crunL]
    simp only [crun_lite P n ops r]
  | ⟨d, op, ty, pos, after, some (j, want)⟩ :: r, T, H, V, K => by
    rw [crun, crunL, gt_eq]
    simp only [crun_lite P n ops r]
    congr 1
    cases gtmp ops j with
    | none => rfl
    | some g =>
      dsimp only
      generalize tget T g = x
      cases x with
      | v x =>
        cases x with
        | bool b => cases b <;> cases want <;> simp [cguard, br]
        | _ => rfl
      | _ => rfl
section
variable (P : Program) (n nb nv : Nat) (ops : List Oper) (ds : List (Option Tmp)) (rest : List Oper) (T : Tm) (H : Hp) (V : List Nat) (K : Tm → Hp → List Nat → Prop) (Q : Exit → Tm → Hp → List Nat → Prop)
@[go_sem ↓] theorem crunL_nil : crunL P n ds [] T H V K = K T H V := rfl
@[go_sem] theorem crunL_plain (d : Option Tmp) (op : Op) (ty : TypeId) (pos : String) (after : Array Edge) : crunL P n ds (⟨d, op, ty, pos, after, none⟩ :: rest) T H V K = (dOk d n ∧ cop P (evT T) H V (contL P n ds d rest T K) op) := rfl
@[go_sem ↓] theorem contL_eq (d : Option Tmp) (c : CV) : contL P n ds d rest T K c H V = crunL P n ds rest (tput d c T) H V K := rfl
@[go_sem] theorem crunL_guard (d : Option Tmp) (op : Op) (ty : TypeId) (pos : String) (after : Array Edge) (j : Nat) (want : Bool) : crunL P n ds (⟨d, op, ty, pos, after, some (j, want)⟩ :: rest) T H V K = (dOk d n ∧ gdL P n ds d op want rest T H V K (gt ds j)) := by
  rw [crunL]
  congr 1
  cases gt ds j with
  | none => rfl
  | some g =>
    simp only [gdL]
    cases tget T g with
    | v x => cases x <;> rfl
    | _ => rfl
@[go_sem] theorem gdL_some (d : Option Tmp) (op : Op) (want : Bool) (g : Nat) : gdL P n ds d op want rest T H V K (some g) = gdL.gvL P n ds d op want rest T H V K g (tget T g) := rfl
@[go_sem] theorem gvL_b (d : Option Tmp) (op : Op) (want b : Bool) (g : Nat) : gdL.gvL P n ds d op want rest T H V K g (.v (.bool b)) = br (b = want) (cop P (evT ((g, .v (.bool want)) :: T)) H V (contL P n ds d rest ((g, .v (.bool want)) :: T) K) op) (crunL P n ds rest (tput d (.v undef) ((g, .v (.bool (!want))) :: T)) H V K) := rfl
@[go_sem] theorem gvL_u (d : Option Tmp) (op : Op) (want : Bool) (g : Nat) (vs : Array Value) : gdL.gvL P n ds d op want rest T H V K g (.v (.tuple vs)) = crunL P n ds rest (tput d (.v undef) T) H V K := rfl
/-- The beginning: the temporaries are read off. -/
def crunS (P : Program) (n : Nat) (ds : List (Option Tmp)) (l : List Oper) (T : Tm) (H : Hp) (V : List Nat) (K : Tm → Hp → List Nat → Prop) : Prop := crunL P n ds l T H V K
@[go_sem] theorem crunS_eq (l : List Oper) : crunS P n ds l T H V K = crunL P n ds l T H V K := rfl
@[go_sem] theorem gt_nil (j : Nat) : gt [] j = none := rfl
@[go_sem] theorem gt_zero (d : Option Tmp) (r : List (Option Tmp)) : gt (d :: r) 0 = d := rfl
@[go_sem] theorem gt_succ (d : Option Tmp) (r : List (Option Tmp)) (j : Nat) : gt (d :: r) (j + 1) = gt r j := rfl
@[go_sem] theorem undef_eq : CV.v undef = .v (.tuple #[]) := rfl

@[go_sem ↓] theorem Wp_skip : Wp P n nb nv .skip Q T H V = Q .normal T H V := rfl
@[go_sem ↓] theorem Wp_region (id : Nat) (ops : List Oper) : Wp P n nb nv (.region id ops.toArray false) Q T H V = crunS P n (ops.map (·.dst)) ops T H V (Q .normal) := by
  show crun P n ops.toArray.toList ops.toArray.toList T H V (Q .normal) = _
  rw [crunS, ← crun_lite]
@[go_sem ↓] theorem Wp_seq (a b : Code) : Wp P n nb nv (.seq a b) Q T H V = Wp P n nb nv a (thn (Wp P n nb nv b Q) Q) T H V := rfl
@[go_sem ↓] theorem Wp_cond (c : Operand) (a b : Code) : Wp P n nb nv (.cond c a b) Q T H V = cbranch (evT T c) (Wp P n nb nv a Q T H V) (Wp P n nb nv b Q T H V) := rfl
@[go_sem ↓] theorem Wp_block (id : Nat) (c : Code) : Wp P n nb nv (.block id c) Q T H V = Wp P n nb nv c (blk id Q) T H V := rfl
@[go_sem ↓] theorem Wp_scope (c : Code) : Wp P n nb nv (.scope c) Q T H V = Wp P n nb nv c (scp Q) T H V := rfl
@[go_sem ↓] theorem Wp_label (l : Nat) : Wp P n nb nv (.label l) Q T H V = Q .normal T H V := rfl
@[go_sem ↓] theorem scp_n : scp Q .normal = Q .normal := rfl
@[go_sem ↓] theorem scp_r : scp Q .ret = Q .ret := rfl
@[go_sem ↓] theorem scp_e (id : Nat) : scp Q (.exit id) = Q (.exit id) := rfl
@[go_sem ↓] theorem Wp_loop (c : Code) : Wp P n nb nv (.loop c) Q T H V = Wl n nb nv (Wp P n nb nv c) Q T H V := rfl
@[go_sem ↓] theorem Wp_ret : Wp P n nb nv .ret Q T H V = Q .ret T H V := rfl
@[go_sem ↓] theorem Wp_exit (id : Nat) : Wp P n nb nv (.exit id) Q T H V = Q (.exit id) T H V := rfl
@[go_sem ↓] theorem thn_n : thn K Q .normal = K := rfl
@[go_sem ↓] theorem thn_r : thn K Q .ret = Q .ret := rfl
@[go_sem ↓] theorem thn_e (id : Nat) : thn K Q (.exit id) = Q (.exit id) := rfl
@[go_sem ↓] theorem blk_n (id : Nat) : blk id Q .normal = Q .normal := rfl
@[go_sem ↓] theorem blk_r (id : Nat) : blk id Q .ret = Q .ret := rfl
@[go_sem ↓] theorem blk_e (id id' : Nat) : blk id Q (.exit id') = if id' = id then Q .normal else Q (.exit id') := rfl
end

/-! ### Where simp looks: at the values, the temporaries, the boxes and the tokens; not into what follows -/
section
variable {P : Program} {n nb nv : Nat} {T T' : Tm} {H H' : Hp} {V V' : List Nat}
@[congr] theorem crunL_congr {ds : List (Option Tmp)} {l : List Oper} {K : Tm → Hp → List Nat → Prop} (h1 : T = T') (h2 : H = H') (h3 : V = V') : crunL P n ds l T H V K = crunL P n ds l T' H' V' K := by subst h1 h2 h3; rfl
@[congr] theorem crunS_congr {ds ds' : List (Option Tmp)} {l : List Oper} {K : Tm → Hp → List Nat → Prop} (h0 : ds = ds') (h1 : T = T') (h2 : H = H') (h3 : V = V') : crunS P n ds l T H V K = crunS P n ds' l T' H' V' K := by subst h0 h1 h2 h3; rfl
@[congr] theorem gdL_congr {ds : List (Option Tmp)} {d : Option Tmp} {op : Op} {want : Bool} {r : List Oper} {K : Tm → Hp → List Nat → Prop} {g g' : Option Nat} (h1 : T = T') (h2 : H = H') (h3 : V = V') (h4 : g = g') : gdL P n ds d op want r T H V K g = gdL P n ds d op want r T' H' V' K g' := by subst h1 h2 h3 h4; rfl
@[congr] theorem gvL_congr {ds : List (Option Tmp)} {d : Option Tmp} {op : Op} {want : Bool} {r : List Oper} {K : Tm → Hp → List Nat → Prop} {g : Nat} {c c' : CV} (h1 : T = T') (h2 : H = H') (h3 : V = V') (h4 : c = c') : gdL.gvL P n ds d op want r T H V K g c = gdL.gvL P n ds d op want r T' H' V' K g c' := by subst h1 h2 h3 h4; rfl
@[congr] theorem Wp_congr {c : Code} {Q : Exit → Tm → Hp → List Nat → Prop} (h1 : T = T') (h2 : H = H') (h3 : V = V') : Wp P n nb nv c Q T H V = Wp P n nb nv c Q T' H' V' := by subst h1 h2 h3; rfl
@[congr] theorem Wl_congr {body : (Exit → Tm → Hp → List Nat → Prop) → Tm → Hp → List Nat → Prop} {Q : Exit → Tm → Hp → List Nat → Prop} (h1 : T = T') (h2 : H = H') (h3 : V = V') : Wl n nb nv body Q T H V = Wl n nb nv body Q T' H' V' := by subst h1 h2 h3; rfl
@[congr] theorem CC_congr {f : FuncId} {args args' : List CV} {R : CV → Hp → List Nat → Prop} (h0 : args = args') (h1 : H = H') (h2 : V = V') : CC P f args H V R = CC P f args' H' V' R := by subst h0 h1 h2; rfl
@[congr] theorem cop_congr {ev : Operand → CV} {K : CV → Hp → List Nat → Prop} {o : Op} (h1 : H = H') (h2 : V = V') : cop P ev H V K o = cop P ev H' V' K o := by subst h1 h2; rfl
@[congr] theorem withO_congr {α : Type} {o o' : Option α} {K : α → Prop} (h : o = o') : withO o K = withO o' K := by subst h; rfl
variable {x x' y y' z z' : CV} {K : CV → Prop}
@[congr] theorem hpick_congr (h1 : x = x') (h2 : y = y') (h3 : z = z') : hpick x y z K = hpick x' y' z' K := by subst h1 h2 h3; rfl
@[congr] theorem hbx_congr {b b' : Nat} {K : List CV → Prop} (h1 : H = H') (h2 : b = b') : hbx H b K = hbx H' b' K := by subst h1 h2; rfl
@[congr] theorem hload_congr {g g' : Bool} {n n' : Nat} (h0 : g = g') (h1 : n = n') (h2 : x = x') (h3 : H = H') : hload g n x H K = hload g' n' x' H' K := by subst h0 h1 h2 h3; rfl
@[congr] theorem hstore_congr {n n' : Nat} {K : Hp → Prop} (h1 : n = n') (h2 : x = x') (h4 : y = y') (h3 : H = H') : hstore n x y H K = hstore n' x' y' H' K := by subst h1 h2 h3 h4; rfl
@[congr] theorem hnil_congr (h1 : x = x') : hnil x K = hnil x' K := by subst h1; rfl
@[congr] theorem hconv_congr {k k' : Option IntKind} (h0 : k = k') (h1 : x = x') : hconv k x K = hconv k' x' K := by subst h0 h1; rfl
@[congr] theorem hs2a_congr {a a' b b' : Nat} (h1 : a = a') (h2 : b = b') (h3 : x = x') : hs2a a b x K = hs2a a' b' x' K := by subst h1 h2 h3; rfl
@[congr] theorem hfaddr_congr {a a' : Nat} (h1 : a = a') (h3 : x = x') : hfaddr a x K = hfaddr a' x' K := by subst h1 h3; rfl
@[congr] theorem hfield_congr {a a' b b' : Nat} {g g' : Bool} (h1 : a = a') (h2 : g = g') (h4 : b = b') (h3 : x = x') : hfield a g b x K = hfield a' g' b' x' K := by subst h1 h2 h3 h4; rfl
@[congr] theorem hindex_congr {a a' b b' : Nat} {g g' : Bool} (h1 : a = a') (h2 : g = g') (h4 : b = b') (h3 : x = x') (h5 : y = y') : hindex a g b x y K = hindex a' g' b' x' y' K := by subst h1 h2 h3 h4 h5; rfl
@[congr] theorem YC_congr {b b' : Nat} {args args' : List CV} {R : CV → Hp → List Nat → Prop} (h3 : b = b') (h0 : args = args') (h1 : H = H') (h2 : V = V') : YC P b args H V R = YC P b' args' H' V' R := by subst h0 h1 h2 h3; rfl
@[congr] theorem cindex_congr {t : TypeId} (h3 : x = x') (h5 : y = y') : cindex P t x y K = cindex P t x' y' K := by subst h3 h5; rfl
@[congr] theorem cmm_congr {f : Int → Int → Int} (h3 : x = x') (h5 : y = y') : cmm f x y K = cmm f x' y' K := by subst h3 h5; rfl
@[congr] theorem ccopy_congr {t tx : TypeId} {R : CV → Hp → List Nat → Prop} (h1 : x = x') (h2 : y = y') (h3 : H = H') (h4 : V = V') : ccopy P t tx x y H V R = ccopy P t tx x' y' H' V' R := by subst h1 h2 h3 h4; rfl
@[congr] theorem hcopy_congr {sz sz' : Nat} {ys ys' : List (List CV)} {R : CV → Hp → List Nat → Prop} (h1 : x = x') (h0 : sz = sz') (h2 : ys = ys') (h3 : H = H') (h4 : V = V') : hcopy x sz ys H V R = hcopy x' sz' ys' H' V' R := by subst h1 h0 h2 h3 h4; rfl
@[congr] theorem hbm_congr {b b' : Nat} {K : List Int → List CV → Prop} (h1 : H = H') (h2 : b = b') : hbm H b K = hbm H' b' K := by subst h1 h2; rfl
@[congr] theorem hlook_congr {v : Value} (h1 : H = H') (h3 : x = x') (h5 : y = y') : hlook v H x y K = hlook v H' x' y' K := by subst h1 h3 h5; rfl
@[congr] theorem hmput_congr {K : Hp → Prop} (h1 : H = H') (h3 : x = x') (h5 : y = y') (h6 : z = z') : hmput H z x y K = hmput H' z' x' y' K := by subst h1 h3 h5 h6; rfl
@[congr] theorem hrange_congr {K : CV → Hp → Prop} (h1 : H = H') (h3 : x = x') : hrange H x K = hrange H' x' K := by subst h1 h3; rfl
@[congr] theorem cnext_congr {s : Bool} {K : CV → Hp → Prop} (h3 : x = x') (h1 : H = H') : cnext x s H K = cnext x' s H' K := by subst h1 h3; rfl
@[congr] theorem centry_congr (h3 : x = x') (h1 : H = H') : centry x H K = centry x' H' K := by subst h1 h3; rfl
@[congr] theorem scp_congr {Q : Exit → Tm → Hp → List Nat → Prop} {e : Exit} : scp Q e T H V = scp Q e T H V := rfl
@[congr] theorem hext_congr {i : Nat} (h1 : x = x') : hext i x K = hext i x' K := by subst h1; rfl
@[congr] theorem hmk_congr {sz sz' : Nat} {zs zs' : List Value} {K : CV → Hp → Prop} (h1 : sz = sz') (h2 : zs = zs') (h3 : H = H') (h4 : x = x') (h5 : y = y') : hmk sz zs H x y K = hmk sz' zs' H' x' y' K := by subst h1 h2 h3 h4 h5; rfl
@[congr] theorem hcall_congr {args args' : List CV} {R : CV → Hp → List Nat → Prop} (h0 : args = args') (h1 : H = H') (h2 : V = V') (h3 : x = x') : hcall P H V x args R = hcall P H' V' x' args' R := by subst h0 h1 h2 h3; rfl
@[congr] theorem ld_congr {g g' : Bool} {n n' o o' : Nat} {cs cs' : List CV} (h0 : g = g') (h1 : n = n') (h2 : cs = cs') (h3 : o = o') : ld g n cs o K = ld g' n' cs' o' K := by subst h0 h1 h2 h3; rfl
@[congr] theorem cbin_congr {op : BinOp} {t : TypeId} (h1 : x = x') (h2 : y = y') : cbin P op t x y K = cbin P op t x' y' K := by subst h1 h2; rfl
@[congr] theorem ibin_congr {op : BinOp} {k : IntKind} {a a' b b' : Int} (h1 : a = a') (h2 : b = b') : ibin op k a b K = ibin op k a' b' K := by subst h1 h2; rfl
@[congr] theorem eqNeq_congr {op : BinOp} {b b' : Bool} (h1 : b = b') : eqNeq op b K = eqNeq op b' K := by subst h1; rfl
@[congr] theorem cun_congr {op : UnOp} (h1 : x = x') : cun op x K = cun op x' K := by subst h1; rfl
@[congr] theorem cidx_congr {t : TypeId} (h1 : x = x') (h2 : y = y') : cidx P t x y K = cidx P t x' y' K := by subst h1 h2; rfl
@[congr] theorem clen_congr {t : TypeId} (h1 : x = x') : clen P t x K = clen P t x' K := by subst h1; rfl
@[congr] theorem cslice_congr {t : TypeId} {lo lo' hi hi' mx mx' : Option CV} (h1 : x = x') (h2 : lo = lo') (h3 : hi = hi') (h4 : mx = mx') : cslice P t x lo hi mx K = cslice P t x' lo' hi' mx' K := by subst h1 h2 h3 h4; rfl
@[congr] theorem capp_congr {t tx : TypeId} {R : CV → Hp → List Nat → Prop} (h1 : x = x') (h2 : y = y') (h3 : H = H') (h4 : V = V') : capp P t tx x y H V R = capp P t tx x' y' H' V' R := by subst h1 h2 h3 h4; rfl
@[congr] theorem happ_congr {sz sz' : Nat} {ys ys' : List (List CV)} {R : CV → Hp → List Nat → Prop} (h1 : x = x') (h0 : sz = sz') (h2 : ys = ys') (h3 : H = H') (h4 : V = V') : happ x sz ys H V R = happ x' sz' ys' H' V' R := by subst h1 h0 h2 h3 h4; rfl
@[congr] theorem csrc_congr {sz sz' : Nat} {R : List (List CV) → Prop} (h1 : x = x') (h0 : sz = sz') (h3 : H = H') : csrc H sz x R = csrc H' sz' x' R := by subst h1 h0 h3; rfl
@[congr] theorem cbranch_congr {yes no : Prop} (h1 : x = x') : cbranch x yes no = cbranch x' yes no := by subst h1; rfl
@[congr] theorem thn_congr {N : Tm → Hp → List Nat → Prop} {Q : Exit → Tm → Hp → List Nat → Prop} {e : Exit} : thn N Q e T H V = thn N Q e T H V := rfl
end
end Go.Proofs.YtdiblbjchhjccaaDoor
namespace Go.Proofs.YtdiblbjchhjccaaDoor

section
variable (P : Program) (nb nv : Nat) (res : List ResultVar) (R : CV → Hp → List Nat → Prop) (T : Tm) (H : Hp) (V : List Nat) (K : List CV → Prop)
@[go_sem] theorem Rt_ret : Rt P nb nv res R .ret T H V = resK P res T H fun cs => Fin nb nv R (one cs) H V := rfl
@[go_sem] theorem Rt_normal : Rt P nb nv res R .normal T H V = resK P res T H fun cs => Fin nb nv R (one cs) H V := rfl
@[go_sem] theorem resK_nil : resK P [] T H K = K [] := rfl
@[go_sem] theorem resK_tmp (t : Nat) (r : List ResultVar) : resK P (.tmp t :: r) T H K = resK P r T H fun cs => K (tget T t :: cs) := rfl
def hcell (H : Hp) : CV → (Nat → Nat → List CV → Prop) → Prop
  | .ptr b o, K => hbx H b fun cs => K b o cs
  | _, _ => False
@[go_sem] theorem resK_cell (a ty : Nat) (r : List ResultVar) : resK P (.cell a ty :: r) T H K = withO (ldTy P ty) fun q => hcell H (tget T a) fun _ o cs => ld q.1 q.2 cs o fun c => resK P r T H fun ds => K (c :: ds) := by
  rw [withO_eq]; simp only [Prod.exists]; rw [resK]
  congr 1; funext g; congr 1; funext n; congr 1
  cases tget T a <;> simp only [hcell, hbx_eq]
@[go_sem] theorem hcell_ptr (b o : Nat) (K : Nat → Nat → List CV → Prop) : hcell H (.ptr b o) K = hbx H b fun cs => K b o cs := rfl
@[go_sem] theorem one_1 (c : CV) : one [c] = c := rfl
@[go_sem] theorem one_0 : one [] = .tup [] := rfl
@[go_sem] theorem one_2 (c d : CV) (cs : List CV) : one (c :: d :: cs) = .tup (c :: d :: cs) := rfl
end
section
variable {P : Program} {nb nv : Nat} {T T' : Tm} {H H' : Hp} {V V' : List Nat}
@[congr] theorem Rt_congr {res : List ResultVar} {R : CV → Hp → List Nat → Prop} {e : Exit} (h1 : T = T') (h2 : H = H') (h3 : V = V') : Rt P nb nv res R e T H V = Rt P nb nv res R e T' H' V' := by subst h1 h2 h3; rfl
@[congr] theorem resK_congr {res res' : List ResultVar} {K : List CV → Prop} (h0 : res = res') (h1 : T = T') (h2 : H = H') : resK P res T H K = resK P res' T' H' K := by subst h0 h1 h2; rfl
@[congr] theorem hcell_congr {x x' : CV} {K : Nat → Nat → List CV → Prop} (h1 : H = H') (h2 : x = x') : hcell H x K = hcell H' x' K := by subst h1 h2; rfl
@[congr] theorem Fin_congr {R : CV → Hp → List Nat → Prop} {r r' : CV} (h0 : r = r') (h1 : H = H') (h2 : V = V') : Fin nb nv R r H V = Fin nb nv R r' H' V' := by subst h0 h1 h2; rfl
end

/-! ### Boxes and tokens behind those that were there -/
section
variable {α : Type} (H L : List α) (j : Nat) (x : α)
@[go_sem] theorem at_len : (H ++ L)[H.length]? = L[0]? := by rw [List.getElem?_append_right (Nat.le_refl _), Nat.sub_self]
@[go_sem] theorem at_len_add : (H ++ L)[H.length + j]? = L[j]? := by rw [List.getElem?_append_right (by omega)]; congr 1; omega
@[go_sem] theorem set_len : (H ++ L).set H.length x = H ++ L.set 0 x := by rw [List.set_append_right _ _ (Nat.le_refl _), Nat.sub_self]
@[go_sem] theorem set_len_add : (H ++ L).set (H.length + j) x = H ++ L.set j x := by rw [List.set_append_right _ _ (by omega), Nat.add_sub_cancel_left]
theorem at_old {b : Nat} {y : α} (h : H[b]? = some y) : (H ++ L)[b]? = some y := by rw [List.getElem?_append_left (List.getElem?_eq_some_iff.1 h).1]; exact h
theorem set_old {b : Nat} {y : α} (h : H[b]? = some y) : (H ++ L).set b x = H.set b x ++ L := List.set_append_left _ _ (List.getElem?_eq_some_iff.1 h).1
end
theorem hbx_some {H : Hp} {b : Nat} {cs : List CV} (h : H[b]? = some (some cs)) (K : List CV → Prop) : hbx H b K = K cs := by simp [hbx, h]
@[go_sem] theorem hbx_new (H : Hp) (cs : List CV) (L : Hp) (K : List CV → Prop) : hbx (H ++ some cs :: L) H.length K = K cs := hbx_some (by simp) K
theorem hbx_new_add (H L : Hp) (j : Nat) (cs : List CV) (h : L[j]? = some (some cs)) (K : List CV → Prop) : hbx (H ++ L) (H.length + j) K = K cs := hbx_some (by rw [at_len_add]; exact h) K
@[go_sem] theorem hbx_new1 (H : Hp) (x : Option (List CV)) (cs : List CV) (L : Hp) (K : List CV → Prop) : hbx (H ++ x :: some cs :: L) (H.length + 1) K = K cs := hbx_new_add H _ 1 cs rfl K
@[go_sem] theorem hbx_new2 (H : Hp) (x y : Option (List CV)) (cs : List CV) (L : Hp) (K : List CV → Prop) : hbx (H ++ x :: y :: some cs :: L) (H.length + 2) K = K cs := hbx_new_add H _ 2 cs rfl K
@[go_sem] theorem hbx_new3 (H : Hp) (x y z : Option (List CV)) (cs : List CV) (L : Hp) (K : List CV → Prop) : hbx (H ++ x :: y :: z :: some cs :: L) (H.length + 3) K = K cs := hbx_new_add H _ 3 cs rfl K

/-! ### Returns -/
/-- The result is r; boxes and tokens are as they were. -/
def Pu (r : CV) (H : Hp) (V : List Nat) : CV → Hp → List Nat → Prop := fun r' H' V' => r' = r ∧ H = H' ∧ V = V'

theorem Fin.pure {nb nv : Nat} {R : CV → Hp → List Nat → Prop} {r r' : CV} {H H' : Hp} {V V' : List Nat} (hR : R r' H V) (hH : H'.take nb = H) (hV : V'.take nv = V) (hle : Le r r') (hok : okV nb nv r')
    (hokH : ∀ (b : Nat) cs, H[b]? = some (some cs) → okL nb nv cs) : Fin nb nv R r H' V' := by
  refine ⟨r', H, V, ?_, hR⟩
  refine Gst.trans (T' := [(0, r')]) (H' := H') (V' := V') (Gst.forget fun p hp => ?_) ?_
  · simp at hp; subst hp; exact hle
  · have := Gst.cut (n := 1) (nb := nb) (nv := nv) (T := [(0, r')]) (H := H') (V := V') nb nv (Nat.le_refl _) (Nat.le_refl _) (fun p hp => by simp at hp; subst hp; exact hok) (by rw [hH]; exact hokH)
    rwa [hH, hV] at this

/-- The result is a slice that may be appended to: it keeps its token, the last one. -/
theorem Fin.keep {nb nv : Nat} {R : CV → Hp → List Nat → Prop} {r r' : CV} {H H' : Hp} {V' V'' : List Nat} (j : Nat) (hR : R r' H V'') (hj : nv ≤ j) (hH : H'.take nb = H) (hV : V'.take j = V'') (hle : Le r r') (hok : okV nb j r')
    (hokH : ∀ (b : Nat) cs, H[b]? = some (some cs) → okL nb nv cs) : Fin nb nv R r H' V' := by
  refine ⟨r', H, V'', ?_, hR⟩
  refine Gst.trans (T' := [(0, r')]) (H' := H') (V' := V') (Gst.forget fun p hp => ?_) ?_
  · simp at hp; subst hp; exact hle
  · have := Gst.cut (n := 1) (nb := nb) (nv := nv) (T := [(0, r')]) (H := H') (V := V') nb j (Nat.le_refl _) hj (fun p hp => by simp at hp; subst hp; exact hok) (by
      rw [hH]
      intro b cs hb
      exact okL_mono (Nat.le_refl _) hj (hokH b cs hb))
    rwa [hH, hV] at this

/-- A nil slice, and one that is tight, may be appended to under a new token. -/
theorem Gst.tok {n nb nv sz : Nat} {x : CV} {xs : List (List CV)} {H : Hp} {V : List Nat} (hsz : 0 < sz) (hx : (x = .v (.slice none 0 0) ∧ xs = []) ∨ x = .sl .ti sz xs) : Gst n nb nv [(0, x)] H V [(0, .sl (.own V.length 0) sz xs)] H (V ++ [0]) := by
  intro D m w a m0 w0 V0 h1 h2 h3 he hs
  obtain ⟨s1, s2⟩ := step_tok hs.inv
  refine ⟨_, ⟨s1, fun k => ?_, hs.size, hs.df⟩, he.trans s2⟩
  simp only [tget]
  by_cases hk : k = 0
  · rw [if_pos hk]
    have ht := (RelT.mono s2 hs.tm) k
    simp only [tget, if_pos hk] at ht
    have hget : ∀ u : Nat, (V ++ [0])[V.length]? = some 0 := fun _ => by rw [at_len]; rfl
    rcases hx with ⟨rfl, rfl⟩ | rfl
    · rw [RelV] at ht; rw [RelV]
      exact ⟨none, 0, ht, Nat.le_refl _, ⟨0, hget 0, Nat.le_refl _, fun _ => .inl rfl⟩, hsz, .inl rfl⟩
    · rw [RelV] at ht; rw [RelV]
      obtain ⟨base, cap, q1, q2, q3, q4, q5⟩ := ht
      exact ⟨base, cap, q1, q2, ⟨0, hget 0, Nat.le_refl _, fun _ => .inl q3⟩, q4, q5⟩
  · rw [if_neg hk, RelV]; trivial

/-- The result gets a new token. -/
theorem Fin.tok {nb nv sz : Nat} {R : CV → Hp → List Nat → Prop} {r : CV} {xs : List (List CV)} {H H' : Hp} {V V' : List Nat} (hR : R (.sl (.own V.length 0) sz xs) H (V ++ [0])) (hsz : 0 < sz) (hx : (r = .v (.slice none 0 0) ∧ xs = []) ∨ r = .sl .ti sz xs) (hH : H'.take nb = H) (hV : V'.take nv = V)
    (hok : okV nb nv r) (hokH : ∀ (b : Nat) cs, H[b]? = some (some cs) → okL nb nv cs) : Fin nb nv R r H' V' := by
  refine ⟨_, H, V ++ [0], ?_, hR⟩
  have := Gst.cut (n := 1) (nb := nb) (nv := nv) (T := [(0, r)]) (H := H') (V := V') nb nv (Nat.le_refl _) (Nat.le_refl _) (fun p hp => by simp at hp; subst hp; exact hok) (by rw [hH]; exact hokH)
  rw [hH, hV] at this
  exact this.trans (Gst.tok hsz hx)

/-! ### Loops, joins -/
def TLe (T : Tm) : Tm → Prop
  | [] => True
  | (k, c) :: r => Le (tget T k) c ∧ TLe T r
theorem TLe.get {T : Tm} : ∀ {T' : Tm}, TLe T T' → ∀ p ∈ T', Le (tget T p.1) p.2
  | [], _, p, hp => by cases hp
  | (k, c) :: r, h, p, hp => by
    rcases List.mem_cons.1 hp with rfl | hp
    · exact h.1
    · exact TLe.get h.2 p hp
@[go_sem] theorem TLe_nil (T : Tm) : TLe T [] = True := rfl
@[go_sem] theorem TLe_cons (T : Tm) (k : Nat) (c : CV) (r : Tm) : TLe T ((k, c) :: r) = (Le (tget T k) c ∧ TLe T r) := rfl
@[go_sem] theorem Le_self (c : CV) : Le c c = True := eq_true (.refl c)
@[go_sem] theorem Le_any (c : CV) : Le c .any = True := eq_true (.any c)
@[go_sem] theorem Le_sh (tk : Tk) (sz : Nat) (xs : List (List CV)) : Le (.sl tk sz xs) (.sl .sh sz xs) = True := eq_true (.sh tk sz xs)

/-- The state behind is this one, all else forgotten. -/
def Sh (n nb nv : Nat) (T : Tm) (H : Hp) (V : List Nat) (s : Tm × Hp × List Nat) : Prop := Gst n nb nv T H V s.1 s.2.1 s.2.2

theorem Sh.forget {n nb nv : Nat} {T T' : Tm} {H H' : Hp} {V V' : List Nat} (h : TLe T T') (hH : H = H') (hV : V = V') : Sh n nb nv T H V (T', H', V') := by
  subst hH hV
  exact Gst.forget (TLe.get h)

/-- What is forgotten may be all of the boxes and tokens from here on. -/
theorem Sh.cut {n nb nv : Nat} {T T' : Tm} {H H' : Hp} {V V' : List Nat} (i j : Nat) (h : TLe T T') (hi : nb ≤ i) (hj : nv ≤ j) (hT : ∀ p ∈ T', okV i j p.2) (hH : ∀ (b : Nat) cs, H'[b]? = some (some cs) → okL i j cs) (eH : H.take i = H') (eV : V.take j = V') : Sh n nb nv T H V (T', H', V') := by
  subst eH eV
  exact (Gst.forget (TLe.get h)).trans (Gst.cut i j hi hj hT hH)

theorem SWp.loop {P : Program} {n nb nv : Nat} {c : Code} {Q : Exit → Tm → Hp → List Nat → Prop} {T : Tm} {H : Hp} {V : List Nat} {α : Type} (S : α → Tm × Hp × List Nat) (ok : α → Prop) (μ : α → Nat) (x0 : α)
    (h0 : ok x0) (he : Sh n nb nv T H V (S x0)) (hr : ∀ x, ok x → SWp P n nb nv c (thn (fun T H V => ∃ x', ok x' ∧ μ x' < μ x ∧ Sh n nb nv T H V (S x')) Q) (S x).1 (S x).2.1 (S x).2.2) : SWp P n nb nv (.loop c) Q T H V := by
  intro ro D m w a m0 w0 V0 h1 h2 h3 hx hs
  obtain ⟨m1, s1, s2⟩ := he D m w a m0 w0 V0 h1 h2 h3 hx hs
  refine wpIn_loop_ghost (fun k a w => ∃ x m, ok x ∧ μ x = k ∧ St D n m w a (S x).1 (S x).2.1 (S x).2.2 ∧ Ext m0 w0 V0 m w (S x).2.2) (μ x0) ⟨x0, m1, h0, rfl, s1, s2⟩ ?_
  rintro k a' w' ⟨x, m2, k0, rfl, k2, k3⟩
  refine wpIn_mono (hr x k0 ro D m2 w' a' m0 w0 V0 h1 h2 h3 k3 k2) fun e a3 w3 ⟨T3, H3, V3, m3, q1, q2, q3⟩ => ?_
  cases e with
  | normal =>
    obtain ⟨x', r1, r2, r3⟩ := q1
    obtain ⟨m4, t1, t2⟩ := r3 D m3 w3 a3 m0 w0 V0 h1 h2 h3 q3 q2
    exact ⟨μ x', r2, x', m4, r1, rfl, t1, t2⟩
  | _ => exact ⟨T3, H3, V3, m3, q1, q2, q3⟩

theorem SWp.block {P : Program} {n nb nv id : Nat} {c : Code} {Q : Exit → Tm → Hp → List Nat → Prop} {T : Tm} {H : Hp} {V : List Nat} (h : SWp P n nb nv c (blk id Q) T H V) : SWp P n nb nv (.block id c) Q T H V := by
  intro ro D m w a m0 w0 V0 h1 h2 h3 hx hs
  refine wpIn_block (wpIn_mono (h ro D m w a m0 w0 V0 h1 h2 h3 hx hs) fun e a' w' ⟨T', H', V', m', k1, k2⟩ => ?_)
  cases e with
  | exit id' =>
    simp only [blk] at k1
    simp only [Exit.inBlock]
    split
    · rename_i hid; rw [if_pos hid] at k1; exact ⟨T', H', V', m', k1, k2⟩
    · rename_i hid; rw [if_neg hid] at k1; exact ⟨T', H', V', m', k1, k2⟩
  | _ => exact ⟨T', H', V', m', k1, k2⟩

/-- Ways that meet again: behind the first piece one of the states S. -/
theorem SWp.join {P : Program} {n nb nv : Nat} {x y : Code} {Q : Exit → Tm → Hp → List Nat → Prop} {T : Tm} {H : Hp} {V : List Nat} {α : Type} (S : α → Tm × Hp × List Nat) (ok : α → Prop)
    (h1 : SWp P n nb nv x (thn (fun T H V => ∃ s, ok s ∧ Sh n nb nv T H V (S s)) Q) T H V) (h2 : ∀ s, ok s → SWp P n nb nv y Q (S s).1 (S s).2.1 (S s).2.2) : SWp P n nb nv (.seq x y) Q T H V :=
  SWp.seq (h1.mono fun e T H V k => by
    cases e with
    | normal => obtain ⟨s, k1, k2⟩ := k; exact SWp.ghost k2 (h2 s k1)
    | _ => exact k)
theorem Wp.s {P : Program} {n nb nv : Nat} {c : Code} {Q : Exit → Tm → Hp → List Nat → Prop} {T : Tm} {H : Hp} {V : List Nat} (h : Wp P n nb nv c Q T H V) : SWp P n nb nv c Q T H V := Wp.sound c h
@[congr] theorem SWp_congr {P : Program} {n nb nv : Nat} {c : Code} {Q : Exit → Tm → Hp → List Nat → Prop} {T T' : Tm} {H H' : Hp} {V V' : List Nat} (h1 : T = T') (h2 : H = H') (h3 : V = V') : SWp P n nb nv c Q T H V = SWp P n nb nv c Q T' H' V' := by subst h1 h2 h3; rfl
@[congr] theorem Sh_congr {n nb nv : Nat} {T T' : Tm} {H H' : Hp} {V V' : List Nat} {s s' : Tm × Hp × List Nat} (h1 : T = T') (h2 : H = H') (h3 : V = V') (h4 : s = s') : Sh n nb nv T H V s = Sh n nb nv T' H' V' s' := by subst h1 h2 h3 h4; rfl

/-! ### The usual posts -/
/-- A new slice that may be appended to. -/
def Fr (sz : Nat) (xs : List (List CV)) (H : Hp) (V : List Nat) : CV → Hp → List Nat → Prop := fun r H' V' => ∃ v, r = .sl (.own V.length v) sz xs ∧ H = H' ∧ V ++ [v] = V'
/-- The slice of token k, appended to. -/
def Ow (k sz : Nat) (xs : List (List CV)) (H : Hp) (V : List Nat) : CV → Hp → List Nat → Prop := fun r H' V' => ∃ v, r = .sl (.own k v) sz xs ∧ H = H' ∧ V.set k v = V'

section
variable {r r0 : CV} {H H' : Hp} {V V' : List Nat} {sz : Nat} {xs : List (List CV)}
theorem Fin.pu (hle : Le r r0) (hok : okV H.length V.length r0) (hokH : ∀ (b : Nat) cs, H[b]? = some (some cs) → okL H.length V.length cs) (hH : H'.take H.length = H) (hV : V'.take V.length = V) : Fin H.length V.length (Pu r0 H V) r H' V' :=
  Fin.pure ⟨rfl, rfl, rfl⟩ hH hV hle hok hokH
theorem Fin.fr {v : Nat} {W : List Nat} (hok : okE H.length V.length xs) (hokH : ∀ (b : Nat) cs, H[b]? = some (some cs) → okL H.length V.length cs) (hH : H'.take H.length = H) : Fin H.length V.length (Fr sz xs H V) (.sl (.own V.length v) sz xs) H' (V ++ v :: W) :=
  Fin.keep (V'' := V ++ [v]) (V.length + 1) ⟨v, rfl, rfl, rfl⟩ (Nat.le_succ _) hH (by rw [List.take_append, List.take_of_length_le (Nat.le_succ _)]; simp) (.refl _) (by rw [okV]; exact ⟨Nat.lt_succ_self _, okE_mono (Nat.le_refl _) (Nat.le_succ _) hok⟩) hokH
theorem Fin.frtok (hsz : 0 < sz) (hx : (r = .v (.slice none 0 0) ∧ xs = []) ∨ r = .sl .ti sz xs) (hok : okE H.length V.length xs) (hokH : ∀ (b : Nat) cs, H[b]? = some (some cs) → okL H.length V.length cs) (hH : H'.take H.length = H) (hV : V'.take V.length = V) : Fin H.length V.length (Fr sz xs H V) r H' V' :=
  Fin.tok ⟨0, rfl, rfl, rfl⟩ hsz hx hH hV (by rcases hx with ⟨rfl, _⟩ | rfl <;> rw [okV] <;> first | trivial | exact ⟨trivial, hok⟩) hokH
theorem Fin.ow {k v : Nat} {W : List Nat} (hk : k < V.length) (hok : okE H.length V.length xs) (hokH : ∀ (b : Nat) cs, H[b]? = some (some cs) → okL H.length V.length cs) (hH : H'.take H.length = H) : Fin H.length V.length (Ow k sz xs H V) (.sl (.own k v) sz xs) H' (V.set k v ++ W) :=
  Fin.keep (V'' := V.set k v) V.length ⟨v, rfl, rfl, rfl⟩ (Nat.le_refl _) hH (by rw [List.take_append, List.take_of_length_le (by simp)]; simp) (.refl _) (by rw [okV]; exact ⟨hk, hok⟩) hokH
theorem Fin.ow0 {k v : Nat} (hk : k < V.length) (hok : okE H.length V.length xs) (hokH : ∀ (b : Nat) cs, H[b]? = some (some cs) → okL H.length V.length cs) (hH : H'.take H.length = H) : Fin H.length V.length (Ow k sz xs H V) (.sl (.own k v) sz xs) H' (V.set k v) := by
  have := Fin.ow (sz := sz) (v := v) (W := []) hk hok hokH hH
  rwa [List.append_nil] at this
end
theorem okE_map {jb jv : Nat} {α : Type} (f : α → List CV) (l : List α) (h : ∀ a, okL jb jv (f a)) : okE jb jv (l.map f) := by
  rw [okE_iff]
  intro e he c hc
  obtain ⟨a, _, rfl⟩ := List.mem_map.1 he
  exact okL_iff.1 (h a) c hc
theorem len_le (l : List CV) (n : Nat) (h : Nat.ble l.length n = true) : l.length ≤ n := Nat.le_of_ble_eq_true h
theorem Le.of_eq {c d : CV} (h : c = d) : Le c d := by subst h; exact .refl c
theorem Le.int {k : IntKind} {a b : Int} (h : a = b) : Le (.v (.int k a)) (.v (.int k b)) := .of_eq (by rw [h])
section
variable {H H' : Hp} {V V' : List Nat} {sz : Nat} {xs ys : List (List CV)}
theorem Fin.own {k v : Nat} (hk : k < V.length) (hx : ys = xs) (hok : okE H.length V.length xs) (hokH : ∀ (b : Nat) cs, H[b]? = some (some cs) → okL H.length V.length cs) (hH : H'.take H.length = H) : Fin H.length V.length (Ow k sz xs H V) (.sl (.own k v) sz ys) H' (V.set k v) := by
  subst hx; exact Fin.ow0 hk hok hokH hH
theorem Fin.fresh {v : Nat} {W : List Nat} (hx : ys = xs) (hok : okE H.length V.length xs) (hokH : ∀ (b : Nat) cs, H[b]? = some (some cs) → okL H.length V.length cs) (hH : H'.take H.length = H) : Fin H.length V.length (Fr sz xs H V) (.sl (.own V.length v) sz ys) H' (V ++ v :: W) := by
  subst hx; exact Fin.fr hok hokH hH
end
end Go.Proofs.YtdiblbjchhjccaaDoor
namespace Go.Proofs.YtdiblbjchhjccaaDoor

section
variable {P : Program} {H : Hp} {V : List Nat}
theorem ld_mono {K K' : CV → Prop} (h : ∀ c, K c → K' c) {g : Bool} {n : Nat} {cs : List CV} {o : Nat} : ld g n cs o K → ld g n cs o K' := by
  unfold ld; split
  · exact fun ⟨a, b⟩ => ⟨a, h _ b⟩
  · exact fun ⟨a, b⟩ => ⟨a, h _ b⟩
theorem eqNeq_mono {K K' : CV → Prop} (h : ∀ c, K c → K' c) {op : BinOp} {b : Bool} : eqNeq op b K → eqNeq op b K' := by
  unfold eqNeq; split <;> first | exact h _ | exact id
theorem ibin_mono {K K' : CV → Prop} (h : ∀ c, K c → K' c) {op : BinOp} {k : IntKind} {a b : Int} : ibin op k a b K → ibin op k a b K' := by
  unfold ibin; split <;> first | exact h _ | exact fun ⟨a, b⟩ => ⟨a, h _ b⟩
theorem cbin_mono {K K' : CV → Prop} (h : ∀ c, K c → K' c) {op : BinOp} {t : TypeId} {x y : CV} : cbin P op t x y K → cbin P op t x y K' := by
  unfold cbin; split
  · exact fun ⟨a, b⟩ => ⟨a, ibin_mono h b⟩
  · exact fun ⟨a, b⟩ => ⟨a, eqNeq_mono h b⟩
  · exact eqNeq_mono h
  · exact fun ⟨a, b⟩ => ⟨a, fun c d => eqNeq_mono h (b c d)⟩
  · exact fun ⟨a, b⟩ => ⟨a, eqNeq_mono h b⟩
  · exact fun ⟨ks, a, b, c, d⟩ => ⟨ks, a, b, c, fun e f => eqNeq_mono h (d e f)⟩
  · exact id
theorem cun_mono {K K' : CV → Prop} (h : ∀ c, K c → K' c) {op : UnOp} {x : CV} : cun op x K → cun op x K' := by
  unfold cun; split <;> (try split) <;> first | exact h _ | exact id
theorem cidx_mono {K K' : CV → Prop} (h : ∀ c, K c → K' c) {t : TypeId} {x i : CV} : cidx P t x i K → cidx P t x i K' := by
  unfold cidx; split
  · exact fun ⟨a, b, c, d⟩ => ⟨a, b, c, h _ d⟩
  · exact fun ⟨a, b, c, d⟩ => ⟨a, b, c, h _ d⟩
  · exact fun ⟨l, g, s, a, b, c, d⟩ => ⟨l, g, s, a, b, c, h _ d⟩
  · exact fun ⟨l, g, s, a, b, c, d⟩ => ⟨l, g, s, a, b, c, h _ d⟩
  · exact id
theorem cslice_mono {K K' : CV → Prop} (h : ∀ c, K c → K' c) {t : TypeId} {x : CV} {lo hi mx : Option CV} : cslice P t x lo hi mx K → cslice P t x lo hi mx K' := by
  unfold cslice
  refine fun ⟨a, b, c, d⟩ => ⟨a, b, c, ?_⟩
  revert d
  split
  · refine fun ⟨p, q, r, s⟩ => ⟨p, q, r, ?_⟩
    revert s
    split
    · exact h _
    · exact h _
    · exact fun ⟨x, y⟩ => ⟨x, h _ y⟩
    · exact id
  · exact fun ⟨p, q, r, s, t⟩ => ⟨p, q, r, s, h _ t⟩
  · exact fun ⟨p, l, g, s, q, r, u, v⟩ => ⟨p, l, g, s, q, r, u, h _ v⟩
  · exact fun ⟨p, q, r, s, t⟩ => ⟨p, q, r, s, h _ t⟩
  · exact fun ⟨p, l, g, s, q, r, u, x, v⟩ => ⟨p, l, g, s, q, r, u, x, h _ v⟩
  · exact id
theorem csrc_mono {K K' : List (List CV) → Prop} (h : ∀ c, K c → K' c) {sz : Nat} {y : CV} : csrc H sz y K → csrc H sz y K' := by
  unfold csrc; split
  · exact fun ⟨a, b⟩ => ⟨a, h _ b⟩
  · exact h _
  · exact fun ⟨a, cs, b, c, d⟩ => ⟨a, cs, b, c, h _ d⟩
  · exact id
theorem asrc_mono {K K' : List (List CV) → Prop} (h : ∀ c, K c → K' c) {tx e : TypeId} {sz : Nat} {y : CV} : asrc P H tx e sz y K → asrc P H tx e sz y K' := by
  unfold asrc; split
  · exact fun ⟨a, b, c, zs, d, f⟩ => ⟨a, b, c, zs, d, h _ f⟩
  · exact fun ⟨a, b⟩ => ⟨a, csrc_mono h b⟩
theorem capp_mono {K K' : CV → Hp → List Nat → Prop} (h : ∀ c H V, K c H V → K' c H V) {t tx : TypeId} {x y : CV} : capp P t tx x y H V K → capp P t tx x y H V K' := by
  unfold capp
  refine fun ⟨e, sz, a, c⟩ => ⟨e, sz, a, asrc_mono (fun ys => ?_) c⟩
  split
  · exact fun ⟨p, q, r⟩ => ⟨p, q, h _ _ _ r⟩
  · exact fun ⟨p, q⟩ => ⟨p, h _ _ _ q⟩
  · exact fun ⟨p, q, cs, r, s, t⟩ => ⟨p, q, cs, r, s, h _ _ _ t⟩
  · exact fun ⟨p, q, r, s⟩ => ⟨p, q, r, h _ _ _ s⟩
  · exact id
theorem ccopy_mono {K K' : CV → Hp → List Nat → Prop} (h : ∀ c H V, K c H V → K' c H V) {t tx : TypeId} {x y : CV} : ccopy P t tx x y H V K → ccopy P t tx x y H V K' := by
  unfold ccopy
  refine fun ⟨e, sz, a, b, c⟩ => ⟨e, sz, a, b, csrc_mono (fun ys => ?_) c⟩
  split
  · exact fun ⟨p, q, cs, r, s, t, u⟩ => ⟨p, q, cs, r, s, t, h _ _ _ u⟩
  · exact id
theorem cmm_mono {K K' : CV → Prop} (h : ∀ c, K c → K' c) {f : Int → Int → Int} {x y : CV} : cmm f x y K → cmm f x y K' := by
  unfold cmm; split
  · exact fun ⟨a, b⟩ => ⟨a, h _ b⟩
  · exact id
theorem cindex_mono {K K' : CV → Prop} (h : ∀ c, K c → K' c) {t : TypeId} {x y : CV} : cindex P t x y K → cindex P t x y K' := by
  unfold cindex; split
  · exact fun ⟨l, g, n, a, b, c, d⟩ => ⟨l, g, n, a, b, c, ld_mono h d⟩
  · exact fun ⟨a, b, c, d⟩ => ⟨a, b, c, h _ d⟩
  · exact id
theorem clook_mono {K K' : CV → Prop} (h : ∀ c, K c → K' c) {t : TypeId} {x y : CV} {ok : Bool} : clook P t x y ok H K → clook P t x y ok H K' := by
  unfold clook
  refine fun ⟨z, a, b, c⟩ => ⟨z, a, b, ?_⟩
  revert c; split
  · exact fun ⟨ks, vs, p, q⟩ => ⟨ks, vs, p, h _ q⟩
  · exact id
theorem cmput_mono {K K' : Hp → Prop} (h : ∀ c, K c → K' c) {t : TypeId} {x y z : CV} : cmput P t x y z H K → cmput P t x y z H K' := by
  unfold cmput
  refine fun ⟨a, b, c⟩ => ⟨a, b, ?_⟩
  revert c; split
  · exact fun ⟨ks, vs, p, q⟩ => ⟨ks, vs, p, h _ q⟩
  · exact id
theorem crange_mono {K K' : CV → Hp → Prop} (h : ∀ c H, K c H → K' c H) {t : TypeId} {x : CV} : crange P t x H K → crange P t x H K' := by
  unfold crange
  refine fun ⟨a, c⟩ => ⟨a, ?_⟩
  revert c; split
  · exact fun ⟨ks, vs, p, q⟩ => ⟨ks, vs, p, h _ _ q⟩
  · exact id
theorem cnext_mono {K K' : CV → Hp → Prop} (h : ∀ c H, K c H → K' c H) {x : CV} {b : Bool} : cnext x b H K → cnext x b H K' := by
  unfold cnext
  refine fun ⟨a, c⟩ => ⟨a, ?_⟩
  revert c; split
  · exact fun ⟨b, n, seen, ks, vs, p, q, r, s, t, u⟩ => ⟨b, n, seen, ks, vs, p, q, r, s, fun x => h _ _ (t x), fun i x y => h _ _ (u i x y)⟩
  · exact id
theorem centry_mono {K K' : CV → Prop} (h : ∀ c, K c → K' c) {x : CV} : centry x H K → centry x H K' := by
  unfold centry
  split
  · exact fun ⟨b, n, seen, i, ks, vs, p, q, r, s, t⟩ => ⟨b, n, seen, i, ks, vs, p, q, r, s, h _ t⟩
  · exact id
theorem clen_mono {K K' : CV → Prop} (h : ∀ c, K c → K' c) {t : TypeId} {x : CV} : clen P t x K → clen P t x K' := by
  unfold clen; split <;> first | exact fun ⟨a, b⟩ => ⟨a, h _ b⟩ | exact id

theorem cop_mono {ev : Operand → CV} {K K' : CV → Hp → List Nat → Prop} (h : ∀ c H V, K c H V → K' c H V) {op : Op} : cop P ev H V K op → cop P ev H V K' op := by
  have h1 : ∀ c, K c H V → K' c H V := fun c => h c H V
  cases op <;> simp only [cop]
  case move x => exact h _ _ _
  case assign x => exact h _ _ _
  case pick c x y => split <;> first | exact h _ _ _ | exact id
  case alloc e => exact fun ⟨zs, a, b⟩ => ⟨zs, a, h _ _ _ b⟩
  case box e x => exact fun ⟨a, b⟩ => ⟨a, h _ _ _ b⟩
  case load t a =>
    refine fun ⟨g, n, p, q⟩ => ⟨g, n, p, ?_⟩
    revert q; split
    · exact fun ⟨cs, a, b⟩ => ⟨cs, a, ld_mono h1 b⟩
    · exact ld_mono h1
    · exact id
  case store t a x =>
    refine fun ⟨g, n, p, q⟩ => ⟨g, n, p, ?_⟩
    revert q; split
    · exact fun ⟨cs, a, b, c, d, e⟩ => ⟨cs, a, b, c, d, h _ _ _ e⟩
    · exact id
  case nilCheck x => split <;> first | exact h _ _ _ | exact id
  case binOp => exact cbin_mono h1
  case unOp => exact cun_mono h1
  case convert s d x =>
    refine fun ⟨k, p, q⟩ => ⟨k, p, ?_⟩
    revert q; split
    · exact h _ _ _
    · exact fun ⟨bs, a, b⟩ => ⟨bs, a, h _ _ _ b⟩
    · exact h _ _ _
    · exact id
  case sliceToArrayPointer t x =>
    refine fun ⟨n, g, sz, p, q⟩ => ⟨n, g, sz, p, ?_⟩
    revert q; split
    · exact fun ⟨a, b, c⟩ => ⟨a, b, h _ _ _ c⟩
    · exact id
  case makeFunc fn first captured => split <;> first | exact h _ _ _ | exact id
  case slice => exact cslice_mono h1
  case fieldAddr s x f =>
    refine fun ⟨o, g, n, p, q⟩ => ⟨o, g, n, p, ?_⟩
    revert q; split <;> first | exact h _ _ _ | exact id
  case field s x f =>
    refine fun ⟨o, g, n, p, q⟩ => ⟨o, g, n, p, ?_⟩
    revert q; split <;> first | exact ld_mono h1 | exact id
  case indexAddr => exact cidx_mono h1
  case index t x i => exact cindex_mono h1
  case makeMap t r => exact fun ⟨a, b, c⟩ => ⟨a, b, h _ _ _ c⟩
  case lookup => exact clook_mono h1
  case mapUpdate => exact cmput_mono fun H' => h _ _ _
  case range => exact crange_mono fun c H' => h _ _ _
  case next => exact cnext_mono fun c H' => h _ _ _
  case entry => exact centry_mono h1
  case extract x i => split <;> first | exact fun ⟨a, b⟩ => ⟨a, h _ _ _ b⟩ | exact id
  case build t parts => exact fun ⟨ps, zs, cs, a, b, c⟩ => ⟨ps, zs, cs, a, b, h _ _ _ c⟩
  case buildSlice t len parts => exact fun ⟨e, sz, a, b, c, d, f⟩ => ⟨e, sz, a, b, c, d, h _ _ _ f⟩
  case makeSlice t l c =>
    refine fun ⟨e, sz, p, zs, q, r⟩ => ⟨e, sz, p, zs, q, ?_⟩
    revert r; split
    · exact fun ⟨a, b, c, d⟩ => ⟨a, b, c, h _ _ _ d⟩
    · exact id
  case call c =>
    split
    · split
      · exact fun q => CC.mono q h
      · exact fun q => CC.mono q h
      · exact fun q => YC.mono q h
      · exact id
    · exact fun ⟨t, tx, x, y, a, b, c⟩ => ⟨t, tx, x, y, a, b, ccopy_mono h c⟩
    · exact fun ⟨x, y, b, c⟩ => ⟨x, y, b, cmm_mono h1 c⟩
    · exact fun ⟨x, y, b, c⟩ => ⟨x, y, b, cmm_mono h1 c⟩
    · exact fun ⟨t, x, a, b, c⟩ => ⟨t, x, a, b, clen_mono h1 c⟩
    · exact fun ⟨t, tx, x, y, a, b, c⟩ => ⟨t, tx, x, y, a, b, capp_mono h c⟩
    · exact id
  all_goals exact id

theorem cop_local {ev ev' : Operand → CV} {K : CV → Hp → List Nat → Prop} {op : Op} (h : ∀ x ∈ op.operands, ev x = ev' x) : cop P ev H V K op = cop P ev' H V K op := by
  cases op <;> simp only [Op.operands] at h <;> simp only [cop]
  case makeFunc fn first captured =>
    have : captured.toList.map ev = captured.toList.map ev' := List.map_congr_left fun x hx => h x (by simp at hx; simp [hx])
    have this2 : first.toList.map ev = first.toList.map ev' := List.map_congr_left fun x hx => h x (by simp at hx; simp [hx])
    rw [this, this2]
  case slice t x lo hi mx => cases lo <;> cases hi <;> cases mx <;> simp_all
  case build t parts =>
    have : (parts.toList.map fun p => (p.1, ev p.2)) = parts.toList.map fun p => (p.1, ev' p.2) := List.map_congr_left fun p hp => by
      rw [h p.2 (by simp at hp; simp; exact ⟨p.1, by simpa using hp⟩)]
    rw [this]
  case buildSlice t len parts =>
    have hp : ∀ p ∈ parts.toList, ev p.2 = ev' p.2 := fun p hp => h p.2 (by simp at hp; simp; exact ⟨p.1, by simpa using hp⟩)
    have e1 : (parts.toList.map fun p => (ev p.2).cells) = parts.toList.map fun p => (ev' p.2).cells := List.map_congr_left fun p q => by rw [hp p q]
    rw [e1]
    congr 1; funext e; congr 1; funext sz; congr 1; congr 1
    have e2 : (parts.toList.all fun p => (ev p.2).cells.length == sz && allOne (ev p.2).cells) = (parts.toList.all fun p => (ev' p.2).cells.length == sz && allOne (ev' p.2).cells) := by
      rw [Bool.eq_iff_iff, List.all_eq_true, List.all_eq_true]
      constructor <;> intro q p hq <;> have := q p hq <;> rw [hp p hq] at * <;> exact this
    rw [e2]
  case call c =>
    have hargs : c.args.toList.map ev = c.args.toList.map ev' := List.map_congr_left fun x hx => h x (by simp at hx; simp [Call.operands, hx])
    cases hc : c.callee with
    | value f => have hf : ev f = ev' f := h f (by simp [Call.operands, hc]); simp only [hf, hargs]
    | invoke r m => rfl
    | builtin b =>
      cases b <;> simp only []
      case len =>
        congr 1; funext t; congr 1; funext x
        by_cases e : c.args = #[x]
        · rw [h x (by simp [Call.operands, e])]
        · simp [e]
      case copy =>
        congr 1; funext t; congr 1; funext tx; congr 1; funext x; congr 1; funext y
        by_cases e : c.args = #[x, y]
        · rw [h x (by simp [Call.operands, e]), h y (by simp [Call.operands, e])]
        · simp [e]
      case min =>
        congr 1; funext x; congr 1; funext y
        by_cases e : c.args = #[x, y]
        · rw [h x (by simp [Call.operands, e]), h y (by simp [Call.operands, e])]
        · simp [e]
      case max =>
        congr 1; funext x; congr 1; funext y
        by_cases e : c.args = #[x, y]
        · rw [h x (by simp [Call.operands, e]), h y (by simp [Call.operands, e])]
        · simp [e]
      case append =>
        congr 1; funext t; congr 1; funext tx; congr 1; funext x; congr 1; funext y
        by_cases e : c.args = #[x, y]
        · rw [h x (by simp [Call.operands, e]), h y (by simp [Call.operands, e])]
        · simp [e]
  all_goals (first | rfl | (simp_all; done))
end

/-! ### Operations that may be carried out early -/
def pureOp : Op → Bool
  | .move _ | .assign _ | .pick .. | .load .. | .nilCheck _ | .binOp .. | .unOp .. | .convert .. | .fieldAddr .. | .field .. | .indexAddr .. | .index .. | .extract .. | .build .. | .makeFunc .. | .buildSlice .. | .slice .. => true
  | .call c => match c.callee with | .builtin .len => true | .builtin .min => true | .builtin .max => true | _ => false
  | _ => false

section
variable {P : Program}
/-- It leaves one value, and would leave the same later on. -/
def Onc (H : Hp) (V : List Nat) (C : Hp → (CV → Hp → List Nat → Prop) → List Nat → Prop) (K : CV → Hp → List Nat → Prop) : Prop :=
  ∃ c, K c H V ∧ ∀ H' V' K', H <+: H' → K' c H' V' → C H' K' V'

theorem ld_once {g : Bool} {n : Nat} {cs : List CV} {o : Nat} {K : CV → Prop} (h : ld g n cs o K) : ∃ c, K c ∧ ∀ K' : CV → Prop, K' c → ld g n cs o K' := by
  unfold ld at *; split at h
  · exact ⟨_, h.2, fun K' k => ⟨h.1, k⟩⟩
  · exact ⟨_, h.2, fun K' k => ⟨h.1, k⟩⟩
theorem eqNeq_once {op : BinOp} {b : Bool} {K : CV → Prop} (h : eqNeq op b K) : ∃ c, K c ∧ ∀ K' : CV → Prop, K' c → eqNeq op b K' := by
  unfold eqNeq at *; split at h
  · exact ⟨_, h, fun K' k => k⟩
  · exact ⟨_, h, fun K' k => k⟩
  · exact h.elim
theorem ibin_once {op : BinOp} {k : IntKind} {a b : Int} {K : CV → Prop} (h : ibin op k a b K) : ∃ c, K c ∧ ∀ K' : CV → Prop, K' c → ibin op k a b K' := by
  unfold ibin at *; split at h <;> first | exact ⟨_, h, fun K' k => k⟩ | exact ⟨_, h.2, fun K' k => ⟨h.1, k⟩⟩
theorem cun_once {op : UnOp} {x : CV} {K : CV → Prop} (h : cun op x K) : ∃ c, K c ∧ ∀ K' : CV → Prop, K' c → cun op x K' := by
  unfold cun at *; split at h
  · split at h
    · exact ⟨_, h, fun K' k => k⟩
    · exact h.elim
  · split at h
    · exact ⟨_, h, fun K' k => k⟩
    · exact ⟨_, h, fun K' k => k⟩
    · exact h.elim
  · exact h.elim
theorem cidx_once {t : TypeId} {x i : CV} {K : CV → Prop} (h : cidx P t x i K) : ∃ c, K c ∧ ∀ K' : CV → Prop, K' c → cidx P t x i K' := by
  unfold cidx at *; split at h
  · obtain ⟨a, b, c, d⟩ := h; exact ⟨_, d, fun K' k => ⟨a, b, c, k⟩⟩
  · obtain ⟨a, b, c, d⟩ := h; exact ⟨_, d, fun K' k => ⟨a, b, c, k⟩⟩
  · obtain ⟨l, g, s, a, b, c, d⟩ := h; exact ⟨_, d, fun K' k => ⟨l, g, s, a, b, c, k⟩⟩
  · obtain ⟨l, g, s, a, b, c, d⟩ := h; exact ⟨_, d, fun K' k => ⟨l, g, s, a, b, c, k⟩⟩
  · exact h.elim
theorem clen_once {t : TypeId} {x : CV} {K : CV → Prop} (h : clen P t x K) : ∃ c, K c ∧ ∀ K' : CV → Prop, K' c → clen P t x K' := by
  unfold clen at *; split at h
  all_goals first | exact ⟨_, h.2, fun K' k => ⟨h.1, k⟩⟩ | exact h.elim
theorem cmm_once {f : Int → Int → Int} {x y : CV} {K : CV → Prop} (h : cmm f x y K) : ∃ c, K c ∧ ∀ K' : CV → Prop, K' c → cmm f x y K' := by
  unfold cmm at *; split at h
  all_goals first | exact ⟨_, h.2, fun K' k => ⟨h.1, k⟩⟩ | exact h.elim
theorem cindex_once {t : TypeId} {x y : CV} {K : CV → Prop} (h : cindex P t x y K) : ∃ c, K c ∧ ∀ K' : CV → Prop, K' c → cindex P t x y K' := by
  unfold cindex at *; split at h
  · obtain ⟨l, g, n, a, b, c, d⟩ := h
    obtain ⟨r, h1, h2⟩ := ld_once d
    exact ⟨r, h1, fun K' k => ⟨l, g, n, a, b, c, h2 K' k⟩⟩
  · obtain ⟨a, b, c, d⟩ := h
    exact ⟨_, d, fun K' k => ⟨a, b, c, k⟩⟩
  · exact h.elim

theorem cslice_once {t : TypeId} {x : CV} {lo hi mx : Option CV} {K : CV → Prop} (h : cslice P t x lo hi mx K) : ∃ c, K c ∧ ∀ K' : CV → Prop, K' c → cslice P t x lo hi mx K' := by
  unfold cslice at *
  obtain ⟨a, b, c, d⟩ := h
  split at d
  · obtain ⟨p, q, r, s⟩ := d
    split at s
    · exact ⟨_, s, fun K' k => ⟨a, b, c, p, q, r, k⟩⟩
    · exact ⟨_, s, fun K' k => ⟨a, b, c, p, q, r, k⟩⟩
    · exact ⟨_, s.2, fun K' k => ⟨a, b, c, p, q, r, s.1, k⟩⟩
    · exact s.elim
  · obtain ⟨p, q, r, s, u⟩ := d
    exact ⟨_, u, fun K' k => ⟨a, b, c, p, q, r, s, k⟩⟩
  · obtain ⟨p, l, g, s, q, r, u, v⟩ := d
    exact ⟨_, v, fun K' k => ⟨a, b, c, p, l, g, s, q, r, u, k⟩⟩
  · obtain ⟨p, q, r, s, u⟩ := d
    exact ⟨_, u, fun K' k => ⟨a, b, c, p, q, r, s, k⟩⟩
  · obtain ⟨p, l, g, s, q, r, u, x, v⟩ := d
    exact ⟨_, v, fun K' k => ⟨a, b, c, p, l, g, s, q, r, u, x, k⟩⟩
  · exact d.elim
/-- Not a comparison with nil. -/
def noNil : CV → CV → Bool
  | .sl .., .v _ => false
  | _, _ => true
theorem cbin_once {op : BinOp} {t : TypeId} {x y : CV} {K : CV → Prop} (hn : noNil x y = true) (h : cbin P op t x y K) : ∃ c, K c ∧ ∀ K' : CV → Prop, K' c → cbin P op t x y K' := by
  unfold cbin at *; split at h
  · obtain ⟨a, b⟩ := h
    obtain ⟨c, h1, h2⟩ := ibin_once b
    exact ⟨c, h1, fun K' k => ⟨a, h2 K' k⟩⟩
  · obtain ⟨a, b⟩ := h
    obtain ⟨c, h1, h2⟩ := eqNeq_once b
    exact ⟨c, h1, fun K' k => ⟨a, h2 K' k⟩⟩
  · exact eqNeq_once h
  · cases hn
  · obtain ⟨a, b⟩ := h
    obtain ⟨c, h1, h2⟩ := eqNeq_once b
    exact ⟨c, h1, fun K' k => ⟨a, h2 K' k⟩⟩
  · rename_i cs ds
    obtain ⟨ks, a, b, c, d⟩ := h
    classical
    obtain ⟨r, h1, h2⟩ := eqNeq_once (d (decide (cs = ds)) (by simp))
    refine ⟨r, h1, fun K' k => ⟨ks, a, b, c, fun e he => ?_⟩⟩
    have : e = decide (cs = ds) := by rw [Bool.eq_iff_iff, he]; simp
    rw [this]; exact h2 K' k
  · exact h.elim

def pureOk (ev : Operand → CV) : Op → Bool
  | .binOp _ _ x y _ => noNil (ev x) (ev y)
  | _ => true

theorem cop_once {ev : Operand → CV} {H : Hp} {V : List Nat} {K : CV → Hp → List Nat → Prop} {op : Op} (hp : pureOp op = true) (hk : pureOk ev op = true) (h : cop P ev H V K op) :
    ∃ c, K c H V ∧ ∀ H' V' K', H <+: H' → K' c H' V' → cop P ev H' V' K' op := by
  cases op <;> simp only [pureOp, Bool.false_eq_true] at hp <;> simp only [cop] at h ⊢
  case move x => exact ⟨_, h, fun H' V' K' _ k => k⟩
  case assign x => exact ⟨_, h, fun H' V' K' _ k => k⟩
  case pick c x y =>
    split at h
    · exact ⟨_, h, fun H' V' K' _ k => k⟩
    · exact h.elim
  case load t a =>
    obtain ⟨g, n, p, q⟩ := h
    split at q
    · obtain ⟨cs, a, b⟩ := q
      obtain ⟨c, h1, h2⟩ := ld_once b
      exact ⟨c, h1, fun H' V' K' hl k => ⟨g, n, p, cs, (by obtain ⟨L, rfl⟩ := hl; exact at_old _ _ a), h2 (fun c => K' c H' V') k⟩⟩
    · obtain ⟨c, h1, h2⟩ := ld_once q
      exact ⟨c, h1, fun H' V' K' hl k => ⟨g, n, p, h2 (fun c => K' c H' V') k⟩⟩
    · exact q.elim
  case nilCheck x =>
    split at h
    · exact ⟨_, h, fun H' V' K' _ k => k⟩
    · exact ⟨_, h, fun H' V' K' _ k => k⟩
    · exact ⟨_, h, fun H' V' K' _ k => k⟩
    · exact ⟨_, h, fun H' V' K' _ k => k⟩
    · exact ⟨_, h, fun H' V' K' _ k => k⟩
    · exact h.elim
  case slice =>
    obtain ⟨c, h1, h2⟩ := cslice_once h
    exact ⟨c, h1, fun H' V' K' _ k => h2 (fun c => K' c H' V') k⟩
  case makeFunc fn first captured =>
    split at h
    · exact ⟨_, h, fun H' V' K' _ k => k⟩
    · exact ⟨_, h, fun H' V' K' _ k => k⟩
    · exact h.elim
  case buildSlice t len parts =>
    obtain ⟨e, sz, a, b, c, d, f⟩ := h
    exact ⟨_, f, fun H' V' K' _ k => ⟨e, sz, a, b, c, d, k⟩⟩
  case binOp =>
    obtain ⟨c, h1, h2⟩ := cbin_once hk h
    exact ⟨c, h1, fun H' V' K' _ k => h2 (fun c => K' c H' V') k⟩
  case unOp =>
    obtain ⟨c, h1, h2⟩ := cun_once h
    exact ⟨c, h1, fun H' V' K' _ k => h2 (fun c => K' c H' V') k⟩
  case convert s d x =>
    obtain ⟨k, p, q⟩ := h
    split at q
    · rename_i he; exact ⟨_, q, fun H' V' K' _ r => ⟨_, p, by rw [he]; exact r⟩⟩
    · rename_i he
      obtain ⟨bs, a, b⟩ := q
      exact ⟨_, b, fun H' V' K' _ r => ⟨_, p, by rw [he]; exact ⟨bs, a, r⟩⟩⟩
    · rename_i he; exact ⟨_, q, fun H' V' K' _ r => ⟨_, p, by rw [he]; exact r⟩⟩
    · exact q.elim
  case fieldAddr s x f =>
    obtain ⟨o, g, n, p, q⟩ := h
    split at q
    · exact ⟨_, q, fun H' V' K' _ r => ⟨_, _, _, p, r⟩⟩
    · exact ⟨_, q, fun H' V' K' _ r => ⟨_, _, _, p, r⟩⟩
    · exact q.elim
  case field s x f =>
    obtain ⟨o, g, n, p, q⟩ := h
    split at q
    · obtain ⟨c, h1, h2⟩ := ld_once q
      exact ⟨c, h1, fun H' V' K' hl k => ⟨_, _, _, p, h2 (fun c => K' c H' V') k⟩⟩
    · exact q.elim
  case indexAddr =>
    obtain ⟨c, h1, h2⟩ := cidx_once h
    exact ⟨c, h1, fun H' V' K' _ k => h2 (fun c => K' c H' V') k⟩
  case index t x i =>
    obtain ⟨c, h1, h2⟩ := cindex_once h
    exact ⟨c, h1, fun H' V' K' _ k => h2 (fun c => K' c H' V') k⟩
  case extract x i =>
    split at h
    · obtain ⟨a, b⟩ := h
      exact ⟨_, b, fun H' V' K' _ r => ⟨a, r⟩⟩
    · exact h.elim
  case build t parts =>
    obtain ⟨ps, zs, cs, a, b, c⟩ := h
    exact ⟨_, c, fun H' V' K' _ r => ⟨ps, zs, cs, a, b, r⟩⟩
  case call c =>
    split at h
    · rename_i hc; rw [hc] at hp; cases hp
    · rename_i hc; rw [hc] at hp; cases hp
    · obtain ⟨x, y, a, q⟩ := h
      obtain ⟨r, h1, h2⟩ := cmm_once q
      exact ⟨r, h1, fun H' V' K' _ k => ⟨x, y, a, h2 (fun c => K' c H' V') k⟩⟩
    · obtain ⟨x, y, a, q⟩ := h
      obtain ⟨r, h1, h2⟩ := cmm_once q
      exact ⟨r, h1, fun H' V' K' _ k => ⟨x, y, a, h2 (fun c => K' c H' V') k⟩⟩
    · obtain ⟨t, x, a, b, q⟩ := h
      obtain ⟨r, h1, h2⟩ := clen_once q
      exact ⟨r, h1, fun H' V' K' _ k => ⟨t, x, a, b, h2 (fun c => K' c H' V') k⟩⟩
    · rename_i hc; rw [hc] at hp; cases hp
    · exact h.elim
end
end Go.Proofs.YtdiblbjchhjccaaDoor
