/-
  A PROGRAM LOGIC, PART 3: what one operation does, said of values with contents.
-/
import Derived.Test.YtffjhibomipemaaL2
namespace Go.Proofs.Ytffjhibomipemaa

abbrev Hp := List (Option (List CV))

/-- A CONTRACT: function f, called with these arguments where the boxes hold H and the tokens stand at V, returns, and R holds of the result, the boxes and the tokens behind it. -/
def CC (P : Program) (f : FuncId) (args : List CV) (H : Hp) (V : List Nat) (R : CV → Hp → List Nat → Prop) : Prop :=
  (∃ fn, P.funcs[f]? = some fn ∧ fn.body.isSome = true ∧ (fn.name == "runtime.NumGoroutine") = false) ∧
  ∀ (m : Gh) (w : World) (us : List Value), Inv m w H V → RelL m w V args us →
    Calls P f us.toArray w fun e w' => ∃ u m' r H' V', e = .returned u ∧ R r H' V' ∧ Inv m' w' H' V' ∧ RelV m' w' V' r u ∧ Ext m w V m' w' V'

theorem CC.mono {P : Program} {f : FuncId} {args : List CV} {H : Hp} {V : List Nat} {R R' : CV → Hp → List Nat → Prop} (h : CC P f args H V R) (hr : ∀ r H' V', R r H' V' → R' r H' V') : CC P f args H V R' :=
  ⟨h.1, fun m w us hi hu => (h.2 m w us hi hu).mono fun _ _ ⟨u, m', r, H', V', h1, h2, h3⟩ => ⟨u, m', r, H', V', h1, hr _ _ _ h2, h3⟩⟩

/-! ### What is asked of the types -/
def szOf (P : Program) (t : TypeId) : Option Nat := (P.info? t).map (·.size)
/-- A slice type: its element type, of so many cells. -/
def slTy (P : Program) (t : TypeId) : Option (TypeId × Nat) :=
  match P.underlying t with
  | some (.slice e) => (P.info? e).bind fun i => if 0 < i.size && 0 < i.bytes && decide (i.bytes ≤ 128) && (match i.zero with | some z => z.cells.size == i.size | none => false) then some (e, i.size) else none
  | _ => none
/-- A type to load or store: whether it is a struct or an array; how many cells. -/
def ldTy (P : Program) (t : TypeId) : Option (Bool × Nat) :=
  match P.underlying t with
  | some d => (P.info? t).map fun i => ((match d with | .struct _ | .array _ _ => true | _ => false), i.size)
  | none => none
/-- A struct's field: where it begins; how it is loaded. -/
def fdTy (P : Program) (s : TypeId) (f : Nat) : Option (Nat × Bool × Nat) :=
  match P.underlying s with
  | some (.struct fs) => (fs[f]?).bind fun fd => (ldTy P fd.type).bind fun x => if x.2 = 0 then none else some (fd.offset, x.1, x.2)
  | _ => none
/-- An array type: how many elements; how one is loaded. -/
def arTy (P : Program) (t : TypeId) : Option (Nat × Bool × Nat) :=
  match P.underlying t with
  | some (.array n e) => (ldTy P e).bind fun x => if x.2 = 0 || n ≤ 1 then none else some (n, x.1, x.2)
  | _ => none
def zcTy (P : Program) (t : TypeId) : Option (List Value) := (P.info? t).bind fun i => i.zero.bind fun z => if z.cells.toList.all (·.oneCell') then some z.cells.toList else none
/-- A struct or array type to build: the places of its parts; its zero value's cells. -/
def bdTy (P : Program) (t : TypeId) : Option (List (Nat × Nat) × List Value) :=
  match P.underlying t with
  | some (.struct fs) => (fs.toList.mapM fun f => (szOf P f.type).map fun n => (f.offset, n)).bind fun ps => (zcTy P t).map fun zs => (ps, zs)
  | some (.array n e) => (szOf P e).bind fun k => (zcTy P t).map fun zs => ((List.range n).map fun i => (i * k, k), zs)
  | _ => none
/-- A byte, as a cell. -/
def u8 (b : UInt8) : List CV := [.v (.int .u8 (b.toNat : Int))]
/-- A conversion: to an integer kind; or (none) of bytes to a string. -/
def cvTy (P : Program) (s d : TypeId) : Option (Option IntKind) :=
  match P.underlying d with
  | some (.int k) => (P.underlying s).map fun _ => some k
  | some .string => (match P.underlying s with | some (.slice e) => (match P.underlying e with | some (.int .u8) => some none | _ => none) | _ => none)
  | _ => none
/-- A struct or an array of integers of these kinds: '==' on it holds if all cells are equal. -/
def FlatEq (P : Program) (t : TypeId) (ks : List IntKind) : Prop :=
  P.eqGuardType P.depth t = false ∧ ∀ (w : World) (zs zs' : List Int), zs.length = ks.length → zs'.length = ks.length →
    (Op.equal t (.agg ((ks.zip zs).map fun p => .int p.1 p.2).toArray) (.agg ((ks.zip zs').map fun p => .int p.1 p.2).toArray)).run P w = .ok (decide (zs = zs')) w

/-- The cells are integers of these kinds. -/
def fits : List IntKind → List CV → Prop
  | [], cs => cs = []
  | k :: ks, cs => ∃ z r, cs = .v (.int k z) :: r ∧ fits ks r

/-! ### Pieces -/
def bitop (op : BinOp) (k : IntKind) (a b : Int) : Int :=
  k.wrap ((match op with
    | .and => BitVec.ofInt k.bits a &&& BitVec.ofInt k.bits b
    | .or => BitVec.ofInt k.bits a ||| BitVec.ofInt k.bits b
    | .xor => BitVec.ofInt k.bits a ^^^ BitVec.ofInt k.bits b
    | _ => BitVec.ofInt k.bits a &&& ~~~(BitVec.ofInt k.bits b)).toNat)

def shl (k : IntKind) (a b : Int) : Int := k.wrap (a * 2 ^ (min b.toNat k.bits))
def shr (k : IntKind) (a b : Int) : Int := a.fdiv (2 ^ (min b.toNat k.bits))

def ld (g : Bool) (n : Nat) (cs : List CV) (o : Nat) (K : CV → Prop) : Prop :=
  match g with
  | true => o + n ≤ cs.length ∧ K (.agg ((cs.drop o).take n))
  | false => ∃ h : o < cs.length, K cs[o]

def ibin (op : BinOp) (k : IntKind) (a b : Int) (K : CV → Prop) : Prop :=
  match op with
  | .add => K (.v (.int k (k.wrap (a + b))))
  | .sub => K (.v (.int k (k.wrap (a - b))))
  | .mul => K (.v (.int k (k.wrap (a * b))))
  | .quo => b ≠ 0 ∧ K (.v (.int k (k.wrap (a.tdiv b))))
  | .rem => b ≠ 0 ∧ K (.v (.int k (a.tmod b)))
  | .and => K (.v (.int k (bitop .and k a b)))
  | .or => K (.v (.int k (bitop .or k a b)))
  | .xor => K (.v (.int k (bitop .xor k a b)))
  | .andNot => K (.v (.int k (bitop .andNot k a b)))
  | .shl => 0 ≤ b ∧ K (.v (.int k (shl k a b)))
  | .shr => 0 ≤ b ∧ K (.v (.int k (shr k a b)))
  | .eql => K (.v (.bool (decide (a = b))))
  | .neq => K (.v (.bool (!decide (a = b))))
  | .lss => K (.v (.bool (decide (a < b))))
  | .leq => K (.v (.bool (decide (a ≤ b))))
  | .gtr => K (.v (.bool (decide (b < a))))
  | .geq => K (.v (.bool (decide (b ≤ a))))

/-- Shifts take a count of another kind; all else takes two of one kind. -/
def sameK (op : BinOp) (k k' : IntKind) : Prop := match op with | .shl | .shr => True | _ => k = k'

def eqNeq (op : BinOp) (b : Bool) (K : CV → Prop) : Prop :=
  match op with
  | .eql => K (.v (.bool b))
  | .neq => K (.v (.bool (!b)))
  | _ => False

def cbin (P : Program) (op : BinOp) (t : TypeId) (x y : CV) (K : CV → Prop) : Prop :=
  match x, y with
  | .v (.int k a), .v (.int k' b) => sameK op k k' ∧ ibin op k a b K
  | .v (.bool a), .v (.bool b) => P.underlying t = some .bool ∧ eqNeq op (a == b) K
  | .v (.string a), .v (.string b) => eqNeq op (a.toList == b.toList) K
  | .sl _ _ xs, .v (.slice none 0 0) => (slTy P t).isSome = true ∧ ∀ b : Bool, (b = true → xs = []) → eqNeq op b K
  | .v (.slice none 0 0), .v (.slice none 0 0) => (slTy P t).isSome = true ∧ eqNeq op true K
  | .agg cs, .agg ds => ∃ ks, FlatEq P t ks ∧ fits ks cs ∧ fits ks ds ∧ ∀ b : Bool, (b = true ↔ cs = ds) → eqNeq op b K
  | _, _ => False

def cun (op : UnOp) (x : CV) (K : CV → Prop) : Prop :=
  match op, x with
  | .not, .v (.bool b) => K (.v (.bool (!b)))
  | .neg, .v (.int k n) => K (.v (.int k (k.wrap (0 - n))))
  | _, _ => False

/-- A slice's bound: it is an integer, not negative; what it is. -/
def bok : Option CV → Prop
  | none => True
  | some (.v (.int _ n)) => 0 ≤ n
  | _ => False
def bvl (x : Option CV) (d : Nat) : Nat :=
  match x with
  | some (.v (.int _ n)) => n.toNat
  | _ => d

/-- n cells at a time. -/
def chunks (sz : Nat) : Nat → List CV → List (List CV)
  | 0, _ => []
  | n + 1, cs => cs.take sz :: chunks sz n (cs.drop sz)

def cslice (P : Program) (t : TypeId) (x : CV) (lo hi mx : Option CV) (K : CV → Prop) : Prop :=
  bok lo ∧ bok hi ∧ bok mx ∧
  match x with
  | .sl tk sz xs => (slTy P t).map (·.2) = some sz ∧ bvl lo 0 ≤ bvl hi xs.length ∧ bvl hi xs.length ≤ xs.length ∧
      match hi, mx with
      | none, none => K (.sl tk sz (xs.drop (bvl lo 0)))
      | some h, none => K (.sl .sh sz ((xs.take (bvl (some h) 0)).drop (bvl lo 0)))
      | some h, some q => bvl (some q) 0 = bvl (some h) 0 ∧ K (.sl .ti sz ((xs.take (bvl (some h) 0)).drop (bvl lo 0)))
      | none, some _ => False
  | .v (.slice none 0 0) => (slTy P t).isSome = true ∧ mx.isNone = true ∧ bvl lo 0 = 0 ∧ bvl hi 0 = 0 ∧ K (.v (.slice none 0 0))
  | .ptr b o => mx.isNone = true ∧ ∃ n g sz, arTy P t = some (n, g, sz) ∧ bvl lo 0 ≤ bvl hi n ∧ bvl hi n ≤ n ∧ K (.bsl b (o + bvl lo 0 * sz) (bvl hi n - bvl lo 0) sz)
  | .bsl b o n sz => mx.isNone = true ∧ (slTy P t).map (·.2) = some sz ∧ bvl lo 0 ≤ bvl hi n ∧ bvl hi n ≤ n ∧ K (.bsl b (o + bvl lo 0 * sz) (bvl hi n - bvl lo 0) sz)
  | _ => False

def cidx (P : Program) (t : TypeId) (x i : CV) (K : CV → Prop) : Prop :=
  match x, i with
  | .sl _ sz xs, .v (.int _ n) => (slTy P t).map (·.2) = some sz ∧ 0 ≤ n ∧ ∃ h : n.toNat < xs.length, K (.eptr xs[n.toNat] 0)
  | .bsl b o n' sz, .v (.int _ n) => (slTy P t).map (·.2) = some sz ∧ 0 ≤ n ∧ n < n' ∧ K (.ptr b (o + n.toNat * sz))
  | .ptr b o, .v (.int _ n) => ∃ len g sz, arTy P t = some (len, g, sz) ∧ 0 ≤ n ∧ n < len ∧ K (.ptr b (o + n.toNat * sz))
  | .eptr cs o, .v (.int _ n) => ∃ len g sz, arTy P t = some (len, g, sz) ∧ 0 ≤ n ∧ n < len ∧ K (.eptr cs (o + n.toNat * sz))
  | _, _ => False

def cfill (ps : List (Nat × Nat)) (cs : List CV) : List (Nat × CV) → Option (List CV)
  | [] => some cs
  | (i, v) :: r =>
    match ps[i]? with
    | some (o, n) => if v.cells.length = n ∧ o + n ≤ cs.length ∧ allOne v.cells = true then cfill ps (cs.take o ++ v.cells ++ cs.drop (o + n)) r else none
    | none => none

/-- What is appended: its elements. -/
def csrc (H : Hp) (sz : Nat) (y : CV) (K : List (List CV) → Prop) : Prop :=
  match y with
  | .sl _ sz' ys => sz' = sz ∧ K ys
  | .v (.slice none 0 0) => K []
  | .bsl b o n sz' => sz' = sz ∧ ∃ cs, H[b]? = some (some cs) ∧ o + n * sz ≤ cs.length ∧ K (chunks sz n (cs.drop o))
  | _ => False

def capp (P : Program) (t tx : TypeId) (x y : CV) (H : Hp) (V : List Nat) (K : CV → Hp → List Nat → Prop) : Prop :=
  ∃ e sz, slTy P t = some (e, sz) ∧ (slTy P tx).isSome = true ∧ csrc H sz y fun ys =>
    match x with
    | .sl .ti sz' xs => sz' = sz ∧ xs.length + ys.length ≤ 1099511627776 ∧ K (.sl (.own V.length 0) sz (xs ++ ys)) H (V ++ [0])
    | .v (.slice none 0 0) => ys.length ≤ 1099511627776 ∧ K (.sl (.own V.length 0) sz ys) H (V ++ [0])
    | .sl (.own k v) sz' xs => sz' = sz ∧ V[k]? = some v ∧ xs.length + ys.length ≤ 1099511627776 ∧ K (.sl (.own k (v + 1)) sz (xs ++ ys)) H (V.set k (v + 1))
    | _ => False

def clen (P : Program) (t : TypeId) (x : CV) (K : CV → Prop) : Prop :=
  match x with
  | .sl _ _ xs => (slTy P t).isSome = true ∧ K (.v (.int .i64 xs.length))
  | .bsl _ _ n _ => (slTy P t).isSome = true ∧ K (.v (.int .i64 n))
  | .v (.slice none 0 0) => (slTy P t).isSome = true ∧ K (.v (.int .i64 0))
  | .v (.string s) => P.underlying t = some .string ∧ K (.v (.int .i64 s.size))
  | _ => False

def cpick (t : Bool) (x y : CV) : CV :=
  match t with
  | true => x
  | false => y

/-- WHAT AN OPERATION DOES. K takes the result, the boxes, the tokens. -/
def cop (P : Program) (ev : Operand → CV) (H : Hp) (V : List Nat) (K : CV → Hp → List Nat → Prop) : Op → Prop
  | .move x => K (ev x) H V
  | .assign x => K (ev x) H V
  | .pick c x y => match ev c with | .v (.bool t) => K (cpick t (ev x) (ev y)) H V | _ => False
  | .alloc e => ∃ zs, zcTy P e = some zs ∧ K (.ptr H.length 0) (H ++ [some (zs.map .v)]) V
  | .box _ x => allOne (ev x).cells = true ∧ K (.ptr H.length 0) (H ++ [some (ev x).cells]) V
  | .load t a => ∃ g n, ldTy P t = some (g, n) ∧
      match ev a with
      | .ptr b o => ∃ cs, H[b]? = some (some cs) ∧ ld g n cs o fun c => K c H V
      | .eptr cs o => ld g n cs o fun c => K c H V
      | _ => False
  | .store t a x => ∃ g n, ldTy P t = some (g, n) ∧
      match ev a with
      | .ptr b o => ∃ cs, H[b]? = some (some cs) ∧ allOne (ev x).cells = true ∧ (ev x).cells.length = n ∧ o + n ≤ cs.length ∧ K .any (H.set b (some (cs.take o ++ (ev x).cells ++ cs.drop (o + n)))) V
      | _ => False
  | .nilCheck x => match ev x with
      | .ptr b o => K (.ptr b o) H V
      | .eptr cs o => K (.eptr cs o) H V
      | .fn f caps => K (.fn f caps) H V
      | _ => False
  | .binOp op t x y _ => cbin P op t (ev x) (ev y) fun c => K c H V
  | .unOp op _ x => cun op (ev x) fun c => K c H V
  | .convert s d x => ∃ k, cvTy P s d = some k ∧
      match k, ev x with
      | some k, .v (.int _ n) => K (.v (.int k (k.wrap n))) H V
      | none, .sl _ _ xs => ∃ bs : List UInt8, xs = bs.map u8 ∧ K (.v (.string ⟨bs.toArray⟩)) H V
      | none, .v (.slice none 0 0) => K (.v (.string .empty)) H V
      | _, _ => False
  | .sliceToArrayPointer t x => ∃ n g sz, arTy P t = some (n, g, sz) ∧ match ev x with | .sl _ sz' xs => sz' = sz ∧ n ≤ xs.length ∧ K (.eptr (xs.take n).flatten 0) H V | _ => False
  | .makeFunc fn first captured => match fn, first.toList with | .func f, [] => K (.fn f (captured.toList.map ev)) H V | _, _ => False
  | .slice t x lo hi mx => cslice P t (ev x) (lo.map ev) (hi.map ev) (mx.map ev) fun c => K c H V
  | .fieldAddr s x f => ∃ o g n, fdTy P s f = some (o, g, n) ∧
      match ev x with
      | .ptr b o' => K (.ptr b (o' + o)) H V
      | .eptr cs o' => K (.eptr cs (o' + o)) H V
      | _ => False
  | .field s x f => ∃ o g n, fdTy P s f = some (o, g, n) ∧ match ev x with | .agg cs => ld g n cs o fun c => K c H V | _ => False
  | .indexAddr t x i => cidx P t (ev x) (ev i) fun c => K c H V
  | .index t x i => ∃ len g n, arTy P t = some (len, g, n) ∧
      match ev x, ev i with
      | .agg cs, .v (.int _ j) => 0 ≤ j ∧ j < len ∧ ld g n cs (j.toNat * n) fun c => K c H V
      | _, _ => False
  | .extract x i => match ev x with | .tup cs => ∃ h : i < cs.length, K cs[i] H V | _ => False
  | .build t parts => ∃ ps zs cs, bdTy P t = some (ps, zs) ∧ cfill ps (zs.map .v) (parts.toList.map fun p => (p.1, ev p.2)) = some cs ∧ K (.agg cs) H V
  | .buildSlice t len parts => ∃ e sz, slTy P t = some (e, sz) ∧ parts.toList.map (·.1) = List.range len ∧ (parts.toList.all fun p => (ev p.2).cells.length == sz && allOne (ev p.2).cells) = true ∧ len * sz ≤ 1048576 ∧
      K (.sl .ti sz (parts.toList.map fun p => (ev p.2).cells)) H V
  | .makeSlice t l c => ∃ e sz, slTy P t = some (e, sz) ∧ ∃ zs, zcTy P e = some zs ∧
      match ev l, ev c with
      | .v (.int _ n), .v (.int _ n') => n = n' ∧ 0 ≤ n ∧ n ≤ 1099511627776 ∧ K (.bsl H.length 0 n.toNat sz) (H ++ [some ((List.replicate n.toNat (zs.map CV.v)).flatten)]) V
      | _, _ => False
  | .call c => match c.callee with
      | .value f => match ev f with | .fn g caps => CC P g (c.args.toList.map ev ++ caps) H V K | _ => False
      | .builtin .len => ∃ t x, c.argTypes = #[t] ∧ c.args = #[x] ∧ clen P t (ev x) fun r => K r H V
      | .builtin .append => ∃ t tx x y, c.argTypes = #[t, tx] ∧ c.args = #[x, y] ∧ capp P t tx (ev x) (ev y) H V K
      | _ => False
  | _ => False
end Go.Proofs.Ytffjhibomipemaa
