/- The abstract evaluator: values, heaps, operations, code, calls. Plain Lean functions over lists; nothing of the program's memory in it. -/
import GoSem.Core.View
namespace Go.PV

/-- What is known of a read-only slice beside its elements: it is nil; its capacity is its length; it is not nil; nothing. -/
inductive SK where | nil | full | nn | any
  deriving DecidableEq, Repr

/-- Values without addresses into the heap of the call. -/
inductive R where
  | int (k : IntKind) (n : Int)
  | bool (b : Bool)
  | str (s : List UInt8)
  | nilp
  | nilf
  | nili
  | fn (f : Nat)
  | rptr (cs : List R)
  | sl (sz : Nat) (k : SK) (xs : List R)
  | agg (cs : List R)
  | iface (t : Nat) (x : R)
  deriving Inhabited

def R.cells : R → List R
  | .agg cs => cs
  | x => [x]

inductive V where
  | r (x : R)
  | ptr (b k f : Nat)
  | sl (sz b k len : Nat)
  | isl (b k f sz : Nat) (ag : Bool) (len : Nat)
  | agg (cs : List V)
  | tup (xs : List V)
  | fn (f : Nat) (first caps : List V)
  | iface (t : Nat) (x : V)
  | junk
  deriving Inhabited

def V.cells : V → List V
  | .r x => x.cells.map V.r
  | .agg cs => cs
  | .tup _ => []
  | .junk => []
  | v => [v]

def allR : List V → Option (List R)
  | [] => some []
  | .r x :: t => match allR t with | some l => some (x :: l) | none => none
  | _ :: _ => none

def mkAgg (cs : List V) : V := match allR cs with | some rs => .r (.agg rs) | none => .agg cs

inductive Blk where
  | rows (sz : Nat) (els : List R)
  | mix (sz : Nat) (cs : List V)
  | dead
  deriving Inhabited

abbrev Heap := List Blk

/-! ### forcing: identities in continuation form, so that the kernel works on values and not on what is still to be reckoned -/
section force
variable {α : Type}
def withNat (n : Nat) (k : Nat → α) : α := match n with | 0 => k 0 | p + 1 => k (Nat.succ p)
def withInt (n : Int) (k : Int → α) : α := match n with | .ofNat m => withNat m fun m => k (.ofNat m) | .negSucc m => withNat m fun m => k (.negSucc m)
def withBool (b : Bool) (k : Bool → α) : α := match b with | true => k true | false => k false
def withList {β : Type} (f : β → (β → α) → α) : List β → (List β → α) → α
  | [], k => k []
  | x :: xs, k => f x fun x => withList f xs fun xs => k (x :: xs)
def withR0 (x : R) (k : R → α) : α :=
  match x with
  | .int i n => withInt n fun n => k (.int i n)
  | .bool b => withBool b fun b => k (.bool b)
  | x => k x
def withRs (f : R → (R → α) → α) (x : R) (k : R → α) : α :=
  match x with
  | .int i n => withInt n fun n => k (.int i n)
  | .bool b => withBool b fun b => k (.bool b)
  | .agg cs => withList f cs fun cs => k (.agg cs)
  | .sl sz i xs => withList f xs fun xs => k (.sl sz i xs)
  | .rptr cs => withList f cs fun cs => k (.rptr cs)
  | x => k x
/-- Three levels deep; what lies deeper stays as it is. -/
def withR (x : R) (k : R → α) : α := withRs (withRs (withRs withR0)) x k
def withRL (xs : List R) (k : List R → α) : α := withList withR xs k
def withVs (f : V → (V → α) → α) (v : V) (k : V → α) : α :=
  match v with
  | .r x => withR x fun x => k (.r x)
  | .ptr b i f => withNat b fun b => withNat i fun i => withNat f fun f => k (.ptr b i f)
  | .sl sz b i n => withNat b fun b => withNat i fun i => withNat n fun n => k (.sl sz b i n)
  | .isl b i f sz ag n => withNat b fun b => withNat i fun i => withNat f fun f => withNat n fun n => k (.isl b i f sz ag n)
  | .agg cs => withList f cs fun cs => k (.agg cs)
  | .tup cs => withList f cs fun cs => k (.tup cs)
  | .fn g a c => withList f a fun a => withList f c fun c => k (.fn g a c)
  | .iface t x => f x fun x => k (.iface t x)
  | .junk => k .junk
def withV (v : V) (k : V → α) : α := withVs (withVs fun v k => k v) v k
def withVL (xs : List V) (k : List V → α) : α := withList withV xs k
def withBlk : Blk → (Blk → α) → α
  | .rows sz els, k => withNat sz fun sz => withRL els fun els => k (.rows sz els)
  | .mix sz cs, k => withNat sz fun sz => withVL cs fun cs => k (.mix sz cs)
  | .dead, k => k .dead
def withH : List Blk → (List Blk → α) → α
  | [], k => k []
  | b :: t, k => withBlk b fun b => withH t fun t => k (b :: t)
/-- A store into a frame (by the recursors themselves: the kernel's shortest way). -/
noncomputable def setK (l : List V) : Nat → V → (List V → α) → α :=
  List.rec (motive := fun _ => Nat → V → (List V → α) → α) (fun _ _ k => k [])
    (fun x xs ih d v k => Nat.rec (motive := fun _ => α) (k (v :: xs)) (fun m _ => ih m v fun xs => k (x :: xs)) d) l
noncomputable def putK (fr : List V) (d : Option Nat) (v : V) (k : List V → α) : α := match d with | some d => setK fr d v k | none => k fr
end force

/-! ### reading and writing parts of an element -/
def partR (ag : Bool) (n : Nat) (cs : List R) (f : Nat) : Option R :=
  match ag with
  | true => if f + n ≤ cs.length then some (.agg ((cs.drop f).take n)) else none
  | false => cs[f]?

def partV (ag : Bool) (n : Nat) (cs : List V) (f : Nat) : Option V :=
  match ag with
  | true => if f + n ≤ cs.length then some (mkAgg ((cs.drop f).take n)) else none
  | false => cs[f]?

def setRange {α : Type} (cs : List α) (f : Nat) (xs : List α) : List α := cs.take f ++ xs ++ cs.drop (f + xs.length)

def loadH (h : Heap) (ag : Bool) (n : Nat) : V → Option V
  | .ptr b k f => match h[b]? with
    | some (.rows _ els) => match els[k]? with
      | some el => match partR ag n el.cells f with | some x => some (.r x) | none => none
      | none => none
    | some (.mix sz cs) => partV ag n cs (k * sz + f)
    | _ => none
  | .r (.rptr cs) => match partR ag n cs 0 with | some x => some (.r x) | none => none
  | _ => none

def setEl (el : R) (f : Nat) (xs : List R) : Option R :=
  match el with
  | .agg cs => if f + xs.length ≤ cs.length then some (.agg (setRange cs f xs)) else none
  | _ => match f, xs with
    | 0, [x] => some x
    | _, _ => none

def storeH (h : Heap) (n : Nat) (v : V) : V → Option Heap
  | .ptr b k f =>
    if v.cells.length ≠ n then none else
    match h[b]? with
    | some (.rows sz els) => match els[k]? with
      | none => none
      | some el => match allR v.cells with
        | some xs => match setEl el f xs with
          | some el' => some (h.set b (.rows sz (els.set k el')))
          | none => none
        | none => match els with
          | [el] => if k = 0 ∧ f + n ≤ el.cells.length then some (h.set b (.mix sz (setRange (el.cells.map V.r) f v.cells))) else none
          | _ => none
    | some (.mix sz cs) => if k * sz + f + n ≤ cs.length then some (h.set b (.mix sz (setRange cs (k * sz + f) v.cells))) else none
    | _ => none
  | _ => none

/-! ### slices -/
def scal (cs : List R) : Option R :=
  match cs with
  | [] => none
  | x :: t => match t with | [] => (match x with | .agg _ => none | _ => some x) | _ => none

def chunk1 (ag : Bool) (cs : List R) : Option R := match ag with | true => some (.agg cs) | false => scal cs

/-- n elements of sz cells each. -/
def chunks (ag : Bool) (sz : Nat) : Nat → List R → Option (List R)
  | 0, _ => some []
  | n + 1, cs => if sz ≤ cs.length then (match chunk1 ag (cs.take sz) with
    | none => none
    | some x => match chunks ag sz n (cs.drop sz) with
      | some l => some (x :: l)
      | none => none) else none

/-- The elements of a slice, when all of them are free of addresses. -/
def elemsR (h : Heap) : V → Option (List R)
  | .r (.sl _ _ xs) => some xs
  | .r (.str s) => some (s.map fun c => .int .u8 c.toNat)
  | .sl sz b k len => match h[b]? with
    | some (.rows sz' els) => if sz = sz' ∧ k + len ≤ els.length then some ((els.drop k).take len) else none
    | _ => none
  | .isl b k f sz ag len => match h[b]? with
    | some (.rows _ els) => match els[k]? with
      | some el => chunks ag sz len (el.cells.drop f)
      | none => none
    | some (.mix s cs) => match allR ((cs.drop (k * s + f)).take (len * sz)) with
      | some rs => chunks ag sz len rs
      | none => none
    | _ => none
  | _ => none

/-- The same, of what is no string. -/
def elemsS (h : Heap) (x : V) : Option (List R) :=
  match x with
  | .r (.str _) => none
  | x => elemsR h x

/-- The cells of a slice's elements. -/
def elemsV (h : Heap) : V → Option (List V)
  | .sl sz b k len => match h[b]? with
    | some (.mix sz' cs) => if sz = sz' ∧ (k + len) * sz ≤ cs.length then some ((cs.drop (k * sz)).take (len * sz)) else none
    | _ => none
  | _ => none

def strideOf : V → Option Nat
  | .r (.sl sz _ _) => some sz
  | .r (.str _) => some 1
  | .sl sz _ _ _ => some sz
  | .isl _ _ _ sz _ _ => some sz
  | _ => none

def lenV : V → Option Nat
  | .r (.sl _ _ xs) => some xs.length
  | .r (.str s) => some s.length
  | .sl _ _ _ n => some n
  | .isl _ _ _ _ _ n => some n
  | _ => none

/-! ### pure operations -/
inductive BO where
  | add | sub | mul | quo | rem | and | or | xor | andNot | shl | shr | eql | neq | lss | leq | gtr | geq
  deriving DecidableEq, Repr

def bytesLess : List UInt8 → List UInt8 → Bool
  | _, [] => false
  | [], _ :: _ => true
  | a :: x, b :: y => a < b || (a == b && bytesLess x y)

/-- IntKind.wrap with the powers written out. -/
def wrapK (k : IntKind) (n : Int) : Int :=
  match k with
  | .u64 => n % 18446744073709551616
  | .i64 => if n % 18446744073709551616 ≥ 9223372036854775808 then n % 18446744073709551616 - 18446744073709551616 else n % 18446744073709551616
  | .u8 => n % 256
  | .u32 => n % 4294967296
  | .u16 => n % 65536
  | .i8 => if n % 256 ≥ 128 then n % 256 - 256 else n % 256
  | .i16 => if n % 65536 ≥ 32768 then n % 65536 - 65536 else n % 65536
  | .i32 => if n % 4294967296 ≥ 2147483648 then n % 4294967296 - 4294967296 else n % 4294967296

def bitsK (k : IntKind) : Nat := match k with | .u64 => 64 | .i64 => 64 | .u8 => 8 | .i8 => 8 | .u16 => 16 | .i16 => 16 | .u32 => 32 | .i32 => 32

/-- A number's two's complement. -/
def natK (k : IntKind) (n : Int) : Nat :=
  match k with
  | .u64 => (n % 18446744073709551616).toNat
  | .i64 => (n % 18446744073709551616).toNat
  | .u8 => (n % 256).toNat
  | .i8 => (n % 256).toNat
  | .u16 => (n % 65536).toNat
  | .i16 => (n % 65536).toNat
  | .u32 => (n % 4294967296).toNat
  | .i32 => (n % 4294967296).toNat

def shlI (k : IntKind) (a b : Int) : Int := wrapK k (a * ((2 ^ (min b.toNat (bitsK k)) : Nat) : Int))
def shrI (k : IntKind) (a b : Int) : Int := a / ((2 ^ (min b.toNat (bitsK k)) : Nat) : Int)
def andI (k : IntKind) (a b : Int) : Int := wrapK k ((natK k a &&& natK k b : Nat) : Int)
def orI (k : IntKind) (a b : Int) : Int := wrapK k ((natK k a ||| natK k b : Nat) : Int)
def xorI (k : IntKind) (a b : Int) : Int := wrapK k ((natK k a ^^^ natK k b : Nat) : Int)
def andNotI (k : IntKind) (a b : Int) : Int := wrapK k ((natK k a &&& natK k (-1 - b) : Nat) : Int)

def binI (op : BO) (k : IntKind) (a : Int) (k' : IntKind) (b : Int) : Option R :=
  match op with
  | .shl => if b < 0 then none else some (.int k (shlI k a b))
  | .shr => if b < 0 then none else some (.int k (shrI k a b))
  | .add => if k = k' then some (.int k (wrapK k (a + b))) else none
  | .sub => if k = k' then some (.int k (wrapK k (a - b))) else none
  | .mul => if k = k' then some (.int k (wrapK k (a * b))) else none
  | .quo => if k = k' then (if b = 0 then none else some (.int k (wrapK k (a.tdiv b)))) else none
  | .rem => if k = k' then (if b = 0 then none else some (.int k (a.tmod b))) else none
  | .and => if k = k' then some (.int k (andI k a b)) else none
  | .or => if k = k' then some (.int k (orI k a b)) else none
  | .xor => if k = k' then some (.int k (xorI k a b)) else none
  | .andNot => if k = k' then some (.int k (andNotI k a b)) else none
  | .eql => if k = k' then some (.bool (a == b)) else none
  | .neq => if k = k' then some (.bool (a != b)) else none
  | .lss => if k = k' then some (.bool (decide (a < b))) else none
  | .leq => if k = k' then some (.bool (decide (a ≤ b))) else none
  | .gtr => if k = k' then some (.bool (decide (a > b))) else none
  | .geq => if k = k' then some (.bool (decide (a ≥ b))) else none

def binS (op : BO) (a b : List UInt8) : Option R :=
  match op with
  | .add => if a.length + b.length ≤ 2 ^ 62 then some (.str (a ++ b)) else none
  | .eql => some (.bool (a == b))
  | .neq => some (.bool (!(a == b)))
  | .lss => some (.bool (bytesLess a b))
  | .leq => some (.bool (bytesLess a b || a == b))
  | .gtr => some (.bool (!(bytesLess a b || a == b)))
  | .geq => some (.bool (!(bytesLess a b)))
  | _ => none

def binR (op : BO) (x y : R) : Option R :=
  match x with
  | .int k a => match y with | .int k' b => binI op k a k' b | _ => none
  | .str a => match y with | .str b => binS op a b | _ => none
  | _ => none

/-- Whole numbers (false) or bools (true). -/
def eqCell (k : Bool) (x y : R) : Option Bool :=
  match k with
  | false => match x with
    | .int k a => match y with | .int k' b => if k = k' then some (a == b) else none | _ => none
    | _ => none
  | true => match x with
    | .bool a => match y with | .bool b => some (a == b) | _ => none
    | _ => none

def eqCells : List Bool → List R → List R → Option Bool
  | [], xs, ys => match xs with | [] => (match ys with | [] => some true | _ => none) | _ => none
  | k :: ks, xs, ys => match xs with
    | [] => none
    | x :: xs => match ys with
      | [] => none
      | y :: ys => match eqCell k x y with
        | none => none
        | some b => match eqCells ks xs ys with
          | none => none
          | some c => some (b && c)

inductive UO where | neg | xor | not
  deriving DecidableEq, Repr

inductive POp where
  | mov | pick
  | bin (op : BO)
  | eqb (neg : Bool)
  | eqa (neg : Bool) (ks : List Bool)
  | eqp (neg : Bool)
  | eqn (neg : Bool)
  | tas (t : Nat) (z : R)
  | un (op : UO)
  | conv (k : IntKind)
  | nilc
  | fld (off : Nat)
  | fldv (ag : Bool) (n off : Nat)
  | ixa (len sz : Nat)
  | ixs (sz : Nat)
  | ixv (len : Nat) (ag : Bool) (sz : Nat)
  | ixstr
  | slstr (lo hi : Bool)
  | slsl (sz : Nat) (lo hi mx : Bool)
  | slar (n sz : Nat) (ag : Bool) (lo hi : Bool)
  | len | lens | cap
  | mn | mx
  | bld (z : List R) (parts : List (Nat × Nat))
  | mkif (t : Nat)
  | mkfn (f : Nat) (first : Nat)
  | ext (i : Nat)
  | add64 | sub64 | ovl
  deriving Inhabited

def natOf : V → Option Nat
  | .r (.int _ n) => if 0 ≤ n then some n.toNat else none
  | _ => none

/-- The bounds of a slice expression: from, to, whether a third index closes it at 'to'. 'known': no bound above the length is taken. -/
def bounds (lo hi mx : Bool) (len : Nat) (xs : List V) : Option (Nat × Nat × Bool) :=
  let (l, xs) := match lo, xs with | true, x :: t => (natOf x, t) | true, [] => (none, []) | false, t => (some 0, t)
  let (h, xs) := match hi, xs with | true, x :: t => (natOf x, t) | true, [] => (none, []) | false, t => (some len, t)
  let m := match mx, xs with | true, [x] => natOf x | true, _ => none | false, _ => some len
  match l, h, m with
  | some l, some h, some m =>
    if mx then (if l ≤ h ∧ h = m ∧ m ≤ len then some (l, h, true) else none)
    else if l ≤ h ∧ h ≤ len then some (l, h, false) else none
  | _, _, _ => none

def fill (cs : List V) : List ((Nat × Nat) × V) → Option (List V)
  | [] => some cs
  | ((off, n), v) :: t => if v.cells.length = n ∧ off + n ≤ cs.length then fill (setRange cs off v.cells) t else none

/-- Is a slice nil? -/
def isNil (v : V) : Option Bool :=
  match v with
  | .r (.sl _ k xs) => match k with
    | .nil => some true
    | .nn => some false
    | _ => match xs with | [] => none | _ => some false
  | .sl _ _ _ n => match n with | 0 => none | _ => some false
  | _ => none

def opR (x : Option R) : Option V := match x with | some x => some (.r x) | none => none
def one (xs : List V) (f : V → Option V) : Option V := match xs with | [] => none | x :: t => match t with | [] => f x | _ => none
def two (xs : List V) (f : V → V → Option V) : Option V := match xs with | [] => none | x :: t => match t with | [] => none | y :: t => match t with | [] => f x y | _ => none
def three (xs : List V) (f : V → V → V → Option V) : Option V := match xs with | [] => none | x :: t => two t (f x)

def pickV (c a b : V) : Option V :=
  match c with
  | .r (.bool c) => match a with
    | .r (.bool x) => match b with
      | .r (.bool y) => some (.r (.bool (bif c then x else y)))
      | _ => some (bif c then a else b)
    | _ => some (bif c then a else b)
  | _ => none

def eqpV (neg : Bool) (x y : V) : Option V :=
  match x with
  | .r .nilp => match y with
    | .r .nilp => some (.r (.bool (true != neg)))
    | .ptr _ _ _ => some (.r (.bool (false != neg)))
    | .r (.rptr _) => some (.r (.bool (false != neg)))
    | _ => none
  | .ptr _ _ _ => match y with
    | .r .nilp => some (.r (.bool (false != neg)))
    | _ => none
  | .r (.rptr _) => match y with
    | .r .nilp => some (.r (.bool (false != neg)))
    | _ => none
  | _ => none

def unV (op : UO) (x : V) : Option V :=
  match op with
  | .neg => match x with | .r (.int k n) => some (.r (.int k (wrapK k (0 - n)))) | _ => none
  | .xor => match x with | .r (.int k n) => some (.r (.int k (xorI k (-1) n))) | _ => none
  | .not => match x with | .r (.bool b) => some (.r (.bool (!b))) | _ => none

def nilcV (x : V) : Option V :=
  match x with
  | .ptr _ _ _ => some x
  | .r (.rptr _) => some x
  | .fn _ _ _ => some x
  | .r (.fn _) => some x
  | _ => none

def fldV (off : Nat) (x : V) : Option V :=
  match x with
  | .ptr b k f => some (.ptr b k (f + off))
  | .r (.rptr cs) => some (.r (.rptr (cs.drop off)))
  | _ => none

def fldvV (ag : Bool) (n off : Nat) (x : V) : Option V :=
  match x with
  | .r (.agg cs) => opR (partR ag n cs off)
  | .agg cs => partV ag n cs off
  | _ => none

def ixaV (len sz : Nat) (x y : V) : Option V :=
  match y with
  | .r (.int _ i) => match x with
    | .ptr b k f => if 0 ≤ i ∧ i < len then some (.ptr b k (f + i.toNat * sz)) else none
    | .r (.rptr cs) => if 0 ≤ i ∧ i < len then some (.r (.rptr (cs.drop (i.toNat * sz)))) else none
    | _ => none
  | _ => none

def ixsV (sz : Nat) (x y : V) : Option V :=
  match y with
  | .r (.int _ i) => match x with
    | .sl sz' b k len => if sz = sz' ∧ 0 ≤ i ∧ i < len then some (.ptr b (k + i.toNat) 0) else none
    | .isl b k f sz' _ len => if sz = sz' ∧ 0 ≤ i ∧ i < len then some (.ptr b k (f + i.toNat * sz)) else none
    | .r (.sl sz' _ xs) => if sz = sz' ∧ 0 ≤ i then (match xs[i.toNat]? with | some x => some (.r (.rptr x.cells)) | none => none) else none
    | _ => none
  | _ => none

def ixvV (len : Nat) (ag : Bool) (sz : Nat) (x y : V) : Option V :=
  match y with
  | .r (.int _ i) => match x with
    | .r (.agg cs) => if 0 ≤ i ∧ i < len then opR (partR ag sz cs (i.toNat * sz)) else none
    | .agg cs => if 0 ≤ i ∧ i < len then partV ag sz cs (i.toNat * sz) else none
    | _ => none
  | _ => none

def ixstrV (x y : V) : Option V :=
  match y with
  | .r (.int _ i) => match x with
    | .r (.str s) => if 0 ≤ i then (match s[i.toNat]? with | some c => some (.r (.int .u8 c.toNat)) | none => none) else none
    | _ => none
  | _ => none

def slstrV (lo hi : Bool) (xs : List V) : Option V :=
  match xs with
  | [] => none
  | x :: t => match x with
    | .r (.str s) => match bounds lo hi false s.length t with | some (l, h, _) => some (.r (.str ((s.drop l).take (h - l)))) | none => none
    | _ => none

def slKind (kd : SK) (m : Bool) : SK := match kd with | .nil => .nil | _ => match m with | true => .full | false => .any

def slslV (sz : Nat) (lo hi mx : Bool) (xs : List V) : Option V :=
  match xs with
  | [] => none
  | x :: t => match x with
    | .sl sz' b k len => if sz = sz' then (match bounds lo hi mx len t with | some (l, h, m) => (match m with | true => none | false => some (.sl sz b (k + l) (h - l))) | none => none) else none
    | .isl b k f sz' ag len => if sz = sz' then (match bounds lo hi mx len t with | some (l, h, _) => some (.isl b k (f + l * sz) sz ag (h - l)) | none => none) else none
    | .r (.sl sz' kd xs) => if sz = sz' then (match bounds lo hi mx xs.length t with | some (l, h, m) => some (.r (.sl sz (slKind kd m) ((xs.drop l).take (h - l)))) | none => none) else none
    | _ => none

def slarV (n sz : Nat) (ag lo hi : Bool) (xs : List V) : Option V :=
  match xs with
  | [] => none
  | x :: t => match x with
    | .ptr b k f => match bounds lo hi false n t with | some (l, h, _) => some (.isl b k (f + l * sz) sz ag (h - l)) | none => none
    | .r (.rptr cs) => match bounds lo hi false n t with
      | some (l, h, _) => match chunks ag sz (h - l) (cs.drop (l * sz)) with | some xs => some (.r (.sl sz .any xs)) | none => none
      | none => none
    | _ => none

def capV (x : V) : Option V :=
  match x with
  | .r (.sl _ k xs) => match k with | .nil => some (.r (.int .i64 0)) | .full => some (.r (.int .i64 xs.length)) | _ => none
  | _ => none

def mnV (x y : V) : Option V := match x with
  | .r (.int k a) => match y with | .r (.int _ b) => some (.r (.int k (if b < a then b else a))) | _ => none
  | _ => none
def mxV (x y : V) : Option V := match x with
  | .r (.int k a) => match y with | .r (.int _ b) => some (.r (.int k (if b > a then b else a))) | _ => none
  | _ => none

def bldV (z : List R) (parts : List (Nat × Nat)) (xs : List V) : Option V :=
  if parts.length = xs.length then (match fill (z.map V.r) (parts.zip xs) with | some cs => some (mkAgg cs) | none => none) else none

def mkifV (t : Nat) (x : V) : Option V := match x with | .r x => some (.r (.iface t x)) | x => some (.iface t x)
def mkfnV (f n : Nat) (xs : List V) : Option V := match xs with | [] => some (.r (.fn f)) | _ => some (.fn f (xs.take n) (xs.drop n))
def extV (i : Nat) (x : V) : Option V := match x with | .tup xs => xs[i]? | _ => none

def u64of (x : V) : Option Nat := match x with | .r (.int .u64 n) => some n.toNat | _ => none
def add64V (x y c : V) : Option V :=
  match u64of x, u64of y, u64of c with
  | some x, some y, some c => if c > 1 then none else some (.tup [.r (.int .u64 (((x + y + c) % 2 ^ 64 : Nat))), .r (.int .u64 (((x + y + c) / 2 ^ 64 : Nat)))])
  | _, _, _ => none
def sub64V (x y c : V) : Option V :=
  match u64of x, u64of y, u64of c with
  | some x, some y, some c => if c > 1 then none else some (.tup [.r (.int .u64 (((x + 2 ^ 64 - y - c) % 2 ^ 64 : Nat))), .r (.int .u64 ((if x < y + c then 1 else 0 : Nat)))])
  | _, _, _ => none
def ovlV (x y : V) : Option V :=
  match x with
  | .sl _ b _ _ => match y with | .sl _ b' _ _ => if b = b' then none else some (.r (.bool false)) | .r (.sl _ _ _) => some (.r (.bool false)) | _ => none
  | .r (.sl _ _ _) => match y with | .sl _ _ _ _ => some (.r (.bool false)) | _ => none
  | _ => none
def bin2 (op : BO) (x y : V) : Option V := match x with | .r x => (match y with | .r y => opR (binR op x y) | _ => none) | _ => none
def eqbV (neg : Bool) (x y : V) : Option V := match x with
  | .r (.bool a) => (match y with | .r (.bool b) => some (.r (.bool ((a == b) != neg))) | _ => none)
  | _ => none
def eqaV (neg : Bool) (ks : List Bool) (x y : V) : Option V := match x with
  | .r (.agg a) => (match y with | .r (.agg b) => (match eqCells ks a b with | some e => some (.r (.bool (e != neg))) | none => none) | _ => none)
  | _ => none
def eqnV (neg : Bool) (x : V) : Option V := match isNil x with | some b => some (.r (.bool (b != neg))) | none => none
def tasV (t : Nat) (z : R) (x : V) : Option V := match x with
  | .r (.iface t' x) => some (.tup (if t = t' then [.r x, .r (.bool true)] else [.r z, .r (.bool false)]))
  | _ => none
def convV (k : IntKind) (x : V) : Option V := match x with | .r (.int _ n) => some (.r (.int k (wrapK k n))) | _ => none
def lenP (x : V) : Option V := match x with
  | .r (.sl _ _ xs) => some (.r (.int .i64 xs.length))
  | .sl _ _ _ n => some (.r (.int .i64 n))
  | .isl _ _ _ _ _ n => some (.r (.int .i64 n))
  | _ => none
def lensP (x : V) : Option V := match x with | .r (.str s) => some (.r (.int .i64 s.length)) | _ => none

def runP (op : POp) (xs : List V) : Option V :=
  match op with
  | .mov => one xs some
  | .pick => three xs pickV
  | .bin op => two xs (bin2 op)
  | .eqb neg => two xs (eqbV neg)
  | .eqa neg ks => two xs (eqaV neg ks)
  | .eqp neg => two xs (eqpV neg)
  | .eqn neg => one xs (eqnV neg)
  | .tas t z => one xs (tasV t z)
  | .un op => one xs (unV op)
  | .conv k => one xs (convV k)
  | .nilc => one xs nilcV
  | .fld off => one xs (fldV off)
  | .fldv ag n off => one xs (fldvV ag n off)
  | .ixa len sz => two xs (ixaV len sz)
  | .ixs sz => two xs (ixsV sz)
  | .ixv len ag sz => two xs (ixvV len ag sz)
  | .ixstr => two xs ixstrV
  | .slstr lo hi => slstrV lo hi xs
  | .slsl sz lo hi mx => slslV sz lo hi mx xs
  | .slar n sz ag lo hi => slarV n sz ag lo hi xs
  | .len => one xs lenP
  | .lens => one xs lensP
  | .cap => one xs capV
  | .mn => two xs mnV
  | .mx => two xs mxV
  | .bld z parts => bldV z parts xs
  | .mkif t => one xs (mkifV t)
  | .mkfn f n => mkfnV f n xs
  | .ext i => one xs (extV i)
  | .add64 => three xs add64V
  | .sub64 => three xs sub64V
  | .ovl => two xs ovlV

/-! ### operations that make a block -/
inductive NOp where
  | box (sz : Nat)
  | alloc (z : R)
  | bsl (sz : Nat) (z : R) (len : Nat) (at_ : List Nat)
  | mk (sz eb : Nat) (z : R)
  | s2b
  deriving Inhabited

def setAll {α : Type} (l : List α) : List (Nat × α) → Option (List α)
  | [] => some l
  | (i, v) :: t => if i < l.length then setAll (l.set i v) t else none

def boxN (sz : Nat) (x : V) : Option (Blk × (Nat → V)) :=
  match x with
  | .r x => if x.cells.length = sz then some (.rows sz [x], fun b => .ptr b 0 0) else none
  | v => if v.cells.length = sz then some (.mix sz v.cells, fun b => .ptr b 0 0) else none

def bslN (sz : Nat) (z : R) (len : Nat) (at_ : List Nat) (xs : List V) : Option (Blk × (Nat → V)) :=
  if at_.length = xs.length ∧ (xs.all fun v => v.cells.length == sz) ∧ z.cells.length = sz then
    match setAll (List.replicate len (V.r z)) (at_.zip xs) with
    | some l => match allR l with
      | some rs => some (.rows sz rs, fun b => .sl sz b 0 len)
      | none => some (.mix sz (l.flatMap V.cells), fun b => .sl sz b 0 len)
    | none => none
  else none

def mkN (sz eb : Nat) (z : R) (x y : V) : Option (Blk × (Nat → V)) :=
  match x with
  | .r (.int .i64 l) => match y with
    | .r (.int .i64 c) => if 0 ≤ l ∧ l ≤ c ∧ c.toNat * eb ≤ 2 ^ 46 ∧ z.cells.length = sz then some (.rows sz (List.replicate l.toNat z), fun b => .sl sz b 0 l.toNat) else none
    | _ => none
  | _ => none

/-- The new block, and the value as a function of its number. -/
def runN (op : NOp) (xs : List V) : Option (Blk × (Nat → V)) :=
  match op with
  | .box sz => match xs with | [] => none | x :: t => match t with | [] => boxN sz x | _ => none
  | .alloc z => match xs with | [] => some (.rows z.cells.length [z], fun b => .ptr b 0 0) | _ => none
  | .bsl sz z len at_ => bslN sz z len at_ xs
  | .mk sz eb z => match xs with | [] => none | x :: t => match t with | [] => none | y :: t => match t with | [] => mkN sz eb z x y | _ => none
  | .s2b => match xs with | [] => none | x :: t => match t with
    | [] => match x with | .r (.str s) => some (.rows 1 (s.map fun c => .int .u8 c.toNat), fun b => .sl 1 b 0 s.length) | _ => none
    | _ => none

/-! ### numbers of blocks in a value, renaming -/
mutual
def V.idsD : V → List Nat
  | .ptr b _ _ => [b]
  | .sl _ b _ _ => [b]
  | .isl b _ _ _ _ _ => [b]
  | .agg cs => V.idsDL cs
  | .tup xs => V.idsDL xs
  | .fn _ a c => V.idsDL a ++ V.idsDL c
  | .iface _ x => x.idsD
  | .r _ => []
  | .junk => []
def V.idsDL : List V → List Nat
  | [] => []
  | v :: t => v.idsD ++ V.idsDL t
end
def V.ids (v : V) : List Nat :=
  match v with
  | .r _ => []
  | .ptr b _ _ => [b]
  | .sl _ b _ _ => [b]
  | .junk => []
  | v => v.idsD
def V.idsL : List V → List Nat
  | [] => []
  | v :: t => v.ids ++ V.idsL t

mutual
def V.trD (σ : Nat → Option Nat) : V → Option V
  | .ptr b k f => match σ b with | some b => some (.ptr b k f) | none => none
  | .sl sz b k n => match σ b with | some b => some (.sl sz b k n) | none => none
  | .isl b k f sz ag n => match σ b with | some b => some (.isl b k f sz ag n) | none => none
  | .agg cs => match V.trDL σ cs with | some cs => some (.agg cs) | none => none
  | .tup cs => match V.trDL σ cs with | some cs => some (.tup cs) | none => none
  | .fn f a c => match V.trDL σ a, V.trDL σ c with | some a, some c => some (.fn f a c) | _, _ => none
  | .iface t x => match x.trD σ with | some x => some (.iface t x) | none => none
  | .r x => some (.r x)
  | .junk => some .junk
def V.trDL (σ : Nat → Option Nat) : List V → Option (List V)
  | [] => some []
  | v :: t => match v.trD σ, V.trDL σ t with | some v, some t => some (v :: t) | _, _ => none
end
def V.tr (σ : Nat → Option Nat) (v : V) : Option V :=
  match v with
  | .r x => some (.r x)
  | .ptr b k f => match σ b with | some b => some (.ptr b k f) | none => none
  | .sl sz b k n => match σ b with | some b => some (.sl sz b k n) | none => none
  | .junk => some .junk
  | v => v.trD σ
def V.trL (σ : Nat → Option Nat) : List V → Option (List V)
  | [] => some []
  | v :: t => match v.tr σ, V.trL σ t with | some v, some t => some (v :: t) | _, _ => none

def Blk.ids : Blk → List Nat
  | .mix _ cs => V.idsL cs
  | _ => []
def Blk.tr (σ : Nat → Option Nat) : Blk → Option Blk
  | .mix sz cs => match V.trL σ cs with | some cs => some (.mix sz cs) | none => none
  | b => some b

def trBlks (σ : Nat → Option Nat) : List Blk → Option (List Blk)
  | [] => some []
  | b :: t => match b.tr σ, trBlks σ t with | some b, some t => some (b :: t) | _, _ => none

def idxIn : List Nat → Nat → Option Nat
  | [], _ => none
  | a :: t, b => if a = b then some 0 else match idxIn t b with | some i => some (i + 1) | none => none

def reach (h : Heap) : Nat → List Nat → List Nat → List Nat
  | 0, _, seen => seen
  | _ + 1, [], seen => seen
  | n + 1, b :: todo, seen =>
    if seen.contains b then reach h n todo seen
    else reach h n ((match h[b]? with | some k => k.ids | none => []) ++ todo) (seen ++ [b])

def pickBlks (h : Heap) : List Nat → Option (List Blk)
  | [] => some []
  | b :: t => match h[b]?, pickBlks h t with | some k, some l => some (k :: l) | _, _ => none

def fuelR : Nat := 5000

/-- Keeps the blocks 'keep' and these values; the numbers are anew. -/
def rename (h : Heap) (keep : List Nat) (vs : List V) : Option (List V × Heap) :=
  match V.trL (idxIn keep) vs, pickBlks h keep with
  | some vs, some l => match trBlks (idxIn keep) l with | some l => some (vs, l) | none => none
  | _, _ => none

/-- The blocks 0 .. k-1, then what the values (then those blocks) lead to. -/
def keepOf (h : Heap) (k : Nat) (vs : List V) : List Nat :=
  List.range k ++ (reach h fuelR (V.idsL vs ++ List.range k) []).filter (fun b => decide (k ≤ b))

def backσ (ids : List Nat) (n i : Nat) : Option Nat := if i < ids.length then ids[i]? else some (n + (i - ids.length))

def putBlks (h : Heap) : List Nat → List Blk → Heap
  | b :: t, k :: l => putBlks (h.set b k) t l
  | _, _ => h

abbrev CallF := Nat → List V → Heap → Option (V × Heap)

/-- A call on the heap that its arguments lead to. -/
def doCall (Γ : CallF) (f : Nat) (args : List V) (h : Heap) : Option (V × Heap) :=
  let ids := reach h fuelR (V.idsL args) []
  match rename h ids args with
  | none => none
  | some (args, lh) => withVL args fun args => withH lh fun lh => match Γ f args lh with
    | none => none
    | some (v, lh) => match v.tr (backσ ids h.length), trBlks (backσ ids h.length) lh with
      | some v, some lh => if ids.length ≤ lh.length then some (v, putBlks h ids (lh.take ids.length) ++ lh.drop ids.length) else none
      | _, _ => none

/-! ### operations that write, and calls -/
inductive COp where
  | store (n : Nat)
  | app (sz eb : Nat)
  | copy (sz : Nat)
  | appz (sz eb : Nat) (z : R)
  | clear (sz : Nat) (z : R)
  | slx (sz : Nat) (lo hi mx : Bool)
  | call (f : Nat)
  | callv
  | inv (tab : List (Nat × Nat))
  deriving Inhabited

def limA : Nat := 2 ^ 46

def appBase (h : Heap) : V → Option (List V × Bool × Heap)
  | .r (.sl _ .nil xs) => some (xs.map V.r, false, h)
  | .r (.sl _ .full xs) => some (xs.map V.r, true, h)
  | _ => none

def kill (h : Heap) : V → Heap
  | .sl _ b _ _ => h.set b .dead
  | _ => h

/-- A slice's element cells, of either kind of block. -/
inductive Els where
  | rows (xs : List R)
  | mix (cs : List V)

def elsOf (h : Heap) (x : V) : Option Els :=
  match elemsR h x with
  | some xs => some (.rows xs)
  | none => match elemsV h x with
    | some cs => some (.mix cs)
    | none => none

def catEls (sz : Nat) : Els → Els → Blk
  | .rows a, .rows b => .rows sz (a ++ b)
  | .rows a, .mix b => .mix sz ((a.flatMap R.cells).map V.r ++ b)
  | .mix a, .rows b => .mix sz (a ++ (b.flatMap R.cells).map V.r)
  | .mix a, .mix b => .mix sz (a ++ b)

def Blk.alive : Blk → Bool | .dead => false | _ => true

def cntB : Blk → Nat
  | .rows _ els => els.length
  | .mix sz cs => cs.length / sz
  | .dead => 0

/-- Elements behind a slice's end, in place: where the block has that many. -/
def appIn (h : Heap) (sz : Nat) (s : V) (m : Nat) (ex : Els) : Option (V × Heap) :=
  match s, ex with
  | .sl _ b k n, .rows xs => match h[b]? with
    | some (.rows sz' els) => if sz = sz' ∧ k + n + m ≤ els.length ∧ 0 < m then some (.sl sz b k (n + m), h.set b (.rows sz (setRange els (k + n) xs))) else none
    | _ => none
  | _, _ => none

/-- May be appended to: a mutable slice, nil, a full slice without elements. -/
def appOk : V → Bool
  | .sl _ _ _ _ => true
  | .r (.sl _ .nil xs) => xs.isEmpty
  | .r (.sl _ .full xs) => xs.isEmpty
  | _ => false

def appE (h : Heap) (sz eb : Nat) (s : V) (m : Nat) (ex : Els) : Option (V × Heap) :=
  match appOk s, strideOf s, lenV s, elsOf h s with
  | true, some a, some n, some es =>
    if a = sz ∧ (n + m) * eb ≤ limA then
      (match appIn h sz s m ex with
      | some r => some r
      | none => some (.sl sz h.length 0 (n + m), kill h s ++ [catEls sz es ex]))
    else none
  | _, _, _, _ => none

def appH (h : Heap) (sz eb : Nat) (s x : V) : Option (V × Heap) :=
  match strideOf x, lenV x, elsOf h x with
  | some b, some m, some ex => if b = sz then appE h sz eb s m ex else none
  | _, _, _ => none

/-- A slice of a slice, where the block's own number of elements counts as a capacity that is there. -/
def slxH (h : Heap) (sz : Nat) (lo hi mx : Bool) (xs : List V) : Option V :=
  match xs with
  | .sl sz' b k len :: t =>
    if sz ≠ sz' then none else
    match h[b]? with
    | none => none
    | some blk => match blk.alive with
      | false => none
      | true => match bounds lo hi mx (if hi then cntB blk - k else len) t with
        | some (l, e, m) =>
          if m then (if e = l then some (.r (.sl sz .full [])) else if k + e = cntB blk then some (.sl sz b (k + l) (e - l)) else none)
          else some (.sl sz b (k + l) (e - l))
        | none => none
  | xs => slslV sz lo hi mx xs

def setEls (els : List R) (k : Nat) (xs : List R) : List R := setRange els k xs

def copyH (h : Heap) (sz : Nat) (d s : V) : Option (V × Heap) :=
  match elemsR h s, d with
  | some xs, .sl sz' b k len =>
    match h[b]?, strideOf s with
    | some (.rows sz'' els), some sz3 =>
      let ys := xs.take len
      if sz = sz' ∧ sz = sz'' ∧ sz = sz3 ∧ k + len ≤ els.length then some (.r (.int .i64 ys.length), h.set b (.rows sz (setRange els k ys))) else none
    | _, _ => none
  | some xs, .isl b k f sz' _ len =>
    match h[b]?, strideOf s with
    | some (.rows s0 els), some sz3 => match els[k]? with
      | some (.agg cs) =>
        let ys := xs.take len
        if sz = sz' ∧ sz = sz3 ∧ f + len * sz ≤ cs.length then some (.r (.int .i64 ys.length), h.set b (.rows s0 (els.set k (.agg (setRange cs f (ys.flatMap R.cells)))))) else none
      | _ => none
    | _, _ => none
  | _, _ => none

def twoC (xs : List V) (f : V → V → Option (V × Heap)) : Option (V × Heap) := match xs with | [] => none | x :: t => match t with | [] => none | y :: t => match t with | [] => f x y | _ => none

def storeC (h : Heap) (n : Nat) (a v : V) : Option (V × Heap) := match storeH h n v a with | some h => some (.tup [], h) | none => none

def appzC (h : Heap) (sz eb : Nat) (z : R) (s x : V) : Option (V × Heap) :=
  match x with
  | .r (.int .i64 n) => if 0 ≤ n ∧ z.cells.length = sz then appE h sz eb s n.toNat (.rows (List.replicate n.toNat z)) else none
  | _ => none

def clearC (h : Heap) (sz : Nat) (z : R) (x : V) : Option (V × Heap) :=
  match x with
  | .sl sz' b k n => match h[b]? with
    | some (.rows sz'' els) => if sz = sz' ∧ sz = sz'' ∧ z.cells.length = sz ∧ k + n ≤ els.length then some (.tup [], h.set b (.rows sz (setRange els k (List.replicate n z)))) else none
    | _ => none
  | _ => none

def callvC (Γ : CallF) (xs : List V) (h : Heap) : Option (V × Heap) :=
  match xs with
  | [] => none
  | x :: t => match x with
    | .r (.fn f) => doCall Γ f t h
    | .fn f a c => doCall Γ f (a ++ t ++ c) h
    | _ => none

def invC (Γ : CallF) (tab : List (Nat × Nat)) (xs : List V) (h : Heap) : Option (V × Heap) :=
  match xs with
  | [] => none
  | x :: rest => match x with
    | .iface t x => match tab.find? (fun p => p.1 == t) with | some (_, f) => doCall Γ f (x :: rest) h | none => none
    | .r (.iface t x) => match tab.find? (fun p => p.1 == t) with | some (_, f) => doCall Γ f (.r x :: rest) h | none => none
    | _ => none

noncomputable def runC (Γ : CallF) (op : COp) (xs : List V) (h : Heap) : Option (V × Heap) :=
  match op with
  | .store n => twoC xs (storeC h n)
  | .app sz eb => twoC xs (appH h sz eb)
  | .copy sz => twoC xs (copyH h sz)
  | .appz sz eb z => twoC xs (appzC h sz eb z)
  | .clear sz z => match xs with | [] => none | x :: t => match t with | [] => clearC h sz z x | _ => none
  | .slx sz lo hi mx => match slxH h sz lo hi mx xs with | some v => some (v, h) | none => none
  | .call f => doCall Γ f xs h
  | .callv => callvC Γ xs h
  | .inv tab => invC Γ tab xs h

/-! ### regions -/
inductive AOprd where
  | t (n : Nat)
  | c (x : R)
  deriving Inhabited

/-- Element n, or junk. -/
noncomputable def nthV (l : List V) : Nat → V :=
  List.rec (motive := fun _ => Nat → V) (fun _ => .junk) (fun x _ ih n => Nat.rec (motive := fun _ => V) x (fun m _ => ih m) n) l

noncomputable def ev (fr : List V) : AOprd → V
  | .t n => nthV fr n
  | .c x => .r x

inductive AOp where
  | p (op : POp) (xs : List AOprd)
  | ld (ag : Bool) (n : Nat) (x : AOprd) (lo hi : Nat)
  | b2s (x : AOprd)
  | n (op : NOp) (xs : List AOprd) (lo hi : Nat)
  | c (op : COp) (xs : List AOprd)
  | bad
  deriving Inhabited

structure AOper where
  ix : Nat
  dst : Option Nat
  op : AOp
  after : List Nat
  guard : Option (Nat × Bool)
  deriving Inhabited

def putF (fr : List V) (d : Option Nat) (v : V) : List V := match d with | some d => fr.set d v | none => fr

def u8s : List R → Option (List UInt8)
  | [] => some []
  | .int .u8 n :: t => match u8s t with | some l => some (UInt8.ofNat n.toNat :: l) | none => none
  | _ => none

structure Ld where
  addr : V
  ag : Bool
  n : Nat
  val : V
  lo : Nat
  hi : Nat

structure Nw where
  b : Nat
  blk : Blk
  lo : Nat
  hi : Nat

structure RSt where
  fr : List V
  h : Heap
  segs : List Heap
  lds : List Ld
  nws : List Nw

noncomputable def runOp (Γ : CallF) (o : AOp) (s : RSt) : Option (V × RSt) :=
  match o with
  | .p op xs => match runP op (xs.map (ev s.fr)) with | some v => some (v, s) | none => none
  | .ld ag n x lo hi => match loadH s.h ag n (ev s.fr x) with
    | some v => some (v, { s with lds := if lo < hi then ⟨ev s.fr x, ag, n, v, lo, hi⟩ :: s.lds else s.lds })
    | none => none
  | .b2s x => match elemsS s.h (ev s.fr x) with
    | some xs => match u8s xs with | some l => some (.r (.str l), s) | none => none
    | none => none
  | .n op xs lo hi => match runN op (xs.map (ev s.fr)) with | some (b, k) => some (k s.h.length, { s with h := s.h ++ [b], nws := if lo < hi then ⟨s.h.length, b, lo, hi⟩ :: s.nws else s.nws }) | none => none
  | .bad => none
  | .c op xs => match runC Γ op (xs.map (ev s.fr)) s.h with | some (v, h) => some (v, { s with h := h, segs := s.segs ++ [s.h] }) | none => none

/-- An operation that is not carried out leaves the empty tuple; so a guard that is an empty tuple says no. -/
abbrev RDen := RSt → Option RSt

noncomputable def afterOp (d : Option Nat) (k : RDen) (x : Option (V × RSt)) : Option RSt :=
  match x with
  | none => none
  | some (v, s) => match s with
    | ⟨fr, h, segs, lds, nws⟩ => withV v fun v => withH h fun h => putK fr d v fun fr => k ⟨fr, h, segs, lds, nws⟩

def AOp.isC : AOp → Bool | .c _ _ => true | _ => false

noncomputable def skipOp (c : Bool) (d : Option Nat) (k : RDen) (s : RSt) : Option RSt :=
  putK s.fr d (.tup []) fun fr => k ⟨fr, s.h, match c with | true => s.segs ++ [s.h] | false => s.segs, s.lds, s.nws⟩

def guardOp (w : Bool) (yes no : RDen) (s : RSt) (v : V) : Option RSt :=
  match v with
  | .r (.bool b) => match b == w with | true => yes s | false => no s
  | .tup [] => no s
  | _ => none

noncomputable def stepOp (Γ : CallF) (o : AOper) (k : RDen) (s : RSt) : Option RSt :=
  match o with
  | ⟨_, d, op, _, g⟩ => match g with
    | none => afterOp d k (runOp Γ op s)
    | some (g, w) => guardOp w (fun s => afterOp d k (runOp Γ op s)) (skipOp op.isC d k) s (nthV s.fr g)

noncomputable def runOps (Γ : CallF) (l : List AOper) : RDen :=
  List.rec (motive := fun _ => RDen) (fun s => some s) (fun o _ k => stepOp Γ o k) l

mutual
def R.beq : R → R → Bool
  | .int k n, .int k' n' => k == k' && n == n'
  | .bool a, .bool b => a == b
  | .str a, .str b => a == b
  | .nilp, .nilp => true
  | .nilf, .nilf => true
  | .nili, .nili => true
  | .fn f, .fn g => f == g
  | .rptr a, .rptr b => R.beqL a b
  | .sl s k a, .sl s' k' b => s == s' && k == k' && R.beqL a b
  | .agg a, .agg b => R.beqL a b
  | .iface t x, .iface t' y => t == t' && R.beq x y
  | _, _ => false
def R.beqL : List R → List R → Bool
  | [], [] => true
  | a :: s, b :: t => R.beq a b && R.beqL s t
  | _, _ => false
end

mutual
def V.beq : V → V → Bool
  | .r a, .r b => R.beq a b
  | .ptr b k f, .ptr b' k' f' => b == b' && k == k' && f == f'
  | .sl s b k n, .sl s' b' k' n' => s == s' && b == b' && k == k' && n == n'
  | .isl b k f s a n, .isl b' k' f' s' a' n' => b == b' && k == k' && f == f' && s == s' && a == a' && n == n'
  | .agg a, .agg b => V.beqL a b
  | .tup a, .tup b => V.beqL a b
  | .fn f a c, .fn g a' c' => f == g && V.beqL a a' && V.beqL c c'
  | .iface t x, .iface t' y => t == t' && V.beq x y
  | .junk, .junk => true
  | _, _ => false
def V.beqL : List V → List V → Bool
  | [], [] => true
  | a :: s, b :: t => V.beq a b && V.beqL s t
  | _, _ => false
end

def Blk.beq : Blk → Blk → Bool
  | .rows s a, .rows s' b => s == s' && R.beqL a b
  | .mix s a, .mix s' b => s == s' && V.beqL a b
  | .dead, .dead => true
  | _, _ => false

def beqBlks : List Blk → List Blk → Bool
  | [], [] => true
  | a :: s, b :: t => a.beq b && beqBlks s t
  | _, _ => false

def segOk (l : Ld) (g : Heap) : Bool :=
  match l.addr with
  | .ptr b _ _ => if g.length ≤ b then true else match loadH g l.ag l.n l.addr with | some v => V.beq v l.val | none => false
  | _ => true

def ldsOk (segs : List Heap) (lds : List Ld) : Bool :=
  lds.all fun l => ((segs.drop l.lo).take (l.hi + 1 - l.lo)).all (segOk l)

def nwOk (l : Nw) (g : Heap) : Bool := match g[l.b]? with | some b => b.beq l.blk | none => false
def nwsOk (segs : List Heap) (nws : List Nw) : Bool :=
  nws.all fun l => ((segs.drop l.lo).take (l.hi + 1 - l.lo)).all (nwOk l)

/-! ### code -/
inductive Hint where
  | freeze (t : Nat)
  | own (t sz : Nat)
  deriving Inhabited

inductive ACode where
  | skip
  | region (draw : Bool) (ops : List AOper)
  | seq (a b : ACode)
  | cond (c : AOprd) (a b : ACode)
  | block (id : Nat) (c : ACode)
  | loop (live : List Bool) (c : ACode)
  | exit (id : Nat)
  | ret
  | hint (h : Hint) (c : ACode)
  deriving Inhabited

inductive Out where
  | normal
  | exit (id : Nat)
  | ret
  deriving Inhabited

structure St where
  fr : List V
  h : Heap

def maskF : List Bool → List V → List V
  | true :: m, v :: t => v :: maskF m t
  | false :: m, _ :: t => .junk :: maskF m t
  | [], t => t.map fun _ => .junk
  | _, [] => []

/-- At a loop's head: the live temporaries and what they lead to. -/
def canon (k : Nat) (live : List Bool) (s : St) : Option St :=
  let fr := maskF live s.fr
  match rename s.h (keepOf s.h k fr) fr with
  | some (fr, h) => withVL fr fun fr => withH h fun h => some ⟨fr, h⟩
  | none => none

/-- A slice is read only from here on. -/
def freeze1 (h : Heap) (v : V) : Option (V × Heap) :=
  match v with
  | .r x => some (.r x, h)
  | .sl sz b k len => match elemsR h (.sl sz b k len) with
    | some xs => some (.r (.sl sz .any xs), h.set b .dead)
    | none => none
  | _ => none
def freezeL (h : Heap) : List V → Option (List V × Heap)
  | [] => some ([], h)
  | v :: t => match freeze1 h v with
    | some (v, h) => match freezeL h t with
      | some (t, h) => some (v :: t, h)
      | none => none
    | none => none
def freezeV (h : Heap) (v : V) : Option (V × Heap) :=
  match v with
  | .agg cs => match freezeL h cs with | some (cs, h) => some (mkAgg cs, h) | none => none
  | v => freeze1 h v

/-- A nil slice gets a block of its own, without elements. -/
def ownV (h : Heap) (sz : Nat) (v : V) : V × Heap :=
  match v with
  | .r (.sl sz' .nil []) => if sz = sz' then (.sl sz h.length 0 0, h ++ [.rows sz []]) else (v, h)
  | v => (v, h)

noncomputable def runH (x : Hint) (s : St) : Option St :=
  match x with
  | .freeze t => match freezeV s.h (nthV s.fr t) with | some (v, h) => withV v fun v => withH h fun h => setK s.fr t v fun fr => some ⟨fr, h⟩ | none => none
  | .own t sz => match ownV s.h sz (nthV s.fr t) with | (v, h) => setK s.fr t v fun fr => some ⟨fr, h⟩

abbrev Den := St → Option (Out × St)

noncomputable def dRegion (Γ : CallF) (draw : Bool) (ops : List AOper) (s : St) : Option (Out × St) :=
  match runOps Γ ops ⟨s.fr, s.h, [], [], []⟩ with
  | none => none
  | some r => match draw with
    | false => some (.normal, ⟨r.fr, r.h⟩)
    | true => match ldsOk (r.segs ++ [r.h]) r.lds && nwsOk (r.segs ++ [r.h]) r.nws with
      | true => some (.normal, ⟨r.fr, r.h⟩)
      | false => none

def dSeqK (y : Den) (x : Option (Out × St)) : Option (Out × St) :=
  match x with
  | none => none
  | some (o, s) => match o with
    | .normal => y s
    | .exit i => some (.exit i, s)
    | .ret => some (.ret, s)
def dSeq (x y : Den) (s : St) : Option (Out × St) := dSeqK y (x s)

def dCondK (x y : Den) (s : St) (v : V) : Option (Out × St) :=
  match v with
  | .r (.bool t) => match t with | true => x s | false => y s
  | _ => none
noncomputable def dCond (c : AOprd) (x y : Den) (s : St) : Option (Out × St) := dCondK x y s (ev s.fr c)

def dBlockK (id : Nat) (x : Option (Out × St)) : Option (Out × St) :=
  match x with
  | none => none
  | some (o, s) => match o with
    | .normal => some (.normal, s)
    | .exit i => if i = id then some (.normal, s) else some (.exit i, s)
    | .ret => some (.ret, s)
def dBlock (id : Nat) (x : Den) (s : St) : Option (Out × St) := dBlockK id (x s)

noncomputable def dHint (x : Hint) (y : Den) (s : St) : Option (Out × St) := match runH x s with | some s => y s | none => none

def loopK (k : St → Option (Out × St)) (x : Option (Out × St)) : Option (Out × St) :=
  match x with
  | none => none
  | some (o, s) => match o with
    | .normal => k s
    | .exit i => some (.exit i, s)
    | .ret => some (.ret, s)

def loopN (step : Den) (head : St → Option St) : Nat → Den
  | 0, _ => none
  | n + 1, s => match head s with
    | none => none
    | some s => loopK (loopN step head n) (step s)

noncomputable def exec (Γ : CallF) (n k : Nat) (c : ACode) : Den :=
  ACode.rec (motive := fun _ => Den)
    (fun s => some (.normal, s))
    (fun draw ops => dRegion Γ draw ops)
    (fun _ _ da db => dSeq da db)
    (fun c _ _ da db => dCond c da db)
    (fun id _ dc => dBlock id dc)
    (fun live _ dc => loopN dc (canon k live) n)
    (fun id s => some (.exit id, s))
    (fun s => some (.ret, s))
    (fun x _ dc => dHint x dc)
    c

inductive ResV where
  | tmp (t : Nat)
  | cell (t : Nat) (ag : Bool) (n : Nat)

structure AFun where
  amb : Bool
  ntmps : Nat
  res : List ResV
  body : ACode

def resOf (s : St) : List ResV → Option (List V)
  | [] => some []
  | .tmp t :: r => match resOf s r with | some l => some (s.fr.getD t .junk :: l) | none => none
  | .cell t ag n :: r => match loadH s.h ag n (s.fr.getD t .junk), resOf s r with | some v, some l => some (v :: l) | _, _ => none

def packRes : List V → V
  | [v] => v
  | l => .tup l

/-- The call's end: the value, and the blocks that count, with new numbers. -/
def finish (k : Nat) (res : List ResV) (s : St) : Option (V × Heap) :=
  match resOf s res with
  | none => none
  | some vs => match rename s.h (keepOf s.h k vs) vs with
    | some (vs, h) => withVL vs fun vs => withH h fun h => some (packRes vs, h)
    | none => none

noncomputable def callO (Γ : CallF) (n : Nat) (A : AFun) (args : List V) (h : Heap) : Option (V × Heap) :=
  match exec Γ n h.length A.body ⟨args ++ List.replicate (A.ntmps - args.length) .junk, h⟩ with
  | some (.exit _, _) => none
  | some (_, s) => finish h.length A.res s
  | none => none

/-- Two readings that end in an empty slice, nil and not nil: an empty slice. -/
def joinE (v : V) (h : Heap) (v' : V) (h' : Heap) : Option (V × Heap) :=
  match v with
  | .r (.sl sz .nil []) => match v' with
    | .sl sz' b _ 0 => if sz = sz' ∧ b = h.length ∧ h'.length = h.length + 1 ∧ beqBlks h (h'.take h.length) = true then some (.r (.sl sz .any []), h ++ [.dead]) else none
    | _ => none
  | _ => none

def agree : Option (V × Heap) → Option (V × Heap) → Option (V × Heap)
  | some (v, h), some (v', h') => if V.beq v v' && beqBlks h h' then some (v, h) else joinE v h v' h'
  | _, _ => none

/-- The two readings of a first argument of which it is not known whether it is nil. -/
def splitNil : List V → Option (List V × List V)
  | v :: t => match v with
    | .r (.sl sz k []) => match k with | .nil => none | .nn => none | _ => some (.r (.sl sz .nil []) :: t, .r (.sl sz .nn []) :: t)
    | .sl sz _ _ 0 => some (.r (.sl sz .nil []) :: t, .r (.sl sz .nn []) :: t)
    | _ => none
  | [] => none

noncomputable def callA (Γ : CallF) (n : Nat) (A : AFun) (args : List V) (h : Heap) : Option (V × Heap) :=
  match A.amb with
  | false => callO Γ n A args h
  | true => match splitNil args with
    | none => callO Γ n A args h
    | some (a, b) => agree (callO Γ n A a h) (callO Γ n A b h)

noncomputable def callN (F : Nat → Option AFun) : Nat → CallF
  | 0 => fun _ _ _ => none
  | n + 1 => fun f args h => match F f with
    | none => none
    | some A => callA (callN F n) n A args h

end Go.PV
