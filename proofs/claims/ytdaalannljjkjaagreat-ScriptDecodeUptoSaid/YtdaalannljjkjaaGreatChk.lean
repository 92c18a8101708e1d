/- The evaluator's code is the program's code: a check by computation, operation by operation. -/
import Derived.Test.YtdaalannljjkjaaGreatRel
set_option linter.unusedVariables false
namespace Go.PV

def isNilPtr (v : Value) : Bool := match v with | .pointer none => true | _ => false
def isNilSl (v : Value) : Bool := match v with | .slice none 0 0 => true | _ => false
mutual
def chkConst : R → Value → Bool
  | .int k n, v => match v with | .int k' n' => decide (k = k') && decide (n = n') | _ => false
  | .bool b, v => match v with | .bool b' => b == b' | _ => false
  | .str s, v => match v with | .string t => decide (t.data.toList = s) | _ => false
  | .nilp, v => isNilPtr v
  | .nilf, v => match v with | .nilFunc => true | _ => false
  | .nili, v => match v with | .nilIface => true | _ => false
  | .sl _ k xs, v => decide (k = .nil) && xs.isEmpty && isNilSl v
  | .agg cs, v => match v with | .agg vs => chkConsts cs vs.toList && (vs.toList.all fun v => v.oneCell') | _ => false
  | _, _ => false
def chkConsts : List R → List Value → Bool
  | [], vs => match vs with | [] => true | _ => false
  | c :: cs, vs => match vs with | [] => false | v :: vs => chkConst c v && chkConsts cs vs
end

def chkOprd (x : Operand) (y : AOprd) : Bool :=
  match x with
  | .tmp t => match y with | .t n => t == n | _ => false
  | .const v => match y with | .c r => chkConst r v | _ => false
  | .func f => match y with | .c (.fn n) => f == n | _ => false
  | _ => false

def chkOprds : List Operand → List AOprd → Bool
  | [], [] => true
  | x :: xs, y :: ys => chkOprd x y && chkOprds xs ys
  | _, _ => false

def chkBO : BinOp → BO → Bool
  | .add, .add | .sub, .sub | .mul, .mul | .quo, .quo | .rem, .rem | .and, .and | .or, .or | .xor, .xor | .andNot, .andNot | .shl, .shl | .shr, .shr
  | .eql, .eql | .neq, .neq | .lss, .lss | .leq, .leq | .gtr, .gtr | .geq, .geq => true
  | _, _ => false

def chkUO : UnOp → UO → Bool
  | .neg, .neg | .xor, .xor | .not, .not => true
  | _, _ => false

def isTy (P : Program) (t : TypeId) (f : TypeDesc → Bool) : Bool := match P.underlying t with | some d => f d | none => false
def szIs (P : Program) (t : TypeId) (n : Nat) : Bool := match P.info? t with | some i => i.size == n | none => false

/-- n pieces of m kinds each. -/
def rowK (f : List Bool → Bool) (m : Nat) : Nat → List Bool → Bool
  | 0, ks => ks.isEmpty
  | n + 1, ks => f (ks.take m) && rowK f m n (ks.drop m)
def fldK (P : Program) (f : TypeId → List Bool → Bool) : List Field → Nat → List Bool → Bool
  | [], _, ks => ks.isEmpty
  | fd :: fs, o, ks => fd.offset == o && fd.name != "_" && f fd.type (ks.take (P.cellsOf fd.type)) && fldK P f fs (o + P.cellsOf fd.type) (ks.drop (P.cellsOf fd.type))
/-- Whole numbers and bools, and structs and arrays of these: compared cell by cell. -/
def plainT (P : Program) : Nat → TypeId → List Bool → Bool
  | 0, _, _ => false
  | d + 1, t, ks => szIs P t ks.length && match P.underlying t with
    | some .bool => ks == [true]
    | some (.int _) => ks == [false]
    | some (.array n e) => (P.info? e).isSome && rowK (plainT P d e) (P.cellsOf e) n ks
    | some (.struct fs) => !P.stoodInHeld t && fldK P (plainT P d) fs.toList 0 ks
    | _ => false

def chkP (P : Program) (o : Op) (op : POp) (xs : List AOprd) : Bool :=
  match op with
  | .mov => match o with
    | .move x => chkOprds [x] xs
    | .assign x => chkOprds [x] xs
    | .call ⟨.builtin .len, args, ats⟩ => args.size == 1 && match ats[0]? with
      | some t => match P.underlying t with | some (.array n _) => (match xs with | [.c (.int .i64 m)] => decide (m = (n : Int)) | _ => false) | _ => false
      | none => false
    | _ => false
  | .pick => match o with | .pick c a b => chkOprds [c, a, b] xs | _ => false
  | .bin op => match o with
    | .binOp b t x y _ => chkBO b op && chkOprds [x, y] xs && isTy P t (fun d => match d with | .int _ => true | .string => true | _ => false)
    | _ => false
  | .eqb neg => match o with
    | .binOp b t x y _ => (match b with | .eql => !neg | .neq => neg | _ => false) && chkOprds [x, y] xs && isTy P t (fun d => d matches .bool)
    | _ => false
  | .eqa neg ks => match o with
    | .binOp b t x y _ => (match b with | .eql => !neg | .neq => neg | _ => false) && chkOprds [x, y] xs && plainT P 20 t ks && !P.eqGuardType P.depth t && isTy P t (fun d => match d with | .struct _ => true | .array _ _ => true | _ => false)
    | _ => false
  | .eqp neg => match o with
    | .binOp b t x y _ => (match b with | .eql => !neg | .neq => neg | _ => false) && chkOprds [x, y] xs && isTy P t (fun d => d matches .pointer _)
    | _ => false
  | .eqn neg => match o with
    | .binOp b t x (.const (.slice none 0 0)) _ => (match b with | .eql => !neg | .neq => neg | _ => false) && chkOprds [x] xs && isTy P t (fun d => d matches .slice _)
    | _ => false
  | .tas t z => match o with
    | .typeAssert x _ t' true => t == t' && chkOprds [x] xs && isTy P t (fun d => match d with | .interface _ => false | _ => true) && (match P.info? t with | some i => (match i.zero with | some v => chkConst z v | none => false) | none => false)
    | _ => false
  | .un op => match o with | .unOp u _ x => chkUO u op && chkOprds [x] xs | _ => false
  | .conv k => match o with | .convert s d x => (P.underlying s).isSome && isTy P d (fun d => match d with | .int k' => k == k' | _ => false) && chkOprds [x] xs | _ => false
  | .nilc => match o with | .nilCheck x => chkOprds [x] xs | _ => false
  | .fld off => match o with
    | .fieldAddr t x f => chkOprds [x] xs && isTy P t (fun d => match d with | .struct fs => (match fs[f]? with | some fd => fd.offset == off && (match P.info? fd.type with | some i => i.size != 0 | none => false) | none => false) | _ => false)
    | _ => false
  | .fldv ag n off => match o with
    | .field t x f => chkOprds [x] xs && isTy P t (fun d => match d with | .struct fs => (match fs[f]? with | some fd => fd.offset == off && szIs P fd.type n && isTy P fd.type (fun d => d.isRow == ag) | none => false) | _ => false)
    | _ => false
  | .ixa len sz => match o with
    | .indexAddr t x i => chkOprds [x, i] xs && isTy P t (fun d => match d with | .array n e => n == len && szIs P e sz | _ => false)
    | _ => false
  | .ixs sz => match o with
    | .indexAddr t x i => chkOprds [x, i] xs && isTy P t (fun d => match d with | .slice e => szIs P e sz | _ => false)
    | _ => false
  | .ixv len ag sz => match o with
    | .index t x i => chkOprds [x, i] xs && isTy P t (fun d => match d with | .array n e => n == len && szIs P e sz && isTy P e (fun d => d.isRow == ag) | _ => false)
    | _ => false
  | .ixstr => match o with | .index t x i => chkOprds [x, i] xs && isTy P t (fun d => d matches .string) | _ => false
  | .slstr lo hi => match o with
    | .slice t x l h none => isTy P t (fun d => d matches .string) && chkOprds ([x] ++ l.toList ++ h.toList) xs && l.isSome == lo && h.isSome == hi
    | _ => false
  | .slsl sz lo hi mx => match o with
    | .slice t x l h m => isTy P t (fun d => match d with | .slice e => szIs P e sz | _ => false) && chkOprds ([x] ++ l.toList ++ h.toList ++ m.toList) xs && l.isSome == lo && h.isSome == hi && m.isSome == mx && (m.isNone || h.isSome)
    | _ => false
  | .slar n sz ag lo hi => match o with
    | .slice t x l h none => isTy P t (fun d => match d with | .array k e => k == n && szIs P e sz && isTy P e (fun d => d.isRow == ag) | _ => false) && chkOprds ([x] ++ l.toList ++ h.toList) xs && l.isSome == lo && h.isSome == hi
    | _ => false
  | .len => match o with
    | .call ⟨.builtin .len, args, ats⟩ => (match ats[0]? with | some t => isTy P t (fun d => match d with | .slice _ => true | _ => false) | none => false) && chkOprds args.toList xs
    | _ => false
  | .lens => match o with
    | .call ⟨.builtin .len, args, ats⟩ => (match ats[0]? with | some t => isTy P t (fun d => match d with | .string => true | _ => false) | none => false) && chkOprds args.toList xs
    | _ => false
  | .cap => match o with
    | .call ⟨.builtin .cap, args, ats⟩ => (match ats[0]? with | some t => isTy P t (fun d => match d with | .slice _ => true | _ => false) | none => false) && chkOprds args.toList xs
    | _ => false
  | .mn => match o with | .call ⟨.builtin .min, args, _⟩ => chkOprds args.toList xs | _ => false
  | .mx => match o with | .call ⟨.builtin .max, args, _⟩ => chkOprds args.toList xs | _ => false
  | .bld z parts => match o with
    | .build t ps => chkOprds (ps.toList.map (·.2)) xs && (match P.info? t with | some i => (match i.zero with | some (.agg vs) => chkConst (.agg z) (.agg vs) | _ => false) | none => false) &&
        (parts.all fun p => p.2 != 0) &&
        (match P.underlying t with
        | some (.struct fs) => (match fs.toList.mapM (fun f => (P.info? f.type).map fun i => (f.offset, i.size)) with
          | some places => decide (ps.toList.map (fun p => places.toArray[p.1]?) = parts.map some)
          | none => false)
        | some (.array _ e) => (match P.info? e with | some i => decide (ps.toList.map (fun p => some (p.1 * i.size, i.size)) = parts.map some) | none => false)
        | _ => false)
    | _ => false
  | .mkif t => match o with | .makeInterface t' x => t == t' && chkOprds [x] xs && isTy P t (fun d => match d with | .interface _ => false | _ => true) | _ => false
  | .mkfn f n => match o with | .makeFunc (.func g) a c => f == g && a.size == n && chkOprds (a.toList ++ c.toList) xs | _ => false
  | .ext i => match o with | .extract x j => i == j && chkOprds [x] xs | _ => false
  | .add64 => match o with
    | .call ⟨.value (.func f), args, _⟩ => chkOprds args.toList xs && (match P.funcs[f]? with | some fn => fn.name == "math/bits.Add64" && fn.origin == "" && fn.body.isNone | none => false)
    | _ => false
  | .sub64 => match o with
    | .call ⟨.value (.func f), args, _⟩ => chkOprds args.toList xs && (match P.funcs[f]? with | some fn => fn.name == "math/bits.Sub64" && fn.origin == "" && fn.body.isNone | none => false)
    | _ => false
  | .ovl => false

def chkN (P : Program) (o : Op) (op : NOp) (xs : List AOprd) : Bool :=
  match op with
  | .box sz => match o with | .box t x => chkOprds [x] xs && szIs P t sz && sz != 0 | _ => false
  | .alloc z => match o with | .alloc t => xs.isEmpty && z.cells.length != 0 && (match P.info? t with | some i => (match i.zero with | some v => chkConst z v | none => false) | none => false) | _ => false
  | .bsl sz z len at_ => match o with
    | .buildSlice t n parts => n == len && sz != 0 && decide (len * sz ≤ 2 ^ 24) && decide (parts.toList.map (·.1) = at_) && chkOprds (parts.toList.map (·.2)) xs &&
      (match P.underlying t with
      | some (.slice e) => (match P.info? e with | some i => i.size == sz && (match i.zero with | some v => chkConst z v | none => false) | none => false)
      | _ => false)
    | _ => false
  | .mk sz eb z => match o with
    | .makeSlice t l c => sz != 0 && eb != 0 && chkOprds [l, c] xs &&
      (match P.underlying t with
      | some (.slice e) => (match P.info? e with | some i => i.size == sz && i.bytes == eb && (match i.zero with | some v => chkConst z v | none => false) | none => false)
      | _ => false)
    | _ => false
  | .s2b => match o with
    | .convert s d x => chkOprds [x] xs && isTy P s (fun d => d matches .string) &&
      (match P.underlying d with | some (.slice e) => isTy P e (fun d => match d with | .int .u8 => true | _ => false) | _ => false)
    | _ => false

def chkL (P : Program) (o : Op) (ag : Bool) (n : Nat) (x : AOprd) : Bool :=
  match o with
  | .load t y => chkOprd y x && szIs P t n && isTy P t (fun d => d.isRow == ag)
  | _ => false
def chkB (P : Program) (o : Op) (x : AOprd) : Bool :=
  match o with
  | .convert s d y => chkOprd y x && isTy P d (fun d => d matches .string) &&
    (match P.underlying s with | some (.slice e) => isTy P e (fun d => match d with | .int .u8 => true | _ => false) | _ => false)
  | _ => false

def chkStore (P : Program) (o : Op) (n : Nat) (xs : List AOprd) : Bool :=
  match o with
  | .store t x y => chkOprds [x, y] xs && szIs P t n && n != 0
  | _ => false

/-- A slice type with elements of sz cells and eb bytes that have a zero. -/
def slTy (P : Program) (t : TypeId) (sz eb : Nat) : Bool :=
  match P.underlying t with
  | some (.slice e) => (match P.info? e with | some i => i.size == sz && i.bytes == eb && (match i.zero with | some z => z.cells.size == sz | none => false) | none => false)
  | _ => false
/-- The zero of a slice type's elements. -/
def zeroIs (P : Program) (t : TypeId) (z : R) : Bool :=
  match P.underlying t with
  | some (.slice e) => (match P.info? e with | some i => (match i.zero with | some v => chkConst z v | none => false) | none => false)
  | _ => false
def chkAppz (P : Program) (o : Op) (sz eb : Nat) (z : R) (xs : List AOprd) : Bool :=
  match o with
  | .call ⟨.builtin .append, args, ats⟩ => sz != 0 && eb != 0 && ats.size == 2 && chkOprds args.toList xs && slTy P (ats.getD 0 0) sz eb && isTy P (ats.getD 1 0) (fun d => match d with | .int _ => true | _ => false) && zeroIs P (ats.getD 0 0) z
  | _ => false
def chkApp (P : Program) (o : Op) (sz eb : Nat) (xs : List AOprd) : Bool :=
  match o with
  | .call ⟨.builtin .append, args, ats⟩ => sz != 0 && ats.size == 2 && chkOprds args.toList xs && slTy P (ats.getD 0 0) sz eb && isTy P (ats.getD 1 0) (fun d => match d with | .slice _ => true | .string => true | _ => false)
  | _ => false

def chkCopy (P : Program) (o : Op) (sz : Nat) (xs : List AOprd) : Bool :=
  match o with
  | .call ⟨.builtin .copy, args, ats⟩ => sz != 0 && ats.size == 2 && chkOprds args.toList xs && (match P.underlying (ats.getD 0 0) with | some (.slice e) => szIs P e sz | _ => false)
  | _ => false
def chkSlx (P : Program) (o : Op) (sz : Nat) (lo hi mx : Bool) (xs : List AOprd) : Bool :=
  match o with
  | .slice t x l h m => isTy P t (fun d => match d with | .slice e => szIs P e sz | _ => false) && chkOprds ([x] ++ l.toList ++ h.toList ++ m.toList) xs && l.isSome == lo && h.isSome == hi && m.isSome == mx && (m.isNone || h.isSome)
  | _ => false

end Go.PV
