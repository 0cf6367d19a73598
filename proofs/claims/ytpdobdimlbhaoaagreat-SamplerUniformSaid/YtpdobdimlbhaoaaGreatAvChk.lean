/- The abstract machine of the Av files, sixth part: when an operation of the machine's is one of the abstract machine's. No condition. -/
import Derived.Test.YtpdobdimlbhaoaaGreatAvPur
namespace Go.Av
open Go

def eqConst : Value → C → Bool
  | .int k n, .p (.int k' n') => k == k' && n == n'
  | .bool b, .p (.bool b') => b == b'
  | .string s, .p (.str s') => s.data == s'.data
  | .slice none 0 0, .e0 => true
  | .pointer none, .nilp => true
  | .map none, .nilm => true
  | _, _ => false

def eqConsts : List Value → List C → Bool
  | [], [] => true
  | v :: vs, c :: cs => eqConst v c && eqConsts vs cs
  | _, _ => false

def opdOK (fm : Nat → Nat) : Operand → Opd → Bool
  | .tmp t, .t n => t == n
  | .const (.agg vs), .ka cs => eqConsts vs.toList cs
  | .const v, .k c => eqConst v c
  | .func f, .fn g => fm g == f
  | _, _ => false

def opdsOK (fm : Nat → Nat) : List Operand → List Opd → Bool
  | [], [] => true
  | x :: xs, y :: ys => opdOK fm x y && opdsOK fm xs ys
  | _, _ => false

def opdOOK (fm : Nat → Nat) : Option Operand → Option Opd → Bool
  | none, none => true
  | some x, some y => opdOK fm x y
  | _, _ => false

def isAggD : TypeDesc → Bool
  | .struct _ | .array _ _ => true
  | _ => false

def tyOK (P : Program) (t : TypeId) (agg : Bool) (sz : Nat) : Bool :=
  match P.info? t, P.underlying t with
  | some i, some d => i.size == sz && isAggD d == agg && (agg || sz == 1)
  | _, _ => false

def sizeOK (P : Program) (t : TypeId) (sz : Nat) : Bool :=
  match P.info? t with
  | some i => i.size == sz
  | none => false

def zeroOK (P : Program) (t : TypeId) (zero : List C) : Bool :=
  match P.info? t with
  | some i => match i.zero with
    | some z => eqConsts z.cells.toList zero
    | none => false
  | none => false

/-- Where the parts of a literal go. -/
def placeOf (P : Program) (t : TypeId) (i : Nat) : Option (Nat × Nat) :=
  match P.underlying t with
  | some (.struct fields) => match fields[i]? with
    | some f => (P.info? f.type).map fun j => (f.offset, j.size)
    | none => none
  | some (.array _ e) => (P.info? e).map fun j => (i * j.size, j.size)
  | _ => none

def partsOK (P : Program) (fm : Nat → Nat) (place : Nat → Option (Nat × Nat)) : List (Nat × Operand) → List (Nat × Nat × Opd) → Bool
  | [], [] => true
  | (i, x) :: xs, (off, sz, y) :: ys => opdOK fm x y && place i == some (off, sz) && partsOK P fm place xs ys
  | _, _ => false

def intTy (P : Program) (t : TypeId) : Option IntKind :=
  match P.underlying t with
  | some (.int k) => some k
  | _ => none

def sliceTy (P : Program) (t : TypeId) : Option TypeId :=
  match P.underlying t with
  | some (.slice e) => some e
  | _ => none

def elemOK (P : Program) (t : TypeId) (sz : Nat) : Bool :=
  match sliceTy P t with
  | some e => sizeOK P e sz
  | none => false

def litZero (P : Program) (e : TypeId) (n sz : Nat) (zero : List C) : Bool :=
  match P.info? e with
  | some i => match i.zero with
    | some z => i.size == sz && n * sz ≤ 16777216 && zero.length == n * sz && (n * sz == 0 || z.cells.size == sz) && (List.range (n * sz)).all fun j => eqConst (z.cells[j % z.cells.size]!) (zero.getD j .e0)
    | none => false
  | none => false

def mapKeyOK (P : Program) (t : TypeId) (str : Option IntKind) : Bool :=
  match P.underlying t with
  | some (.map k _) => match P.underlying k with
    | some (.int j) => str == some j
    | some .string => str == none
    | _ => false
  | _ => false

def mapElem (P : Program) (t : TypeId) : Option TypeId :=
  match P.underlying t with
  | some (.map _ e) => some e
  | _ => none

def zeroSV (P : Program) (t : TypeId) (agg : Bool) (zero : List C) : Bool :=
  match P.info? t with
  | some i => match i.zero with
    | some z => if agg then (match z with
        | .agg vs => eqConsts vs.toList zero
        | _ => false) else (match zero with
        | [c] => eqConst z c
        | _ => false)
    | none => false
  | none => false

def isStrTy (P : Program) (t : TypeId) : Bool :=
  match P.underlying t with
  | some .string => true
  | _ => false

def bytesTy (P : Program) (t : TypeId) : Bool :=
  match P.underlying t with
  | some (.slice e) => (match P.underlying e with
    | some (.int .u8) => true
    | _ => false) && sizeOK P e 1
  | _ => false

def chkOp (P : Program) (fm : Nat → Nat) (o : Op) (a : AOp) : Bool :=
  match a with
  | .mv y => match o with
    | .move x | .assign x => opdOK fm x y
    | _ => false
  | .pick c a b => match o with
    | .pick c' a' b' => opdOK fm c' c && opdOK fm a' a && opdOK fm b' b
    | _ => false
  | .alloc _ zero => match o with
    | .alloc t => zeroOK P t zero
    | _ => false
  | .boxP y => match o with
    | .box _ x => opdOK fm x y
    | _ => false
  | .boxO _ y => match o with
    | .box _ x => opdOK fm x y
    | _ => false
  | .build zero parts => match o with
    | .build t ps => zeroOK P t zero && partsOK P fm (placeOf P t) ps.toList parts && (match P.underlying t with
      | some (.struct fields) => fields.toList.all fun f => (P.info? f.type).isSome
      | some (.array _ e) => (P.info? e).isSome
      | _ => false)
    | _ => false
  | .slP n sz zero parts => match o with
    | .buildSlice t m ps => m == n && (match sliceTy P t with
      | some e => litZero P e n sz zero && partsOK P fm (fun i => some (i * sz, sz)) ps.toList parts
      | none => false)
    | _ => false
  | .slO _ n sz zero parts => match o with
    | .buildSlice t m ps => m == n && (match sliceTy P t with
      | some e => litZero P e n sz zero && partsOK P fm (fun i => some (i * sz, sz)) ps.toList parts
      | none => false)
    | _ => false
  | .nck y => match o with
    | .nilCheck x => opdOK fm x y
    | _ => false
  | .load agg sz y => match o with
    | .load t x => tyOK P t agg sz && opdOK fm x y
    | _ => false
  | .store sz y z => match o with
    | .store t x u => sizeOK P t sz && opdOK fm x y && opdOK fm u z
    | _ => false
  | .bin op y z => match o with
    | .binOp op' _ x u _ => op == op' && opdOK fm x y && opdOK fm u z
    | _ => false
  | .binB op y z => match o with
    | .binOp op' t x u _ => op == op' && opdOK fm x y && opdOK fm u z && (match P.underlying t with
      | some .bool => true
      | _ => false)
    | _ => false
  | .un op y => match o with
    | .unOp op' _ x => op == op' && opdOK fm x y
    | _ => false
  | .conv k y => match o with
    | .convert src dst x => (intTy P src).isSome && intTy P dst == some k && opdOK fm x y
    | _ => false
  | .mk _ sz bytes zero y z => match o with
    | .makeSlice t x u => (match sliceTy P t with
      | some e => sizeOK P e sz && zeroOK P e zero && (match P.info? e with | some i => i.bytes == bytes | none => false)
      | none => false) && opdOK fm x y && opdOK fm u z
    | _ => false
  | .slice sz y lo hi mx => match o with
    | .slice t x lo' hi' mx' => elemOK P t sz && opdOK fm x y && opdOOK fm lo' lo && opdOOK fm hi' hi && opdOOK fm mx' mx
    | _ => false
  | .fa off sz y => match o with
    | .fieldAddr s x f => (match P.underlying s with
      | some (.struct fields) => match fields[f]? with
        | some fl => fl.offset == off && sizeOK P fl.type sz && !(sz == 0)
        | none => false
      | _ => false) && opdOK fm x y
    | _ => false
  | .fld agg off sz y => match o with
    | .field s x f => (match P.underlying s with
      | some (.struct fields) => match fields[f]? with
        | some fl => fl.offset == off && tyOK P fl.type agg sz
        | none => false
      | _ => false) && opdOK fm x y
    | _ => false
  | .ia sz y z => match o with
    | .indexAddr t x i => elemOK P t sz && opdOK fm x y && opdOK fm i z
    | _ => false
  | .iaA n sz y z => match o with
    | .indexAddr t x i => (match P.underlying t with
      | some (.array m e) => m == n && sizeOK P e sz
      | _ => false) && opdOK fm x y && opdOK fm i z
    | _ => false
  | .ext i y => match o with
    | .extract x j => i == j && opdOK fm x y
    | _ => false
  | .len y => match o with
    | .call c => (match c.callee with
      | .builtin .len => (match c.argTypes[0]? with
        | some t => (sliceTy P t).isSome
        | none => false) && opdsOK fm c.args.toList [y]
      | _ => false)
    | _ => false
  | .app _ sz bytes y z => match o with
    | .call c => (match c.callee with
      | .builtin .append => (match c.argTypes.toList with
        | [t, t'] => t == t' && (match sliceTy P t with
          | some e => (match P.info? e with | some i => i.size == sz && i.bytes == bytes && (match i.zero with | some zv => zv.cells.size == sz | none => false) | none => false)
          | none => false)
        | _ => false) && opdsOK fm c.args.toList [y, z]
      | _ => false)
    | _ => false
  | .call g args => match o with
    | .call c => (match c.callee with
      | .value (.func f) => fm g == f && opdsOK fm c.args.toList args
      | _ => false)
    | _ => false
  | .callP g args => match o with
    | .call c => (match c.callee with
      | .value (.func f) => fm g == f && opdsOK fm c.args.toList args
      | _ => false)
    | _ => false
  | .callR _ g args => match o with
    | .call c => (match c.callee with
      | .value (.func f) => fm g == f && opdsOK fm c.args.toList args
      | _ => false)
    | _ => false
  | .callV f args => match o with
    | .call c => (match c.callee with
      | .value f' => opdOK fm f' f && opdsOK fm c.args.toList args
      | _ => false)
    | _ => false
  | .bad => true
  | .minI y z => match o with
    | .call c => (match c.callee with
      | .builtin .min => opdsOK fm c.args.toList [y, z]
      | _ => false)
    | _ => false
  | .sidx y z => match o with
    | .index t x i => isStrTy P t && opdOK fm x y && opdOK fm i z
    | _ => false
  | .toStr y => match o with
    | .convert src dst x => bytesTy P src && isStrTy P dst && opdOK fm x y
    | _ => false
  | .isNil neg y => match o with
    | .binOp op t x (.const (.slice none 0 0)) _ => op == (if neg then .neq else .eql) && (sliceTy P t).isSome && opdOK fm x y
    | _ => false
  | .mkM _ _ => match o with
    | .makeMap _ r => r.isNone
    | _ => false
  | .lkp str comma agg zero y z => match o with
    | .lookup t x k cm => cm == comma && mapKeyOK P t str && opdOK fm x y && opdOK fm k z && (match mapElem P t with
      | some e => zeroSV P e agg zero
      | none => false)
    | _ => false
  | .updM str y z u => match o with
    | .mapUpdate t x k v => mapKeyOK P t str && opdOK fm x y && opdOK fm k z && opdOK fm v u
    | _ => false
  | .lenM y => match o with
    | .call c => (match c.callee with
      | .builtin .len => (match c.argTypes[0]? with
        | some t => (mapElem P t).isSome
        | none => false) && opdsOK fm c.args.toList [y]
      | _ => false)
    | _ => false
  | .mkfO g caps => match o with
    | .makeFunc fn first captured => (match fn with | .func f => fm g == f | _ => false) && first.size == 0 && opdsOK fm captured.toList caps
    | _ => false
  | .mkf g caps => match o with
    | .makeFunc fn first captured => (match fn with | .func f => fm g == f | _ => false) && first.size == 0 && opdsOK fm captured.toList caps
    | _ => false
end Go.Av
