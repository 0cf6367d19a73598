/- The abstract machine of the Av files, second part: its operations. No condition. -/
import Derived.Test.YtpdobdimlbhaoaaGreatAvBase
import Derived.Laws.BytesArg
namespace Go.Av
open Go

def upd {α : Type} (f : Nat → α) (k : Nat) (v : α) : Nat → α := fun j => if j = k then v else f j
@[simp] theorem upd_self {α : Type} (f : Nat → α) (k : Nat) (v : α) : upd f k v k = v := by simp [upd]
theorem upd_ne {α : Type} (f : Nat → α) (k j : Nat) (v : α) (h : j ≠ k) : upd f k v j = f j := by simp [upd, h]
theorem upd_apply {α : Type} (f : Nat → α) (k j : Nat) (v : α) : upd f k v j = if j = k then v else f j := rfl

structure St where
  slots : Nat → AV
  objs : Objs
  base : Nat

def St.put (s : St) (d : Option Nat) (v : AV) : St :=
  match d with
  | some d => { s with slots := upd s.slots d v }
  | none => s

inductive Opd where
  | t (n : Nat)
  | k (x : C)
  | ka (cs : List C)
  | fn (g : Nat)
  deriving Inhabited

def St.ev (s : St) : Opd → AV
  | .t n => s.slots n
  | .k x => .s (.c x)
  | .ka cs => .s (.agg cs)
  | .fn g => .s (.c (.p (.clo g [])))

inductive AOp where
  | mv (x : Opd)
  | pick (c a b : Opd)
  | alloc (id : Nat) (zero : List C)
  | boxP (x : Opd)
  | boxO (id : Nat) (x : Opd)
  | build (zero : List C) (parts : List (Nat × Nat × Opd))
  | slP (n sz : Nat) (zero : List C) (parts : List (Nat × Nat × Opd))
  | slO (id n sz : Nat) (zero : List C) (parts : List (Nat × Nat × Opd))
  | nck (x : Opd)
  | load (agg : Bool) (sz : Nat) (a : Opd)
  | store (sz : Nat) (a x : Opd)
  | bin (op : BinOp) (x y : Opd)
  | binB (op : BinOp) (x y : Opd)
  | un (op : UnOp) (x : Opd)
  | conv (k : IntKind) (x : Opd)
  | mk (id sz bytes : Nat) (zero : List C) (len cap : Opd)
  | slice (sz : Nat) (x : Opd) (lo hi mx : Option Opd)
  | fa (off sz : Nat) (x : Opd)
  | fld (agg : Bool) (off sz : Nat) (x : Opd)
  | ia (sz : Nat) (x i : Opd)
  | iaA (n sz : Nat) (x i : Opd)
  | ext (i : Nat) (x : Opd)
  | len (x : Opd)
  | app (id sz bytes : Nat) (x y : Opd)
  | call (g : Nat) (args : List Opd)
  | callP (g : Nat) (args : List Opd)
  | callR (base : Nat) (g : Nat) (args : List Opd)
  | callV (f : Opd) (args : List Opd)
  | mkf (g : Nat) (caps : List Opd)
  | bad
  | minI (x y : Opd)
  | sidx (x i : Opd)
  | toStr (x : Opd)
  | isNil (neg : Bool) (x : Opd)
  | mkM (id sz : Nat)
  | lkp (str : Option IntKind) (comma agg : Bool) (zero : List C) (x k : Opd)
  | updM (str : Option IntKind) (x k y : Opd)
  | lenM (x : Opd)
  | mkfO (g : Nat) (caps : List Opd)
  deriving Inhabited

structure AO where
  dst : Option Nat
  op : AOp
  guard : Option (Nat × Bool)
  deriving Inhabited

inductive ACode where
  | skip
  | region (ops : List AO) (draw : Bool)
  | seq (a b : ACode)
  | cond (c : Opd) (thn els : ACode)
  | block (id : Nat) (body : ACode)
  | loop (body : ACode)
  | exit (id : Nat)
  | ret
  deriving Inhabited

abbrev vp (x : PC) : AV := .s (.c (.p x))
abbrev vi (k : IntKind) (n : Int) : AV := .s (.c (.p (.int k n)))
abbrev vb (b : Bool) : AV := .s (.c (.p (.bool b)))
abbrev vs (xs : List (List PC)) : AV := .s (.c (.p (.sl xs)))

def bits2 (op : BinOp) (k : IntKind) (x y : Int) : Option Int :=
  let a := BitVec.ofInt k.bits x
  let b := BitVec.ofInt k.bits y
  match op with
  | .and => some (k.wrap (a &&& b).toNat)
  | .or => some (k.wrap (a ||| b).toNat)
  | .xor => some (k.wrap (a ^^^ b).toNat)
  | .andNot => some (k.wrap (a &&& ~~~b).toNat)
  | _ => none

def binI (op : BinOp) (k : IntKind) (a b : Int) : Option PC :=
  match op with
  | .add => some (.int k (k.wrap (a + b)))
  | .sub => some (.int k (k.wrap (a - b)))
  | .mul => some (.int k (k.wrap (a * b)))
  | .quo => if b = 0 then none else some (.int k (k.wrap (a.tdiv b)))
  | .rem => if b = 0 then none else some (.int k (a.tmod b))
  | .and | .or | .xor | .andNot => (bits2 op k a b).map (PC.int k)
  | .eql => some (.bool (a == b))
  | .neq => some (.bool (a != b))
  | .lss => some (.bool (decide (a < b)))
  | .leq => some (.bool (decide (a ≤ b)))
  | .gtr => some (.bool (decide (a > b)))
  | .geq => some (.bool (decide (a ≥ b)))
  | _ => none

def shiftI (op : BinOp) (k : IntKind) (a b : Int) : Option PC :=
  if b < 0 then none else
  match op with
  | .shl => some (.int k (k.wrap (a * 2 ^ (min b.toNat k.bits))))
  | .shr => some (.int k (a.fdiv (2 ^ (min b.toNat k.bits))))
  | _ => none

def BinOp.isShift : BinOp → Bool
  | .shl | .shr => true
  | _ => false

def abin (op : BinOp) : PC → PC → Option PC
  | .int k a, .int k' b => if BinOp.isShift op then shiftI op k a b else if k = k' then binI op k a b else none
  | _, _ => none

def abinB (op : BinOp) : PC → PC → Option PC
  | .bool a, .bool b => match op with
    | .eql => some (.bool (a == b))
    | .neq => some (.bool (!(a == b)))
    | _ => none
  | _, _ => none

def aun (op : UnOp) : PC → Option PC
  | .bool b => match op with
    | .not => some (.bool !b)
    | _ => none
  | .int k n => match op with
    | .neg => some (.int k (k.wrap (0 - n)))
    | _ => none
  | _ => none

def setAt {α : Type} (l : List α) (off : Nat) (cs : List α) : List α := l.take off ++ cs ++ l.drop (off + cs.length)

def fillA : List C → List (Nat × List C) → Option (List C)
  | cells, [] => some cells
  | cells, (off, cs) :: r => if off + cs.length ≤ cells.length then fillA (setAt cells off cs) r else none

def AV.pc? : AV → Option PC
  | .s (.c (.p y)) => some y
  | _ => none

def AV.cells? : AV → Option (List C)
  | .s x => some x.cells
  | _ => none

def AV.int? : AV → Option Int
  | .s (.c (.p (.int _ n))) => some n
  | _ => none

def C.pure? : C → Option PC
  | .p x => some x
  | .e0 => some (.sl [])
  | _ => none

def allSome {α : Type} : List (Option α) → Option (List α)
  | [] => some []
  | none :: _ => none
  | some x :: r => match allSome r with
    | some l => some (x :: l)
    | none => none

/-- Cells as pure cells, read through the objects. -/
def purC (objs : Objs) : Nat → C → Option PC
  | _, .p x => some x
  | _, .e0 => some (.sl [])
  | n + 1, .rs o v sz st len => match objs.m o v with
    | some ob => if ob.sz = sz ∧ st + len ≤ ob.elems.length then
        (allSome (((ob.elems.drop st).take len).map fun x => allSome (x.map (purC objs n)))).map PC.sl else none
    | none => none
  | n + 1, .ptr o v i off => match objs.m o v with
    | some ob => match ob.elems[i]? with
        | some x => if off ≤ x.length then (allSome ((x.drop off).map (purC objs n))).map PC.pref else none
        | none => none
    | none => none
  | _, _ => none

def purDepth : Nat := 4

def purSV (objs : Objs) : SV → Option PSV
  | .c x => (purC objs purDepth x).map PSV.c
  | .agg cs => (allSome (cs.map (purC objs purDepth))).map PSV.agg

def SV.pure? : SV → Option PSV
  | .c x => x.pure?.map PSV.c
  | .agg cs => (allSome (cs.map C.pure?)).map PSV.agg

def purAV (objs : Objs) : AV → Option PAV
  | .s x => (purSV objs x).map PAV.s
  | .tup l => (allSome (l.map (purSV objs))).map PAV.tup
  | .u => none

/-- The objects that a cell leads to. -/
def rchC (objs : Objs) : Nat → C → List (Nat × Nat)
  | n + 1, .rs o v _ _ _ => (o, v) :: match objs.m o v with
    | some ob => ob.elems.flatMap fun x => x.flatMap (rchC objs n)
    | none => []
  | n + 1, .ptr o v _ _ => (o, v) :: match objs.m o v with
    | some ob => ob.elems.flatMap fun x => x.flatMap (rchC objs n)
    | none => []
  | _, _ => []

def rchSV (objs : Objs) (x : SV) : List (Nat × Nat) := x.cells.flatMap (rchC objs purDepth)

def rchAV (objs : Objs) : AV → List (Nat × Nat)
  | .s x => rchSV objs x
  | .tup l => l.flatMap (rchSV objs)
  | .u => []

/-- Objects, frozen. -/
def fzIds (ids : List (Nat × Nat)) (objs : Objs) : Objs := ⟨fun o v =>
  match objs.m o v with
  | some ob => some { ob with frozen := ob.frozen || ids.contains (o, v) }
  | none => none, objs.nv⟩

@[simp] theorem fzIds_nil (objs : Objs) : fzIds [] objs = objs := by
  cases objs with
  | mk m nv =>
    unfold fzIds
    congr 1
    funext o v
    cases h : m o v <;> simp [h]

def newObj (objs : Objs) (id sz : Nat) (elems : List (List C)) : Objs × Nat :=
  (objs.new id { sz := sz, elems := elems, frozen := false }, objs.nv id)

def sliceElems (objs : Objs) (sz : Nat) : AV → Option (List (List C))
  | .s (.c (.p (.sl xs))) => if xs.all (fun x => x.length == sz) then some (xs.map (List.map C.p)) else none
  | .s (.c .e0) => some []
  | .s (.c (.rs o v sz' st len)) => match objs.m o v with
    | some ob => if sz' = sz ∧ ob.sz = sz ∧ st + len ≤ ob.elems.length then some ((ob.elems.drop st).take len) else none
    | none => none
  | _ => none

def partsOf (s : St) : List (Nat × Nat × Opd) → Option (List (Nat × List C))
  | [] => some []
  | (i, sz, x) :: r => match (s.ev x).cells?, partsOf s r with
    | some cs, some l => if cs.length = sz then some ((i, cs) :: l) else none
    | _, _ => none

def chunk {α : Type} (sz : Nat) : Nat → List α → List (List α)
  | 0, _ => []
  | n + 1, l => l.take sz :: chunk sz n (l.drop sz)

def rowOf (s : St) (n sz : Nat) (zero : List C) (parts : List (Nat × Nat × Opd)) : Option (List (List C)) :=
  match partsOf s parts with
  | some l => match fillA zero l with
    | some cells => some (chunk sz n cells)
    | none => none
  | none => none

def bound (s : St) (d : Int) : Option Opd → Option Int
  | none => some d
  | some x => (s.ev x).int?

def asl (sz : Nat) (x : AV) (s : St) (lo hi mx : Option Opd) : Option AV :=
  match mx with
  | none => match x with
    | .s (.c (.p (.sl xs))) => match bound s 0 lo, bound s xs.length hi with
      | some l, some h => if 0 ≤ l ∧ l ≤ h ∧ h ≤ xs.length ∧ (xs.all fun x => x.length == sz) then some (vs ((xs.take h.toNat).drop l.toNat)) else none
      | _, _ => none
    | .s (.c (.rs o v sz' st len)) => match bound s 0 lo, bound s len hi with
      | some l, some h => if sz' = sz ∧ 0 ≤ l ∧ l ≤ h ∧ h ≤ len then some (.s (.c (.rs o v sz (st + l.toNat) (h.toNat - l.toNat)))) else none
      | _, _ => none
    | .s (.c .e0) => match bound s 0 lo, bound s 0 hi with
      | some l, some h => if l = 0 ∧ h = 0 then some (.s (.c .e0)) else none
      | _, _ => none
    | _ => none
  | some m => match bound s 0 lo, bound s 0 hi, (s.ev m).int? with
    | some l, some h, some m => if hi.isSome ∧ l = 0 ∧ h = 0 ∧ m = 0 then match x with
        | .s (.c (.p (.sl _))) | .s (.c .e0) | .s (.c (.rs ..)) => some (.s (.c .e0))
        | _ => none
      else none
    | _, _, _ => none

/-- Keys of one kind, compared. -/
def keyEq : PC → PC → Option Bool
  | .int k a, .int k' b => if k = k' then some (a == b) else none
  | .str a, .str b => some (a == b)
  | _, _ => none

def keyIs : Option IntKind → PC → Bool
  | some k, .int k' _ => k' == k
  | none, .str _ => true
  | _, _ => false

def findRow (str : Option IntKind) (k : PC) : List (List C) → Nat → Option (Option (Nat × List C))
  | [], _ => some none
  | (.p k' :: vs) :: r, i => if keyIs str k' = true then match keyEq k k' with
      | some true => some (some (i, vs))
      | some false => findRow str k r (i + 1)
      | none => none
    else none
  | _, _ => none

def byteOf : List C → Option Int
  | [.p (.int .u8 n)] => some n
  | _ => none

def commaV (comma : Bool) (x : SV) (ok : Bool) : AV :=
  if comma then .tup [x, .c (.p (.bool ok))] else .s x

def AV.sv1? : AV → Option SV
  | .s x => some x
  | _ => none
def PSV.cell? : PSV → Option PC
  | .c x => some x
  | _ => none

/-- One operation that calls nothing: the objects behind it, and its value. -/
def aop (o : AOp) (s : St) : Option (Objs × AV) :=
  let v (x : Option AV) : Option (Objs × AV) := x.map fun x => (s.objs, x)
  match o with
  | .mv x => v (some (s.ev x))
  | .pick c a b => match s.ev c with
    | .s (.c (.p (.bool t))) => v (some (if t then s.ev a else s.ev b))
    | _ => none
  | .alloc id zero => let r := newObj s.objs (s.base + id) zero.length [zero]; some (r.1, .s (.c (.ptr (s.base + id) r.2 0 0)))
  | .boxO id x => match (s.ev x).cells? with
    | some cs => let r := newObj s.objs (s.base + id) cs.length [cs]; some (r.1, .s (.c (.ptr (s.base + id) r.2 0 0)))
    | none => none
  | .boxP x => match (s.ev x).cells? with
    | some cs => v ((allSome (cs.map C.pure?)).map fun l => vp (.pref l))
    | none => none
  | .build zero parts => match partsOf s parts with
    | some l => v ((fillA zero l).map fun cs => .s (.agg cs))
    | none => none
  | .slP n sz zero parts => match rowOf s n sz zero parts with
    | some xs => v ((allSome (xs.map fun x => allSome (x.map C.pure?))).map vs)
    | none => none
  | .slO id n sz zero parts => match rowOf s n sz zero parts with
    | some xs => let r := newObj s.objs (s.base + id) sz xs; some (r.1, .s (.c (.rs (s.base + id) r.2 sz 0 xs.length)))
    | none => none
  | .load agg sz a => match s.ev a with
    | .s (.c (.p (.pref cs))) => if cs.length = sz then
        (if agg then v (some (.s (.agg (cs.map C.p)))) else v ((cs[0]?).map fun c => vp c)) else none
    | .s (.c (.ptr o ver i off)) => match s.objs.m o ver with
      | some ob => match ob.elems[i]? with
        | some x => if off + sz ≤ x.length then
            (if agg then v (some (.s (.agg ((x.drop off).take sz)))) else v ((x[off]?).map fun c => .s (.c c))) else none
        | none => none
      | none => none
    | _ => none
  | .store sz a x => match s.ev a, (s.ev x).cells? with
    | .s (.c (.ptr o ver i off)), some cs => match s.objs.m o ver with
      | some ob => match ob.elems[i]? with
        | some y => if ob.frozen = false ∧ cs.length = sz ∧ off + sz ≤ y.length then
            some (s.objs.set o ver (some { ob with elems := ob.elems.set i (setAt y off cs) }), .tup []) else none
        | none => none
      | none => none
    | _, _ => none
  | .bin op x y => match s.ev x, s.ev y with
    | .s (.c (.p a)), .s (.c (.p b)) => v ((abin op a b).map vp)
    | _, _ => none
  | .binB op x y => match s.ev x, s.ev y with
    | .s (.c (.p a)), .s (.c (.p b)) => v ((abinB op a b).map vp)
    | _, _ => none
  | .un op x => match s.ev x with
    | .s (.c (.p a)) => v ((aun op a).map vp)
    | _ => none
  | .conv k x => match s.ev x with
    | .s (.c (.p (.int _ n))) => v (some (vi k (k.wrap n)))
    | _ => none
  | .mk id sz bytes zero len cap => match (s.ev len).int?, (s.ev cap).int? with
    | some l, some c => if 0 ≤ l ∧ l ≤ c ∧ c ≤ 9223372036854775807 ∧ bytes * c ≤ 281474976710656 ∧ zero.length = sz then
        let r := newObj s.objs (s.base + id) sz (List.replicate l.toNat zero); some (r.1, .s (.c (.rs (s.base + id) r.2 sz 0 l.toNat))) else none
    | _, _ => none
  | .slice sz x lo hi mx => v (asl sz (s.ev x) s lo hi mx)
  | .fa off sz x => match s.ev x with
    | .s (.c (.p (.pref cs))) => if off + sz ≤ cs.length then v (some (vp (.pref ((cs.drop off).take sz)))) else none
    | .s (.c (.ptr o ver i f)) => v (some (.s (.c (.ptr o ver i (f + off)))))
    | _ => none
  | .fld agg off sz x => match s.ev x with
    | .s (.agg cs) => if off + sz ≤ cs.length then
        (if agg then v (some (.s (.agg ((cs.drop off).take sz)))) else v ((cs[off]?).map fun c => .s (.c c))) else none
    | _ => none
  | .ia sz x i => match s.ev x, (s.ev i).int? with
    | .s (.c (.p (.sl xs))), some n => if 0 ≤ n ∧ n < xs.length then
        v ((xs[n.toNat]?).bind fun y => if y.length = sz then some (vp (.pref y)) else none) else none
    | .s (.c (.rs o ver sz' st len)), some n => if sz' = sz ∧ 0 ≤ n ∧ n < len then v (some (.s (.c (.ptr o ver (st + n.toNat) 0)))) else none
    | _, _ => none
  | .iaA n sz x i => match s.ev x, (s.ev i).int? with
    | .s (.c (.p (.pref cs))), some k => if 0 ≤ k ∧ k < n ∧ cs.length = n * sz then v (some (vp (.pref ((cs.drop (k.toNat * sz)).take sz)))) else none
    | .s (.c (.ptr o ver j off)), some k => if 0 ≤ k ∧ k < n then v (some (.s (.c (.ptr o ver j (off + k.toNat * sz))))) else none
    | _, _ => none
  | .ext i x => match s.ev x with
    | .tup l => v ((l[i]?).map AV.s)
    | _ => none
  | .len x => match s.ev x with
    | .s (.c (.p (.sl xs))) => v (some (vi .i64 xs.length))
    | .s (.c .e0) => v (some (vi .i64 0))
    | .s (.c (.rs _ _ _ _ len)) => v (some (vi .i64 len))
    | _ => none
  | .app id sz bytes x y => match sliceElems s.objs sz (s.ev y) with
    | none => none
    | some ys => match s.ev x with
      | .s (.c .e0) => if ys.length = 0 then v (some (.s (.c .e0)))
          else if ys.length * bytes ≤ 140737488355328 ∧ ys.length ≤ 140737488355328 then
            let r := newObj s.objs (s.base + id) sz ys; some (r.1, .s (.c (.rs (s.base + id) r.2 sz 0 ys.length))) else none
      | .s (.c (.rs o ver sz' st len)) => match s.objs.m o ver with
        | some ob => if ob.frozen = false ∧ sz' = sz ∧ ob.sz = sz ∧ st + len = ob.elems.length ∧ (len + ys.length) * bytes ≤ 140737488355328 ∧ len + ys.length ≤ 140737488355328 then
            some ((s.objs.set o ver none).new o { ob with elems := ob.elems.drop st ++ ys }, .s (.c (.rs o (s.objs.nv o) sz 0 (len + ys.length)))) else none
        | none => none
      | _ => none
  | .nck x => match s.ev x with
    | .s (.c (.p (.pref cs))) => v (some (vp (.pref cs)))
    | .s (.c (.ptr o ver i f)) => v (some (.s (.c (.ptr o ver i f))))
    | .s (.c (.p (.clo g l))) => v (some (vp (.clo g l)))
    | _ => none
  | .mkf g caps => match allSome (caps.map fun x => (s.ev x).pc?) with
    | some l => v (some (vp (.clo g l)))
    | none => none
  | .bad => none
  | .minI x y => match s.ev x, s.ev y with
    | .s (.c (.p (.int k a))), .s (.c (.p (.int k' b))) => if k = k' then v (some (vi k (if b < a then b else a))) else none
    | _, _ => none
  | .sidx x i => match s.ev x, (s.ev i).int? with
    | .s (.c (.p (.str b))), some n => if 0 ≤ n then v ((b[n.toNat]?).map fun c => vi .u8 c.toNat) else none
    | _, _ => none
  | .toStr x => match sliceElems s.objs 1 (s.ev x) with
    | some ys => v ((allSome (ys.map byteOf)).map fun ns => vp (.str (strOfNums ns)))
    | none => none
  | .isNil neg x => match s.ev x with
    | .s (.c (.rs _ _ _ _ len)) => if 0 < len then v (some (vb neg)) else none
    | .s (.c (.p (.sl xs))) => if 0 < xs.length then v (some (vb neg)) else none
    | _ => none
  | .mkM id sz => let r := newObj s.objs (s.base + id) sz []; some (r.1, .s (.c (.mp (s.base + id) r.2)))
  | .lkp str comma agg zero x k => match s.ev x, s.ev k with
    | .s (.c (.mp o ver)), .s (.c (.p pk)) => match s.objs.m o ver with
      | some ob => if keyIs str pk = true then match findRow str pk ob.elems 0 with
          | some (some (_, vs)) => v ((mapVal ob.sz vs).map fun x => commaV comma x true)
          | some none => v ((mapVal (if agg then zero.length + 1 else 0) zero).map fun x => commaV comma x false)
          | none => none
        else none
      | none => none
    | _, _ => none
  | .updM str x k y => match s.ev x, s.ev k, s.ev y with
    | .s (.c (.mp o ver)), .s (.c (.p pk)), .s sv => match s.objs.m o ver with
      | some ob => if keyIs str pk = true then match mapVal ob.sz sv.cells with
          | none => none
          | some sv' => match sv, sv' with
            | .c _, .c _ | .agg _, .agg _ => match findRow str pk ob.elems 0 with
              | some (some (i, _)) => some (s.objs.set o ver (some { ob with elems := ob.elems.set i (.p pk :: sv.cells) }), .tup [])
              | some none => some (s.objs.set o ver (some { ob with elems := ob.elems ++ [.p pk :: sv.cells] }), .tup [])
              | none => none
            | _, _ => none
        else none
      | none => none
    | _, _, _ => none
  | .lenM x => match s.ev x with
    | .s (.c (.mp o ver)) => match s.objs.m o ver with
      | some ob => v (some (vi .i64 ob.elems.length))
      | none => none
    | _ => none
  | .mkfO g caps => match allSome (caps.map fun x => (s.ev x).sv1?) with
    | some sv => match allSome (sv.map (purSV s.objs)) with
      | some pv => match allSome (pv.map PSV.cell?) with
        | some l => some (fzIds (sv.flatMap (rchSV s.objs)) s.objs, vp (.clo g l))
        | none => none
      | none => none
    | none => none
  | .call .. | .callP .. | .callR .. | .callV .. => none

end Go.Av
