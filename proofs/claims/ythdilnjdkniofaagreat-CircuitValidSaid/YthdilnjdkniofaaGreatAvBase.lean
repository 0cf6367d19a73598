/- The abstract machine of the Av files, first part: pure values, memory objects, and what relates them to the machine's values and memory. No condition. -/
import Derived.Calls
import Derived.Below
import Derived.Laws.Sem
import Derived.Laws.Cells
import Derived.Laws.BytesArg
namespace Go.Av
open Go Go.RowKit

/-- A cell's value that leads to no memory that may be written. -/
inductive PC where
  | int (k : IntKind) (n : Int)
  | bool (b : Bool)
  | str (s : ByteArray)
  | sl (xs : List (List PC))
  | pref (cs : List PC)
  | clo (f : Nat) (caps : List PC)
  deriving Inhabited

/-- A cell's value. -/
inductive C where
  | p (x : PC)
  | e0
  | rs (o v sz st len : Nat)
  | ptr (o v i off : Nat)
  | nilp
  | mp (o v : Nat)
  | nilm
  | clo1 (g o v : Nat)
  deriving Inhabited

inductive PSV where
  | c (x : PC)
  | agg (cs : List PC)
  deriving Inhabited

inductive SV where
  | c (x : C)
  | agg (cs : List C)
  deriving Inhabited

inductive PAV where
  | s (x : PSV)
  | tup (l : List PSV)
  deriving Inhabited

inductive AV where
  | s (x : SV)
  | tup (l : List SV)
  | u
  deriving Inhabited

def PSV.up : PSV → SV
  | .c x => .c (.p x)
  | .agg cs => .agg (cs.map C.p)

def PAV.up : PAV → AV
  | .s x => .s x.up
  | .tup l => .tup (l.map PSV.up)

structure Obj where
  sz : Nat
  elems : List (List C)
  frozen : Bool
  deriving Inhabited

/-- The objects, by number and version; how many versions a number has had. -/
structure Objs where
  m : Nat → Nat → Option Obj
  nv : Nat → Nat

def Objs.empty : Objs := ⟨fun _ _ => none, fun _ => 0⟩
def Objs.set (objs : Objs) (o v : Nat) (ob : Option Obj) : Objs := ⟨fun o' v' => if o' = o ∧ v' = v then ob else objs.m o' v', objs.nv⟩
def Objs.new (objs : Objs) (o : Nat) (ob : Obj) : Objs :=
  ⟨fun o' v' => if o' = o ∧ v' = objs.nv o then some ob else objs.m o' v', fun o' => if o' = o then objs.nv o + 1 else objs.nv o'⟩

/-- Where an object lies: nowhere yet (a nil slice), or in a block, from a cell on; the block's cells; an element's cells. -/
inductive Loc where
  | nil
  | at_ (b base n sz : Nat)
  | map (r : Nat)

abbrev ZM := Nat → Option (Array Value)
abbrev BM := Nat → Nat → Option Loc

inductive PR (fm : Nat → Nat) (Z : ZM) : Value → PC → Prop
  | int {k n} : PR fm Z (.int k n) (.int k n)
  | bool {b} : PR fm Z (.bool b) (.bool b)
  | str {s} : PR fm Z (.string s) (.str s)
  | sl0 {a cap} : PR fm Z (.slice a 0 cap) (.sl [])
  | sl {b off cap sz : Nat} {cells : Array Value} {xs : List (List PC)} (hz : Z b = some cells) (hc : xs.length ≤ cap)
      (hw : ∀ x, x ∈ xs → x.length = sz) (hb : off + xs.length * sz ≤ cells.size)
      (h : ∀ i j x c, xs[i]? = some x → x[j]? = some c → PR fm Z (cells.getD (off + i * sz + j) undef) c) :
      PR fm Z (.slice (some ⟨b, off, none⟩) xs.length cap) (.sl xs)
  | pref {b off : Nat} {cells : Array Value} {cs : List PC} (hz : Z b = some cells) (hb : off + cs.length ≤ cells.size)
      (h : ∀ j c, cs[j]? = some c → PR fm Z (cells.getD (off + j) undef) c) : PR fm Z (.pointer (some ⟨b, off, none⟩)) (.pref cs)
  | clo {f : Nat} {caps : Array Value} {cs : List PC} (hl : caps.size = cs.length)
      (h : ∀ j c, cs[j]? = some c → PR fm Z (caps.getD j undef) c) : PR fm Z (.func (.func (fm f)) #[] caps) (.clo f cs)

inductive VR (fm : Nat → Nat) (Z : ZM) (β : BM) : Value → C → Prop
  | p {v x} (h : PR fm Z v x) : VR fm Z β v (.p x)
  | e0 {a} : VR fm Z β (.slice a 0 0) .e0
  | rsn {o v sz} (h : β o v = some .nil) : VR fm Z β (.slice none 0 0) (.rs o v sz 0 0)
  | rs {o v b base n sz st len cap : Nat} {a : Addr} (h : β o v = some (.at_ b base n sz)) (hc : len ≤ cap)
      (hb : base + (st + cap) * sz ≤ n) (ha : cap ≠ 0 → a = ⟨b, base + st * sz, none⟩) : VR fm Z β (.slice (some a) len cap) (.rs o v sz st len)
  | ptr {o v b base n sz i off : Nat} (h : β o v = some (.at_ b base n sz)) : VR fm Z β (.pointer (some ⟨b, base + i * sz + off, none⟩)) (.ptr o v i off)
  | nilp : VR fm Z β (.pointer none) .nilp
  | mp {o v r : Nat} (h : β o v = some (.map r)) : VR fm Z β (.map (some r)) (.mp o v)
  | nilm : VR fm Z β (.map none) .nilm
  | clo1 {g o v b base n sz : Nat} (h : β o v = some (.at_ b base n sz)) : VR fm Z β (.func (.func (fm g)) #[] #[.pointer (some ⟨b, base + 0 * sz + 0, none⟩)]) (.clo1 g o v)

inductive SR (fm : Nat → Nat) (Z : ZM) (β : BM) : Value → SV → Prop
  | c {v x} (h : VR fm Z β v x) : SR fm Z β v (.c x)
  | agg {vs : Array Value} {cs : List C} (hl : vs.size = cs.length) (h : ∀ j c, cs[j]? = some c → VR fm Z β (vs.getD j undef) c) :
      SR fm Z β (.agg vs) (.agg cs)

inductive AR (fm : Nat → Nat) (Z : ZM) (β : BM) : Value → AV → Prop
  | s {v x} (h : SR fm Z β v x) : AR fm Z β v (.s x)
  | tup {vs : Array Value} {l : List SV} (hl : vs.size = l.length) (h : ∀ j x, l[j]? = some x → SR fm Z β (vs.getD j undef) x) :
      AR fm Z β (.tuple vs) (.tup l)
  | u {v} : AR fm Z β v .u

/-- Z' knows what Z knows; what is new lies from block B on. -/
structure ZExt (B : Nat) (Z Z' : ZM) : Prop where
  old : ∀ b c, Z b = some c → Z' b = some c
  new : ∀ b c, Z' b = some c → Z b = some c ∨ B ≤ b

theorem ZExt.refl (B : Nat) (Z : ZM) : ZExt B Z Z := ⟨fun _ _ h => h, fun _ _ h => .inl h⟩
theorem ZExt.trans {B : Nat} {Z Z' Z'' : ZM} (h : ZExt B Z Z') (k : ZExt B Z' Z'') : ZExt B Z Z'' :=
  ⟨fun b c hb => k.old b c (h.old b c hb), fun b c hb => (k.new b c hb).elim (h.new b c) .inr⟩
theorem ZExt.mono {B B' : Nat} {Z Z' : ZM} (h : ZExt B Z Z') (hB : B' ≤ B) : ZExt B' Z Z' :=
  ⟨h.old, fun b c hb => (h.new b c hb).imp id (Nat.le_trans hB)⟩

def BExt (β β' : BM) : Prop := ∀ o v l, β o v = some l → β' o v = some l
theorem BExt.refl (β : BM) : BExt β β := fun _ _ _ h => h
theorem BExt.trans {a b c : BM} (h : BExt a b) (k : BExt b c) : BExt a c := fun o v l x => k o v l (h o v l x)

theorem PR.mono {fm : Nat → Nat} {Z Z' : ZM} (hZ : ∀ b c, Z b = some c → Z' b = some c) {v : Value} {x : PC} (h : PR fm Z v x) : PR fm Z' v x := by
  induction h with
  | int => exact .int
  | bool => exact .bool
  | str => exact .str
  | sl0 => exact .sl0
  | sl hz hc hw hb _ ih => exact .sl (hZ _ _ hz) hc hw hb ih
  | pref hz hb _ ih => exact .pref (hZ _ _ hz) hb ih
  | clo hl _ ih => exact .clo hl ih

theorem VR.mono {fm : Nat → Nat} {Z Z' : ZM} {β β' : BM} (hZ : ∀ b c, Z b = some c → Z' b = some c) (hβ : BExt β β') {v : Value} {x : C}
    (h : VR fm Z β v x) : VR fm Z' β' v x := by
  cases h with
  | p h => exact .p (h.mono hZ)
  | e0 => exact .e0
  | rsn h => exact .rsn (hβ _ _ _ h)
  | rs h hc hb ha => exact .rs (hβ _ _ _ h) hc hb ha
  | ptr h => exact .ptr (hβ _ _ _ h)
  | nilp => exact .nilp
  | mp h => exact .mp (hβ _ _ _ h)
  | nilm => exact .nilm
  | clo1 h => exact .clo1 (hβ _ _ _ h)

theorem SR.mono {fm : Nat → Nat} {Z Z' : ZM} {β β' : BM} (hZ : ∀ b c, Z b = some c → Z' b = some c) (hβ : BExt β β') {v : Value} {x : SV}
    (h : SR fm Z β v x) : SR fm Z' β' v x := by
  cases h with
  | c h => exact .c (h.mono hZ hβ)
  | agg hl h => exact .agg hl fun j c hj => (h j c hj).mono hZ hβ

theorem AR.mono {fm : Nat → Nat} {Z Z' : ZM} {β β' : BM} (hZ : ∀ b c, Z b = some c → Z' b = some c) (hβ : BExt β β') {v : Value} {x : AV}
    (h : AR fm Z β v x) : AR fm Z' β' v x := by
  cases h with
  | s h => exact .s (h.mono hZ hβ)
  | tup hl h => exact .tup hl fun j c hj => (h j c hj).mono hZ hβ
  | u => exact .u

theorem VR.oneCell {fm : Nat → Nat} {Z : ZM} {β : BM} {v : Value} {x : C} (h : VR fm Z β v x) : v.oneCell' = true ∧ v.cells = #[v] := by
  cases h with
  | p h => cases h <;> exact ⟨rfl, rfl⟩
  | _ => exact ⟨rfl, rfl⟩

/-- The cells of a simple value. -/
def SV.cells : SV → List C
  | .c x => [x]
  | .agg cs => cs

theorem SR.cells {fm : Nat → Nat} {Z : ZM} {β : BM} {v : Value} {x : SV} (h : SR fm Z β v x) :
    v.cells.size = x.cells.length ∧ ∀ j c, x.cells[j]? = some c → VR fm Z β (v.cells.getD j undef) c := by
  cases h with
  | c h =>
    rw [h.oneCell.2]
    refine ⟨rfl, fun j c hj => ?_⟩
    cases j with
    | zero => simp [SV.cells] at hj; subst hj; simpa using h
    | succ j => simp [SV.cells] at hj
  | agg hl h => exact ⟨hl, h⟩

/-- The block of an object. -/
def blockOf (β : BM) (o v : Nat) : Option Nat :=
  match β o v with
  | some (.at_ b _ _ _) => some b
  | _ => none

/-- The place of an object: its block, or its map. -/
def anyOf (β : BM) (o v : Nat) : Option Nat :=
  match β o v with
  | some (.at_ b _ _ _) => some b
  | some (.map r) => some r
  | _ => none

theorem blockOf_any {β : BM} {o v b : Nat} (h : blockOf β o v = some b) : anyOf β o v = some b := by
  unfold blockOf at h
  unfold anyOf
  split at h
  · rename_i hl; rw [hl]; exact h
  · cases h

/-- A map's key, as the machine has it. -/
def keyVal : PC → Option Value
  | .int k n => some (.int k n)
  | .str s => some (.string s)
  | _ => none

/-- A map's value: one cell, or several. -/
def mapVal : Nat → List C → Option SV
  | 0, [c] => some (.c c)
  | 0, _ => none
  | n + 1, l => if l.length = n then some (.agg l) else none

/-- An entry of a map. -/
def EntR (fm : Nat → Nat) (Z : ZM) (β : BM) (sz : Nat) (e : MapEntry) (x : List C) : Prop :=
  ∃ k vs sv, x = .p k :: vs ∧ keyVal k = some e.key ∧ mapVal sz vs = some sv ∧ SR fm Z β e.val sv

theorem EntR.mono {fm : Nat → Nat} {Z Z' : ZM} {β β' : BM} (hZ : ∀ b c, Z b = some c → Z' b = some c) (hβ : BExt β β') {sz : Nat} {e : MapEntry} {x : List C}
    (h : EntR fm Z β sz e x) : EntR fm Z' β' sz e x := by
  obtain ⟨k, vs, sv, h1, h2, h3, h4⟩ := h
  exact ⟨k, vs, sv, h1, h2, h3, h4.mono hZ hβ⟩

/-- An object and the memory that holds it. -/
def OR (fm : Nat → Nat) (Z : ZM) (β : BM) (B : Nat) (w : World) (o v : Nat) (ob : Obj) : Prop :=
  match β o v with
  | none => False
  | some .nil => ob.elems = []
  | some (.map r) => B ≤ r ∧ ∃ es clk, w.heap[r]? = some (.map es clk) ∧ es.size = ob.elems.length ∧ ∀ (i : Nat) (x : List C), ob.elems[i]? = some x → ∃ e, es[i]? = some e ∧ EntR fm Z β ob.sz e x
  | some (.at_ b base n sz) => sz = ob.sz ∧ B ≤ b ∧ ∃ cells e, w.heap[b]? = some (.cells cells e (0, 0)) ∧ cells.size = n ∧ base + ob.elems.length * sz ≤ n ∧
      (∀ x, x ∈ ob.elems → x.length = sz) ∧ (∀ i j x c, ob.elems[i]? = some x → x[j]? = some c → VR fm Z β (cells.getD (base + i * sz + j) undef) c) ∧
      Z b = if ob.frozen then some cells else none

structure WR (fm : Nat → Nat) (Z : ZM) (β : BM) (objs : Objs) (w0 w : World) : Prop where
  below : Below w0.heap.size w0 w
  hz : ∀ b cells, Z b = some cells → ∃ e f, w.heap[b]? = some (.cells cells e f)
  ho : ∀ o v ob, objs.m o v = some ob → OR fm Z β w0.heap.size w o v ob
  inj : ∀ o v ob o' v' ob' b, objs.m o v = some ob → objs.m o' v' = some ob' → anyOf β o v = some b → anyOf β o' v' = some b → o = o' ∧ v = v'
  hβ : ∀ o v l, β o v = some l → v < objs.nv o

end Go.Av
namespace Go.Av
open Go

def upd {α : Type} (f : Nat → α) (k : Nat) (v : α) : Nat → α := fun j => if j = k then v else f j
@[simp] theorem upd_self {α : Type} (f : Nat → α) (k : Nat) (v : α) : upd f k v k = v := by simp [upd]
theorem upd_ne {α : Type} (f : Nat → α) (k j : Nat) (v : α) (h : j ≠ k) : upd f k v j = f j := by simp [upd, h]
theorem upd_apply {α : Type} (f : Nat → α) (k j : Nat) (v : α) : upd f k v j = if j = k then v else f j := rfl

structure St where
  slots : Nat → AV
  objs : Objs
  base : Nat

def St.put (s : St) (d : Option Nat) (v : AV) : St :=
  match d with
  | some d => { s with slots := upd s.slots d v }
  | none => s

inductive Opd where
  | t (n : Nat)
  | k (x : C)
  | ka (cs : List C)
  | fn (g : Nat)
  deriving Inhabited

def St.ev (s : St) : Opd → AV
  | .t n => s.slots n
  | .k x => .s (.c x)
  | .ka cs => .s (.agg cs)
  | .fn g => .s (.c (.p (.clo g [])))

inductive AOp where
  | mv (x : Opd)
  | pick (c a b : Opd)
  | alloc (id : Nat) (zero : List C)
  | boxP (x : Opd)
  | boxO (id : Nat) (x : Opd)
  | build (zero : List C) (parts : List (Nat × Nat × Opd))
  | slP (n sz : Nat) (zero : List C) (parts : List (Nat × Nat × Opd))
  | slO (id n sz : Nat) (zero : List C) (parts : List (Nat × Nat × Opd))
  | nck (x : Opd)
  | load (agg : Bool) (sz : Nat) (a : Opd)
  | store (sz : Nat) (a x : Opd)
  | bin (op : BinOp) (x y : Opd)
  | binB (op : BinOp) (x y : Opd)
  | un (op : UnOp) (x : Opd)
  | conv (k : IntKind) (x : Opd)
  | mk (id sz bytes : Nat) (zero : List C) (len cap : Opd)
  | slice (sz : Nat) (x : Opd) (lo hi mx : Option Opd)
  | fa (off sz : Nat) (x : Opd)
  | fld (agg : Bool) (off sz : Nat) (x : Opd)
  | ia (sz : Nat) (x i : Opd)
  | iaA (n sz : Nat) (x i : Opd)
  | ext (i : Nat) (x : Opd)
  | len (x : Opd)
  | app (id sz bytes : Nat) (x y : Opd)
  | call (g : Nat) (args : List Opd)
  | callP (g : Nat) (args : List Opd)
  | callR (base : Nat) (g : Nat) (args : List Opd)
  | callV (f : Opd) (args : List Opd)
  | mkf (g : Nat) (caps : List Opd)
  | bad
  | minI (x y : Opd)
  | maxI (x y : Opd)
  | loadS (n : Nat) (x : Opd)
  | mkf1 (g : Nat) (x : Opd)
  | sidx (x i : Opd)
  | toStr (x : Opd)
  | isNil (neg : Bool) (x : Opd)
  | mkM (id sz : Nat)
  | lkp (str : Option IntKind) (comma agg : Bool) (zero : List C) (x k : Opd)
  | updM (str : Option IntKind) (x k y : Opd)
  | lenM (x : Opd)
  | mkfO (g : Nat) (caps : List Opd)
  deriving Inhabited

structure AO where
  dst : Option Nat
  op : AOp
  guard : Option (Nat × Bool)
  deriving Inhabited

inductive ACode where
  | skip
  | region (ops : List AO) (draw : Bool)
  | seq (a b : ACode)
  | cond (c : Opd) (thn els : ACode)
  | block (id : Nat) (body : ACode)
  | loop (body : ACode)
  | exit (id : Nat)
  | ret
  deriving Inhabited

abbrev vp (x : PC) : AV := .s (.c (.p x))
abbrev vi (k : IntKind) (n : Int) : AV := .s (.c (.p (.int k n)))
abbrev vb (b : Bool) : AV := .s (.c (.p (.bool b)))
abbrev vs (xs : List (List PC)) : AV := .s (.c (.p (.sl xs)))

def bits2 (op : BinOp) (k : IntKind) (x y : Int) : Option Int :=
  let a := BitVec.ofInt k.bits x
  let b := BitVec.ofInt k.bits y
  match op with
  | .and => some (k.wrap (a &&& b).toNat)
  | .or => some (k.wrap (a ||| b).toNat)
  | .xor => some (k.wrap (a ^^^ b).toNat)
  | .andNot => some (k.wrap (a &&& ~~~b).toNat)
  | _ => none

def binI (op : BinOp) (k : IntKind) (a b : Int) : Option PC :=
  match op with
  | .add => some (.int k (k.wrap (a + b)))
  | .sub => some (.int k (k.wrap (a - b)))
  | .mul => some (.int k (k.wrap (a * b)))
  | .quo => if b = 0 then none else some (.int k (k.wrap (a.tdiv b)))
  | .rem => if b = 0 then none else some (.int k (a.tmod b))
  | .and | .or | .xor | .andNot => (bits2 op k a b).map (PC.int k)
  | .eql => some (.bool (a == b))
  | .neq => some (.bool (a != b))
  | .lss => some (.bool (decide (a < b)))
  | .leq => some (.bool (decide (a ≤ b)))
  | .gtr => some (.bool (decide (a > b)))
  | .geq => some (.bool (decide (a ≥ b)))
  | _ => none

def shiftI (op : BinOp) (k : IntKind) (a b : Int) : Option PC :=
  if b < 0 then none else
  match op with
  | .shl => some (.int k (k.wrap (a * 2 ^ (min b.toNat k.bits))))
  | .shr => some (.int k (a.fdiv (2 ^ (min b.toNat k.bits))))
  | _ => none

def BinOp.isShift : BinOp → Bool
  | .shl | .shr => true
  | _ => false

def abin (op : BinOp) : PC → PC → Option PC
  | .int k a, .int k' b => if BinOp.isShift op then shiftI op k a b else if k = k' then binI op k a b else none
  | _, _ => none

def abinB (op : BinOp) : PC → PC → Option PC
  | .bool a, .bool b => match op with
    | .eql => some (.bool (a == b))
    | .neq => some (.bool (!(a == b)))
    | _ => none
  | _, _ => none

def aun (op : UnOp) : PC → Option PC
  | .bool b => match op with
    | .not => some (.bool !b)
    | _ => none
  | .int k n => match op with
    | .neg => some (.int k (k.wrap (0 - n)))
    | _ => none
  | _ => none

def setAt {α : Type} (l : List α) (off : Nat) (cs : List α) : List α := l.take off ++ cs ++ l.drop (off + cs.length)

def fillA : List C → List (Nat × List C) → Option (List C)
  | cells, [] => some cells
  | cells, (off, cs) :: r => if off + cs.length ≤ cells.length then fillA (setAt cells off cs) r else none

def AV.pc? : AV → Option PC
  | .s (.c (.p y)) => some y
  | _ => none

def AV.cells? : AV → Option (List C)
  | .s x => some x.cells
  | _ => none

def AV.int? : AV → Option Int
  | .s (.c (.p (.int _ n))) => some n
  | _ => none

def C.pure? : C → Option PC
  | .p x => some x
  | .e0 => some (.sl [])
  | _ => none

def allSome {α : Type} : List (Option α) → Option (List α)
  | [] => some []
  | none :: _ => none
  | some x :: r => match allSome r with
    | some l => some (x :: l)
    | none => none

/-- Cells as pure cells, read through the objects. -/
def purC (objs : Objs) : Nat → C → Option PC
  | _, .p x => some x
  | _, .e0 => some (.sl [])
  | n + 1, .rs o v sz st len => match objs.m o v with
    | some ob => if ob.sz = sz ∧ st + len ≤ ob.elems.length then
        (allSome (((ob.elems.drop st).take len).map fun x => allSome (x.map (purC objs n)))).map PC.sl else none
    | none => none
  | n + 1, .ptr o v i off => match objs.m o v with
    | some ob => match ob.elems[i]? with
        | some x => if off ≤ x.length then (allSome ((x.drop off).map (purC objs n))).map PC.pref else none
        | none => none
    | none => none
  | n + 1, .clo1 g o v => match objs.m o v with
    | some ob => match ob.elems[0]? with
        | some x => if 0 ≤ x.length then (allSome ((x.drop 0).map (purC objs n))).map fun l => PC.clo g [.pref l] else none
        | none => none
    | none => none
  | _, _ => none

def purDepth : Nat := 4

def purSV (objs : Objs) : SV → Option PSV
  | .c x => (purC objs purDepth x).map PSV.c
  | .agg cs => (allSome (cs.map (purC objs purDepth))).map PSV.agg

def SV.pure? : SV → Option PSV
  | .c x => x.pure?.map PSV.c
  | .agg cs => (allSome (cs.map C.pure?)).map PSV.agg

def purAV (objs : Objs) : AV → Option PAV
  | .s x => (purSV objs x).map PAV.s
  | .tup l => (allSome (l.map (purSV objs))).map PAV.tup
  | .u => none

/-- The objects that a cell leads to. -/
def rchC (objs : Objs) : Nat → C → List (Nat × Nat)
  | n + 1, .rs o v _ _ _ => (o, v) :: match objs.m o v with
    | some ob => ob.elems.flatMap fun x => x.flatMap (rchC objs n)
    | none => []
  | n + 1, .ptr o v _ _ => (o, v) :: match objs.m o v with
    | some ob => ob.elems.flatMap fun x => x.flatMap (rchC objs n)
    | none => []
  | n + 1, .clo1 _ o v => (o, v) :: match objs.m o v with
    | some ob => ob.elems.flatMap fun x => x.flatMap (rchC objs n)
    | none => []
  | _, _ => []

def rchSV (objs : Objs) (x : SV) : List (Nat × Nat) := x.cells.flatMap (rchC objs purDepth)

def rchAV (objs : Objs) : AV → List (Nat × Nat)
  | .s x => rchSV objs x
  | .tup l => l.flatMap (rchSV objs)
  | .u => []

/-- Objects, frozen. -/
def fzIds (ids : List (Nat × Nat)) (objs : Objs) : Objs := ⟨fun o v =>
  match objs.m o v with
  | some ob => some { ob with frozen := ob.frozen || ids.contains (o, v) }
  | none => none, objs.nv⟩

@[simp] theorem fzIds_nil (objs : Objs) : fzIds [] objs = objs := by
  cases objs with
  | mk m nv =>
    unfold fzIds
    congr 1
    funext o v
    cases h : m o v <;> simp [h]

def newObj (objs : Objs) (id sz : Nat) (elems : List (List C)) : Objs × Nat :=
  (objs.new id { sz := sz, elems := elems, frozen := false }, objs.nv id)

def sliceElems (objs : Objs) (sz : Nat) : AV → Option (List (List C))
  | .s (.c (.p (.sl xs))) => if xs.all (fun x => x.length == sz) then some (xs.map (List.map C.p)) else none
  | .s (.c .e0) => some []
  | .s (.c (.rs o v sz' st len)) => match objs.m o v with
    | some ob => if sz' = sz ∧ ob.sz = sz ∧ st + len ≤ ob.elems.length then some ((ob.elems.drop st).take len) else none
    | none => none
  | _ => none

def partsOf (s : St) : List (Nat × Nat × Opd) → Option (List (Nat × List C))
  | [] => some []
  | (i, sz, x) :: r => match (s.ev x).cells?, partsOf s r with
    | some cs, some l => if cs.length = sz then some ((i, cs) :: l) else none
    | _, _ => none

def chunk {α : Type} (sz : Nat) : Nat → List α → List (List α)
  | 0, _ => []
  | n + 1, l => l.take sz :: chunk sz n (l.drop sz)

def rowOf (s : St) (n sz : Nat) (zero : List C) (parts : List (Nat × Nat × Opd)) : Option (List (List C)) :=
  match partsOf s parts with
  | some l => match fillA zero l with
    | some cells => some (chunk sz n cells)
    | none => none
  | none => none

def bound (s : St) (d : Int) : Option Opd → Option Int
  | none => some d
  | some x => (s.ev x).int?

def asl (sz : Nat) (x : AV) (s : St) (lo hi mx : Option Opd) : Option AV :=
  match mx with
  | none => match x with
    | .s (.c (.p (.sl xs))) => match bound s 0 lo, bound s xs.length hi with
      | some l, some h => if 0 ≤ l ∧ l ≤ h ∧ h ≤ xs.length ∧ (xs.all fun x => x.length == sz) then some (vs ((xs.take h.toNat).drop l.toNat)) else none
      | _, _ => none
    | .s (.c (.rs o v sz' st len)) => match bound s 0 lo, bound s len hi with
      | some l, some h => if sz' = sz ∧ 0 ≤ l ∧ l ≤ h ∧ h ≤ len then some (.s (.c (.rs o v sz (st + l.toNat) (h.toNat - l.toNat)))) else none
      | _, _ => none
    | .s (.c .e0) => match bound s 0 lo, bound s 0 hi with
      | some l, some h => if l = 0 ∧ h = 0 then some (.s (.c .e0)) else none
      | _, _ => none
    | _ => none
  | some m => match bound s 0 lo, bound s 0 hi, (s.ev m).int? with
    | some l, some h, some m => if hi.isSome ∧ l = 0 ∧ h = 0 ∧ m = 0 then match x with
        | .s (.c (.p (.sl _))) | .s (.c .e0) | .s (.c (.rs ..)) => some (.s (.c .e0))
        | _ => none
      else none
    | _, _, _ => none

/-- Keys of one kind, compared. -/
def keyEq : PC → PC → Option Bool
  | .int k a, .int k' b => if k = k' then some (a == b) else none
  | .str a, .str b => some (a == b)
  | _, _ => none

def keyIs : Option IntKind → PC → Bool
  | some k, .int k' _ => k' == k
  | none, .str _ => true
  | _, _ => false

def findRow (str : Option IntKind) (k : PC) : List (List C) → Nat → Option (Option (Nat × List C))
  | [], _ => some none
  | (.p k' :: vs) :: r, i => if keyIs str k' = true then match keyEq k k' with
      | some true => some (some (i, vs))
      | some false => findRow str k r (i + 1)
      | none => none
    else none
  | _, _ => none

def byteOf : List C → Option Int
  | [.p (.int .u8 n)] => some n
  | _ => none

def commaV (comma : Bool) (x : SV) (ok : Bool) : AV :=
  if comma then .tup [x, .c (.p (.bool ok))] else .s x

def AV.sv1? : AV → Option SV
  | .s x => some x
  | _ => none
def PSV.cell? : PSV → Option PC
  | .c x => some x
  | _ => none

/-- A pointer leads to an object of rows of n cells. -/
def szOK (objs : Objs) (n : Nat) (x : AV) : Bool := match x with
  | .s (.c (.ptr o ver _ _)) => (match objs.m o ver with
    | some ob => ob.sz == n
    | none => false)
  | _ => false

/-- One operation that calls nothing: the objects behind it, and its value. -/
def aop (o : AOp) (s : St) : Option (Objs × AV) :=
  let v (x : Option AV) : Option (Objs × AV) := x.map fun x => (s.objs, x)
  match o with
  | .mv x => v (some (s.ev x))
  | .pick c a b => match s.ev c with
    | .s (.c (.p (.bool t))) => v (some (if t then s.ev a else s.ev b))
    | _ => none
  | .alloc id zero => let r := newObj s.objs (s.base + id) zero.length [zero]; some (r.1, .s (.c (.ptr (s.base + id) r.2 0 0)))
  | .boxO id x => match (s.ev x).cells? with
    | some cs => let r := newObj s.objs (s.base + id) cs.length [cs]; some (r.1, .s (.c (.ptr (s.base + id) r.2 0 0)))
    | none => none
  | .boxP x => match (s.ev x).cells? with
    | some cs => v ((allSome (cs.map C.pure?)).map fun l => vp (.pref l))
    | none => none
  | .build zero parts => match partsOf s parts with
    | some l => v ((fillA zero l).map fun cs => .s (.agg cs))
    | none => none
  | .slP n sz zero parts => match rowOf s n sz zero parts with
    | some xs => v ((allSome (xs.map fun x => allSome (x.map C.pure?))).map vs)
    | none => none
  | .slO id n sz zero parts => match rowOf s n sz zero parts with
    | some xs => let r := newObj s.objs (s.base + id) sz xs; some (r.1, .s (.c (.rs (s.base + id) r.2 sz 0 xs.length)))
    | none => none
  | .load agg sz a => match s.ev a with
    | .s (.c (.p (.pref cs))) => if cs.length = sz then
        (if agg then v (some (.s (.agg (cs.map C.p)))) else v ((cs[0]?).map fun c => vp c)) else none
    | .s (.c (.ptr o ver i off)) => match s.objs.m o ver with
      | some ob => match ob.elems[i]? with
        | some x => if off + sz ≤ x.length then
            (if agg then v (some (.s (.agg ((x.drop off).take sz)))) else v ((x[off]?).map fun c => .s (.c c))) else none
        | none => none
      | none => none
    | _ => none
  | .store sz a x => match s.ev a, (s.ev x).cells? with
    | .s (.c (.ptr o ver i off)), some cs => match s.objs.m o ver with
      | some ob => match ob.elems[i]? with
        | some y => if ob.frozen = false ∧ cs.length = sz ∧ off + sz ≤ y.length then
            some (s.objs.set o ver (some { ob with elems := ob.elems.set i (setAt y off cs) }), .tup []) else none
        | none => none
      | none => none
    | _, _ => none
  | .bin op x y => match s.ev x, s.ev y with
    | .s (.c (.p a)), .s (.c (.p b)) => v ((abin op a b).map vp)
    | _, _ => none
  | .binB op x y => match s.ev x, s.ev y with
    | .s (.c (.p a)), .s (.c (.p b)) => v ((abinB op a b).map vp)
    | _, _ => none
  | .un op x => match s.ev x with
    | .s (.c (.p a)) => v ((aun op a).map vp)
    | _ => none
  | .conv k x => match s.ev x with
    | .s (.c (.p (.int _ n))) => v (some (vi k (k.wrap n)))
    | _ => none
  | .mk id sz bytes zero len cap => match (s.ev len).int?, (s.ev cap).int? with
    | some l, some c => if 0 ≤ l ∧ l ≤ c ∧ c ≤ 9223372036854775807 ∧ bytes * c ≤ 281474976710656 ∧ zero.length = sz then
        let r := newObj s.objs (s.base + id) sz (List.replicate l.toNat zero); some (r.1, .s (.c (.rs (s.base + id) r.2 sz 0 l.toNat))) else none
    | _, _ => none
  | .slice sz x lo hi mx => v (asl sz (s.ev x) s lo hi mx)
  | .fa off sz x => match s.ev x with
    | .s (.c (.p (.pref cs))) => if off + sz ≤ cs.length then v (some (vp (.pref ((cs.drop off).take sz)))) else none
    | .s (.c (.ptr o ver i f)) => v (some (.s (.c (.ptr o ver i (f + off)))))
    | _ => none
  | .fld agg off sz x => match s.ev x with
    | .s (.agg cs) => if off + sz ≤ cs.length then
        (if agg then v (some (.s (.agg ((cs.drop off).take sz)))) else v ((cs[off]?).map fun c => .s (.c c))) else none
    | _ => none
  | .ia sz x i => match s.ev x, (s.ev i).int? with
    | .s (.c (.p (.sl xs))), some n => if 0 ≤ n ∧ n < xs.length then
        v ((xs[n.toNat]?).bind fun y => if y.length = sz then some (vp (.pref y)) else none) else none
    | .s (.c (.rs o ver sz' st len)), some n => if sz' = sz ∧ 0 ≤ n ∧ n < len then v (some (.s (.c (.ptr o ver (st + n.toNat) 0)))) else none
    | _, _ => none
  | .iaA n sz x i => match s.ev x, (s.ev i).int? with
    | .s (.c (.p (.pref cs))), some k => if 0 ≤ k ∧ k < n ∧ cs.length = n * sz then v (some (vp (.pref ((cs.drop (k.toNat * sz)).take sz)))) else none
    | .s (.c (.ptr o ver j off)), some k => if 0 ≤ k ∧ k < n then v (some (.s (.c (.ptr o ver j (off + k.toNat * sz))))) else none
    | _, _ => none
  | .ext i x => match s.ev x with
    | .tup l => v ((l[i]?).map AV.s)
    | _ => none
  | .len x => match s.ev x with
    | .s (.c (.p (.sl xs))) => v (some (vi .i64 xs.length))
    | .s (.c .e0) => v (some (vi .i64 0))
    | .s (.c (.rs _ _ _ _ len)) => v (some (vi .i64 len))
    | _ => none
  | .app id sz bytes x y => match sliceElems s.objs sz (s.ev y) with
    | none => none
    | some ys => match s.ev x with
      | .s (.c .e0) => if ys.length = 0 then v (some (.s (.c .e0)))
          else if ys.length * bytes ≤ 140737488355328 ∧ ys.length ≤ 140737488355328 then
            let r := newObj s.objs (s.base + id) sz ys; some (r.1, .s (.c (.rs (s.base + id) r.2 sz 0 ys.length))) else none
      | .s (.c (.rs o ver sz' st len)) => match s.objs.m o ver with
        | some ob => if ob.frozen = false ∧ sz' = sz ∧ ob.sz = sz ∧ st + len = ob.elems.length ∧ (len + ys.length) * bytes ≤ 140737488355328 ∧ len + ys.length ≤ 140737488355328 then
            some ((s.objs.set o ver none).new o { ob with elems := ob.elems.drop st ++ ys }, .s (.c (.rs o (s.objs.nv o) sz 0 (len + ys.length)))) else none
        | none => none
      | _ => none
  | .nck x => match s.ev x with
    | .s (.c (.p (.pref cs))) => v (some (vp (.pref cs)))
    | .s (.c (.ptr o ver i f)) => v (some (.s (.c (.ptr o ver i f))))
    | .s (.c (.p (.clo g l))) => v (some (vp (.clo g l)))
    | _ => none
  | .mkf g caps => match allSome (caps.map fun x => (s.ev x).pc?) with
    | some l => v (some (vp (.clo g l)))
    | none => none
  | .bad => none
  | .minI x y => match s.ev x, s.ev y with
    | .s (.c (.p (.int k a))), .s (.c (.p (.int k' b))) => if k = k' then v (some (vi k (if b < a then b else a))) else none
    | _, _ => none
  | .loadS n a => if szOK s.objs n (s.ev a) = true then (match s.ev a with
    | .s (.c (.p (.pref cs))) => if cs.length = 1 then
        (if false then v (some (.s (.agg (cs.map C.p)))) else v ((cs[0]?).map fun c => vp c)) else none
    | .s (.c (.ptr o ver i off)) => match s.objs.m o ver with
      | some ob => match ob.elems[i]? with
        | some x => if off + 1 ≤ x.length then
            (if false then v (some (.s (.agg ((x.drop off).take 1)))) else v ((x[off]?).map fun c => .s (.c c))) else none
        | none => none
      | none => none
    | _ => none) else none
  | .mkf1 g x => match s.ev x with
    | .s (.c (.ptr o ver 0 0)) => v (some (.s (.c (.clo1 g o ver))))
    | _ => none
  | .maxI x y => match s.ev x, s.ev y with
    | .s (.c (.p (.int k a))), .s (.c (.p (.int k' b))) => if k = k' then v (some (vi k (if a < b then b else a))) else none
    | _, _ => none
  | .sidx x i => match s.ev x, (s.ev i).int? with
    | .s (.c (.p (.str b))), some n => if 0 ≤ n then v ((b[n.toNat]?).map fun c => vi .u8 c.toNat) else none
    | _, _ => none
  | .toStr x => match sliceElems s.objs 1 (s.ev x) with
    | some ys => v ((allSome (ys.map byteOf)).map fun ns => vp (.str (strOfNums ns)))
    | none => none
  | .isNil neg x => match s.ev x with
    | .s (.c (.rs _ _ _ _ len)) => if 0 < len then v (some (vb neg)) else none
    | .s (.c (.p (.sl xs))) => if 0 < xs.length then v (some (vb neg)) else none
    | _ => none
  | .mkM id sz => let r := newObj s.objs (s.base + id) sz []; some (r.1, .s (.c (.mp (s.base + id) r.2)))
  | .lkp str comma agg zero x k => match s.ev x, s.ev k with
    | .s (.c (.mp o ver)), .s (.c (.p pk)) => match s.objs.m o ver with
      | some ob => if keyIs str pk = true then match findRow str pk ob.elems 0 with
          | some (some (_, vs)) => v ((mapVal ob.sz vs).map fun x => commaV comma x true)
          | some none => v ((mapVal (if agg then zero.length + 1 else 0) zero).map fun x => commaV comma x false)
          | none => none
        else none
      | none => none
    | _, _ => none
  | .updM str x k y => match s.ev x, s.ev k, s.ev y with
    | .s (.c (.mp o ver)), .s (.c (.p pk)), .s sv => match s.objs.m o ver with
      | some ob => if keyIs str pk = true then match mapVal ob.sz sv.cells with
          | none => none
          | some sv' => match sv, sv' with
            | .c _, .c _ | .agg _, .agg _ => match findRow str pk ob.elems 0 with
              | some (some (i, _)) => some (s.objs.set o ver (some { ob with elems := ob.elems.set i (.p pk :: sv.cells) }), .tup [])
              | some none => some (s.objs.set o ver (some { ob with elems := ob.elems ++ [.p pk :: sv.cells] }), .tup [])
              | none => none
            | _, _ => none
        else none
      | none => none
    | _, _, _ => none
  | .lenM x => match s.ev x with
    | .s (.c (.mp o ver)) => match s.objs.m o ver with
      | some ob => v (some (vi .i64 ob.elems.length))
      | none => none
    | _ => none
  | .mkfO g caps => match allSome (caps.map fun x => (s.ev x).sv1?) with
    | some sv => match allSome (sv.map (purSV s.objs)) with
      | some pv => match allSome (pv.map PSV.cell?) with
        | some l => some (fzIds (sv.flatMap (rchSV s.objs)) s.objs, vp (.clo g l))
        | none => none
      | none => none
    | none => none
  | .call .. | .callP .. | .callR .. | .callV .. => none

end Go.Av
namespace Go.Av
open Go

inductive Ex where
  | normal
  | exit (id : Nat)
  | ret
  deriving DecidableEq

abbrev Calls0 := Nat → Nat → Objs → List SV → Objs → AV → Prop

def PureC (Γ : Calls0) (g : Nat) (args : List PSV) (res : PAV) : Prop :=
  ∃ objs' r, Γ g 0 Objs.empty (args.map PSV.up) objs' r ∧ purAV objs' r = some res

def AV.sv? : AV → Option SV
  | .s x => some x
  | _ => none

def argsOf (s : St) (args : List Opd) : Option (List SV) := allSome (args.map fun x => (s.ev x).sv?)

def guardV (s : St) : Option (Nat × Bool) → Option Bool
  | none => some true
  | some (t, want) => match s.slots t with
    | .s (.c (.p (.bool b))) => some (b == want)
    | .tup [] => some false
    | _ => none

def PC.scalar : PC → Bool
  | .int .. | .bool _ | .str _ => true
  | _ => false
def PSV.scalar : PSV → Bool
  | .c x => x.scalar
  | .agg cs => cs.all PC.scalar
def PAV.scalar : PAV → Bool
  | .s x => x.scalar
  | .tup l => l.all PSV.scalar

/-- The objects behind a pure call. -/
def behind (s : St) (args : List SV) (res : PAV) : Objs :=
  if res.scalar then s.objs else fzIds (args.flatMap (rchSV s.objs)) s.objs

/-- What a call by a function value calls. -/
def callee (s : St) (f : Opd) (args : List SV) : Option (Nat × List SV) :=
  match s.ev f with
  | .s (.c (.p (.clo g caps))) => some (g, args ++ caps.map fun c => SV.c (.p c))
  | _ => none

inductive BO (Γ : Calls0) : AO → St → St → Prop
  | skip {a s} (h : guardV s a.guard = some false) : BO Γ a s (s.put a.dst (.tup []))
  | op {a s objs' v} (h : guardV s a.guard = some true) (ho : aop a.op s = some (objs', v)) : BO Γ a s (St.put { s with objs := objs' } a.dst v)
  | call {a s g args sv pv res} (h : guardV s a.guard = some true) (ho : a.op = .call g args) (ha : argsOf s args = some sv)
      (hp : allSome (sv.map (purSV s.objs)) = some pv) (hc : PureC Γ g pv res) : BO Γ a s (St.put { s with objs := behind s sv res } a.dst res.up)
  | callP {a s g args sv pv res} (h : guardV s a.guard = some true) (ho : a.op = .callP g args) (ha : argsOf s args = some sv)
      (hp : allSome (sv.map SV.pure?) = some pv) (hc : PureC Γ g pv res) : BO Γ a s (s.put a.dst res.up)
  | callV {a s f args sv g sv' pv res} (h : guardV s a.guard = some true) (ho : a.op = .callV f args) (ha : argsOf s args = some sv)
      (hf : callee s f sv = some (g, sv'))
      (hp : allSome (sv'.map (purSV s.objs)) = some pv) (hc : PureC Γ g pv res) : BO Γ a s (St.put { s with objs := behind s sv' res } a.dst res.up)
  | callR {a s b g args sv objs' r} (h : guardV s a.guard = some true) (ho : a.op = .callR b g args) (ha : argsOf s args = some sv)
      (hc : Γ g (s.base + b) s.objs sv objs' r) : BO Γ a s (St.put { s with objs := objs' } a.dst r)

inductive BOs (Γ : Calls0) : List AO → St → St → Prop
  | nil {s} : BOs Γ [] s s
  | cons {a l s s1 s2} (h : BO Γ a s s1) (t : BOs Γ l s1 s2) : BOs Γ (a :: l) s s2

inductive BS (Γ : Calls0) : ACode → St → Ex → St → Prop
  | skip {s} : BS Γ .skip s .normal s
  | ret {s} : BS Γ .ret s .ret s
  | exit {id s} : BS Γ (.exit id) s (.exit id) s
  | region {ops d s s'} (h : BOs Γ ops s s') : BS Γ (.region ops d) s .normal s'
  | seq {a b s s1 e s2} (h : BS Γ a s .normal s1) (k : BS Γ b s1 e s2) : BS Γ (.seq a b) s e s2
  | seqX {a b s e s1} (h : BS Γ a s e s1) (he : e ≠ .normal) : BS Γ (.seq a b) s e s1
  | condT {c a b s e s1} (hc : s.ev c = vb true) (h : BS Γ a s e s1) : BS Γ (.cond c a b) s e s1
  | condF {c a b s e s1} (hc : s.ev c = vb false) (h : BS Γ b s e s1) : BS Γ (.cond c a b) s e s1
  | blockN {id c s s1} (h : BS Γ c s .normal s1) : BS Γ (.block id c) s .normal s1
  | blockX {id c s s1} (h : BS Γ c s (.exit id) s1) : BS Γ (.block id c) s .normal s1
  | blockO {id c s e s1} (h : BS Γ c s e s1) (he : e ≠ .normal) (hx : e ≠ .exit id) : BS Γ (.block id c) s e s1
  | loopN {c s s1 e s2} (h : BS Γ c s .normal s1) (k : BS Γ (.loop c) s1 e s2) : BS Γ (.loop c) s e s2
  | loopX {c s e s1} (h : BS Γ c s e s1) (he : e ≠ .normal) : BS Γ (.loop c) s e s1

inductive ARes where
  | tmp (t : Nat)
  | cell (agg : Bool) (sz : Nat) (t : Nat)

structure AFun where
  nargs : Nat
  ntmps : Nat
  results : List ARes
  body : ACode

def resOf (s : St) : ARes → Option SV
  | .tmp t => (s.slots t).sv?
  | .cell agg sz t => match aop (.load agg sz (.t t)) s with
    | some (_, v) => v.sv?
    | none => none

def resultsA (rs : List ARes) (s : St) : Option AV :=
  match allSome (rs.map (resOf s)) with
  | some [x] => some (.s x)
  | some l => some (.tup l)
  | none => none

def initSlots (args : List SV) : Nat → AV := fun t => match args[t]? with
  | some x => .s x
  | none => .u

def CallN (env : Nat → Option AFun) (ext : Calls0) : Nat → Calls0
  | 0 => ext
  | n + 1 => fun g base objs args objs' r => ext g base objs args objs' r ∨
      ∃ f, env g = some f ∧ args.length = f.nargs ∧ ∃ e s', BS (CallN env ext n) f.body { slots := initSlots args, objs, base } e s' ∧ (e = .normal ∨ e = .ret) ∧
        objs' = s'.objs ∧ resultsA f.results s' = some r

/-- A call, at whatever depth. -/
def Call (env : Nat → Option AFun) (ext : Calls0) : Calls0 := fun g base objs args objs' r => ∃ n, CallN env ext n g base objs args objs' r

abbrev PCall (env : Nat → Option AFun) (ext : Calls0) : Nat → List PSV → PAV → Prop := PureC (Call env ext)

def Calls0.le (Γ Γ' : Calls0) : Prop := ∀ g base objs args objs' r, Γ g base objs args objs' r → Γ' g base objs args objs' r

theorem PureC.mono {Γ Γ' : Calls0} (h : Γ.le Γ') {g args res} (k : PureC Γ g args res) : PureC Γ' g args res := by
  obtain ⟨o, r, a, b⟩ := k; exact ⟨o, r, h _ _ _ _ _ _ a, b⟩

theorem BO.mono {Γ Γ' : Calls0} (h : Γ.le Γ') {a s s'} (k : BO Γ a s s') : BO Γ' a s s' := by
  cases k with
  | skip hg => exact .skip hg
  | op hg ho => exact .op hg ho
  | call hg ho ha hp hc => exact .call hg ho ha hp (hc.mono h)
  | callP hg ho ha hp hc => exact .callP hg ho ha hp (hc.mono h)
  | callV hg ho ha hf hp hc => exact .callV hg ho ha hf hp (hc.mono h)
  | callR hg ho ha hc => exact .callR hg ho ha (h _ _ _ _ _ _ hc)

theorem BOs.mono {Γ Γ' : Calls0} (h : Γ.le Γ') {l s s'} (k : BOs Γ l s s') : BOs Γ' l s s' := by
  induction k with
  | nil => exact .nil
  | cons a _ ih => exact .cons (a.mono h) ih

theorem BS.mono {Γ Γ' : Calls0} (h : Γ.le Γ') {c s e s'} (k : BS Γ c s e s') : BS Γ' c s e s' := by
  induction k with
  | skip => exact .skip
  | ret => exact .ret
  | exit => exact .exit
  | region k => exact .region (k.mono h)
  | seq _ _ a b => exact .seq a b
  | seqX _ he a => exact .seqX a he
  | condT hc _ a => exact .condT hc a
  | condF hc _ a => exact .condF hc a
  | blockN _ a => exact .blockN a
  | blockX _ a => exact .blockX a
  | blockO _ he hx a => exact .blockO a he hx
  | loopN _ _ a b => exact .loopN a b
  | loopX _ he a => exact .loopX a he

theorem CallN.succ (env : Nat → Option AFun) (ext : Calls0) : ∀ n, (CallN env ext n).le (CallN env ext (n + 1))
  | 0 => fun _ _ _ _ _ _ h => Or.inl h
  | n + 1 => fun g base objs args objs' r h => by
    rcases h with h | ⟨f, hf, hl, e, s', hb, he, ho, hr⟩
    · exact Or.inl h
    · exact Or.inr ⟨f, hf, hl, e, s', hb.mono (CallN.succ env ext n), he, ho, hr⟩

theorem CallN.le (env : Nat → Option AFun) (ext : Calls0) {n m : Nat} (h : n ≤ m) : (CallN env ext n).le (CallN env ext m) := by
  induction h with
  | refl => exact fun _ _ _ _ _ _ h => h
  | step _ ih => exact fun _ _ _ _ _ _ h => CallN.succ env ext _ _ _ _ _ _ _ (ih _ _ _ _ _ _ h)

theorem PureC.bound {env : Nat → Option AFun} {ext : Calls0} {g args res} (k : PureC (Call env ext) g args res) : ∃ n, PureC (CallN env ext n) g args res := by
  obtain ⟨o, r, ⟨n, a⟩, b⟩ := k; exact ⟨n, o, r, a, b⟩

theorem BO.bound {env : Nat → Option AFun} {ext : Calls0} {a s s'} (k : BO (Call env ext) a s s') : ∃ n, BO (CallN env ext n) a s s' := by
  cases k with
  | skip hg => exact ⟨0, .skip hg⟩
  | op hg ho => exact ⟨0, .op hg ho⟩
  | call hg ho ha hp hc => obtain ⟨n, hc⟩ := hc.bound; exact ⟨n, .call hg ho ha hp hc⟩
  | callP hg ho ha hp hc => obtain ⟨n, hc⟩ := hc.bound; exact ⟨n, .callP hg ho ha hp hc⟩
  | callV hg ho ha hf hp hc => obtain ⟨n, hc⟩ := hc.bound; exact ⟨n, .callV hg ho ha hf hp hc⟩
  | callR hg ho ha hc => obtain ⟨n, hc⟩ := hc; exact ⟨n, .callR hg ho ha hc⟩

theorem BOs.bound {env : Nat → Option AFun} {ext : Calls0} {l s s'} (k : BOs (Call env ext) l s s') : ∃ n, BOs (CallN env ext n) l s s' := by
  induction k with
  | nil => exact ⟨0, .nil⟩
  | cons a _ ih =>
    obtain ⟨n, a⟩ := a.bound
    obtain ⟨m, t⟩ := ih
    exact ⟨n + m, .cons (a.mono (CallN.le env ext (Nat.le_add_right n m))) (t.mono (CallN.le env ext (Nat.le_add_left m n)))⟩

theorem BS.bound {env : Nat → Option AFun} {ext : Calls0} {c s e s'} (k : BS (Call env ext) c s e s') : ∃ n, BS (CallN env ext n) c s e s' := by
  induction k with
  | skip => exact ⟨0, .skip⟩
  | ret => exact ⟨0, .ret⟩
  | exit => exact ⟨0, .exit⟩
  | region k => obtain ⟨n, k⟩ := k.bound; exact ⟨n, .region k⟩
  | seq _ _ a b =>
    obtain ⟨n, a⟩ := a
    obtain ⟨m, b⟩ := b
    exact ⟨n + m, .seq (a.mono (CallN.le env ext (Nat.le_add_right n m))) (b.mono (CallN.le env ext (Nat.le_add_left m n)))⟩
  | seqX _ he a => obtain ⟨n, a⟩ := a; exact ⟨n, .seqX a he⟩
  | condT hc _ a => obtain ⟨n, a⟩ := a; exact ⟨n, .condT hc a⟩
  | condF hc _ a => obtain ⟨n, a⟩ := a; exact ⟨n, .condF hc a⟩
  | blockN _ a => obtain ⟨n, a⟩ := a; exact ⟨n, .blockN a⟩
  | blockX _ a => obtain ⟨n, a⟩ := a; exact ⟨n, .blockX a⟩
  | blockO _ he hx a => obtain ⟨n, a⟩ := a; exact ⟨n, .blockO a he hx⟩
  | loopN _ _ a b =>
    obtain ⟨n, a⟩ := a
    obtain ⟨m, b⟩ := b
    exact ⟨n + m, .loopN (a.mono (CallN.le env ext (Nat.le_add_right n m))) (b.mono (CallN.le env ext (Nat.le_add_left m n)))⟩
  | loopX _ he a => obtain ⟨n, a⟩ := a; exact ⟨n, .loopX a he⟩

/-- How a function's call is shown: by a run of its body. -/
theorem Call.of_body {env : Nat → Option AFun} {ext : Calls0} {g base : Nat} {objs : Objs} {args : List SV} {f : AFun} (hf : env g = some f) (hl : args.length = f.nargs)
    {e : Ex} {s' : St} (hb : BS (Call env ext) f.body { slots := initSlots args, objs, base } e s') (he : e = .normal ∨ e = .ret) {r : AV} (hr : resultsA f.results s' = some r) :
    Call env ext g base objs args s'.objs r := by
  obtain ⟨n, hb⟩ := hb.bound
  exact ⟨n + 1, Or.inr ⟨f, hf, hl, e, s', hb, he, rfl, hr⟩⟩

theorem PCall.of_body {env : Nat → Option AFun} {ext : Calls0} {g : Nat} {args : List PSV} {f : AFun} (hf : env g = some f) (hl : args.length = f.nargs)
    {e : Ex} {s' : St} (hb : BS (Call env ext) f.body { slots := initSlots (args.map PSV.up), objs := Objs.empty, base := 0 } e s') (he : e = .normal ∨ e = .ret)
    {r : AV} (hr : resultsA f.results s' = some r) {res : PAV} (hp : purAV s'.objs r = some res) : PCall env ext g args res :=
  ⟨_, _, Call.of_body hf (by simpa using hl) hb he hr, hp⟩

/-- The same, what comes behind in one word. -/
def Wp (Γ : Calls0) (c : ACode) (Q : Ex → St → Prop) (s : St) : Prop := ∃ e s', BS Γ c s e s' ∧ Q e s'
end Go.Av
