/- The abstract machine of the Av files, first part: pure values, memory objects, and what relates them to the machine's values and memory. No condition. -/
import Derived.Calls
import Derived.Below
import Derived.Laws.Sem
import Derived.Laws.Cells
namespace Go.Av
open Go Go.RowKit

/-- A cell's value that leads to no memory that may be written. -/
inductive PC where
  | int (k : IntKind) (n : Int)
  | bool (b : Bool)
  | str (s : ByteArray)
  | sl (xs : List (List PC))
  | pref (cs : List PC)
  | clo (f : Nat) (caps : List PC)
  deriving Inhabited

/-- A cell's value. -/
inductive C where
  | p (x : PC)
  | e0
  | rs (o v sz st len : Nat)
  | ptr (o v i off : Nat)
  | nilp
  | mp (o v : Nat)
  | nilm
  deriving Inhabited

inductive PSV where
  | c (x : PC)
  | agg (cs : List PC)
  deriving Inhabited

inductive SV where
  | c (x : C)
  | agg (cs : List C)
  deriving Inhabited

inductive PAV where
  | s (x : PSV)
  | tup (l : List PSV)
  deriving Inhabited

inductive AV where
  | s (x : SV)
  | tup (l : List SV)
  | u
  deriving Inhabited

def PSV.up : PSV → SV
  | .c x => .c (.p x)
  | .agg cs => .agg (cs.map C.p)

def PAV.up : PAV → AV
  | .s x => .s x.up
  | .tup l => .tup (l.map PSV.up)

structure Obj where
  sz : Nat
  elems : List (List C)
  frozen : Bool
  deriving Inhabited

/-- The objects, by number and version; how many versions a number has had. -/
structure Objs where
  m : Nat → Nat → Option Obj
  nv : Nat → Nat

def Objs.empty : Objs := ⟨fun _ _ => none, fun _ => 0⟩
def Objs.set (objs : Objs) (o v : Nat) (ob : Option Obj) : Objs := ⟨fun o' v' => if o' = o ∧ v' = v then ob else objs.m o' v', objs.nv⟩
def Objs.new (objs : Objs) (o : Nat) (ob : Obj) : Objs :=
  ⟨fun o' v' => if o' = o ∧ v' = objs.nv o then some ob else objs.m o' v', fun o' => if o' = o then objs.nv o + 1 else objs.nv o'⟩

/-- Where an object lies: nowhere yet (a nil slice), or in a block, from a cell on; the block's cells; an element's cells. -/
inductive Loc where
  | nil
  | at_ (b base n sz : Nat)
  | map (r : Nat)

abbrev ZM := Nat → Option (Array Value)
abbrev BM := Nat → Nat → Option Loc

inductive PR (fm : Nat → Nat) (Z : ZM) : Value → PC → Prop
  | int {k n} : PR fm Z (.int k n) (.int k n)
  | bool {b} : PR fm Z (.bool b) (.bool b)
  | str {s} : PR fm Z (.string s) (.str s)
  | sl0 {a cap} : PR fm Z (.slice a 0 cap) (.sl [])
  | sl {b off cap sz : Nat} {cells : Array Value} {xs : List (List PC)} (hz : Z b = some cells) (hc : xs.length ≤ cap)
      (hw : ∀ x, x ∈ xs → x.length = sz) (hb : off + xs.length * sz ≤ cells.size)
      (h : ∀ i j x c, xs[i]? = some x → x[j]? = some c → PR fm Z (cells.getD (off + i * sz + j) undef) c) :
      PR fm Z (.slice (some ⟨b, off, none⟩) xs.length cap) (.sl xs)
  | pref {b off : Nat} {cells : Array Value} {cs : List PC} (hz : Z b = some cells) (hb : off + cs.length ≤ cells.size)
      (h : ∀ j c, cs[j]? = some c → PR fm Z (cells.getD (off + j) undef) c) : PR fm Z (.pointer (some ⟨b, off, none⟩)) (.pref cs)
  | clo {f : Nat} {caps : Array Value} {cs : List PC} (hl : caps.size = cs.length)
      (h : ∀ j c, cs[j]? = some c → PR fm Z (caps.getD j undef) c) : PR fm Z (.func (.func (fm f)) #[] caps) (.clo f cs)

inductive VR (fm : Nat → Nat) (Z : ZM) (β : BM) : Value → C → Prop
  | p {v x} (h : PR fm Z v x) : VR fm Z β v (.p x)
  | e0 {a} : VR fm Z β (.slice a 0 0) .e0
  | rsn {o v sz} (h : β o v = some .nil) : VR fm Z β (.slice none 0 0) (.rs o v sz 0 0)
  | rs {o v b base n sz st len cap : Nat} {a : Addr} (h : β o v = some (.at_ b base n sz)) (hc : len ≤ cap)
      (hb : base + (st + cap) * sz ≤ n) (ha : cap ≠ 0 → a = ⟨b, base + st * sz, none⟩) : VR fm Z β (.slice (some a) len cap) (.rs o v sz st len)
  | ptr {o v b base n sz i off : Nat} (h : β o v = some (.at_ b base n sz)) : VR fm Z β (.pointer (some ⟨b, base + i * sz + off, none⟩)) (.ptr o v i off)
  | nilp : VR fm Z β (.pointer none) .nilp
  | mp {o v r : Nat} (h : β o v = some (.map r)) : VR fm Z β (.map (some r)) (.mp o v)
  | nilm : VR fm Z β (.map none) .nilm

inductive SR (fm : Nat → Nat) (Z : ZM) (β : BM) : Value → SV → Prop
  | c {v x} (h : VR fm Z β v x) : SR fm Z β v (.c x)
  | agg {vs : Array Value} {cs : List C} (hl : vs.size = cs.length) (h : ∀ j c, cs[j]? = some c → VR fm Z β (vs.getD j undef) c) :
      SR fm Z β (.agg vs) (.agg cs)

inductive AR (fm : Nat → Nat) (Z : ZM) (β : BM) : Value → AV → Prop
  | s {v x} (h : SR fm Z β v x) : AR fm Z β v (.s x)
  | tup {vs : Array Value} {l : List SV} (hl : vs.size = l.length) (h : ∀ j x, l[j]? = some x → SR fm Z β (vs.getD j undef) x) :
      AR fm Z β (.tuple vs) (.tup l)
  | u {v} : AR fm Z β v .u

/-- Z' knows what Z knows; what is new lies from block B on. -/
structure ZExt (B : Nat) (Z Z' : ZM) : Prop where
  old : ∀ b c, Z b = some c → Z' b = some c
  new : ∀ b c, Z' b = some c → Z b = some c ∨ B ≤ b

theorem ZExt.refl (B : Nat) (Z : ZM) : ZExt B Z Z := ⟨fun _ _ h => h, fun _ _ h => .inl h⟩
theorem ZExt.trans {B : Nat} {Z Z' Z'' : ZM} (h : ZExt B Z Z') (k : ZExt B Z' Z'') : ZExt B Z Z'' :=
  ⟨fun b c hb => k.old b c (h.old b c hb), fun b c hb => (k.new b c hb).elim (h.new b c) .inr⟩
theorem ZExt.mono {B B' : Nat} {Z Z' : ZM} (h : ZExt B Z Z') (hB : B' ≤ B) : ZExt B' Z Z' :=
  ⟨h.old, fun b c hb => (h.new b c hb).imp id (Nat.le_trans hB)⟩

def BExt (β β' : BM) : Prop := ∀ o v l, β o v = some l → β' o v = some l
theorem BExt.refl (β : BM) : BExt β β := fun _ _ _ h => h
theorem BExt.trans {a b c : BM} (h : BExt a b) (k : BExt b c) : BExt a c := fun o v l x => k o v l (h o v l x)

theorem PR.mono {fm : Nat → Nat} {Z Z' : ZM} (hZ : ∀ b c, Z b = some c → Z' b = some c) {v : Value} {x : PC} (h : PR fm Z v x) : PR fm Z' v x := by
  induction h with
  | int => exact .int
  | bool => exact .bool
  | str => exact .str
  | sl0 => exact .sl0
  | sl hz hc hw hb _ ih => exact .sl (hZ _ _ hz) hc hw hb ih
  | pref hz hb _ ih => exact .pref (hZ _ _ hz) hb ih
  | clo hl _ ih => exact .clo hl ih

theorem VR.mono {fm : Nat → Nat} {Z Z' : ZM} {β β' : BM} (hZ : ∀ b c, Z b = some c → Z' b = some c) (hβ : BExt β β') {v : Value} {x : C}
    (h : VR fm Z β v x) : VR fm Z' β' v x := by
  cases h with
  | p h => exact .p (h.mono hZ)
  | e0 => exact .e0
  | rsn h => exact .rsn (hβ _ _ _ h)
  | rs h hc hb ha => exact .rs (hβ _ _ _ h) hc hb ha
  | ptr h => exact .ptr (hβ _ _ _ h)
  | nilp => exact .nilp
  | mp h => exact .mp (hβ _ _ _ h)
  | nilm => exact .nilm

theorem SR.mono {fm : Nat → Nat} {Z Z' : ZM} {β β' : BM} (hZ : ∀ b c, Z b = some c → Z' b = some c) (hβ : BExt β β') {v : Value} {x : SV}
    (h : SR fm Z β v x) : SR fm Z' β' v x := by
  cases h with
  | c h => exact .c (h.mono hZ hβ)
  | agg hl h => exact .agg hl fun j c hj => (h j c hj).mono hZ hβ

theorem AR.mono {fm : Nat → Nat} {Z Z' : ZM} {β β' : BM} (hZ : ∀ b c, Z b = some c → Z' b = some c) (hβ : BExt β β') {v : Value} {x : AV}
    (h : AR fm Z β v x) : AR fm Z' β' v x := by
  cases h with
  | s h => exact .s (h.mono hZ hβ)
  | tup hl h => exact .tup hl fun j c hj => (h j c hj).mono hZ hβ
  | u => exact .u

theorem VR.oneCell {fm : Nat → Nat} {Z : ZM} {β : BM} {v : Value} {x : C} (h : VR fm Z β v x) : v.oneCell' = true ∧ v.cells = #[v] := by
  cases h with
  | p h => cases h <;> exact ⟨rfl, rfl⟩
  | _ => exact ⟨rfl, rfl⟩

/-- The cells of a simple value. -/
def SV.cells : SV → List C
  | .c x => [x]
  | .agg cs => cs

theorem SR.cells {fm : Nat → Nat} {Z : ZM} {β : BM} {v : Value} {x : SV} (h : SR fm Z β v x) :
    v.cells.size = x.cells.length ∧ ∀ j c, x.cells[j]? = some c → VR fm Z β (v.cells.getD j undef) c := by
  cases h with
  | c h =>
    rw [h.oneCell.2]
    refine ⟨rfl, fun j c hj => ?_⟩
    cases j with
    | zero => simp [SV.cells] at hj; subst hj; simpa using h
    | succ j => simp [SV.cells] at hj
  | agg hl h => exact ⟨hl, h⟩

/-- The block of an object. -/
def blockOf (β : BM) (o v : Nat) : Option Nat :=
  match β o v with
  | some (.at_ b _ _ _) => some b
  | _ => none

/-- The place of an object: its block, or its map. -/
def anyOf (β : BM) (o v : Nat) : Option Nat :=
  match β o v with
  | some (.at_ b _ _ _) => some b
  | some (.map r) => some r
  | _ => none

theorem blockOf_any {β : BM} {o v b : Nat} (h : blockOf β o v = some b) : anyOf β o v = some b := by
  unfold blockOf at h
  unfold anyOf
  split at h
  · rename_i hl; rw [hl]; exact h
  · cases h

/-- A map's key, as the machine has it. -/
def keyVal : PC → Option Value
  | .int k n => some (.int k n)
  | .str s => some (.string s)
  | _ => none

/-- A map's value: one cell, or several. -/
def mapVal : Nat → List C → Option SV
  | 0, [c] => some (.c c)
  | 0, _ => none
  | n + 1, l => if l.length = n then some (.agg l) else none

/-- An entry of a map. -/
def EntR (fm : Nat → Nat) (Z : ZM) (β : BM) (sz : Nat) (e : MapEntry) (x : List C) : Prop :=
  ∃ k vs sv, x = .p k :: vs ∧ keyVal k = some e.key ∧ mapVal sz vs = some sv ∧ SR fm Z β e.val sv

theorem EntR.mono {fm : Nat → Nat} {Z Z' : ZM} {β β' : BM} (hZ : ∀ b c, Z b = some c → Z' b = some c) (hβ : BExt β β') {sz : Nat} {e : MapEntry} {x : List C}
    (h : EntR fm Z β sz e x) : EntR fm Z' β' sz e x := by
  obtain ⟨k, vs, sv, h1, h2, h3, h4⟩ := h
  exact ⟨k, vs, sv, h1, h2, h3, h4.mono hZ hβ⟩

/-- An object and the memory that holds it. -/
def OR (fm : Nat → Nat) (Z : ZM) (β : BM) (B : Nat) (w : World) (o v : Nat) (ob : Obj) : Prop :=
  match β o v with
  | none => False
  | some .nil => ob.elems = []
  | some (.map r) => B ≤ r ∧ ∃ es clk, w.heap[r]? = some (.map es clk) ∧ es.size = ob.elems.length ∧ ∀ (i : Nat) (x : List C), ob.elems[i]? = some x → ∃ e, es[i]? = some e ∧ EntR fm Z β ob.sz e x
  | some (.at_ b base n sz) => sz = ob.sz ∧ B ≤ b ∧ ∃ cells e, w.heap[b]? = some (.cells cells e (0, 0)) ∧ cells.size = n ∧ base + ob.elems.length * sz ≤ n ∧
      (∀ x, x ∈ ob.elems → x.length = sz) ∧ (∀ i j x c, ob.elems[i]? = some x → x[j]? = some c → VR fm Z β (cells.getD (base + i * sz + j) undef) c) ∧
      Z b = if ob.frozen then some cells else none

structure WR (fm : Nat → Nat) (Z : ZM) (β : BM) (objs : Objs) (w0 w : World) : Prop where
  below : Below w0.heap.size w0 w
  hz : ∀ b cells, Z b = some cells → ∃ e f, w.heap[b]? = some (.cells cells e f)
  ho : ∀ o v ob, objs.m o v = some ob → OR fm Z β w0.heap.size w o v ob
  inj : ∀ o v ob o' v' ob' b, objs.m o v = some ob → objs.m o' v' = some ob' → anyOf β o v = some b → anyOf β o' v' = some b → o = o' ∧ v = v'
  hβ : ∀ o v l, β o v = some l → v < objs.nv o

end Go.Av
