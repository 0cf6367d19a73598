/- The abstract machine of the Av files, fourth part: what the machine's memory does where the abstract one makes, stores, grows. No condition. -/
import Derived.Test.YtpdobdimlbhaoaaGreatAvSem
import Derived.Laws.Rows
import Derived.Laws.Tables
import Derived.Laws.CopyRow
namespace Go.Av
open Go Go.RowKit

variable {fm : Nat → Nat} {Z Z' : ZM} {β β' : BM} {B : Nat} {objs : Objs} {w0 w w' : World}

theorem blockOf_some {o v b : Nat} (h : blockOf β o v = some b) : ∃ base n sz, β o v = some (.at_ b base n sz) := by
  unfold blockOf at h
  cases hl : β o v with
  | none => simp [hl] at h
  | some l =>
    cases l with
    | nil => simp [hl] at h
    | map r => simp [hl] at h
    | at_ b' base n sz => simp [hl] at h; subst h; exact ⟨base, n, sz, rfl⟩

theorem OR.keep {o v : Nat} {ob : Obj} (h : OR fm Z β B w o v ob) (hβ : BExt β β') (hZ : ∀ b c, Z b = some c → Z' b = some c)
    (hb : ∀ b, anyOf β o v = some b → Z' b = Z b ∧ w'.heap[b]? = w.heap[b]?) : OR fm Z' β' B w' o v ob := by
  unfold OR at *
  unfold anyOf at hb
  cases hl : β o v with
  | none => simp [hl] at h
  | some l =>
    rw [hβ _ _ _ hl]
    cases l with
    | nil => simpa [hl] using h
    | map r =>
      simp only [hl] at h hb
      obtain ⟨h1, es, clk, h2, h3, h4⟩ := h
      refine ⟨h1, es, clk, by rw [(hb r rfl).2]; exact h2, h3, fun i x hi => ?_⟩
      obtain ⟨e, k1, k2⟩ := h4 i x hi
      exact ⟨e, k1, k2.mono hZ hβ⟩
    | at_ b base n sz =>
      simp only [hl] at h hb
      obtain ⟨h1, h2, cells, e, h3, h4, h5, h6, h7, h8⟩ := h
      obtain ⟨k1, k2⟩ := hb b rfl
      exact ⟨h1, h2, cells, e, by rw [k2]; exact h3, h4, h5, h6, fun i j x c hi hj => (h7 i j x c hi hj).mono hZ hβ, by rw [k1]; exact h8⟩

theorem OR.block {o v : Nat} {ob : Obj} (h : OR fm Z β B w o v ob) {b : Nat} (hb : anyOf β o v = some b) :
    B ≤ b ∧ b < w.heap.size := by
  unfold anyOf at hb
  unfold OR at h
  cases hl : β o v with
  | none => simp [hl] at hb
  | some l =>
    cases l with
    | nil => simp [hl] at hb
    | map r =>
      simp only [hl, Option.some.injEq] at hb h
      subst hb
      obtain ⟨h2, es, clk, h3, _⟩ := h
      refine ⟨h2, ?_⟩
      rcases Nat.lt_or_ge r w.heap.size with h | h
      · exact h
      · rw [Array.getElem?_eq_none h] at h3; cases h3
    | at_ b' base n sz =>
      simp only [hl, Option.some.injEq] at hb h
      subst hb
      obtain ⟨_, h2, cells, e, h3, _⟩ := h
      refine ⟨h2, ?_⟩
      rcases Nat.lt_or_ge b' w.heap.size with h | h
      · exact h
      · rw [Array.getElem?_eq_none h] at h3; cases h3

theorem anyOf_at {o v b base n sz : Nat} (h : β o v = some (.at_ b base n sz)) : anyOf β o v = some b := by simp [anyOf, h]
theorem anyOf_map {o v r : Nat} (h : β o v = some (.map r)) : anyOf β o v = some r := by simp [anyOf, h]

def Loc.place : Loc → Option Nat
  | .nil => none
  | .at_ b _ _ _ => some b
  | .map r => some r
theorem anyOf_loc {o v : Nat} {l : Loc} (h : β o v = some l) : anyOf β o v = l.place := by
  cases l <;> simp [anyOf, h, Loc.place]

theorem WR.zlt (h : WR fm Z β objs w0 w) {b : Nat} {c : Array Value} (hb : Z b = some c) : b < w.heap.size := by
  obtain ⟨e, f, h3⟩ := h.hz b c hb
  rcases Nat.lt_or_ge b w.heap.size with h | h
  · exact h
  · rw [Array.getElem?_eq_none h] at h3; cases h3

/-- The memory may draw. -/
theorem WR.heapEq (h : WR fm Z β objs w0 w) (hh : w'.heap = w.heap) (h1 : w'.os = w.os) (h2 : w'.tape = w.tape) (h3 : w'.output = w.output) : WR fm Z β objs w0 w' where
  below := h.below.trans ⟨h1, h2, h3, by rw [hh]; exact Nat.le_refl _, fun k _ => by rw [hh]⟩
  hz := by rw [hh]; exact h.hz
  ho := fun o v ob ho => (h.ho o v ob ho).keep (BExt.refl _) (fun _ _ h => h) fun b _ => ⟨rfl, by rw [hh]⟩
  inj := h.inj
  hβ := h.hβ

/-- A new block that is never written again. -/
theorem WR.pureAlloc (h : WR fm Z β objs w0 w) (cells : Array Value) (e : TypeId) :
    WR fm (upd Z w.heap.size (some cells)) β objs w0 (w.alloc (.cells cells e)) ∧ ZExt w.heap.size Z (upd Z w.heap.size (some cells)) := by
  have hZ : ∀ b c, Z b = some c → upd Z w.heap.size (some cells) b = some c := by
    intro b c hb
    have := h.zlt hb
    rw [upd_ne _ _ _ _ (by omega)]; exact hb
  refine ⟨⟨h.below.alloc h.below.size _, ?_, ?_, h.inj, h.hβ⟩, hZ, ?_⟩
  · intro b c hb
    by_cases hbs : b = w.heap.size
    · subst hbs; simp at hb; subst hb; exact ⟨e, (0, 0), heap_alloc_new w _⟩
    · rw [upd_ne _ _ _ _ hbs] at hb
      rw [heap_alloc_old w _ b (h.zlt hb)]; exact h.hz b c hb
  · intro o v ob ho
    refine (h.ho o v ob ho).keep (BExt.refl _) hZ fun b hb => ?_
    have := (h.ho o v ob ho).block hb
    exact ⟨upd_ne _ _ _ _ (by omega), heap_alloc_old w _ b this.2⟩
  · intro b c hb
    by_cases hbs : b = w.heap.size
    · right; omega
    · rw [upd_ne _ _ _ _ hbs] at hb; exact .inl hb

/-- An object that gets a new version (perhaps its first), in a block of its own. drop: a version that falls away. -/
theorem WR.addObj (h : WR fm Z β objs w0 w) {objs1 : Objs} (h1 : ∀ o v ob, objs1.m o v = some ob → objs.m o v = some ob) (hnv : objs1.nv = objs.nv) (o : Nat) (ob : Obj) (loc : Loc)
    (hbelow : Below w0.heap.size w w')
    (hkeep : ∀ b, ((∃ c, Z b = some c) ∨ ∃ o' v' ob1, objs1.m o' v' = some ob1 ∧ anyOf β o' v' = some b) → w'.heap[b]? = w.heap[b]?)
    (hnew : ∀ β', BExt β β' → β' o (objs.nv o) = some loc → OR fm Z β' w0.heap.size w' o (objs.nv o) ob)
    (hloc : ∀ b, loc.place = some b → ∀ o' v' ob1, objs1.m o' v' = some ob1 → anyOf β o' v' ≠ some b) :
    ∃ β', BExt β β' ∧ WR fm Z β' (objs1.new o ob) w0 w' ∧ β' o (objs.nv o) = some loc := by
  let β' : BM := fun q u => if q = o ∧ u = objs.nv o then some loc else β q u
  have hno : ∀ u l, β o u = some l → u ≠ objs.nv o := by
    intro u l hl
    have := h.hβ _ _ _ hl
    omega
  have hext : BExt β β' := by
    intro q u l hl
    show (if q = o ∧ u = objs.nv o then _ else _) = _
    rw [if_neg]; exact hl
    rintro ⟨rfl, hu⟩; exact hno u l hl hu
  have hβ' : β' o (objs.nv o) = some loc := by simp [β']
  have hold : ∀ q u, ¬ (q = o ∧ u = objs.nv o) → β' q u = β q u := by
    intro q u hq
    show (if _ then _ else _) = _
    rw [if_neg hq]
  have hm : ∀ q u, (objs1.new o ob).m q u = if q = o ∧ u = objs.nv o then some ob else objs1.m q u := by
    intro q u; simp only [Objs.new, hnv]
  refine ⟨β', hext, ⟨h.below.trans hbelow, ?_, ?_, ?_, ?_⟩, hβ'⟩
  · intro b c hb
    rw [hkeep b (.inl ⟨c, hb⟩)]; exact h.hz b c hb
  · intro q u obq hq
    rw [hm] at hq
    by_cases hqo : q = o ∧ u = objs.nv o
    · rw [if_pos hqo] at hq
      obtain ⟨rfl, rfl⟩ := hqo
      cases hq; exact hnew β' hext hβ'
    · rw [if_neg hqo] at hq
      exact (h.ho q u obq (h1 _ _ _ hq)).keep hext (fun _ _ h => h) fun b hb => ⟨rfl, hkeep b (.inr ⟨q, u, obq, hq, hb⟩)⟩
  · intro q1 u1 ob1 q2 u2 ob2 b g1 g2 k1 k2
    have hold' : ∀ q u, ¬ (q = o ∧ u = objs.nv o) → anyOf β' q u = anyOf β q u := by
      intro q u hq
      simp only [anyOf, hold q u hq]
    have key : ∀ q1 u1 q2 u2 ob2, (q1 = o ∧ u1 = objs.nv o) → ¬ (q2 = o ∧ u2 = objs.nv o) → objs1.m q2 u2 = some ob2 → anyOf β' q1 u1 = some b →
        anyOf β' q2 u2 = some b → False := by
      intro r1 t1 r2 t2 ob3 e1 e2 gg kk1 kk2
      rw [e1.1, e1.2, anyOf_loc hβ'] at kk1
      rw [hold' _ _ e2] at kk2
      exact hloc b kk1 r2 t2 ob3 gg kk2
    rw [hm] at g1 g2
    by_cases e1 : q1 = o ∧ u1 = objs.nv o <;> by_cases e2 : q2 = o ∧ u2 = objs.nv o
    · exact ⟨e1.1.trans e2.1.symm, e1.2.trans e2.2.symm⟩
    · rw [if_neg e2] at g2
      exact (key q1 u1 q2 u2 ob2 e1 e2 g2 k1 k2).elim
    · rw [if_neg e1] at g1
      exact (key q2 u2 q1 u1 ob1 e2 e1 g1 k2 k1).elim
    · rw [if_neg e1] at g1
      rw [if_neg e2] at g2
      rw [hold' _ _ e1] at k1
      rw [hold' _ _ e2] at k2
      exact h.inj _ _ _ _ _ _ _ (h1 _ _ _ g1) (h1 _ _ _ g2) k1 k2
  · intro q u l hl
    show u < (if q = o then objs1.nv o + 1 else objs1.nv q)
    rw [hnv]
    by_cases hq : q = o ∧ u = objs.nv o
    · rw [if_pos hq.1, hq.2]; omega
    · rw [hold _ _ hq] at hl
      have := h.hβ _ _ _ hl
      split
      · rename_i hqo; subst hqo; omega
      · exact this

/-- A new object in a new block. -/
theorem WR.newObj (h : WR fm Z β objs w0 w) (id sz : Nat) (elems : List (List C)) (cells : Array Value) (e : TypeId)
    (hs : elems.length * sz ≤ cells.size) (hw : ∀ x, x ∈ elems → x.length = sz)
    (hr : ∀ i j x c, elems[i]? = some x → x[j]? = some c → VR fm Z β (cells.getD (i * sz + j) undef) c) :
    ∃ β', BExt β β' ∧ WR fm Z β' (newObj objs id sz elems).1 w0 (w.alloc (.cells cells e)) ∧
      β' id (newObj objs id sz elems).2 = some (.at_ w.heap.size 0 cells.size sz) := by
  refine h.addObj (objs1 := objs) (fun _ _ _ h => h) rfl id _ (.at_ w.heap.size 0 cells.size sz) ((Below.refl _ w).alloc h.below.size _) (fun b hb => ?_) (fun β' hb hl => ?_) (fun b hh o' v' ob1 hb1 hb2 => ?_)
  · refine heap_alloc_old w _ b ?_
    rcases hb with ⟨c, hb⟩ | ⟨o', v', ob1, hb1, hb2⟩
    · exact h.zlt hb
    · exact ((h.ho o' v' ob1 hb1).block hb2).2
  · unfold OR; rw [hl]
    refine ⟨rfl, h.below.size, cells, e, heap_alloc_new w _, rfl, by simpa using hs, hw, fun i j x c hi hj => ?_, ?_⟩
    · have := (hr i j x c hi hj).mono (fun _ _ h => h) hb
      simpa using this
    · simp only [Bool.false_eq_true, if_false]
      cases hz : Z w.heap.size with
      | none => rfl
      | some c => have := h.zlt hz; omega
  · simp only [Loc.place, Option.some.injEq] at hh
    have := ((h.ho o' v' ob1 hb1).block hb2).2
    omega

/-- A store into an object's block: its cells, and its elements, are others now. -/
theorem WR.setObj (h : WR fm Z β objs w0 w) {o v : Nat} {ob : Obj} (ho : objs.m o v = some ob) {b base n sz : Nat} (hl : β o v = some (.at_ b base n sz))
    (hfz : ob.frozen = false) (elems : List (List C)) (cells : Array Value) (hn : cells.size = n)
    (hs : base + elems.length * sz ≤ n) (hw : ∀ x, x ∈ elems → x.length = sz)
    (hr : ∀ i j x c, elems[i]? = some x → x[j]? = some c → VR fm Z β (cells.getD (base + i * sz + j) undef) c) :
    WR fm Z β (objs.set o v (some { ob with elems := elems })) w0 (w.setRow b cells) := by
  have hob := h.ho o v ob ho
  unfold OR at hob
  simp only [hl] at hob
  obtain ⟨h1, h2, old, e, h3, h4, h5, h6, h7, h8⟩ := hob
  have hm : ∀ q u, (objs.set o v (some { ob with elems := elems })).m q u = if q = o ∧ u = v then some { ob with elems := elems } else objs.m q u := fun _ _ => rfl
  refine ⟨h.below.trans ⟨rfl, rfl, rfl, by simp, fun k hk => setRow_other w b k cells (by omega)⟩, ?_, ?_, ?_, ?_⟩
  · intro b' c hb'
    by_cases hbb : b' = b
    · subst hbb; simp [hfz] at h8; rw [h8] at hb'; cases hb'
    · rw [setRow_other w b b' cells hbb]; exact h.hz b' c hb'
  · intro o' v' ob' ho'
    rw [hm] at ho'
    by_cases hoo : o' = o ∧ v' = v
    · rw [if_pos hoo] at ho'
      obtain ⟨rfl, rfl⟩ := hoo
      cases ho'
      unfold OR
      simp only [hl]
      exact ⟨h1, h2, cells, e, setRow_heap w b old cells e _ h3, hn, hs, hw, hr, by simpa [hfz] using h8⟩
    · rw [if_neg hoo] at ho'
      refine (h.ho o' v' ob' ho').keep (BExt.refl _) (fun _ _ h => h) fun b' hb' => ⟨rfl, ?_⟩
      refine setRow_other w b b' cells ?_
      rintro rfl
      exact hoo (h.inj _ _ _ _ _ _ _ ho' ho hb' (anyOf_at hl))
  · intro o1 v1 ob1 o2 v2 ob2 b1 g1 g2 k1 k2
    have key : ∀ o1 v1 ob1, (objs.set o v (some { ob with elems := elems })).m o1 v1 = some ob1 → ∃ ob2, objs.m o1 v1 = some ob2 := by
      intro o1 v1 ob1 g
      rw [hm] at g
      by_cases hoo : o1 = o ∧ v1 = v
      · obtain ⟨rfl, rfl⟩ := hoo; exact ⟨ob, ho⟩
      · rw [if_neg hoo] at g; exact ⟨ob1, g⟩
    obtain ⟨x1, y1⟩ := key _ _ _ g1
    obtain ⟨x2, y2⟩ := key _ _ _ g2
    exact h.inj _ _ _ _ _ _ _ y1 y2 k1 k2
  · exact h.hβ
end Go.Av
