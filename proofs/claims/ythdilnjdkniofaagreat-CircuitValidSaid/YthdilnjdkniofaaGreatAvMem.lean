/- The abstract machine of the Av files, fourth part: what the machine's memory does where the abstract one makes, stores, grows. No condition. -/
import Derived.Test.YthdilnjdkniofaaGreatAvBase
import Derived.Laws.Rows
import Derived.Laws.Tables
import Derived.Laws.CopyRow
namespace Go.Av
open Go Go.RowKit

variable {fm : Nat → Nat} {Z Z' : ZM} {β β' : BM} {B : Nat} {objs : Objs} {w0 w w' : World}

theorem blockOf_some {o v b : Nat} (h : blockOf β o v = some b) : ∃ base n sz, β o v = some (.at_ b base n sz) := by
  unfold blockOf at h
  cases hl : β o v with
  | none => simp [hl] at h
  | some l =>
    cases l with
    | nil => simp [hl] at h
    | map r => simp [hl] at h
    | at_ b' base n sz => simp [hl] at h; subst h; exact ⟨base, n, sz, rfl⟩

theorem OR.keep {o v : Nat} {ob : Obj} (h : OR fm Z β B w o v ob) (hβ : BExt β β') (hZ : ∀ b c, Z b = some c → Z' b = some c)
    (hb : ∀ b, anyOf β o v = some b → Z' b = Z b ∧ w'.heap[b]? = w.heap[b]?) : OR fm Z' β' B w' o v ob := by
  unfold OR at *
  unfold anyOf at hb
  cases hl : β o v with
  | none => simp [hl] at h
  | some l =>
    rw [hβ _ _ _ hl]
    cases l with
    | nil => simpa [hl] using h
    | map r =>
      simp only [hl] at h hb
      obtain ⟨h1, es, clk, h2, h3, h4⟩ := h
      refine ⟨h1, es, clk, by rw [(hb r rfl).2]; exact h2, h3, fun i x hi => ?_⟩
      obtain ⟨e, k1, k2⟩ := h4 i x hi
      exact ⟨e, k1, k2.mono hZ hβ⟩
    | at_ b base n sz =>
      simp only [hl] at h hb
      obtain ⟨h1, h2, cells, e, h3, h4, h5, h6, h7, h8⟩ := h
      obtain ⟨k1, k2⟩ := hb b rfl
      exact ⟨h1, h2, cells, e, by rw [k2]; exact h3, h4, h5, h6, fun i j x c hi hj => (h7 i j x c hi hj).mono hZ hβ, by rw [k1]; exact h8⟩

theorem OR.block {o v : Nat} {ob : Obj} (h : OR fm Z β B w o v ob) {b : Nat} (hb : anyOf β o v = some b) :
    B ≤ b ∧ b < w.heap.size := by
  unfold anyOf at hb
  unfold OR at h
  cases hl : β o v with
  | none => simp [hl] at hb
  | some l =>
    cases l with
    | nil => simp [hl] at hb
    | map r =>
      simp only [hl, Option.some.injEq] at hb h
      subst hb
      obtain ⟨h2, es, clk, h3, _⟩ := h
      refine ⟨h2, ?_⟩
      rcases Nat.lt_or_ge r w.heap.size with h | h
      · exact h
      · rw [Array.getElem?_eq_none h] at h3; cases h3
    | at_ b' base n sz =>
      simp only [hl, Option.some.injEq] at hb h
      subst hb
      obtain ⟨_, h2, cells, e, h3, _⟩ := h
      refine ⟨h2, ?_⟩
      rcases Nat.lt_or_ge b' w.heap.size with h | h
      · exact h
      · rw [Array.getElem?_eq_none h] at h3; cases h3

theorem anyOf_at {o v b base n sz : Nat} (h : β o v = some (.at_ b base n sz)) : anyOf β o v = some b := by simp [anyOf, h]
theorem anyOf_map {o v r : Nat} (h : β o v = some (.map r)) : anyOf β o v = some r := by simp [anyOf, h]

def Loc.place : Loc → Option Nat
  | .nil => none
  | .at_ b _ _ _ => some b
  | .map r => some r
theorem anyOf_loc {o v : Nat} {l : Loc} (h : β o v = some l) : anyOf β o v = l.place := by
  cases l <;> simp [anyOf, h, Loc.place]

theorem WR.zlt (h : WR fm Z β objs w0 w) {b : Nat} {c : Array Value} (hb : Z b = some c) : b < w.heap.size := by
  obtain ⟨e, f, h3⟩ := h.hz b c hb
  rcases Nat.lt_or_ge b w.heap.size with h | h
  · exact h
  · rw [Array.getElem?_eq_none h] at h3; cases h3

/-- The memory may draw. -/
theorem WR.heapEq (h : WR fm Z β objs w0 w) (hh : w'.heap = w.heap) (h1 : w'.os = w.os) (h2 : w'.tape = w.tape) (h3 : w'.output = w.output) : WR fm Z β objs w0 w' where
  below := h.below.trans ⟨h1, h2, h3, by rw [hh]; exact Nat.le_refl _, fun k _ => by rw [hh]⟩
  hz := by rw [hh]; exact h.hz
  ho := fun o v ob ho => (h.ho o v ob ho).keep (BExt.refl _) (fun _ _ h => h) fun b _ => ⟨rfl, by rw [hh]⟩
  inj := h.inj
  hβ := h.hβ

/-- A new block that is never written again. -/
theorem WR.pureAlloc (h : WR fm Z β objs w0 w) (cells : Array Value) (e : TypeId) :
    WR fm (upd Z w.heap.size (some cells)) β objs w0 (w.alloc (.cells cells e)) ∧ ZExt w.heap.size Z (upd Z w.heap.size (some cells)) := by
  have hZ : ∀ b c, Z b = some c → upd Z w.heap.size (some cells) b = some c := by
    intro b c hb
    have := h.zlt hb
    rw [upd_ne _ _ _ _ (by omega)]; exact hb
  refine ⟨⟨h.below.alloc h.below.size _, ?_, ?_, h.inj, h.hβ⟩, hZ, ?_⟩
  · intro b c hb
    by_cases hbs : b = w.heap.size
    · subst hbs; simp at hb; subst hb; exact ⟨e, (0, 0), heap_alloc_new w _⟩
    · rw [upd_ne _ _ _ _ hbs] at hb
      rw [heap_alloc_old w _ b (h.zlt hb)]; exact h.hz b c hb
  · intro o v ob ho
    refine (h.ho o v ob ho).keep (BExt.refl _) hZ fun b hb => ?_
    have := (h.ho o v ob ho).block hb
    exact ⟨upd_ne _ _ _ _ (by omega), heap_alloc_old w _ b this.2⟩
  · intro b c hb
    by_cases hbs : b = w.heap.size
    · right; omega
    · rw [upd_ne _ _ _ _ hbs] at hb; exact .inl hb

/-- An object that gets a new version (perhaps its first), in a block of its own. drop: a version that falls away. -/
theorem WR.addObj (h : WR fm Z β objs w0 w) {objs1 : Objs} (h1 : ∀ o v ob, objs1.m o v = some ob → objs.m o v = some ob) (hnv : objs1.nv = objs.nv) (o : Nat) (ob : Obj) (loc : Loc)
    (hbelow : Below w0.heap.size w w')
    (hkeep : ∀ b, ((∃ c, Z b = some c) ∨ ∃ o' v' ob1, objs1.m o' v' = some ob1 ∧ anyOf β o' v' = some b) → w'.heap[b]? = w.heap[b]?)
    (hnew : ∀ β', BExt β β' → β' o (objs.nv o) = some loc → OR fm Z β' w0.heap.size w' o (objs.nv o) ob)
    (hloc : ∀ b, loc.place = some b → ∀ o' v' ob1, objs1.m o' v' = some ob1 → anyOf β o' v' ≠ some b) :
    ∃ β', BExt β β' ∧ WR fm Z β' (objs1.new o ob) w0 w' ∧ β' o (objs.nv o) = some loc := by
  let β' : BM := fun q u => if q = o ∧ u = objs.nv o then some loc else β q u
  have hno : ∀ u l, β o u = some l → u ≠ objs.nv o := by
    intro u l hl
    have := h.hβ _ _ _ hl
    omega
  have hext : BExt β β' := by
    intro q u l hl
    show (if q = o ∧ u = objs.nv o then _ else _) = _
    rw [if_neg]; exact hl
    rintro ⟨rfl, hu⟩; exact hno u l hl hu
  have hβ' : β' o (objs.nv o) = some loc := by simp [β']
  have hold : ∀ q u, ¬ (q = o ∧ u = objs.nv o) → β' q u = β q u := by
    intro q u hq
    show (if _ then _ else _) = _
    rw [if_neg hq]
  have hm : ∀ q u, (objs1.new o ob).m q u = if q = o ∧ u = objs.nv o then some ob else objs1.m q u := by
    intro q u; simp only [Objs.new, hnv]
  refine ⟨β', hext, ⟨h.below.trans hbelow, ?_, ?_, ?_, ?_⟩, hβ'⟩
  · intro b c hb
    rw [hkeep b (.inl ⟨c, hb⟩)]; exact h.hz b c hb
  · intro q u obq hq
    rw [hm] at hq
    by_cases hqo : q = o ∧ u = objs.nv o
    · rw [if_pos hqo] at hq
      obtain ⟨rfl, rfl⟩ := hqo
      cases hq; exact hnew β' hext hβ'
    · rw [if_neg hqo] at hq
      exact (h.ho q u obq (h1 _ _ _ hq)).keep hext (fun _ _ h => h) fun b hb => ⟨rfl, hkeep b (.inr ⟨q, u, obq, hq, hb⟩)⟩
  · intro q1 u1 ob1 q2 u2 ob2 b g1 g2 k1 k2
    have hold' : ∀ q u, ¬ (q = o ∧ u = objs.nv o) → anyOf β' q u = anyOf β q u := by
      intro q u hq
      simp only [anyOf, hold q u hq]
    have key : ∀ q1 u1 q2 u2 ob2, (q1 = o ∧ u1 = objs.nv o) → ¬ (q2 = o ∧ u2 = objs.nv o) → objs1.m q2 u2 = some ob2 → anyOf β' q1 u1 = some b →
        anyOf β' q2 u2 = some b → False := by
      intro r1 t1 r2 t2 ob3 e1 e2 gg kk1 kk2
      rw [e1.1, e1.2, anyOf_loc hβ'] at kk1
      rw [hold' _ _ e2] at kk2
      exact hloc b kk1 r2 t2 ob3 gg kk2
    rw [hm] at g1 g2
    by_cases e1 : q1 = o ∧ u1 = objs.nv o <;> by_cases e2 : q2 = o ∧ u2 = objs.nv o
    · exact ⟨e1.1.trans e2.1.symm, e1.2.trans e2.2.symm⟩
    · rw [if_neg e2] at g2
      exact (key q1 u1 q2 u2 ob2 e1 e2 g2 k1 k2).elim
    · rw [if_neg e1] at g1
      exact (key q2 u2 q1 u1 ob1 e2 e1 g1 k2 k1).elim
    · rw [if_neg e1] at g1
      rw [if_neg e2] at g2
      rw [hold' _ _ e1] at k1
      rw [hold' _ _ e2] at k2
      exact h.inj _ _ _ _ _ _ _ (h1 _ _ _ g1) (h1 _ _ _ g2) k1 k2
  · intro q u l hl
    show u < (if q = o then objs1.nv o + 1 else objs1.nv q)
    rw [hnv]
    by_cases hq : q = o ∧ u = objs.nv o
    · rw [if_pos hq.1, hq.2]; omega
    · rw [hold _ _ hq] at hl
      have := h.hβ _ _ _ hl
      split
      · rename_i hqo; subst hqo; omega
      · exact this

/-- A new object in a new block. -/
theorem WR.newObj (h : WR fm Z β objs w0 w) (id sz : Nat) (elems : List (List C)) (cells : Array Value) (e : TypeId)
    (hs : elems.length * sz ≤ cells.size) (hw : ∀ x, x ∈ elems → x.length = sz)
    (hr : ∀ i j x c, elems[i]? = some x → x[j]? = some c → VR fm Z β (cells.getD (i * sz + j) undef) c) :
    ∃ β', BExt β β' ∧ WR fm Z β' (newObj objs id sz elems).1 w0 (w.alloc (.cells cells e)) ∧
      β' id (newObj objs id sz elems).2 = some (.at_ w.heap.size 0 cells.size sz) := by
  refine h.addObj (objs1 := objs) (fun _ _ _ h => h) rfl id _ (.at_ w.heap.size 0 cells.size sz) ((Below.refl _ w).alloc h.below.size _) (fun b hb => ?_) (fun β' hb hl => ?_) (fun b hh o' v' ob1 hb1 hb2 => ?_)
  · refine heap_alloc_old w _ b ?_
    rcases hb with ⟨c, hb⟩ | ⟨o', v', ob1, hb1, hb2⟩
    · exact h.zlt hb
    · exact ((h.ho o' v' ob1 hb1).block hb2).2
  · unfold OR; rw [hl]
    refine ⟨rfl, h.below.size, cells, e, heap_alloc_new w _, rfl, by simpa using hs, hw, fun i j x c hi hj => ?_, ?_⟩
    · have := (hr i j x c hi hj).mono (fun _ _ h => h) hb
      simpa using this
    · simp only [Bool.false_eq_true, if_false]
      cases hz : Z w.heap.size with
      | none => rfl
      | some c => have := h.zlt hz; omega
  · simp only [Loc.place, Option.some.injEq] at hh
    have := ((h.ho o' v' ob1 hb1).block hb2).2
    omega

/-- A store into an object's block: its cells, and its elements, are others now. -/
theorem WR.setObj (h : WR fm Z β objs w0 w) {o v : Nat} {ob : Obj} (ho : objs.m o v = some ob) {b base n sz : Nat} (hl : β o v = some (.at_ b base n sz))
    (hfz : ob.frozen = false) (elems : List (List C)) (cells : Array Value) (hn : cells.size = n)
    (hs : base + elems.length * sz ≤ n) (hw : ∀ x, x ∈ elems → x.length = sz)
    (hr : ∀ i j x c, elems[i]? = some x → x[j]? = some c → VR fm Z β (cells.getD (base + i * sz + j) undef) c) :
    WR fm Z β (objs.set o v (some { ob with elems := elems })) w0 (w.setRow b cells) := by
  have hob := h.ho o v ob ho
  unfold OR at hob
  simp only [hl] at hob
  obtain ⟨h1, h2, old, e, h3, h4, h5, h6, h7, h8⟩ := hob
  have hm : ∀ q u, (objs.set o v (some { ob with elems := elems })).m q u = if q = o ∧ u = v then some { ob with elems := elems } else objs.m q u := fun _ _ => rfl
  refine ⟨h.below.trans ⟨rfl, rfl, rfl, by simp, fun k hk => setRow_other w b k cells (by omega)⟩, ?_, ?_, ?_, ?_⟩
  · intro b' c hb'
    by_cases hbb : b' = b
    · subst hbb; simp [hfz] at h8; rw [h8] at hb'; cases hb'
    · rw [setRow_other w b b' cells hbb]; exact h.hz b' c hb'
  · intro o' v' ob' ho'
    rw [hm] at ho'
    by_cases hoo : o' = o ∧ v' = v
    · rw [if_pos hoo] at ho'
      obtain ⟨rfl, rfl⟩ := hoo
      cases ho'
      unfold OR
      simp only [hl]
      exact ⟨h1, h2, cells, e, setRow_heap w b old cells e _ h3, hn, hs, hw, hr, by simpa [hfz] using h8⟩
    · rw [if_neg hoo] at ho'
      refine (h.ho o' v' ob' ho').keep (BExt.refl _) (fun _ _ h => h) fun b' hb' => ⟨rfl, ?_⟩
      refine setRow_other w b b' cells ?_
      rintro rfl
      exact hoo (h.inj _ _ _ _ _ _ _ ho' ho hb' (anyOf_at hl))
  · intro o1 v1 ob1 o2 v2 ob2 b1 g1 g2 k1 k2
    have key : ∀ o1 v1 ob1, (objs.set o v (some { ob with elems := elems })).m o1 v1 = some ob1 → ∃ ob2, objs.m o1 v1 = some ob2 := by
      intro o1 v1 ob1 g
      rw [hm] at g
      by_cases hoo : o1 = o ∧ v1 = v
      · obtain ⟨rfl, rfl⟩ := hoo; exact ⟨ob, ho⟩
      · rw [if_neg hoo] at g; exact ⟨ob1, g⟩
    obtain ⟨x1, y1⟩ := key _ _ _ g1
    obtain ⟨x2, y2⟩ := key _ _ _ g2
    exact h.inj _ _ _ _ _ _ _ y1 y2 k1 k2
  · exact h.hβ
end Go.Av
namespace Go.Av
open Go Go.RowKit

theorem allSome_spec {α : Type} : ∀ {l : List (Option α)} {r : List α}, allSome l = some r → l = r.map some
  | [], r, h => by simp [allSome] at h; subst h; rfl
  | none :: _, r, h => by simp [allSome] at h
  | some x :: l, r, h => by
    simp only [allSome] at h
    cases hl : allSome l with
    | none => simp [hl] at h
    | some l' =>
      simp only [hl, Option.some.injEq] at h
      subst h
      rw [allSome_spec hl]; rfl

theorem allSome_map {α : Type} : ∀ (r : List α), allSome (r.map some) = some r
  | [] => rfl
  | x :: r => by simp [allSome, allSome_map r]

/-- What allSome of a map says, place by place. -/
theorem allSome_get {α γ : Type} {f : γ → Option α} {l : List γ} {r : List α} (h : allSome (l.map f) = some r) :
    r.length = l.length ∧ ∀ (i : Nat) (y : α), r[i]? = some y → ∃ x, l[i]? = some x ∧ f x = some y := by
  have e := allSome_spec h
  have hl : r.length = l.length := by simpa using (congrArg List.length e).symm
  refine ⟨hl, fun i y hy => ?_⟩
  have ei := congrArg (fun z => z[i]?) e
  simp only [List.getElem?_map, hy, Option.map_some] at ei
  cases hx : l[i]? with
  | none => simp [hx] at ei
  | some x => simp [hx] at ei; exact ⟨x, rfl, ei⟩

variable {fm : Nat → Nat} {Z : ZM} {β : BM} {objs : Objs} {w0 w : World}

/-- Memory in which the blocks of some objects are known for good. -/
structure FZ (Z : ZM) (β : BM) (objs : Objs) (w : World) (ids : List (Nat × Nat)) (Zf : ZM) : Prop where
  old : ∀ b c, Z b = some c → Zf b = some c
  here : ∀ o v ob b, (o, v) ∈ ids → objs.m o v = some ob → blockOf β o v = some b → ∃ cells e, Zf b = some cells ∧ w.heap[b]? = some (.cells cells e (0, 0))
  only : ∀ b c, Zf b = some c → Z b = some c ∨ ∃ o v ob, (o, v) ∈ ids ∧ objs.m o v = some ob ∧ blockOf β o v = some b
  hz : ∀ b cells, Zf b = some cells → ∃ e f, w.heap[b]? = some (.cells cells e f)

theorem OR.heap {B : Nat} {o v : Nat} {ob : Obj} (h : OR fm Z β B w o v ob) {b : Nat} (hb : blockOf β o v = some b) :
    ∃ cells e, w.heap[b]? = some (.cells cells e (0, 0)) ∧ Z b = if ob.frozen then some cells else none := by
  obtain ⟨base, n, sz, hl⟩ := blockOf_some hb
  unfold OR at h
  simp only [hl] at h
  obtain ⟨_, _, cells, e, h3, _, _, _, _, h8⟩ := h
  exact ⟨cells, e, h3, h8⟩

theorem FZ.exists_ (h : WR fm Z β objs w0 w) : ∀ ids, ∃ Zf, FZ Z β objs w ids Zf
  | [] => ⟨Z, fun _ _ h => h, fun _ _ _ _ h => by simp at h, fun _ _ h => .inl h, h.hz⟩
  | (o, v) :: ids => by
    obtain ⟨Zf, hf⟩ := FZ.exists_ h ids
    have skip : (∀ ob b, objs.m o v = some ob → blockOf β o v = some b → ∃ cells e, Zf b = some cells ∧ w.heap[b]? = some (.cells cells e (0, 0))) → ∃ Zf, FZ Z β objs w ((o, v) :: ids) Zf := by
      intro hs
      refine ⟨Zf, hf.old, fun o' v' ob b ho hob hb => ?_, fun b c hb => ?_, hf.hz⟩
      · simp only [List.mem_cons, Prod.mk.injEq] at ho
        rcases ho with ⟨rfl, rfl⟩ | ho
        · exact hs ob b hob hb
        · exact hf.here o' v' ob b ho hob hb
      · rcases hf.only b c hb with k | ⟨o', v', ob, k1, k2, k3⟩
        · exact .inl k
        · exact .inr ⟨o', v', ob, by simp [k1], k2, k3⟩
    cases hob : objs.m o v with
    | none => exact skip fun ob b h1 => by rw [hob] at h1; cases h1
    | some ob =>
      cases hb : blockOf β o v with
      | none => exact skip fun ob' b h1 h2 => by rw [hb] at h2; cases h2
      | some b =>
        obtain ⟨cells, e, k1, k2⟩ := (h.ho o v ob hob).heap hb
        cases hz : Zf b with
        | some c =>
          refine skip fun ob' b' h1 h2 => ?_
          rw [hb] at h2; cases h2
          obtain ⟨e', f, k⟩ := hf.hz b c hz
          rw [k1] at k; cases k
          exact ⟨_, _, hz, k1⟩
        | none =>
          refine ⟨upd Zf b (some cells), fun b' c hc => ?_, fun o' v' ob' b' ho' hob' hb' => ?_, fun b' c hc => ?_, fun b' c hc => ?_⟩
          · have := hf.old b' c hc
            rw [upd_ne _ _ _ _ (by rintro rfl; rw [hz] at this; cases this)]; exact this
          · by_cases hbb : b' = b
            · subst hbb; exact ⟨cells, e, by simp, k1⟩
            · rw [upd_ne _ _ _ _ hbb]
              simp only [List.mem_cons, Prod.mk.injEq] at ho'
              rcases ho' with ⟨rfl, rfl⟩ | ho'
              · rw [hb] at hb'; cases hb'; exact (hbb rfl).elim
              · exact hf.here o' v' ob' b' ho' hob' hb'
          · by_cases hbb : b' = b
            · subst hbb; exact .inr ⟨o, v, ob, by simp, hob, hb⟩
            · rw [upd_ne _ _ _ _ hbb] at hc
              rcases hf.only b' c hc with k | ⟨o', v', ob', k1, k2, k3⟩
              · exact .inl k
              · exact .inr ⟨o', v', ob', by simp [k1], k2, k3⟩
          · by_cases hbb : b' = b
            · subst hbb; simp at hc; subst hc; exact ⟨e, _, k1⟩
            · rw [upd_ne _ _ _ _ hbb] at hc; exact hf.hz b' c hc

/-- With these objects frozen the memory is still told rightly. -/
theorem FZ.wr {ids : List (Nat × Nat)} {Zf : ZM} (hf : FZ Z β objs w ids Zf) (h : WR fm Z β objs w0 w) : WR fm Zf β (fzIds ids objs) w0 w := by
  have key : ∀ o v ob, (fzIds ids objs).m o v = some ob → ∃ ob', objs.m o v = some ob' ∧ ob = { ob' with frozen := ob'.frozen || ids.contains (o, v) } := by
    intro o v ob ho
    unfold fzIds at ho
    cases hob : objs.m o v with
    | none => simp [hob] at ho
    | some ob' => simp [hob] at ho; exact ⟨ob', rfl, by rw [← ho]; simp⟩
  refine ⟨h.below, hf.hz, fun o v ob ho => ?_, fun o1 v1 ob1 o2 v2 ob2 b g1 g2 k1 k2 => ?_, h.hβ⟩
  · obtain ⟨ob', hob, rfl⟩ := key o v ob ho
    have hor := h.ho o v ob' hob
    have hor' := hor
    unfold OR at hor ⊢
    cases hl : β o v with
    | none => simp [hl] at hor
    | some l =>
      cases l with
      | nil => simpa [hl] using hor
      | map r =>
        simp only [hl] at hor ⊢
        obtain ⟨h1, es, clk, h2, h3, h4⟩ := hor
        refine ⟨h1, es, clk, h2, h3, fun i x hi => ?_⟩
        obtain ⟨e, k1, k2⟩ := h4 i x hi
        exact ⟨e, k1, k2.mono hf.old (BExt.refl _)⟩
      | at_ b base n sz =>
        simp only [hl] at hor ⊢
        obtain ⟨h1, h2, cells, e, h3, h4, h5, h6, h7, h8⟩ := hor
        refine ⟨h1, h2, cells, e, h3, h4, h5, h6, fun i j x c hi hj => (h7 i j x c hi hj).mono hf.old (BExt.refl _), ?_⟩
        have hb : blockOf β o v = some b := by simp [blockOf, hl]
        by_cases hid : (o, v) ∈ ids
        · obtain ⟨cells', e', k1, k2⟩ := hf.here o v ob' b hid hob hb
          rw [h3] at k2; cases k2
          simp [hid, k1]
        · have hcn : ids.contains (o, v) = false := by simpa using hid
          rw [hcn, Bool.or_false]
          by_cases hfr : ob'.frozen = true
          · rw [if_pos hfr] at h8 ⊢; exact hf.old _ _ h8
          · rw [if_neg hfr] at h8 ⊢
            cases hz : Zf b with
            | none => rfl
            | some c =>
              rcases hf.only b c hz with k | ⟨o2, v2, ob2, k1, k2, k3⟩
              · rw [h8] at k; cases k
              · obtain ⟨ba, n', s, hl2⟩ := blockOf_some k3
                have := h.inj _ _ _ _ _ _ _ hob k2 (anyOf_at hl) (anyOf_at hl2)
                obtain ⟨rfl, rfl⟩ := this
                exact (hid k1).elim
  · obtain ⟨x1, y1, rfl⟩ := key _ _ _ g1
    obtain ⟨x2, y2, rfl⟩ := key _ _ _ g2
    exact h.inj _ _ _ _ _ _ _ y1 y2 k1 k2

/-- What purC reads is what the memory holds. -/
theorem purC_PR {ids : List (Nat × Nat)} {Zf : ZM} (hf : FZ Z β objs w ids Zf) (h : WR fm Z β objs w0 w) : ∀ (n : Nat) (v : Value) (c : C) (x : PC),
    VR fm Z β v c → purC objs n c = some x → (∀ o, o ∈ rchC objs n c → o ∈ ids) → PR fm Zf v x := by
  intro n
  induction n with
  | zero =>
    intro v c x hv hp hr
    cases c with
    | p y => cases hv with | p hv => simp [purC] at hp; subst hp; exact hv.mono hf.old
    | e0 => cases hv; simp [purC] at hp; subst hp; exact .sl0
    | _ => simp [purC] at hp
  | succ n ih =>
    have hptr : ∀ (v : Value) (o u i off : Nat) (x : PC), VR fm Z β v (.ptr o u i off) → purC objs (n + 1) (.ptr o u i off) = some x → (∀ q, q ∈ rchC objs (n + 1) (.ptr o u i off) → q ∈ ids) → PR fm Zf v x := by
      intro v o u i off x hv hp hr
      simp only [purC] at hp
      cases hob : objs.m o u with
      | none => simp [hob] at hp
      | some ob =>
        simp only [hob] at hp
        · cases hx : ob.elems[i]? with
          | none => simp [hx] at hp
          | some x0 =>
            simp only [hx] at hp
            by_cases hoff : off ≤ x0.length
            · rw [if_pos hoff] at hp
              cases hxs : allSome ((x0.drop off).map (purC objs n)) with
              | none => rw [hxs] at hp; cases hp
              | some cs =>
                simp only [hxs, Option.map_some, Option.some.injEq] at hp
                subst hp
                obtain ⟨hl, hget⟩ := allSome_get hxs
                cases hv with
                | ptr hβ =>
                  rename_i b base m sz
                  have hor := h.ho o u ob hob
                  unfold OR at hor
                  simp only [hβ] at hor
                  obtain ⟨h1, h2, cells, e, h3, h4, h5, h6, h7, h8⟩ := hor
                  have hz : ∃ cells' e', Zf b = some cells' ∧ w.heap[b]? = some (.cells cells' e' (0, 0)) :=
                    hf.here o u ob b (hr (o, u) (by simp [rchC])) hob (by simp [blockOf, hβ])
                  obtain ⟨cells', e', hz, hz'⟩ := hz
                  rw [h3] at hz'; cases hz'
                  have hi : i < ob.elems.length := by
                    rcases Nat.lt_or_ge i ob.elems.length with h | h
                    · exact h
                    · rw [List.getElem?_eq_none h] at hx; cases hx
                  have hxl := h6 x0 (List.mem_of_getElem? hx)
                  refine .pref hz ?_ ?_
                  · have : (i + 1) * sz ≤ ob.elems.length * sz := Nat.mul_le_mul_right _ (by omega)
                    rw [Nat.add_mul, Nat.one_mul] at this
                    rw [hl, List.length_drop, h4]; omega
                  · intro j c hj
                    obtain ⟨c0, hc0, hc1⟩ := hget j c hj
                    rw [List.getElem?_drop] at hc0
                    have hvr := h7 i (off + j) x0 c0 hx hc0
                    rw [show base + i * sz + off + j = base + i * sz + (off + j) by omega]
                    refine ih _ _ _ hvr hc1 fun o' ho' => hr o' ?_
                    simp only [rchC, hob, List.mem_cons]
                    exact .inr (List.mem_flatMap.2 ⟨x0, List.mem_of_getElem? hx, List.mem_flatMap.2 ⟨c0, List.mem_of_getElem? hc0, ho'⟩⟩)
            · rw [if_neg hoff] at hp; cases hp
    intro v c x hv hp hr
    cases c with
    | p y => cases hv with | p hv => simp [purC] at hp; subst hp; exact hv.mono hf.old
    | e0 => cases hv; simp [purC] at hp; subst hp; exact .sl0
    | nilp => simp [purC] at hp
    | mp o u => simp [purC] at hp
    | nilm => simp [purC] at hp
    | rs o u sz st len =>
      simp only [purC] at hp
      cases hob : objs.m o u with
      | none => simp [hob] at hp
      | some ob =>
        simp only [hob] at hp
        by_cases hc : ob.sz = sz ∧ st + len ≤ ob.elems.length
        · rw [if_pos hc] at hp
          obtain ⟨rfl, hle⟩ := hc
          cases hxs : allSome (((ob.elems.drop st).take len).map fun x => allSome (x.map (purC objs n))) with
          | none => rw [hxs] at hp; cases hp
          | some xs =>
            simp only [hxs, Option.map_some, Option.some.injEq] at hp
            subst hp
            obtain ⟨hl, hget⟩ := allSome_get hxs
            have hlen : xs.length = len := by
              rw [hl]; simp; omega
            have hor := h.ho o u ob hob
            unfold OR at hor
            have hcases : v = .slice none 0 0 ∧ len = 0 ∨ ∃ b base m sz' cap a, β o u = some (.at_ b base m sz') ∧ len ≤ cap ∧ (cap ≠ 0 → a = (⟨b, base + st * sz', none⟩ : Addr)) ∧ v = .slice (some a) len cap ∧ True := by
              cases hv with
              | rsn hβ => exact .inl ⟨rfl, rfl⟩
              | rs hβ h1 h2 h3 => rename_i b base m cap a; exact .inr ⟨b, base, m, ob.sz, cap, a, hβ, h1, h3, rfl, trivial⟩
            rcases hcases with ⟨rfl, hl0⟩ | ⟨b, base, m, sz', cap, a, hβ, hcap, ha, rfl, -⟩
            · obtain rfl : xs = [] := List.length_eq_zero_iff.1 (by omega)
              exact .sl0
            · simp only [hβ] at hor
              obtain ⟨h1, h2, cells, e, h3, h4, h5, h6, h7, h8⟩ := hor
              subst h1
              by_cases h0 : len = 0
              · obtain rfl : xs = [] := List.length_eq_zero_iff.1 (by omega)
                subst h0; exact .sl0
              · have hz : ∃ cells' e', Zf b = some cells' ∧ w.heap[b]? = some (.cells cells' e' (0, 0)) :=
                  hf.here o u ob b (hr (o, u) (by simp [rchC])) hob (by simp [blockOf, hβ])
                obtain ⟨cells', e', hz, hz'⟩ := hz
                rw [h3] at hz'; cases hz'
                rw [ha (by omega)]
                have hel : ∀ i y, xs[i]? = some y → ∃ x, ob.elems[st + i]? = some x ∧ allSome (x.map (purC objs n)) = some y := by
                  intro i y hy
                  obtain ⟨x, hx, hx2⟩ := hget i y hy
                  rw [List.getElem?_take] at hx
                  split at hx
                  · rw [List.getElem?_drop] at hx; exact ⟨x, hx, hx2⟩
                  · cases hx
                rw [← hlen] at hcap ⊢
                refine .sl (sz := ob.sz) hz hcap ?_ ?_ ?_
                · intro y hy
                  obtain ⟨i, hi⟩ := List.getElem?_of_mem hy
                  obtain ⟨x, hx, hx2⟩ := hel i y hi
                  rw [(allSome_get hx2).1]; exact h6 x (List.mem_of_getElem? hx)
                · have : base + (st + xs.length) * ob.sz ≤ base + ob.elems.length * ob.sz := Nat.add_le_add_left (Nat.mul_le_mul_right _ (by omega)) _
                  rw [h4, Nat.add_assoc, ← Nat.add_mul]; omega
                · intro i j y c hi hj
                  obtain ⟨x, hx, hx2⟩ := hel i y hi
                  obtain ⟨c0, hc0, hc1⟩ := (allSome_get hx2).2 j c hj
                  have hvr := h7 (st + i) j x c0 hx hc0
                  rw [show base + st * ob.sz + i * ob.sz + j = base + (st + i) * ob.sz + j by rw [Nat.add_mul]; omega]
                  refine ih _ _ _ hvr hc1 fun o' ho' => hr o' ?_
                  simp only [rchC, hob, List.mem_cons]
                  exact .inr (List.mem_flatMap.2 ⟨x, List.mem_of_getElem? hx, List.mem_flatMap.2 ⟨c0, List.mem_of_getElem? hc0, ho'⟩⟩)
        · rw [if_neg hc] at hp; cases hp
    | ptr o u i off => exact hptr v o u i off x hv hp hr
    | clo1 g o u =>
      cases hv with
      | clo1 hβ =>
        have hp2 : ∃ l, purC objs (n + 1) (.ptr o u 0 0) = some (.pref l) ∧ x = .clo g [.pref l] := by
          simp only [purC] at hp ⊢
          split at hp
          · rename_i ob hob
            split at hp
            · rename_i x0 hx0
              rw [if_pos (Nat.zero_le _)] at hp
              cases hxs : allSome ((x0.drop 0).map (purC objs n)) with
              | none => rw [hxs] at hp; cases hp
              | some l =>
                rw [hxs] at hp
                simp only [Option.map_some, Option.some.injEq] at hp
                exact ⟨l, by rw [if_pos (Nat.zero_le _)]; first | rfl | (rw [hxs]; rfl), hp.symm⟩
            · cases hp
          · cases hp
        obtain ⟨l, hl, rfl⟩ := hp2
        have hk := hptr _ o u 0 0 _ (.ptr hβ) hl (fun q hq => hr q (by simpa only [rchC] using hq))
        refine .clo rfl fun j c hj => ?_
        cases j with
        | zero => simp at hj; subst hj; exact hk
        | succ j => simp at hj

theorem purSV_up {ids : List (Nat × Nat)} {Zf : ZM} (hf : FZ Z β objs w ids Zf) (h : WR fm Z β objs w0 w) (β' : BM) {v : Value} {c : SV} {x : PSV}
    (hv : SR fm Z β v c) (hp : purSV objs c = some x) (hr : ∀ o, o ∈ rchSV objs c → o ∈ ids) : SR fm Zf β' v x.up := by
  cases c with
  | c y =>
    cases hv with
    | c hv =>
      simp only [purSV] at hp
      cases hy : purC objs purDepth y with
      | none => simp [hy] at hp
      | some z =>
        simp [hy] at hp; subst hp
        exact .c (.p (purC_PR hf h _ _ _ _ hv hy fun o ho => hr o (by simpa [rchSV, SV.cells] using ho)))
  | agg cs =>
    cases hv with
    | agg hl hv =>
      simp only [purSV] at hp
      cases hy : allSome (cs.map (purC objs purDepth)) with
      | none => simp [hy] at hp
      | some l =>
        simp [hy] at hp; subst hp
        obtain ⟨hll, hget⟩ := allSome_get hy
        refine .agg (by simp [hl, hll]) fun j c hj => ?_
        simp only [List.getElem?_map] at hj
        cases hlj : l[j]? with
        | none => simp [hlj] at hj
        | some y =>
          simp [hlj] at hj; subst hj
          obtain ⟨c0, hc0, hc1⟩ := hget j y hlj
          refine .p (purC_PR hf h _ _ _ _ (hv j c0 hc0) hc1 fun o ho => hr o ?_)
          exact List.mem_flatMap.2 ⟨c0, List.mem_of_getElem? hc0, ho⟩

theorem VR.p_inv {Z : ZM} {β : BM} {v : Value} {x : PC} (h : VR fm Z β v (.p x)) : PR fm Z v x := by
  generalize hc : C.p x = c at h
  cases h with
  | p h => cases hc; exact h
  | _ => cases hc

theorem purC_pure {c : C} {x : PC} (h : c.pure? = some x) (n : Nat) : purC objs n c = some x ∧ rchC objs n c = [] := by
  cases c with
  | p y => cases n <;> (simp [C.pure?] at h; subst h; exact ⟨by simp [purC], by simp [rchC]⟩)
  | e0 => cases n <;> (simp only [C.pure?, Option.some.injEq] at h; subst h; exact ⟨by simp [purC], by simp [rchC]⟩)
  | _ => simp [C.pure?] at h

theorem purSV_pure {c : SV} {x : PSV} (h : c.pure? = some x) : purSV objs c = some x ∧ rchSV objs c = [] := by
  cases c with
  | c y =>
    simp only [SV.pure?] at h
    cases hy : y.pure? with
    | none => simp [hy] at h
    | some z =>
      obtain ⟨h1, h2⟩ := purC_pure (objs := objs) hy purDepth
      rw [hy] at h
      exact ⟨by simp only [purSV, h1]; exact h, by simp [rchSV, SV.cells, h2]⟩
  | agg cs =>
    simp only [SV.pure?] at h
    cases hl : allSome (cs.map C.pure?) with
    | none => simp [hl] at h
    | some l =>
      have e := allSome_spec hl
      have hall : ∀ c, c ∈ cs → ∃ y, c.pure? = some y := by
        intro c hc
        have : c.pure? ∈ cs.map C.pure? := List.mem_map_of_mem hc
        rw [e] at this
        obtain ⟨y, _, hy⟩ := List.mem_map.1 this
        exact ⟨y, hy.symm⟩
      have e2 : cs.map (purC objs purDepth) = cs.map C.pure? := List.map_congr_left fun c hc => by
        obtain ⟨y, hy⟩ := hall c hc
        rw [hy]; exact (purC_pure hy _).1
      refine ⟨by simp only [purSV, e2, hl]; rw [hl] at h; exact h, ?_⟩
      simp only [rchSV, SV.cells]
      rw [List.flatMap_eq_nil_iff]
      intro c hc
      obtain ⟨y, hy⟩ := hall c hc
      exact (purC_pure hy _).2

theorem purSVs_pure : ∀ {l : List SV} {r : List PSV}, allSome (l.map SV.pure?) = some r → allSome (l.map (purSV objs)) = some r ∧ l.flatMap (rchSV objs) = []
  | [], r, h => ⟨by simpa using h, rfl⟩
  | x :: l, r, h => by
    simp only [List.map_cons] at h
    cases hx : x.pure? with
    | none => simp [hx, allSome] at h
    | some y =>
      simp only [hx, allSome] at h
      cases hl : allSome (l.map SV.pure?) with
      | none => simp [hl] at h
      | some r' =>
        simp only [hl, Option.some.injEq] at h
        subst h
        obtain ⟨h1, h2⟩ := purSVs_pure hl
        obtain ⟨h3, h4⟩ := purSV_pure (objs := objs) hx
        exact ⟨by simp [allSome, h3, h1], by simp [h4, h2]⟩

/-- Scalars hang on no memory. -/
theorem PR.scalar {Z' : ZM} {v : Value} {x : PC} (h : PR fm Z v x) (hs : x.scalar = true) : PR fm Z' v x := by
  cases h with
  | int => exact .int
  | bool => exact .bool
  | str => exact .str
  | sl0 => simp [PC.scalar] at hs
  | sl => simp [PC.scalar] at hs
  | pref => simp [PC.scalar] at hs
  | clo => simp [PC.scalar] at hs

theorem SR.up_any {Z : ZM} {β β' : BM} {v : Value} {x : PSV} (h : SR fm Z β v x.up) : SR fm Z β' v x.up := by
  cases x with
  | c y => cases h with | c h => exact .c (.p h.p_inv)
  | agg cs =>
    cases h with
    | agg hl h =>
      refine .agg hl fun j c hj => ?_
      have := h j c hj
      simp only [List.getElem?_map] at hj
      cases hc : cs[j]? with
      | none => simp [hc] at hj
      | some y => simp [hc] at hj; subst hj; exact .p this.p_inv

theorem SR.up_scalar {Z Z' : ZM} {β β' : BM} {v : Value} {x : PSV} (h : SR fm Z β v x.up) (hs : x.scalar = true) : SR fm Z' β' v x.up := by
  cases x with
  | c y => cases h with | c h => exact .c (.p (h.p_inv.scalar hs))
  | agg cs =>
    cases h with
    | agg hl h =>
      refine .agg hl fun j c hj => ?_
      have := h j c hj
      simp only [List.getElem?_map] at hj
      cases hc : cs[j]? with
      | none => simp [hc] at hj
      | some y =>
        simp [hc] at hj; subst hj
        have hy : y.scalar = true := by
          simp only [PSV.scalar, List.all_eq_true] at hs
          exact hs y (List.mem_of_getElem? hc)
        exact .p (this.p_inv.scalar hy)

theorem AR.up_any {Z : ZM} {β β' : BM} {v : Value} {x : PAV} (h : AR fm Z β v x.up) : AR fm Z β' v x.up := by
  cases x with
  | s y => cases h with | s h => exact .s h.up_any
  | tup l =>
    cases h with
    | tup hl h =>
      refine .tup hl fun j y hj => ?_
      have := h j y hj
      simp only [List.getElem?_map] at hj
      cases hc : l[j]? with
      | none => simp [hc] at hj
      | some z => simp [hc] at hj; subst hj; exact this.up_any

theorem AR.up_scalar {Z Z' : ZM} {β β' : BM} {v : Value} {x : PAV} (h : AR fm Z β v x.up) (hs : x.scalar = true) : AR fm Z' β' v x.up := by
  cases x with
  | s y => cases h with | s h => exact .s (h.up_scalar hs)
  | tup l =>
    cases h with
    | tup hl h =>
      refine .tup hl fun j y hj => ?_
      have := h j y hj
      simp only [List.getElem?_map] at hj
      cases hc : l[j]? with
      | none => simp [hc] at hj
      | some z =>
        simp [hc] at hj; subst hj
        have hz : z.scalar = true := by
          simp only [PAV.scalar, List.all_eq_true] at hs
          exact hs z (List.mem_of_getElem? hc)
        exact this.up_scalar hz

/-- A result, read through the objects of the call that made it. -/
theorem purAV_up {ids : List (Nat × Nat)} {Zf : ZM} (hf : FZ Z β objs w ids Zf) (h : WR fm Z β objs w0 w) (β' : BM) {v : Value} {c : AV} {x : PAV}
    (hv : AR fm Z β v c) (hp : purAV objs c = some x) (hr : ∀ o, o ∈ rchAV objs c → o ∈ ids) : AR fm Zf β' v x.up := by
  cases c with
  | u => simp [purAV] at hp
  | s y =>
    cases hv with
    | s hv =>
      simp only [purAV] at hp
      cases hy : purSV objs y with
      | none => simp [hy] at hp
      | some z =>
        simp [hy] at hp; subst hp
        exact .s (purSV_up hf h β' hv hy hr)
  | tup l =>
    cases hv with
    | tup hl hv =>
      simp only [purAV] at hp
      cases hy : allSome (l.map (purSV objs)) with
      | none => simp [hy] at hp
      | some l' =>
        simp [hy] at hp; subst hp
        obtain ⟨hll, hget⟩ := allSome_get hy
        refine .tup (by simp [hl, hll]) fun j c hj => ?_
        simp only [List.getElem?_map] at hj
        cases hlj : l'[j]? with
        | none => simp [hlj] at hj
        | some y =>
          simp [hlj] at hj; subst hj
          obtain ⟨c0, hc0, hc1⟩ := hget j y hlj
          exact purSV_up hf h β' (hv j c0 hc0) hc1 fun o ho => hr o (List.mem_flatMap.2 ⟨c0, List.mem_of_getElem? hc0, ho⟩)
end Go.Av
namespace Go.Av
open Go

def eqConst : Value → C → Bool
  | .int k n, .p (.int k' n') => k == k' && n == n'
  | .bool b, .p (.bool b') => b == b'
  | .string s, .p (.str s') => s.data == s'.data
  | .slice none 0 0, .e0 => true
  | .pointer none, .nilp => true
  | .map none, .nilm => true
  | _, _ => false

def eqConsts : List Value → List C → Bool
  | [], [] => true
  | v :: vs, c :: cs => eqConst v c && eqConsts vs cs
  | _, _ => false

def opdOK (fm : Nat → Nat) : Operand → Opd → Bool
  | .tmp t, .t n => t == n
  | .const (.agg vs), .ka cs => eqConsts vs.toList cs
  | .const v, .k c => eqConst v c
  | .func f, .fn g => fm g == f
  | _, _ => false

def opdsOK (fm : Nat → Nat) : List Operand → List Opd → Bool
  | [], [] => true
  | x :: xs, y :: ys => opdOK fm x y && opdsOK fm xs ys
  | _, _ => false

def opdOOK (fm : Nat → Nat) : Option Operand → Option Opd → Bool
  | none, none => true
  | some x, some y => opdOK fm x y
  | _, _ => false

def isAggD : TypeDesc → Bool
  | .struct _ | .array _ _ => true
  | _ => false

def tyOK (P : Program) (t : TypeId) (agg : Bool) (sz : Nat) : Bool :=
  match P.info? t, P.underlying t with
  | some i, some d => i.size == sz && isAggD d == agg && (agg || sz == 1)
  | _, _ => false

def sizeOK (P : Program) (t : TypeId) (sz : Nat) : Bool :=
  match P.info? t with
  | some i => i.size == sz
  | none => false

def zeroOK (P : Program) (t : TypeId) (zero : List C) : Bool :=
  match P.info? t with
  | some i => match i.zero with
    | some z => eqConsts z.cells.toList zero
    | none => false
  | none => false

/-- Where the parts of a literal go. -/
def placeOf (P : Program) (t : TypeId) (i : Nat) : Option (Nat × Nat) :=
  match P.underlying t with
  | some (.struct fields) => match fields[i]? with
    | some f => (P.info? f.type).map fun j => (f.offset, j.size)
    | none => none
  | some (.array _ e) => (P.info? e).map fun j => (i * j.size, j.size)
  | _ => none

def partsOK (P : Program) (fm : Nat → Nat) (place : Nat → Option (Nat × Nat)) : List (Nat × Operand) → List (Nat × Nat × Opd) → Bool
  | [], [] => true
  | (i, x) :: xs, (off, sz, y) :: ys => opdOK fm x y && place i == some (off, sz) && partsOK P fm place xs ys
  | _, _ => false

def intTy (P : Program) (t : TypeId) : Option IntKind :=
  match P.underlying t with
  | some (.int k) => some k
  | _ => none

def sliceTy (P : Program) (t : TypeId) : Option TypeId :=
  match P.underlying t with
  | some (.slice e) => some e
  | _ => none

def elemOK (P : Program) (t : TypeId) (sz : Nat) : Bool :=
  match sliceTy P t with
  | some e => sizeOK P e sz
  | none => false

def litZero (P : Program) (e : TypeId) (n sz : Nat) (zero : List C) : Bool :=
  match P.info? e with
  | some i => match i.zero with
    | some z => i.size == sz && n * sz ≤ 16777216 && zero.length == n * sz && (n * sz == 0 || z.cells.size == sz) && (List.range (n * sz)).all fun j => eqConst (z.cells[j % z.cells.size]!) (zero.getD j .e0)
    | none => false
  | none => false

def mapKeyOK (P : Program) (t : TypeId) (str : Option IntKind) : Bool :=
  match P.underlying t with
  | some (.map k _) => match P.underlying k with
    | some (.int j) => str == some j
    | some .string => str == none
    | _ => false
  | _ => false

def mapElem (P : Program) (t : TypeId) : Option TypeId :=
  match P.underlying t with
  | some (.map _ e) => some e
  | _ => none

def zeroSV (P : Program) (t : TypeId) (agg : Bool) (zero : List C) : Bool :=
  match P.info? t with
  | some i => match i.zero with
    | some z => if agg then (match z with
        | .agg vs => eqConsts vs.toList zero
        | _ => false) else (match zero with
        | [c] => eqConst z c
        | _ => false)
    | none => false
  | none => false

def isStrTy (P : Program) (t : TypeId) : Bool :=
  match P.underlying t with
  | some .string => true
  | _ => false

def bytesTy (P : Program) (t : TypeId) : Bool :=
  match P.underlying t with
  | some (.slice e) => (match P.underlying e with
    | some (.int .u8) => true
    | _ => false) && sizeOK P e 1
  | _ => false

def chkOp (P : Program) (fm : Nat → Nat) (o : Op) (a : AOp) : Bool :=
  match a with
  | .mv y => match o with
    | .move x | .assign x => opdOK fm x y
    | _ => false
  | .pick c a b => match o with
    | .pick c' a' b' => opdOK fm c' c && opdOK fm a' a && opdOK fm b' b
    | _ => false
  | .alloc _ zero => match o with
    | .alloc t => zeroOK P t zero
    | _ => false
  | .boxP y => match o with
    | .box _ x => opdOK fm x y
    | _ => false
  | .boxO _ y => match o with
    | .box _ x => opdOK fm x y
    | _ => false
  | .build zero parts => match o with
    | .build t ps => zeroOK P t zero && partsOK P fm (placeOf P t) ps.toList parts && (match P.underlying t with
      | some (.struct fields) => fields.toList.all fun f => (P.info? f.type).isSome
      | some (.array _ e) => (P.info? e).isSome
      | _ => false)
    | _ => false
  | .slP n sz zero parts => match o with
    | .buildSlice t m ps => m == n && (match sliceTy P t with
      | some e => litZero P e n sz zero && partsOK P fm (fun i => some (i * sz, sz)) ps.toList parts
      | none => false)
    | _ => false
  | .slO _ n sz zero parts => match o with
    | .buildSlice t m ps => m == n && (match sliceTy P t with
      | some e => litZero P e n sz zero && partsOK P fm (fun i => some (i * sz, sz)) ps.toList parts
      | none => false)
    | _ => false
  | .nck y => match o with
    | .nilCheck x => opdOK fm x y
    | _ => false
  | .load agg sz y => match o with
    | .load t x => tyOK P t agg sz && opdOK fm x y
    | _ => false
  | .store sz y z => match o with
    | .store t x u => sizeOK P t sz && opdOK fm x y && opdOK fm u z
    | _ => false
  | .bin op y z => match o with
    | .binOp op' _ x u _ => op == op' && opdOK fm x y && opdOK fm u z
    | _ => false
  | .binB op y z => match o with
    | .binOp op' t x u _ => op == op' && opdOK fm x y && opdOK fm u z && (match P.underlying t with
      | some .bool => true
      | _ => false)
    | _ => false
  | .un op y => match o with
    | .unOp op' _ x => op == op' && opdOK fm x y
    | _ => false
  | .conv k y => match o with
    | .convert src dst x => (intTy P src).isSome && intTy P dst == some k && opdOK fm x y
    | _ => false
  | .mk _ sz bytes zero y z => match o with
    | .makeSlice t x u => (match sliceTy P t with
      | some e => sizeOK P e sz && zeroOK P e zero && (match P.info? e with | some i => i.bytes == bytes | none => false)
      | none => false) && opdOK fm x y && opdOK fm u z
    | _ => false
  | .slice sz y lo hi mx => match o with
    | .slice t x lo' hi' mx' => elemOK P t sz && opdOK fm x y && opdOOK fm lo' lo && opdOOK fm hi' hi && opdOOK fm mx' mx
    | _ => false
  | .fa off sz y => match o with
    | .fieldAddr s x f => (match P.underlying s with
      | some (.struct fields) => match fields[f]? with
        | some fl => fl.offset == off && sizeOK P fl.type sz && !(sz == 0)
        | none => false
      | _ => false) && opdOK fm x y
    | _ => false
  | .fld agg off sz y => match o with
    | .field s x f => (match P.underlying s with
      | some (.struct fields) => match fields[f]? with
        | some fl => fl.offset == off && tyOK P fl.type agg sz
        | none => false
      | _ => false) && opdOK fm x y
    | _ => false
  | .ia sz y z => match o with
    | .indexAddr t x i => elemOK P t sz && opdOK fm x y && opdOK fm i z
    | _ => false
  | .iaA n sz y z => match o with
    | .indexAddr t x i => (match P.underlying t with
      | some (.array m e) => m == n && sizeOK P e sz
      | _ => false) && opdOK fm x y && opdOK fm i z
    | _ => false
  | .ext i y => match o with
    | .extract x j => i == j && opdOK fm x y
    | _ => false
  | .len y => match o with
    | .call c => (match c.callee with
      | .builtin .len => (match c.argTypes[0]? with
        | some t => (sliceTy P t).isSome
        | none => false) && opdsOK fm c.args.toList [y]
      | _ => false)
    | _ => false
  | .app _ sz bytes y z => match o with
    | .call c => (match c.callee with
      | .builtin .append => (match c.argTypes.toList with
        | [t, t'] => t == t' && (match sliceTy P t with
          | some e => (match P.info? e with | some i => i.size == sz && i.bytes == bytes && (match i.zero with | some zv => zv.cells.size == sz | none => false) | none => false)
          | none => false)
        | _ => false) && opdsOK fm c.args.toList [y, z]
      | _ => false)
    | _ => false
  | .call g args => match o with
    | .call c => (match c.callee with
      | .value (.func f) => fm g == f && opdsOK fm c.args.toList args
      | _ => false)
    | _ => false
  | .callP g args => match o with
    | .call c => (match c.callee with
      | .value (.func f) => fm g == f && opdsOK fm c.args.toList args
      | _ => false)
    | _ => false
  | .callR _ g args => match o with
    | .call c => (match c.callee with
      | .value (.func f) => fm g == f && opdsOK fm c.args.toList args
      | _ => false)
    | _ => false
  | .callV f args => match o with
    | .call c => (match c.callee with
      | .value f' => opdOK fm f' f && opdsOK fm c.args.toList args
      | _ => false)
    | _ => false
  | .bad => true
  | .minI y z => match o with
    | .call c => (match c.callee with
      | .builtin .min => opdsOK fm c.args.toList [y, z]
      | _ => false)
    | _ => false
  | .loadS _ y => match o with
    | .load t x => tyOK P t false 1 && opdOK fm x y
    | _ => false
  | .maxI y z => match o with
    | .call c => (match c.callee with
      | .builtin .max => opdsOK fm c.args.toList [y, z]
      | _ => false)
    | _ => false
  | .sidx y z => match o with
    | .index t x i => isStrTy P t && opdOK fm x y && opdOK fm i z
    | _ => false
  | .toStr y => match o with
    | .convert src dst x => bytesTy P src && isStrTy P dst && opdOK fm x y
    | _ => false
  | .isNil neg y => match o with
    | .binOp op t x (.const (.slice none 0 0)) _ => op == (if neg then .neq else .eql) && (sliceTy P t).isSome && opdOK fm x y
    | _ => false
  | .mkM _ _ => match o with
    | .makeMap _ r => r.isNone
    | _ => false
  | .lkp str comma agg zero y z => match o with
    | .lookup t x k cm => cm == comma && mapKeyOK P t str && opdOK fm x y && opdOK fm k z && (match mapElem P t with
      | some e => zeroSV P e agg zero
      | none => false)
    | _ => false
  | .updM str y z u => match o with
    | .mapUpdate t x k v => mapKeyOK P t str && opdOK fm x y && opdOK fm k z && opdOK fm v u
    | _ => false
  | .lenM y => match o with
    | .call c => (match c.callee with
      | .builtin .len => (match c.argTypes[0]? with
        | some t => (mapElem P t).isSome
        | none => false) && opdsOK fm c.args.toList [y]
      | _ => false)
    | _ => false
  | .mkfO g caps => match o with
    | .makeFunc fn first captured => (match fn with | .func f => fm g == f | _ => false) && first.size == 0 && opdsOK fm captured.toList caps
    | _ => false
  | .mkf1 g y => match o with
    | .makeFunc fn first captured => (match fn with | .func f => fm g == f | _ => false) && first.size == 0 && opdsOK fm captured.toList [y]
    | _ => false
  | .mkf g caps => match o with
    | .makeFunc fn first captured => (match fn with | .func f => fm g == f | _ => false) && first.size == 0 && opdsOK fm captured.toList caps
    | _ => false
end Go.Av
