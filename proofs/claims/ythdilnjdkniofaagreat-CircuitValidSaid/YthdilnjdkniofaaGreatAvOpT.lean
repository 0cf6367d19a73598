/- The abstract machine of the Av files, eighth part: loads, stores, sums, addresses. No condition. -/
import Derived.Test.YthdilnjdkniofaaGreatAvOpS
namespace Go.Av
open Go Go.RowKit

variable {P : Program} {fm : Nat → Nat} {Z : ZM} {β : BM} {objs : Objs} {w0 w : World} {a : Act} {s : St}

theorem add_none (b off j : Nat) : (⟨b, off, none⟩ : Addr).add j = ⟨b, off + j, none⟩ := by unfold Addr.add; split <;> simp_all

theorem tyOK_spec {t : TypeId} {agg : Bool} {sz : Nat} (h : tyOK P t agg sz = true) : (∀ w, (isAgg t).run P w = .ok agg w) ∧ (∀ w, (sizeOf t).run P w = .ok sz w) ∧ (agg = false → sz = 1) := by
  unfold tyOK at h
  split at h
  · rename_i i d hi hd
    simp only [Bool.and_eq_true, beq_iff_eq, Bool.or_eq_true] at h
    obtain ⟨⟨rfl, rfl⟩, h3⟩ := h
    refine ⟨fun w => ?_, fun w => by simp [sizeOf, typeInfo, hi], fun h => by simpa [h] using h3⟩
    cases d <;> simp [isAgg, run_underlying hd, isAggD]
  · cases h

theorem run_loadAt {t : TypeId} {agg : Bool} {sz b off : Nat} (h : tyOK P t agg sz = true) (f : Nat → Value) (hc : ∀ j, j < sz → w.cell? ⟨b, off + j, none⟩ = some (f j)) :
    (Instr.loadAt t (.pointer (some ⟨b, off, none⟩))).run P w = .ok (if agg then .agg ((List.range sz).map f).toArray else f 0) w := by
  obtain ⟨h1, h2, h3⟩ := tyOK_spec h
  cases agg with
  | true =>
    have := run_loadCells (P := P) w ⟨b, off, none⟩ sz f (fun j hj => by rw [add_none]; exact hc j hj)
    simp [Instr.loadAt, Instr.sureAddr, loadVar, h1, h2, this]
  | false =>
    have h4 := h3 rfl
    have h5 := hc 0 (by omega)
    simp [Instr.loadAt, Instr.sureAddr, loadVar, h1]
    simp only [Nat.add_zero] at h5
    simp [h5]

theorem cell_of {b o : Nat} {cells : Array Value} {e : TypeId} {fz : Nat × Nat} (h : w.heap[b]? = some (.cells cells e fz)) (ho : o < cells.size) :
    w.cell? ⟨b, o, none⟩ = some (cells.getD o undef) := by
  simp [World.cell?, h, ho]

theorem getD_range_map (f : Nat → Value) (n j : Nat) (h : j < n) : (((List.range n).map f).toArray).getD j undef = f j := by
  simp [h]

theorem load_of_cells {t : TypeId} {agg : Bool} {sz b off : Nat} {cs : List C} {v : AV} (h : tyOK P t agg sz = true) (hl : cs.length = sz)
    (hc : ∀ (j : Nat) (c : C), cs[j]? = some c → ∃ x, w.cell? ⟨b, off + j, none⟩ = some x ∧ VR fm Z β x c)
    (hv : (if agg then some (.s (.agg cs)) else (cs[0]?).map fun c => AV.s (.c c)) = some v) :
    ∃ x, (Instr.loadAt t (.pointer (some ⟨b, off, none⟩))).run P w = .ok x w ∧ AR fm Z β x v := by
  have hex : ∀ j, j < sz → w.cell? ⟨b, off + j, none⟩ = some ((w.cell? ⟨b, off + j, none⟩).getD undef) := by
    intro j hj
    obtain ⟨x, hx, -⟩ := hc j (cs[j]'(by omega)) (by simp)
    simp [hx]
  have hr := run_loadAt (P := P) (w := w) (b := b) (off := off) h (fun j => (w.cell? ⟨b, off + j, none⟩).getD undef) hex
  cases agg with
  | true =>
    simp only [if_true, Option.some.injEq] at hv
    subst hv
    refine ⟨_, hr, .s ?_⟩
    simp only [if_true]
    refine .agg (by simp [hl]) fun j c hj => ?_
    have hjl : j < sz := by
      rcases Nat.lt_or_ge j cs.length with h | h
      · omega
      · rw [List.getElem?_eq_none h] at hj; cases hj
    obtain ⟨x, hx, hxr⟩ := hc j c hj
    rw [getD_range_map _ _ _ hjl]
    simpa [hx] using hxr
  | false =>
    have h1 := (tyOK_spec h).2.2 rfl
    simp only [Bool.false_eq_true, if_false] at hv hr
    cases hc0 : cs[0]? with
    | none => simp [hc0] at hv
    | some c =>
      simp [hc0] at hv; subst hv
      obtain ⟨x, hx, hxr⟩ := hc 0 c hc0
      refine ⟨_, hr, .s (.c ?_)⟩
      rw [hx]; exact hxr

theorem sound_load_of {t : TypeId} {x : Operand} {o : Oper} {v : AV} {b off : Nat} (ho : o.op = .load t x) (he : a.eval x = .pointer (some ⟨b, off, none⟩)) (h : WR fm Z β objs w0 w)
    (hr : ∃ y, (Instr.loadAt t (.pointer (some ⟨b, off, none⟩))).run P w = .ok y w ∧ AR fm Z β y v) : OpS fm Z β w0 ((execOp a.eval o).run P w) objs v := by
  obtain ⟨y, h1, h2⟩ := hr
  refine OpS.same (x := y) h ?_ h2
  simp [execOp, ho, he, h1]

theorem PR.pref_inv {v : Value} {cs : List PC} (h : PR fm Z v (.pref cs)) : ∃ b off cells, v = .pointer (some ⟨b, off, none⟩) ∧ Z b = some cells ∧ off + cs.length ≤ cells.size ∧
    ∀ (j : Nat) (c : PC), cs[j]? = some c → PR fm Z (cells.getD (off + j) undef) c := by
  cases h with | pref hz hb hr => exact ⟨_, _, _, rfl, hz, hb, hr⟩

theorem VR.ptr_inv {v : Value} {o u i off : Nat} (h : VR fm Z β v (.ptr o u i off)) : ∃ b base n sz, v = .pointer (some ⟨b, base + i * sz + off, none⟩) ∧ β o u = some (.at_ b base n sz) := by
  cases h with | ptr h => exact ⟨_, _, _, _, rfl, h⟩

theorem VR.rs_inv {v : Value} {o u sz st len : Nat} (h : VR fm Z β v (.rs o u sz st len)) :
    (v = .slice none 0 0 ∧ st = 0 ∧ len = 0 ∧ β o u = some .nil) ∨
    ∃ b base n cap a, v = .slice (some a) len cap ∧ β o u = some (.at_ b base n sz) ∧ len ≤ cap ∧ base + (st + cap) * sz ≤ n ∧ (cap ≠ 0 → a = ⟨b, base + st * sz, none⟩) := by
  cases h with
  | rsn h => exact .inl ⟨rfl, rfl, rfl, h⟩
  | rs h h1 h2 h3 => exact .inr ⟨_, _, _, _, _, rfl, h, h1, h2, h3⟩

theorem lt_of_get {α : Type} {l : List α} {i : Nat} {x : α} (h : l[i]? = some x) : i < l.length := by
  rcases Nat.lt_or_ge i l.length with h' | h'
  · exact h'
  · rw [List.getElem?_eq_none h'] at h; cases h

theorem load_valP {t : TypeId} {agg : Bool} {sz : Nat} {x : Operand} {y : Opd} {cs : List PC} {v : AV} (ht : tyOK P t agg sz = true)
    (hx : opdOK fm x y = true) (hs : SlR fm Z β a s) (h : WR fm Z β objs w0 w) (hy : s.ev y = vp (.pref cs)) (hl : cs.length = sz)
    (hv : (if agg then some (.s (.agg (cs.map C.p))) else (cs[0]?).map fun c => vp c) = some v) :
    ∃ b off, a.eval x = .pointer (some ⟨b, off, none⟩) ∧ ∃ y, (Instr.loadAt t (.pointer (some ⟨b, off, none⟩))).run P w = .ok y w ∧ AR fm Z β y v := by
  have h1 := opdOK_AR hx hs
  rw [hy] at h1
  obtain ⟨b, off, cells, he, hz, hb, hr⟩ := h1.pr.pref_inv
  obtain ⟨e, f, hh⟩ := h.hz b cells hz
  refine ⟨b, off, he, load_of_cells (cs := cs.map C.p) ht (by simpa using hl) (fun j c hj => ?_) ?_⟩
  · simp only [List.getElem?_map] at hj
    cases hc : cs[j]? with
    | none => simp [hc] at hj
    | some c' =>
      simp [hc] at hj; subst hj
      exact ⟨_, cell_of hh (by have := lt_of_get hc; omega), .p (hr j c' hc)⟩
  · rw [← hv]; cases agg
    · simp only [Bool.false_eq_true, if_false, List.getElem?_map, Option.map_map]; rfl
    · simp

theorem sound_loadP {t : TypeId} {agg : Bool} {sz : Nat} {x : Operand} {y : Opd} {cs : List PC} {v : AV} {o : Oper} (ho : o.op = .load t x) (ht : tyOK P t agg sz = true)
    (hx : opdOK fm x y = true) (hs : SlR fm Z β a s) (h : WR fm Z β objs w0 w) (hy : s.ev y = vp (.pref cs)) (hl : cs.length = sz)
    (hv : (if agg then some (.s (.agg (cs.map C.p))) else (cs[0]?).map fun c => vp c) = some v) :
    OpS fm Z β w0 ((execOp a.eval o).run P w) objs v := by
  obtain ⟨b, off, he, hr⟩ := load_valP ht hx hs h hy hl hv
  exact sound_load_of ho he h hr

/-- An object's element, in memory. -/
theorem elem_cells {o u i : Nat} {ob : Obj} {x : List C} {b base n sz : Nat} (h : WR fm Z β objs w0 w) (ho : objs.m o u = some ob) (hβ : β o u = some (.at_ b base n sz))
    (hx : ob.elems[i]? = some x) : ∃ cells e, w.heap[b]? = some (.cells cells e (0, 0)) ∧ cells.size = n ∧ x.length = sz ∧ base + i * sz + sz ≤ n ∧ sz = ob.sz ∧
      ∀ (j : Nat) (c : C), x[j]? = some c → w.cell? ⟨b, base + i * sz + j, none⟩ = some (cells.getD (base + i * sz + j) undef) ∧ VR fm Z β (cells.getD (base + i * sz + j) undef) c := by
  have hor := h.ho o u ob ho
  unfold OR at hor
  simp only [hβ] at hor
  obtain ⟨h1, h2, cells, e, h3, h4, h5, h6, h7, h8⟩ := hor
  have hxl := h6 x (List.mem_of_getElem? hx)
  have hi := lt_of_get hx
  have hm : (i + 1) * sz ≤ ob.elems.length * sz := Nat.mul_le_mul_right _ (by omega)
  rw [Nat.add_mul, Nat.one_mul] at hm
  refine ⟨cells, e, h3, h4, hxl, by omega, h1, fun j c hj => ?_⟩
  have hjl := lt_of_get hj
  exact ⟨cell_of h3 (by omega), h7 i j x c hx hj⟩

theorem load_valO {t : TypeId} {agg : Bool} {sz : Nat} {x : Operand} {y : Opd} {q u i off : Nat} {ob : Obj} {el : List C} {v : AV} (ht : tyOK P t agg sz = true)
    (hx : opdOK fm x y = true) (hs : SlR fm Z β a s) (h : WR fm Z β objs w0 w) (hy : s.ev y = .s (.c (.ptr q u i off))) (hob : objs.m q u = some ob) (hel : ob.elems[i]? = some el)
    (hle : off + sz ≤ el.length) (hv : (if agg then some (.s (.agg ((el.drop off).take sz))) else (el[off]?).map fun c => AV.s (.c c)) = some v) :
    ∃ b off, a.eval x = .pointer (some ⟨b, off, none⟩) ∧ ∃ y, (Instr.loadAt t (.pointer (some ⟨b, off, none⟩))).run P w = .ok y w ∧ AR fm Z β y v := by
  have h1 := opdOK_AR hx hs
  rw [hy] at h1
  obtain ⟨b, base, n, sz', he, hβ⟩ := h1.vr.ptr_inv
  have ho1 := hob
  obtain ⟨cells, e, k1, k2, k3, k4, k5, k6⟩ := elem_cells h ho1 hβ hel
  refine ⟨_, _, he, load_of_cells (cs := (el.drop off).take sz) ht (by simp; omega) (fun j c hj => ?_) ?_⟩
  · have hjl := lt_of_get hj
    simp at hjl
    rw [List.getElem?_take_of_lt (by omega), List.getElem?_drop] at hj
    have := k6 (off + j) c hj
    rw [show base + i * sz' + off + j = base + i * sz' + (off + j) by omega]
    exact ⟨_, this⟩
  · rw [← hv]
    cases agg with
    | true => simp
    | false =>
      have h1 := (tyOK_spec ht).2.2 rfl
      subst h1
      simp only [Bool.false_eq_true, if_false]
      congr 1
      rw [List.getElem?_take_of_lt (by omega), List.getElem?_drop, Nat.add_zero]

theorem sound_loadO {t : TypeId} {agg : Bool} {sz : Nat} {x : Operand} {y : Opd} {q u i off : Nat} {ob : Obj} {el : List C} {v : AV} {o : Oper} (ho : o.op = .load t x) (ht : tyOK P t agg sz = true)
    (hx : opdOK fm x y = true) (hs : SlR fm Z β a s) (h : WR fm Z β objs w0 w) (hy : s.ev y = .s (.c (.ptr q u i off))) (hob : objs.m q u = some ob) (hel : ob.elems[i]? = some el)
    (hle : off + sz ≤ el.length) (hv : (if agg then some (.s (.agg ((el.drop off).take sz))) else (el[off]?).map fun c => AV.s (.c c)) = some v) :
    OpS fm Z β w0 ((execOp a.eval o).run P w) objs v := by
  obtain ⟨b, off', he, hr⟩ := load_valO ht hx hs h hy hob hel hle hv
  exact sound_load_of ho he h hr

theorem sizeOK_spec {t : TypeId} {sz : Nat} (h : sizeOK P t sz = true) : ∀ w, (sizeOf t).run P w = .ok sz w := by
  unfold sizeOK at h
  split at h
  · rename_i i hi
    simp only [beq_iff_eq] at h
    intro w; simp [sizeOf, typeInfo, hi, h]
  · cases h

theorem sound_store {t : TypeId} {sz : Nat} {x vx : Operand} {y vy : Opd} {q u i off : Nat} {ob : Obj} {el cs : List C} {o : Oper} (ho : o.op = .store t x vx) (ht : sizeOK P t sz = true)
    (hx : opdOK fm x y = true) (hvx : opdOK fm vx vy = true) (hs : SlR fm Z β a s) (h : WR fm Z β objs w0 w) (hy : s.ev y = .s (.c (.ptr q u i off))) (hcs : (s.ev vy).cells? = some cs)
    (hob : objs.m q u = some ob) (hel : ob.elems[i]? = some el) (hfz : ob.frozen = false) (hl : cs.length = sz) (hle : off + sz ≤ el.length) :
    OpS fm Z β w0 ((execOp a.eval o).run P w) (objs.set q u (some { ob with elems := ob.elems.set i (setAt el off cs) })) (.tup []) := by
  have h1 := opdOK_AR hx hs
  rw [hy] at h1
  obtain ⟨b, base, n, sz', he, hβ⟩ := h1.vr.ptr_inv
  have ho1 := hob
  obtain ⟨cells, e, k1, k2, k3, k4, k5, k6⟩ := elem_cells h ho1 hβ hel
  obtain ⟨g1, g2⟩ := AV.cells?_inv (opdOK_AR hvx hs) hcs
  have hone : ∀ v ∈ (a.eval vx).cells.toList, v.oneCell' = true := by
    intro v hv
    obtain ⟨j, hj⟩ := List.getElem?_of_mem hv
    have hjl := lt_of_get hj
    have hg := g2 j (cs[j]'(by simp at hjl; omega)) (by simp)
    have hj' : (a.eval vx).cells[j]? = some v := by simpa using hj
    simp only [Array.getD_eq_getD_getElem?, hj', Option.getD_some] at hg
    exact hg.oneCell.1
  have hrun := run_storeCells_at (P := P) b (base + i * sz' + off) e (a.eval vx).cells.toList 0 cells w k1 (by simp; omega) hone
  let cells' := (cells.toList.take (base + i * sz' + off + 0) ++ (a.eval vx).cells.toList ++ cells.toList.drop (base + i * sz' + off + 0 + (a.eval vx).cells.toList.length)).toArray
  have hcells : cells'.toList = setAt cells.toList (base + i * sz' + off) (a.eval vx).cells.toList := by simp [cells', setAt]
  have hsize : cells'.size = n := by
    have := congrArg List.length hcells
    rw [length_setAt (by simp; omega)] at this
    simpa [k2] using this
  have hget : ∀ j : Nat, cells'.getD j undef = if j < base + i * sz' + off then cells.getD j undef else if j < base + i * sz' + off + sz then (a.eval vx).cells.getD (j - (base + i * sz' + off)) undef else cells.getD j undef := by
    intro j
    have e1 : cells'.getD j undef = (cells'.toList[j]?).getD undef := by simp
    rw [e1, hcells, getElem?_setAt (by simp; omega)]
    simp only [Array.length_toList, g1, hl]
    split
    · simp
    · split <;> simp
  have hobs := h.ho q u ob ho1
  unfold OR at hobs
  simp only [hβ] at hobs
  obtain ⟨m1, m2, old, e', m3, m4, m5, m6, m7, m8⟩ := hobs
  rw [k1] at m3; cases m3
  have hil := lt_of_get hel
  have hw := h.setObj ho1 hβ hfz (ob.elems.set i (setAt el off cs)) cells' hsize (by simpa using m5) (by
      intro x hx
      rw [List.mem_iff_getElem?] at hx
      obtain ⟨k, hk⟩ := hx
      rw [List.getElem?_set] at hk
      simp only [hil, if_true] at hk
      split at hk
      · cases hk; rw [length_setAt (by omega)]; exact k3
      · exact m6 x (List.mem_of_getElem? hk)) (by
      intro k j x c hk hj
      rw [List.getElem?_set] at hk
      rw [hget]
      by_cases hik : i = k
      · subst hik
        rw [if_pos rfl, if_pos hil] at hk
        cases hk
        rw [getElem?_setAt (by omega)] at hj
        by_cases b1 : j < off
        · rw [if_pos b1] at hj
          rw [if_pos (by omega)]
          exact m7 i j el c hel hj
        · rw [if_neg b1] at hj
          rw [if_neg (by omega)]
          by_cases b2 : j < off + cs.length
          · rw [if_pos b2] at hj
            rw [if_pos (by omega), show base + i * sz' + j - (base + i * sz' + off) = j - off by omega]
            exact g2 _ c hj
          · rw [if_neg b2] at hj
            rw [if_neg (by omega)]
            exact m7 i j el c hel hj
      · rw [if_neg hik] at hk
        have hjl := lt_of_get hj
        have hxl := m6 x (List.mem_of_getElem? hk)
        have : base + k * sz' + j < base + i * sz' + off ∨ base + i * sz' + off + sz ≤ base + k * sz' + j := by
          rcases Nat.lt_or_gt_of_ne hik with hlt | hlt
          · right
            have : (i + 1) * sz' ≤ k * sz' := Nat.mul_le_mul_right _ (by omega)
            rw [Nat.add_mul, Nat.one_mul] at this
            omega
          · left
            have : (k + 1) * sz' ≤ i * sz' := Nat.mul_le_mul_right _ (by omega)
            rw [Nat.add_mul, Nat.one_mul] at this
            omega
        rcases this with hlt | hge
        · rw [if_pos hlt]; exact m7 k j x c hk hj
        · rw [if_neg (by omega), if_neg (by omega)]; exact m7 k j x c hk hj)
  refine ⟨undef, w.setRow b cells', Z, β, .inr ⟨?_, rfl⟩, ZExt.refl _ _, BExt.refl _, hw, .tup rfl fun j x hj => by simp at hj⟩
  have hsz := sizeOK_spec (P := P) ht w
  have hne : ¬ ((a.eval vx).cells.size ≠ sz) := by omega
  simp only [execOp, ho, he, Instr.storeAt, Instr.sureAddr, storeVar, Sem.run_bind, Sem.run_pure, Result.andThen_ok, hsz, if_neg hne, hrun]
  rfl
end Go.Av
