/- The abstract machine of the Av files, seventh part: each operation of the machine's does what the abstract one does. No condition. -/
import Derived.Test.YthdilnjdkniofaaGreatAvMem
import Derived.Laws.MakeOwn
import Derived.Laws.Append
import Derived.Laws.Slices
namespace Go.Av
open Go Go.RowKit

variable {P : Program} {fm : Nat → Nat} {Z : ZM} {β : BM} {objs : Objs} {w0 w : World} {a : Act} {s : St}

def SlR (fm : Nat → Nat) (Z : ZM) (β : BM) (a : Act) (s : St) : Prop := ∀ t, AR fm Z β (a.tmps.getD t undef) (s.slots t)

theorem eqConst_VR {v : Value} {c : C} (h : eqConst v c = true) : VR fm Z β v c := by
  unfold eqConst at h
  split at h
  · simp only [Bool.and_eq_true, beq_iff_eq] at h
    obtain ⟨rfl, rfl⟩ := h
    exact .p .int
  · simp only [beq_iff_eq] at h
    subst h; exact .p .bool
  · simp only [beq_iff_eq] at h
    rename_i x y
    cases x; cases y; simp at h; subst h; exact .p .str
  · exact .e0
  · exact .nilp
  · exact .nilm
  · cases h

theorem eqConsts_VR : ∀ {vs : List Value} {cs : List C}, eqConsts vs cs = true → vs.length = cs.length ∧ ∀ (j : Nat) (c : C), cs[j]? = some c → ∃ v, vs[j]? = some v ∧ VR fm Z β v c
  | [], [], _ => ⟨rfl, fun j c h => by simp at h⟩
  | v :: vs, c :: cs, h => by
    simp only [eqConsts, Bool.and_eq_true] at h
    obtain ⟨hl, ih⟩ := eqConsts_VR (vs := vs) (cs := cs) h.2
    refine ⟨by simp [hl], fun j x hx => ?_⟩
    cases j with
    | zero => simp at hx; subst hx; exact ⟨v, by simp, eqConst_VR h.1⟩
    | succ j => simp at hx; obtain ⟨v', h1, h2⟩ := ih j x hx; exact ⟨v', by simpa using h1, h2⟩
  | [], _ :: _, h => by simp [eqConsts] at h
  | _ :: _, [], h => by simp [eqConsts] at h

theorem opdOK_AR {x : Operand} {y : Opd} (h : opdOK fm x y = true) (hs : SlR fm Z β a s) : AR fm Z β (a.eval x) (s.ev y) := by
  unfold opdOK at h
  split at h
  · simp only [beq_iff_eq] at h; subst h; exact hs _
  · rename_i vs cs
    obtain ⟨hl, hg⟩ := eqConsts_VR (fm := fm) (Z := Z) (β := β) h
    refine .s (.agg (by simpa using hl) fun j c hj => ?_)
    obtain ⟨v, h1, h2⟩ := hg j c hj
    have : vs.getD j undef = v := by
      have : vs[j]? = some v := by simpa using h1
      simp [this]
    rw [this]; exact h2
  · exact .s (.c (eqConst_VR h))
  · simp only [beq_iff_eq] at h; subst h
    exact .s (.c (.p (.clo (by simp) fun j c hj => by simp at hj)))
  · cases h

/-- What is to be shown of one operation. -/
def OpS (fm : Nat → Nat) (Z : ZM) (β : BM) (w0 : World) (run : Result Next) (objs' : Objs) (v : AV) : Prop :=
  ∃ x w' Z' β', (run = .ok (.value x) w' ∨ (run = .ok .skip w' ∧ x = undef)) ∧ ZExt w0.heap.size Z Z' ∧ BExt β β' ∧ WR fm Z' β' objs' w0 w' ∧ AR fm Z' β' x v

theorem OpS.same {run : Result Next} {v : AV} {x : Value} (h : WR fm Z β objs w0 w) (hr : run = .ok (.value x) w) (hv : AR fm Z β x v) :
    OpS fm Z β w0 run objs v := ⟨x, w, Z, β, .inl hr, ZExt.refl _ _, BExt.refl _, h, hv⟩

theorem AR.sv {v : Value} {x : SV} (h : AR fm Z β v (.s x)) : SR fm Z β v x := by cases h with | s h => exact h
theorem SR.vr {v : Value} {x : C} (h : SR fm Z β v (.c x)) : VR fm Z β v x := by cases h with | c h => exact h
theorem AR.vr {v : Value} {x : C} (h : AR fm Z β v (.s (.c x))) : VR fm Z β v x := h.sv.vr
theorem AR.pr {v : Value} {x : PC} (h : AR fm Z β v (.s (.c (.p x)))) : PR fm Z v x := h.vr.p_inv
theorem PR.int_inv {v : Value} {k : IntKind} {n : Int} (h : PR fm Z v (.int k n)) : v = .int k n := by cases h; rfl
theorem PR.bool_inv {v : Value} {b : Bool} (h : PR fm Z v (.bool b)) : v = .bool b := by cases h; rfl

theorem AV.int?_inv {v : Value} {x : AV} {n : Int} (h : AR fm Z β v x) (hn : x.int? = some n) : ∃ k, v = .int k n := by
  unfold AV.int? at hn
  split at hn
  · cases hn; exact ⟨_, h.pr.int_inv⟩
  · cases hn

theorem AV.cells?_inv {v : Value} {x : AV} {cs : List C} (h : AR fm Z β v x) (hn : x.cells? = some cs) :
    v.cells.size = cs.length ∧ ∀ j c, cs[j]? = some c → VR fm Z β (v.cells.getD j undef) c := by
  unfold AV.cells? at hn
  split at hn
  · cases hn; exact h.sv.cells
  · cases hn

theorem VR.e0_inv {v : Value} (h : VR fm Z β v .e0) : ∃ b, v = .slice b 0 0 := by cases h; exact ⟨_, rfl⟩

theorem pureCells {cs : List C} {l : List PC} {vs : Array Value} (h : allSome (cs.map C.pure?) = some l) (hl : vs.size = cs.length)
    (hv : ∀ j c, cs[j]? = some c → VR fm Z β (vs.getD j undef) c) : l.length = vs.size ∧ ∀ j x, l[j]? = some x → PR fm Z (vs.getD j undef) x := by
  obtain ⟨h1, h2⟩ := allSome_get h
  refine ⟨by omega, fun j x hx => ?_⟩
  obtain ⟨c, hc, hp⟩ := h2 j x hx
  have := hv j c hc
  cases c with
  | p y => simp [C.pure?] at hp; subst hp; exact this.p_inv
  | e0 =>
    simp only [C.pure?, Option.some.injEq] at hp; subst hp
    obtain ⟨b, hb⟩ := this.e0_inv
    rw [hb]; exact .sl0
  | _ => simp [C.pure?] at hp

theorem run_val (x : Sem Value) {v : Value} {w w' : World} (h : x.run P w = .ok v w') : (do pure (Next.value (← x)) : Sem Next).run P w = .ok (.value v) w' := by
  simp [h]

theorem sound_mv {x : Operand} {y : Opd} {o : Oper} (ho : o.op = .move x ∨ o.op = .assign x) (hx : opdOK fm x y = true) (hs : SlR fm Z β a s) (h : WR fm Z β s.objs w0 w) :
    OpS fm Z β w0 ((execOp a.eval o).run P w) s.objs (s.ev y) := by
  refine OpS.same (x := a.eval x) h ?_ (opdOK_AR hx hs)
  rcases ho with ho | ho <;> simp [execOp, ho]

theorem sound_pick {c x y : Operand} {c' x' y' : Opd} {o : Oper} {t : Bool} (ho : o.op = .pick c x y) (hc : opdOK fm c c' = true) (hx : opdOK fm x x' = true)
    (hy : opdOK fm y y' = true) (hs : SlR fm Z β a s) (h : WR fm Z β s.objs w0 w) (ht : s.ev c' = vb t) :
    OpS fm Z β w0 ((execOp a.eval o).run P w) s.objs (if t then s.ev x' else s.ev y') := by
  have h1 := opdOK_AR hc hs
  rw [ht] at h1
  have h1 := h1.pr.bool_inv
  refine OpS.same (x := if t then a.eval x else a.eval y) h ?_ ?_
  · simp [execOp, ho, h1, asBool]
  · cases t
    · exact opdOK_AR hy hs
    · exact opdOK_AR hx hs

theorem sound_newVar {v : Value} {t : TypeId} {cs : List C} (id : Nat) (h : WR fm Z β objs w0 w) (hl : v.cells.size = cs.length)
    (hv : ∀ j c, cs[j]? = some c → VR fm Z β (v.cells.getD j undef) c) {x : Sem Next}
    (hx : x.run P w = .ok (.value (.pointer (some ⟨w.heap.size, 0, none⟩))) (w.alloc (.cells v.cells t))) :
    OpS fm Z β w0 (x.run P w) (newObj objs id cs.length [cs]).1 (.s (.c (.ptr id (newObj objs id cs.length [cs]).2 0 0))) := by
  obtain ⟨β', h1, h2, h3⟩ := h.newObj id cs.length [cs] v.cells t (by simp [hl]) (by simp) (by
    intro i j x c hi hj
    cases i with
    | zero => simp at hi; subst hi; simpa using hv j c hj
    | succ i => simp at hi)
  refine ⟨_, _, Z, β', .inl hx, ZExt.refl _ _, h1, h2, .s (.c ?_)⟩
  have h4 := VR.ptr (fm := fm) (Z := Z) (i := 0) (off := 0) h3
  rw [show 0 + 0 * cs.length + 0 = 0 by omega] at h4
  exact h4

theorem zeroOK_spec {t : TypeId} {zero : List C} (h : zeroOK P t zero = true) : ∃ i z, P.info? t = some i ∧ i.zero = some z ∧ z.cells.size = zero.length ∧
    ∀ j c, zero[j]? = some c → VR fm Z β (z.cells.getD j undef) c := by
  unfold zeroOK at h
  split at h
  · rename_i i hi
    split at h
    · rename_i z hz
      obtain ⟨hl, hg⟩ := eqConsts_VR (fm := fm) (Z := Z) (β := β) h
      refine ⟨i, z, hi, hz, by simpa using hl, fun j c hj => ?_⟩
      obtain ⟨v, h1, h2⟩ := hg j c hj
      have h1 : z.cells[j]? = some v := by simpa using h1
      simpa [h1] using h2
    · cases h
  · cases h

theorem sound_alloc {t : TypeId} {zero : List C} {o : Oper} (id : Nat) (ho : o.op = .alloc t) (hz : zeroOK P t zero = true) (h : WR fm Z β objs w0 w) :
    OpS fm Z β w0 ((execOp a.eval o).run P w) (newObj objs id zero.length [zero]).1 (.s (.c (.ptr id (newObj objs id zero.length [zero]).2 0 0))) := by
  obtain ⟨i, z, hi, hzz, hl, hv⟩ := zeroOK_spec (fm := fm) (Z := Z) (β := β) hz
  refine sound_newVar (t := t) (v := z) id h hl hv ?_
  simp [execOp, ho, Instr.alloc, zeroValue, typeInfo, hi, hzz, newVar, newRow]

theorem sound_boxO {t : TypeId} {x : Operand} {y : Opd} {cs : List C} {o : Oper} (id : Nat) (ho : o.op = .box t x) (hx : opdOK fm x y = true) (hs : SlR fm Z β a s)
    (h : WR fm Z β objs w0 w) (hc : (s.ev y).cells? = some cs) :
    OpS fm Z β w0 ((execOp a.eval o).run P w) (newObj objs id cs.length [cs]).1 (.s (.c (.ptr id (newObj objs id cs.length [cs]).2 0 0))) := by
  obtain ⟨hl, hv⟩ := AV.cells?_inv (opdOK_AR hx hs) hc
  refine sound_newVar (t := t) (v := a.eval x) id h hl hv ?_
  simp [execOp, ho, Instr.box, newVar, newRow]

theorem sound_boxP {t : TypeId} {x : Operand} {y : Opd} {cs : List C} {l : List PC} {o : Oper} (ho : o.op = .box t x) (hx : opdOK fm x y = true) (hs : SlR fm Z β a s)
    (h : WR fm Z β objs w0 w) (hc : (s.ev y).cells? = some cs) (hp : allSome (cs.map C.pure?) = some l) :
    OpS fm Z β w0 ((execOp a.eval o).run P w) objs (vp (.pref l)) := by
  obtain ⟨hl, hv⟩ := AV.cells?_inv (opdOK_AR hx hs) hc
  obtain ⟨h1, h2⟩ := pureCells hp hl hv
  obtain ⟨h3, h4⟩ := h.pureAlloc (a.eval x).cells t
  refine ⟨.pointer (some ⟨w.heap.size, 0, none⟩), _, _, β, .inl ?_, h4.mono h.below.size, BExt.refl _, h3, .s (.c (.p ?_))⟩
  · simp [execOp, ho, Instr.box, newVar, newRow]
  · refine .pref (upd_self _ _ _) (by omega) fun j c hj => ?_
    rw [Nat.zero_add]
    exact (h2 j c hj).mono h4.old

theorem length_setAt {α : Type} {l cs : List α} {off : Nat} (h : off + cs.length ≤ l.length) : (setAt l off cs).length = l.length := by
  simp [setAt]; omega

theorem getElem?_setAt {α : Type} {l cs : List α} {off j : Nat} (h : off + cs.length ≤ l.length) :
    (setAt l off cs)[j]? = if j < off then l[j]? else if j < off + cs.length then cs[j - off]? else l[j]? := by
  unfold setAt
  by_cases h1 : j < off
  · rw [if_pos h1, List.append_assoc, List.getElem?_append_left (by simp; omega), List.getElem?_take_of_lt h1]
  · rw [if_neg h1]
    by_cases h2 : j < off + cs.length
    · rw [if_pos h2, List.append_assoc, List.getElem?_append_right (by simp; omega), List.getElem?_append_left (by simp; omega)]
      congr 1; simp; omega
    · rw [if_neg h2, List.append_assoc, List.getElem?_append_right (by simp; omega), List.getElem?_append_right (by simp; omega), List.getElem?_drop]
      congr 1; simp; omega

/-- One part laid into cells, in the machine and here. -/
theorem fold_set (v : Value) (off : Nat) : ∀ (vs : List Value) (k : Nat) (cells : Array Value), off + k + vs.length ≤ cells.size →
    ((vs.zipIdx k).foldl (fun cs (c, j) => cs.setIfInBounds (off + j) c) cells).toList = setAt cells.toList (off + k) vs
  | [], k, cells, _ => by simp [setAt]
  | x :: vs, k, cells, h => by
    simp only [List.zipIdx_cons, List.foldl_cons]
    rw [fold_set v off vs (k + 1) _ (by simp at h ⊢; omega)]
    apply List.ext_getElem?
    intro j
    simp only [List.length_cons] at h
    rw [getElem?_setAt (by simp; omega), getElem?_setAt (by simp; omega)]
    simp only [Array.toList_setIfInBounds, List.getElem?_set, Array.length_toList, List.length_cons]
    by_cases h1 : j < off + k
    · rw [if_pos (by omega), if_neg (by omega), if_pos h1]
    · by_cases h2 : j = off + k
      · subst h2
        rw [if_pos (by omega), if_pos (by omega), if_pos (by omega), if_neg (by omega), if_pos (by omega)]
        simp
      · rw [if_neg (by omega), if_neg h1]
        by_cases h3 : j < off + k + (vs.length + 1)
        · rw [if_pos (by omega), if_pos h3, show j - (off + k) = (j - (off + (k + 1))) + 1 by omega]; simp
        · rw [if_neg (by omega), if_neg h3, if_neg (by omega)]

theorem partsOf_fill {place : Nat → Option (Nat × Nat)} (hs : SlR fm Z β a s) : ∀ (ps : List (Nat × Operand)) (qs : List (Nat × Nat × Opd)) (l : List (Nat × List C)) (cells : Array Value) (zero cs : List C),
    partsOK P fm place ps qs = true → partsOf s qs = some l → fillA zero l = some cs → cells.size = zero.length →
    (∀ j c, zero[j]? = some c → VR fm Z β (cells.getD j undef) c) →
    ∃ cells', Instr.fill place cells (ps.map fun (i, x) => (i, a.eval x)) = some cells' ∧ cells'.size = cs.length ∧ ∀ j c, cs[j]? = some c → VR fm Z β (cells'.getD j undef) c
  | [], [], l, cells, zero, cs, _, hl, hf, hn, hv => by
    simp [partsOf] at hl; subst hl
    simp [fillA] at hf; subst hf
    exact ⟨cells, by simp [Instr.fill], hn, hv⟩
  | [], _ :: _, _, _, _, _, h, _, _, _, _ => by simp [partsOK] at h
  | _ :: _, [], _, _, _, _, h, _, _, _, _ => by simp [partsOK] at h
  | (i, x) :: ps, (off, sz, y) :: qs, l, cells, zero, cs, h, hl, hf, hn, hv => by
    simp only [partsOK, Bool.and_eq_true, beq_iff_eq] at h
    obtain ⟨⟨h1, h2⟩, h3⟩ := h
    simp only [partsOf] at hl
    cases hc : (s.ev y).cells? with
    | none => simp [hc] at hl
    | some cy =>
      cases hr : partsOf s qs with
      | none => simp [hc, hr] at hl
      | some lr =>
        simp only [hc, hr] at hl
        by_cases hsz : cy.length = sz
        · rw [if_pos hsz] at hl
          cases hl
          simp only [fillA] at hf
          by_cases hle : off + cy.length ≤ zero.length
          · rw [if_pos hle] at hf
            obtain ⟨g1, g2⟩ := AV.cells?_inv (opdOK_AR h1 hs) hc
            have hfs := fold_set undef off (a.eval x).cells.toList 0 cells (by simp; omega)
            have hz : ((a.eval x).cells.zipIdx.foldl (fun cs (c, j) => cs.setIfInBounds (off + j) c) cells) = (setAt cells.toList off (a.eval x).cells.toList).toArray := by
              apply Array.ext'
              rw [← Array.foldl_toList, Array.toList_zipIdx]
              simpa using hfs
            obtain ⟨cells', k1, k2, k3⟩ := partsOf_fill hs ps qs lr (setAt cells.toList off (a.eval x).cells.toList).toArray (setAt zero off cy) cs h3 hr hf
              (by simp only [List.size_toArray]; rw [length_setAt (by simp; omega), length_setAt hle]; simpa using hn) (by
                intro j c hj
                rw [getElem?_setAt hle] at hj
                have e : (setAt cells.toList off (a.eval x).cells.toList).toArray.getD j undef = ((setAt cells.toList off (a.eval x).cells.toList)[j]?).getD undef := by simp
                rw [e, getElem?_setAt (by simp; omega)]
                simp only [Array.length_toList, g1]
                by_cases b1 : j < off
                · rw [if_pos b1] at hj ⊢; simpa using hv j c hj
                · rw [if_neg b1] at hj ⊢
                  by_cases b2 : j < off + cy.length
                  · rw [if_pos b2] at hj ⊢; simpa using g2 _ c hj
                  · rw [if_neg b2] at hj ⊢; simpa using hv j c hj)
            refine ⟨cells', ?_, k2, k3⟩
            simp only [List.map_cons, Instr.fill, h2]
            have hcond : ¬ ((a.eval x).cells.size ≠ sz ∨ off + (a.eval x).cells.size > cells.size) := by omega
            rw [if_neg (by simpa using hcond)]
            exact (congrArg (fun z => Instr.fill place z _) hz).trans k1
          · rw [if_neg hle] at hf; cases hf
        · rw [if_neg hsz] at hl; cases hl

theorem mapM_places {w : World} : ∀ (fs : List Field), (fs.all fun f => (P.info? f.type).isSome) = true →
    ∃ places, fs.mapM (fun f => (P.info? f.type).map fun i => (f.offset, i.size)) = some places ∧ ∀ (i : Nat) (f : Field), fs[i]? = some f → places[i]? = (P.info? f.type).map fun j => (f.offset, j.size)
  | [], _ => ⟨[], by simp, fun i f h => by simp at h⟩
  | f :: fs, h => by
    simp only [List.all_cons, Bool.and_eq_true] at h
    obtain ⟨ps, h1, h2⟩ := mapM_places (w := w) fs h.2
    obtain ⟨i, hi⟩ := Option.isSome_iff_exists.1 h.1
    refine ⟨(f.offset, i.size) :: ps, by simp [hi, h1], fun k g hk => ?_⟩
    cases k with
    | zero => simp at hk; subst hk; simp [hi]
    | succ k => simpa using h2 k g (by simpa using hk)

theorem fill_place {p q : Nat → Option (Nat × Nat)} : ∀ (l : List (Nat × Value)) (cells : Array Value) (cells' : Array Value), (∀ i, (p i).isSome → p i = q i) →
    Instr.fill p cells l = some cells' → Instr.fill q cells l = some cells'
  | [], _, _, _, h => by simpa [Instr.fill] using h
  | (i, v) :: l, cells, cells', hpq, h => by
    simp only [Instr.fill] at h ⊢
    cases hp : p i with
    | none => simp [hp] at h
    | some x =>
      rw [← hpq i (by simp [hp]), hp]
      simp only [hp] at h ⊢
      split at h
      · cases h
      · rename_i hc
        rw [if_neg hc]
        exact fill_place l _ _ hpq h

theorem sound_build {t : TypeId} {ps : Array (Nat × Operand)} {zero cs : List C} {parts : List (Nat × Nat × Opd)} {l : List (Nat × List C)} {o : Oper} (ho : o.op = .build t ps)
    (hz : zeroOK P t zero = true) (hp : partsOK P fm (placeOf P t) ps.toList parts = true)
    (ht : (match P.underlying t with
      | some (.struct fields) => fields.toList.all fun f => (P.info? f.type).isSome
      | some (.array _ e) => (P.info? e).isSome
      | _ => false) = true) (hs : SlR fm Z β a s) (h : WR fm Z β objs w0 w) (hl : partsOf s parts = some l) (hf : fillA zero l = some cs) :
    OpS fm Z β w0 ((execOp a.eval o).run P w) objs (.s (.agg cs)) := by
  obtain ⟨i, z, hi, hzz, hzl, hv⟩ := zeroOK_spec (fm := fm) (Z := Z) (β := β) hz
  obtain ⟨cells', k1, k2, k3⟩ := partsOf_fill hs ps.toList parts l z.cells zero cs hp hl hf hzl hv
  have hb : P.built t (ps.toList.map fun (i, x) => (i, a.eval x)) = some cells' := by
    unfold Program.built
    cases hu : P.underlying t with
    | none => simp [hu] at ht
    | some d =>
      cases d <;> simp only [hu, Bool.false_eq_true] at ht
      case array n e =>
        cases he : P.info? e with
        | none => simp [he] at ht
        | some ie =>
          simp only [hi, hzz, he]
          exact fill_place (p := placeOf P t) _ _ _ (fun i _ => by simp [placeOf, hu, he]) k1
      case struct fields =>
        obtain ⟨places, q1, q2⟩ := mapM_places (P := P) (w := w) fields.toList ht
        simp only [hi, hzz, q1]
        refine fill_place (p := placeOf P t) _ _ _ (fun i hs => ?_) k1
        cases hfi : fields[i]? with
        | none => simp [placeOf, hu, hfi] at hs
        | some f =>
          have := q2 i f (by simpa using hfi)
          simp [placeOf, hu, hfi, this]
  refine OpS.same (x := .agg cells') h ?_ (.s (.agg k2 k3))
  have := run_build (P := P) w t (ps.map fun (i, x) => (i, a.eval x)) cells' (by simpa using hb)
  simp [execOp, ho, this]
end Go.Av
