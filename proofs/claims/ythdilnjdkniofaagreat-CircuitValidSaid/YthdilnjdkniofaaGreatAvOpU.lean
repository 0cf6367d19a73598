/- The abstract machine of the Av files, ninth part: arithmetic, new rows, slicing, addresses, append. No condition. -/
import Derived.Test.YthdilnjdkniofaaGreatAvOpT
import Derived.Laws.OwnMore
namespace Go.Av
open Go Go.RowKit

variable {P : Program} {fm : Nat → Nat} {Z : ZM} {β : BM} {objs : Objs} {w0 w : World} {a : Act} {s : St}

theorem run_eqGuard_int (op : BinOp) (t : TypeId) (x y : Operand) (k k' : IntKind) (m n : Int) : (eqGuard op t x y (.int k m) (.int k' n)).run P w = .ok () w := by
  unfold eqGuard
  split <;> simp

theorem run_eqGuard_bool (op : BinOp) (t : TypeId) (x y : Operand) (m n : Bool) : (eqGuard op t x y (.bool m) (.bool n)).run P w = .ok () w := by
  unfold eqGuard
  split <;> simp

theorem run_shiftI {op : BinOp} {k yk : IntKind} {m n : Int} {c : PC} (h : shiftI op k m n = some c) : ∃ r, (Op.shift op k m yk n).run P w = .ok (.int k r) w ∧ c = .int k r := by
  unfold shiftI at h
  split at h
  · cases h
  · rename_i hn
    unfold Op.shift
    rw [if_neg hn]
    cases op <;> simp only [Option.some.injEq] at h <;> first | (subst h; exact ⟨_, rfl, rfl⟩) | cases h

theorem run_binOp_int {op : BinOp} {t : TypeId} {k k' : IntKind} {m n : Int} {c : PC} (h : abin op (.int k m) (.int k' n) = some c) :
    ∃ x, (binOp op t (.int k m) (.int k' n)).run P w = .ok x w ∧ PR fm Z x c := by
  unfold abin at h
  simp only at h
  split at h
  · rename_i hs
    obtain ⟨r, h1, rfl⟩ := run_shiftI (P := P) (w := w) (yk := k') h
    refine ⟨_, ?_, .int⟩
    cases op <;> simp [BinOp.isShift] at hs <;> simpa [binOp] using h1
  · split at h
    · rename_i hk
      subst hk
      unfold binI at h
      cases op <;> simp only [Option.some.injEq] at h
      case add => subst h; exact ⟨_, by simp [binOp, Op.intArith], .int⟩
      case sub => subst h; exact ⟨_, by simp [binOp, Op.intArith], .int⟩
      case mul => subst h; exact ⟨_, by simp [binOp, Op.intArith], .int⟩
      case quo =>
        split at h
        · cases h
        · rename_i hn; cases h; exact ⟨_, by simp [binOp, Op.intDiv, hn], .int⟩
      case rem =>
        split at h
        · cases h
        · rename_i hn; cases h; exact ⟨_, by simp [binOp, Op.intDiv, hn], .int⟩
      case and => simp only [bits2, Option.map_some, Option.some.injEq] at h; subst h; exact ⟨_, by simp [binOp, Op.intBits], .int⟩
      case or => simp only [bits2, Option.map_some, Option.some.injEq] at h; subst h; exact ⟨_, by simp [binOp, Op.intBits], .int⟩
      case xor => simp only [bits2, Option.map_some, Option.some.injEq] at h; subst h; exact ⟨_, by simp [binOp, Op.intBits], .int⟩
      case andNot => simp only [bits2, Option.map_some, Option.some.injEq] at h; subst h; exact ⟨_, by simp [binOp, Op.intBits], .int⟩
      case shl => cases h
      case shr => cases h
      all_goals (subst h; exact ⟨_, by simp [binOp, Op.intCmp], .bool⟩)
    · cases h

theorem run_equal_bool {t : TypeId} {m n : Bool} (ht : P.underlying t = some .bool) : (Op.equal t (.bool m) (.bool n)).run P w = .ok (m == n) w := by
  have h1 : ∀ d, (Op.equalIn (d + 1) t (.bool m) (.bool n)).run P w = .ok (m == n) w := by
    intro d
    simp only [Op.equalIn, Sem.run_bind, run_underlying ht, Result.andThen_ok, Sem.run_pure]
  exact h1 9999

theorem run_binOp_bool {op : BinOp} {t : TypeId} {m n : Bool} {c : PC} (ht : P.underlying t = some .bool) (h : abinB op (.bool m) (.bool n) = some c) :
    ∃ x, (binOp op t (.bool m) (.bool n)).run P w = .ok x w ∧ PR fm Z x c := by
  unfold abinB at h
  cases op <;> simp only [Option.some.injEq] at h
  case eql => subst h; exact ⟨_, by simp only [binOp, Sem.run_bind, run_equal_bool ht, Result.andThen_ok, Sem.run_pure], .bool⟩
  case neq => subst h; exact ⟨_, by simp only [binOp, Sem.run_bind, run_equal_bool ht, Result.andThen_ok, Sem.run_pure], .bool⟩
  all_goals cases h

theorem sound_bin {op : BinOp} {t u : TypeId} {x x' : Operand} {y y' : Opd} {p q c : PC} {o : Oper} (ho : o.op = .binOp op t x x' u) (hx : opdOK fm x y = true) (hx' : opdOK fm x' y' = true)
    (hs : SlR fm Z β a s) (h : WR fm Z β objs w0 w) (hy : s.ev y = vp p) (hy' : s.ev y' = vp q) (hc : abin op p q = some c) :
    OpS fm Z β w0 ((execOp a.eval o).run P w) objs (vp c) := by
  have h1 := opdOK_AR hx hs
  have h2 := opdOK_AR hx' hs
  rw [hy] at h1
  rw [hy'] at h2
  have h1 := h1.pr
  have h2 := h2.pr
  cases p with
  | int k m =>
    cases q with
    | int k' n =>
      obtain ⟨r, g1, g2⟩ := run_binOp_int (P := P) (fm := fm) (Z := Z) (w := w) (t := t) hc
      refine OpS.same (x := r) h ?_ (.s (.c (.p g2)))
      simp [execOp, ho, h1.int_inv, h2.int_inv, g1, run_eqGuard_int]
    | _ => simp [abin] at hc
  | _ => simp [abin] at hc

theorem sound_binB {op : BinOp} {t u : TypeId} {x x' : Operand} {y y' : Opd} {p q c : PC} {o : Oper} (ho : o.op = .binOp op t x x' u) (hx : opdOK fm x y = true) (hx' : opdOK fm x' y' = true)
    (ht : P.underlying t = some .bool) (hs : SlR fm Z β a s) (h : WR fm Z β objs w0 w) (hy : s.ev y = vp p) (hy' : s.ev y' = vp q) (hc : abinB op p q = some c) :
    OpS fm Z β w0 ((execOp a.eval o).run P w) objs (vp c) := by
  have h1 := opdOK_AR hx hs
  have h2 := opdOK_AR hx' hs
  rw [hy] at h1
  rw [hy'] at h2
  have h1 := h1.pr
  have h2 := h2.pr
  cases p with
  | bool m =>
    cases q with
    | bool n =>
      obtain ⟨r, g1, g2⟩ := run_binOp_bool (P := P) (fm := fm) (Z := Z) (w := w) ht hc
      refine OpS.same (x := r) h ?_ (.s (.c (.p g2)))
      simp [execOp, ho, h1.bool_inv, h2.bool_inv, g1, run_eqGuard_bool]
    | _ => simp [abinB] at hc
  | _ => simp [abinB] at hc

theorem sound_un {op : UnOp} {t : TypeId} {x : Operand} {y : Opd} {p c : PC} {o : Oper} (ho : o.op = .unOp op t x) (hx : opdOK fm x y = true)
    (hs : SlR fm Z β a s) (h : WR fm Z β objs w0 w) (hy : s.ev y = vp p) (hc : aun op p = some c) : OpS fm Z β w0 ((execOp a.eval o).run P w) objs (vp c) := by
  have h1 := opdOK_AR hx hs
  rw [hy] at h1
  have h1 := h1.pr
  cases p with
  | bool b =>
    cases op <;> simp only [aun, Option.some.injEq] at hc
    case not =>
      subst hc
      refine OpS.same (x := .bool !b) h ?_ (.s (.c (.p .bool)))
      simp [execOp, ho, h1.bool_inv, Op.unary]
    all_goals cases hc
  | int k n =>
    cases op <;> simp only [aun, Option.some.injEq] at hc
    case neg =>
      subst hc
      refine OpS.same (x := .int k (k.wrap (0 - n))) h ?_ (.s (.c (.p .int)))
      simp [execOp, ho, h1.int_inv, Op.unary, Op.intArith]
    all_goals cases hc
  | _ => simp [aun] at hc

theorem intTy_spec {t : TypeId} {k : IntKind} (h : intTy P t = some k) : P.underlying t = some (.int k) := by
  unfold intTy at h
  split at h
  · rename_i k' hk; cases h; exact hk
  · cases h

theorem sound_conv {src dst : TypeId} {k0 k k1 : IntKind} {n : Int} {x : Operand} {y : Opd} {o : Oper} (ho : o.op = .convert src dst x) (h0 : intTy P src = some k0) (h1 : intTy P dst = some k)
    (hx : opdOK fm x y = true) (hs : SlR fm Z β a s) (h : WR fm Z β objs w0 w) (hy : s.ev y = vi k1 n) : OpS fm Z β w0 ((execOp a.eval o).run P w) objs (vi k (k.wrap n)) := by
  have h2 := opdOK_AR hx hs
  rw [hy] at h2
  have h2 := h2.pr.int_inv
  refine OpS.same (x := .int k (k.wrap n)) h ?_ (.s (.c (.p .int)))
  simp [execOp, ho, h2, convert, run_underlying (intTy_spec h0), run_underlying (intTy_spec h1), Conv.intToInt]

theorem chunk_length {α : Type} (sz : Nat) : ∀ (n : Nat) (l : List α), (chunk sz n l).length = n
  | 0, _ => rfl
  | n + 1, l => by simp [chunk, chunk_length sz n]

theorem chunk_get {α : Type} (sz : Nat) : ∀ (n : Nat) (l : List α) (i : Nat), i < n → (chunk sz n l)[i]? = some ((l.drop (i * sz)).take sz)
  | 0, _, i, h => by omega
  | n + 1, l, 0, _ => by simp [chunk]
  | n + 1, l, i + 1, h => by
    simp only [chunk, List.getElem?_cons_succ]
    rw [chunk_get sz n _ i (by omega), List.drop_drop, Nat.add_mul, Nat.one_mul, Nat.add_comm]

theorem sliceTy_spec {t e : TypeId} (h : sliceTy P t = some e) : P.underlying t = some (.slice e) := by
  unfold sliceTy at h
  split at h
  · rename_i k' hk; cases h; exact hk
  · cases h

theorem fillA_length : ∀ (l : List (Nat × List C)) (zero cs : List C), fillA zero l = some cs → cs.length = zero.length
  | [], zero, cs, h => by simp [fillA] at h; rw [h]
  | (off, c) :: l, zero, cs, h => by
    simp only [fillA] at h
    split at h
    · rename_i hle
      rw [fillA_length l _ _ h, length_setAt hle]
    · cases h

/-- A literal row: its cells in memory. -/
theorem run_buildSlice {t e : TypeId} {n sz : Nat} {zero : List C} {ps : Array (Nat × Operand)} {parts : List (Nat × Nat × Opd)} {xs : List (List C)} (ht : sliceTy P t = some e)
    (hz : litZero P e n sz zero = true) (hp : partsOK P fm (fun i => some (i * sz, sz)) ps.toList parts = true) (hs : SlR fm Z β a s) (hr : rowOf s n sz zero parts = some xs) :
    ∃ cells, (Instr.buildSlice t n (ps.map fun (i, x) => (i, a.eval x))).run P w = .ok (.slice (some ⟨w.heap.size, 0, none⟩) n n) (w.alloc (.cells cells e)) ∧ cells.size = n * sz ∧
      xs.length = n ∧ (∀ x, x ∈ xs → x.length = sz) ∧ ∀ (i j : Nat) (x : List C) (c : C), xs[i]? = some x → x[j]? = some c → VR fm Z β (cells.getD (i * sz + j) undef) c := by
  unfold litZero at hz
  split at hz
  · rename_i inf hi
    split at hz
    · rename_i z hzz
      simp only [Bool.and_eq_true, beq_iff_eq, decide_eq_true_eq, Bool.or_eq_true, List.all_eq_true, List.mem_range] at hz
      obtain ⟨⟨⟨⟨h1, h2⟩, h3⟩, h4⟩, h5⟩ := hz
      unfold rowOf at hr
      cases hl : partsOf s parts with
      | none => simp [hl] at hr
      | some l =>
        cases hf : fillA zero l with
        | none => simp [hl, hf] at hr
        | some cs =>
          simp only [hl, hf, Option.some.injEq] at hr
          let zc : Array Value := if n * sz = 0 then #[] else z.cells
          let cells0 : Array Value := (Array.range (n * sz)).map (zc[· % zc.size]!)
          obtain ⟨cells', k1, k2, k3⟩ := partsOf_fill hs ps.toList parts l cells0 zero cs hp hl hf (by simp [cells0, h3]) (by
            intro j c hj
            have hjl := lt_of_get hj
            have h6 := h5 j (by omega)
            have hne : n * sz ≠ 0 := by omega
            have e0 : cells0.getD j undef = z.cells[j % z.cells.size]! := by
              simp only [cells0, zc, if_neg hne]
              rw [Array.getD_eq_getD_getElem?, Array.getElem?_map, Array.getElem?_range]
              rw [if_pos (by omega)]
              simp
            rw [e0]
            have h7 : zero.getD j .e0 = c := by simp [List.getD, hj]
            rw [h7] at h6
            exact eqConst_VR h6)
          have hcl := fillA_length _ _ _ hf
          subst hr
          refine ⟨cells', ?_, by omega, chunk_length _ _ _, ?_, ?_⟩
          · have hle : ¬ (16777216 < n * sz) := by omega
            have k1' : Instr.fill (fun i => some (i * sz, sz)) cells0 (ps.map fun (i, x) => (i, a.eval x)).toList = some cells' := by simpa using k1
            by_cases hn : n * sz = 0
            · have : cells0 = #[] := by simp [cells0, hn]
              rw [this] at k1'
              simp only [Array.toList_map] at k1'
              have hr0 : Array.range 0 = #[] := rfl
              simp [Instr.buildSlice, run_underlying (sliceTy_spec ht), sizeOf, typeInfo, hi, h1, hn, hr0, k1', newRow]
            · have : cells0 = (Array.range (n * sz)).map (z.cells[· % z.cells.size]!) := by simp only [cells0, zc, if_neg hn]
              rw [this] at k1'
              simp only [Array.toList_map] at k1'
              simp [Instr.buildSlice, run_underlying (sliceTy_spec ht), sizeOf, typeInfo, zeroValue, hi, hzz, h1, hn, hle, k1', newRow]
          · intro x hx
            obtain ⟨i, hi'⟩ := List.getElem?_of_mem hx
            have hil := lt_of_get hi'
            rw [chunk_length] at hil
            rw [chunk_get _ _ _ _ hil] at hi'
            cases hi'
            simp
            have : (i + 1) * sz ≤ n * sz := Nat.mul_le_mul_right _ (by omega)
            rw [Nat.add_mul, Nat.one_mul] at this
            omega
          · intro i j x c hi' hj
            have hil := lt_of_get hi'
            rw [chunk_length] at hil
            rw [chunk_get _ _ _ _ hil] at hi'
            cases hi'
            have hjl := lt_of_get hj
            simp at hjl
            rw [List.getElem?_take_of_lt (by omega), List.getElem?_drop] at hj
            exact k3 _ c hj
    · cases hz
  · cases hz

theorem sound_slO {t e : TypeId} {n sz : Nat} {zero : List C} {ps : Array (Nat × Operand)} {parts : List (Nat × Nat × Opd)} {xs : List (List C)} {o : Oper} (id : Nat) (ho : o.op = .buildSlice t n ps)
    (ht : sliceTy P t = some e) (hz : litZero P e n sz zero = true) (hp : partsOK P fm (fun i => some (i * sz, sz)) ps.toList parts = true) (hs : SlR fm Z β a s) (h : WR fm Z β objs w0 w)
    (hr : rowOf s n sz zero parts = some xs) :
    OpS fm Z β w0 ((execOp a.eval o).run P w) (newObj objs id sz xs).1 (.s (.c (.rs id (newObj objs id sz xs).2 sz 0 xs.length))) := by
  obtain ⟨cells, k1, k2, k3, k4, k5⟩ := run_buildSlice (P := P) (fm := fm) (Z := Z) (β := β) (w := w) ht hz hp hs hr
  obtain ⟨β', h1, h2, h3⟩ := h.newObj id sz xs cells e (by rw [k3]; omega) k4 k5
  refine ⟨.slice (some ⟨w.heap.size, 0, none⟩) n n, w.alloc (.cells cells e), Z, β', .inl ?_, ZExt.refl _ _, h1, h2, .s (.c ?_)⟩
  · simp only [execOp, ho, Sem.run_bind, k1, Result.andThen_ok, Sem.run_pure]
  rw [k3]
  exact .rs h3 (Nat.le_refl _) (by rw [k2, Nat.zero_add, Nat.zero_add]; exact Nat.le_refl _) (fun _ => by simp)

theorem sound_slP {t e : TypeId} {n sz : Nat} {zero : List C} {ps : Array (Nat × Operand)} {parts : List (Nat × Nat × Opd)} {xs : List (List C)} {pxs : List (List PC)} {o : Oper} (ho : o.op = .buildSlice t n ps)
    (ht : sliceTy P t = some e) (hz : litZero P e n sz zero = true) (hp : partsOK P fm (fun i => some (i * sz, sz)) ps.toList parts = true) (hs : SlR fm Z β a s) (h : WR fm Z β objs w0 w)
    (hr : rowOf s n sz zero parts = some xs) (hpx : allSome (xs.map fun x => allSome (x.map C.pure?)) = some pxs) :
    OpS fm Z β w0 ((execOp a.eval o).run P w) objs (vs pxs) := by
  obtain ⟨cells, k1, k2, k3, k4, k5⟩ := run_buildSlice (P := P) (fm := fm) (Z := Z) (β := β) (w := w) ht hz hp hs hr
  obtain ⟨h3, h4⟩ := h.pureAlloc cells e
  obtain ⟨g1, g2⟩ := allSome_get hpx
  refine ⟨.slice (some ⟨w.heap.size, 0, none⟩) n n, w.alloc (.cells cells e), _, β, .inl ?_, h4.mono h.below.size, BExt.refl _, h3, .s (.c (.p ?_))⟩
  · simp only [execOp, ho, Sem.run_bind, k1, Result.andThen_ok, Sem.run_pure]
  have hn : pxs.length = n := by omega
  have hlen : ∀ x, x ∈ pxs → x.length = sz := by
    intro y hy
    obtain ⟨i, hi⟩ := List.getElem?_of_mem hy
    obtain ⟨x, hx, hx2⟩ := g2 i y hi
    rw [(allSome_get hx2).1]; exact k4 x (List.mem_of_getElem? hx)
  rw [← hn]
  refine .sl (sz := sz) (upd_self _ _ _) (Nat.le_refl _) hlen (by rw [hn]; omega) fun i j y c hi hj => ?_
  obtain ⟨x, hx, hx2⟩ := g2 i y hi
  obtain ⟨c0, hc0, hc1⟩ := (allSome_get hx2).2 j c hj
  have hvr := k5 i j x c0 hx hc0
  rw [Nat.zero_add]
  cases c0 with
  | p z => simp [C.pure?] at hc1; subst hc1; exact hvr.p_inv.mono h4.old
  | e0 =>
    simp only [C.pure?, Option.some.injEq] at hc1; subst hc1
    obtain ⟨b, hb⟩ := hvr.e0_inv
    rw [hb]; exact .sl0
  | _ => simp [C.pure?] at hc1
end Go.Av
