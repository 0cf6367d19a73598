/- The abstract machine of the Av files, eleventh part: addresses, parts, length, append, function values. No condition. -/
import Derived.Test.YthdilnjdkniofaaGreatAvOpV
namespace Go.Av
open Go Go.RowKit

variable {P : Program} {fm : Nat → Nat} {Z : ZM} {β : BM} {objs : Objs} {w0 w : World} {a : Act} {s : St}

theorem run_fieldAt {t : TypeId} {fields : Array Field} {f off sz b q : Nat} {fl : Field} (hu : P.underlying t = some (.struct fields)) (hf : fields[f]? = some fl) (ho : fl.offset = off)
    (hsz : sizeOK P fl.type sz = true) (hne : sz ≠ 0) : (Instr.fieldAt t (.pointer (some ⟨b, q, none⟩)) f).run P w = .ok (.pointer (some ⟨b, q + off, none⟩)) w := by
  have h1 := sizeOK_spec (P := P) hsz
  simp [Instr.fieldAt, run_underlying hu, hf, Instr.sureAddr, fieldPlace, h1, hne, ho, add_none]

theorem fa_chk {t : TypeId} {f off sz : Nat} (h : (match P.underlying t with
      | some (.struct fields) => match fields[f]? with
        | some fl => fl.offset == off && sizeOK P fl.type sz && !(sz == 0)
        | none => false
      | _ => false) = true) : ∃ fields fl, P.underlying t = some (.struct fields) ∧ fields[f]? = some fl ∧ fl.offset = off ∧ sizeOK P fl.type sz = true ∧ sz ≠ 0 := by
  split at h
  · rename_i fields hu
    split at h
    · rename_i fl hf
      simp only [Bool.and_eq_true, beq_iff_eq, Bool.not_eq_true', beq_eq_false_iff_ne] at h
      exact ⟨fields, fl, hu, hf, h.1.1, h.1.2, h.2⟩
    · cases h
  · cases h

theorem PR.pref_sub {b off n m : Nat} {cells : Array Value} {cs : List PC} (hz : Z b = some cells) (hb : off + cs.length ≤ cells.size)
    (hr : ∀ (j : Nat) (c : PC), cs[j]? = some c → PR fm Z (cells.getD (off + j) undef) c) (hle : n + m ≤ cs.length) :
    PR fm Z (.pointer (some ⟨b, off + n, none⟩)) (.pref ((cs.drop n).take m)) := by
  have hl : ((cs.drop n).take m).length = m := by simp; omega
  refine .pref hz (by omega) fun j c hj => ?_
  have hjl := lt_of_get hj
  rw [List.getElem?_take_of_lt (by omega), List.getElem?_drop] at hj
  rw [Nat.add_assoc]
  exact hr _ c hj

theorem sound_faP {t : TypeId} {f off sz : Nat} {x : Operand} {y : Opd} {cs : List PC} {o : Oper} (ho : o.op = .fieldAddr t x f) (ht : (match P.underlying t with
      | some (.struct fields) => match fields[f]? with
        | some fl => fl.offset == off && sizeOK P fl.type sz && !(sz == 0)
        | none => false
      | _ => false) = true) (hx : opdOK fm x y = true) (hs : SlR fm Z β a s) (h : WR fm Z β objs w0 w) (hy : s.ev y = vp (.pref cs)) (hle : off + sz ≤ cs.length) :
    OpS fm Z β w0 ((execOp a.eval o).run P w) objs (vp (.pref ((cs.drop off).take sz))) := by
  have h1 := opdOK_AR hx hs
  rw [hy] at h1
  obtain ⟨b, q, cells, he, hz, hb, hr⟩ := h1.pr.pref_inv
  obtain ⟨fields, fl, g1, g2, g3, g4, g5⟩ := fa_chk ht
  refine OpS.same (x := .pointer (some ⟨b, q + off, none⟩)) h ?_ (.s (.c (.p (PR.pref_sub hz hb hr hle))))
  simp [execOp, ho, he, run_fieldAt (P := P) (w := w) g1 g2 g3 g4 g5]

theorem sound_faO {t : TypeId} {f off sz : Nat} {x : Operand} {y : Opd} {q u i k : Nat} {o : Oper} (ho : o.op = .fieldAddr t x f) (ht : (match P.underlying t with
      | some (.struct fields) => match fields[f]? with
        | some fl => fl.offset == off && sizeOK P fl.type sz && !(sz == 0)
        | none => false
      | _ => false) = true) (hx : opdOK fm x y = true) (hs : SlR fm Z β a s) (h : WR fm Z β objs w0 w) (hy : s.ev y = .s (.c (.ptr q u i k))) :
    OpS fm Z β w0 ((execOp a.eval o).run P w) objs (.s (.c (.ptr q u i (k + off)))) := by
  have h1 := opdOK_AR hx hs
  rw [hy] at h1
  obtain ⟨b, base, n, sz', he, hβ⟩ := h1.vr.ptr_inv
  obtain ⟨fields, fl, g1, g2, g3, g4, g5⟩ := fa_chk ht
  refine OpS.same (x := .pointer (some ⟨b, base + i * sz' + k + off, none⟩)) h ?_ (.s (.c ?_))
  · simp [execOp, ho, he, run_fieldAt (P := P) (w := w) g1 g2 g3 g4 g5]
  · rw [Nat.add_assoc]; exact .ptr hβ

theorem sound_fld {t : TypeId} {agg : Bool} {f off sz : Nat} {x : Operand} {y : Opd} {cs : List C} {v : AV} {o : Oper} (ho : o.op = .field t x f) (ht : (match P.underlying t with
      | some (.struct fields) => match fields[f]? with
        | some fl => fl.offset == off && tyOK P fl.type agg sz
        | none => false
      | _ => false) = true) (hx : opdOK fm x y = true) (hs : SlR fm Z β a s) (h : WR fm Z β objs w0 w) (hy : s.ev y = .s (.agg cs)) (hle : off + sz ≤ cs.length)
    (hv : (if agg then some (.s (.agg ((cs.drop off).take sz))) else (cs[off]?).map fun c => AV.s (.c c)) = some v) :
    OpS fm Z β w0 ((execOp a.eval o).run P w) objs v := by
  have h1 := opdOK_AR hx hs
  rw [hy] at h1
  have h1 := h1.sv
  generalize he : a.eval x = X at h1
  split at ht
  · rename_i fields hu
    split at ht
    · rename_i fl hf
      simp only [Bool.and_eq_true, beq_iff_eq] at ht
      obtain ⟨rfl, ht⟩ := ht
      obtain ⟨k1, k2, k3⟩ := tyOK_spec ht
      cases h1 with
      | agg hl hr =>
        rename_i vs
        cases agg with
        | true =>
          simp only [if_true, Option.some.injEq] at hv
          subst hv
          refine OpS.same (x := .agg (vs.extract fl.offset (fl.offset + sz))) h ?_ (.s (.agg (by simp; omega) fun j c hj => ?_))
          · simp [execOp, ho, he, Instr.field, run_underlying hu, hf, asAgg, part, k1, k2]
          · have hjl := lt_of_get hj
            simp at hjl
            rw [List.getElem?_take_of_lt (by omega), List.getElem?_drop] at hj
            have := hr _ c hj
            rw [Array.getD_eq_getD_getElem?, Array.getElem?_extract] at *
            rw [if_pos (by omega)]
            exact this
        | false =>
          have h1 := k3 rfl
          subst h1
          simp only [Bool.false_eq_true, if_false] at hv
          cases hc : cs[fl.offset]? with
          | none => simp [hc] at hv
          | some c =>
            simp [hc] at hv; subst hv
            have hvs : vs[fl.offset]? = some (vs.getD fl.offset undef) := by
              have : fl.offset < vs.size := by omega
              simp [this]
            refine OpS.same (x := vs.getD fl.offset undef) h ?_ (.s (.c (hr _ c hc)))
            simp only [execOp, ho, he, Instr.field, Sem.run_bind, run_underlying hu, Result.andThen_ok, hf, asAgg, Sem.run_pure, part, k1, Bool.false_eq_true, if_false, hvs]
    · cases ht
  · cases ht

theorem run_indexAt_slice {t : TypeId} {sz : Nat} {ad : Addr} {len cap : Nat} {k : IntKind} {n : Int} (ht : elemOK P t sz = true) (h0 : 0 ≤ n) (h1 : n < len) :
    (Instr.indexAt t (.slice (some ad) len cap) (.int k n)).run P w = .ok (.pointer (some (ad.add (n.toNat * sz)))) w := by
  obtain ⟨e, h3, h4⟩ := elemOK_spec ht
  unfold Instr.indexAt
  simp only [Sem.run_bind, asIntOf, Sem.run_pure, Result.andThen_ok, run_underlying h3]
  simp [h0, h1, h4]

theorem sound_iaP {t : TypeId} {sz : Nat} {x x' : Operand} {y y' : Opd} {xs : List (List PC)} {n : Int} {el : List PC} {o : Oper} (ho : o.op = .indexAddr t x x') (ht : elemOK P t sz = true)
    (hx : opdOK fm x y = true) (hx' : opdOK fm x' y' = true) (hs : SlR fm Z β a s) (h : WR fm Z β objs w0 w) (hy : s.ev y = vs xs) (hn : (s.ev y').int? = some n)
    (h0 : 0 ≤ n) (h1 : n < xs.length) (hel : xs[n.toNat]? = some el) (hl : el.length = sz) : OpS fm Z β w0 ((execOp a.eval o).run P w) objs (vp (.pref el)) := by
  have g1 := opdOK_AR hx hs
  rw [hy] at g1
  obtain ⟨k, g2⟩ := AV.int?_inv (opdOK_AR hx' hs) hn
  rcases g1.pr.sl_inv with ⟨ad, cap, he, rfl⟩ | ⟨b, off, cap, sz', cells, he, hz, hcap, hw, hb, hr⟩
  · simp at h1; omega
  · have hsz : sz' = sz := by rw [← hw el (List.mem_of_getElem? hel), hl]
    subst hsz
    have hil := lt_of_get hel
    have hm : (n.toNat + 1) * sz' ≤ xs.length * sz' := Nat.mul_le_mul_right _ (by omega)
    rw [Nat.add_mul, Nat.one_mul] at hm
    refine OpS.same (x := .pointer (some ⟨b, off + n.toNat * sz', none⟩)) h ?_ (.s (.c (.p (.pref hz (by omega) fun j c hj => hr _ j el c hel hj))))
    simp [execOp, ho, he, g2, run_indexAt_slice (P := P) (w := w) ht h0 h1, add_none]

theorem sound_iaO {t : TypeId} {sz : Nat} {x x' : Operand} {y y' : Opd} {q u st len : Nat} {n : Int} {o : Oper} (ho : o.op = .indexAddr t x x') (ht : elemOK P t sz = true)
    (hx : opdOK fm x y = true) (hx' : opdOK fm x' y' = true) (hs : SlR fm Z β a s) (h : WR fm Z β objs w0 w) (hy : s.ev y = .s (.c (.rs q u sz st len))) (hn : (s.ev y').int? = some n)
    (h0 : 0 ≤ n) (h1 : n < len) : OpS fm Z β w0 ((execOp a.eval o).run P w) objs (.s (.c (.ptr q u (st + n.toNat) 0))) := by
  have g1 := opdOK_AR hx hs
  rw [hy] at g1
  obtain ⟨k, g2⟩ := AV.int?_inv (opdOK_AR hx' hs) hn
  rcases g1.vr.rs_inv with ⟨he, _, rfl, _⟩ | ⟨b, base, m, cap, ad, he, hβ, k1, k2, k3⟩
  · simp at h1; omega
  · refine OpS.same (x := .pointer (some ⟨b, base + (st + n.toNat) * sz + 0, none⟩)) h ?_ (.s (.c (.ptr hβ)))
    simp [execOp, ho, he, g2, run_indexAt_slice (P := P) (w := w) ht h0 h1, k3 (by omega), add_none, Nat.add_mul, Nat.add_assoc]

theorem run_indexAt_array {t e : TypeId} {sz m b off : Nat} {k : IntKind} {n : Int} (hu : P.underlying t = some (.array m e)) (hsz : sizeOK P e sz = true) (h0 : 0 ≤ n) (h1 : n < m) :
    (Instr.indexAt t (.pointer (some ⟨b, off, none⟩)) (.int k n)).run P w = .ok (.pointer (some ⟨b, off + n.toNat * sz, none⟩)) w := by
  have h4 := sizeOK_spec (P := P) hsz
  unfold Instr.indexAt
  simp only [Sem.run_bind, asIntOf, Sem.run_pure, Result.andThen_ok, run_underlying hu, Instr.sureAddr]
  simp [h0, h1, h4, add_none]

theorem arr_chk {t : TypeId} {n sz : Nat} (h : (match P.underlying t with
      | some (.array m e) => m == n && sizeOK P e sz
      | _ => false) = true) : ∃ e, P.underlying t = some (.array n e) ∧ sizeOK P e sz = true := by
  split at h
  · rename_i m e hu
    simp only [Bool.and_eq_true, beq_iff_eq] at h
    obtain ⟨rfl, h⟩ := h
    exact ⟨e, hu, h⟩
  · cases h

theorem sound_iaAP {t : TypeId} {m sz : Nat} {x x' : Operand} {y y' : Opd} {cs : List PC} {n : Int} {o : Oper} (ho : o.op = .indexAddr t x x') (ht : (match P.underlying t with
      | some (.array q e) => q == m && sizeOK P e sz
      | _ => false) = true) (hx : opdOK fm x y = true) (hx' : opdOK fm x' y' = true) (hs : SlR fm Z β a s) (h : WR fm Z β objs w0 w) (hy : s.ev y = vp (.pref cs)) (hn : (s.ev y').int? = some n)
    (h0 : 0 ≤ n) (h1 : n < m) (hl : cs.length = m * sz) : OpS fm Z β w0 ((execOp a.eval o).run P w) objs (vp (.pref ((cs.drop (n.toNat * sz)).take sz))) := by
  have g1 := opdOK_AR hx hs
  rw [hy] at g1
  obtain ⟨k, g2⟩ := AV.int?_inv (opdOK_AR hx' hs) hn
  obtain ⟨b, q, cells, he, hz, hb, hr⟩ := g1.pr.pref_inv
  obtain ⟨e, k1, k2⟩ := arr_chk ht
  have hm : (n.toNat + 1) * sz ≤ m * sz := Nat.mul_le_mul_right _ (by omega)
  rw [Nat.add_mul, Nat.one_mul] at hm
  refine OpS.same (x := .pointer (some ⟨b, q + n.toNat * sz, none⟩)) h ?_ (.s (.c (.p (PR.pref_sub hz hb hr (by omega)))))
  simp [execOp, ho, he, g2, run_indexAt_array (P := P) (w := w) k1 k2 h0 h1]

theorem sound_iaAO {t : TypeId} {m sz : Nat} {x x' : Operand} {y y' : Opd} {q u i off : Nat} {n : Int} {o : Oper} (ho : o.op = .indexAddr t x x') (ht : (match P.underlying t with
      | some (.array q e) => q == m && sizeOK P e sz
      | _ => false) = true) (hx : opdOK fm x y = true) (hx' : opdOK fm x' y' = true) (hs : SlR fm Z β a s) (h : WR fm Z β objs w0 w) (hy : s.ev y = .s (.c (.ptr q u i off))) (hn : (s.ev y').int? = some n)
    (h0 : 0 ≤ n) (h1 : n < m) : OpS fm Z β w0 ((execOp a.eval o).run P w) objs (.s (.c (.ptr q u i (off + n.toNat * sz)))) := by
  have g1 := opdOK_AR hx hs
  rw [hy] at g1
  obtain ⟨k, g2⟩ := AV.int?_inv (opdOK_AR hx' hs) hn
  obtain ⟨b, base, nn, sz', he, hβ⟩ := g1.vr.ptr_inv
  obtain ⟨e, k1, k2⟩ := arr_chk ht
  refine OpS.same (x := .pointer (some ⟨b, base + i * sz' + off + n.toNat * sz, none⟩)) h ?_ (.s (.c ?_))
  · simp [execOp, ho, he, g2, run_indexAt_array (P := P) (w := w) k1 k2 h0 h1]
  · rw [Nat.add_assoc]; exact .ptr hβ

theorem sound_ext {i : Nat} {x : Operand} {y : Opd} {l : List SV} {v : SV} {o : Oper} (ho : o.op = .extract x i) (hx : opdOK fm x y = true) (hs : SlR fm Z β a s) (h : WR fm Z β objs w0 w)
    (hy : s.ev y = .tup l) (hv : l[i]? = some v) : OpS fm Z β w0 ((execOp a.eval o).run P w) objs (.s v) := by
  have g1 := opdOK_AR hx hs
  rw [hy] at g1
  generalize he : a.eval x = X at g1
  cases g1 with
  | tup hl hr =>
    rename_i vs
    have hvs : vs[i]? = some (vs.getD i undef) := by
      have := lt_of_get hv
      have : i < vs.size := by omega
      simp [this]
    refine OpS.same (x := vs.getD i undef) h ?_ (.s (hr i v hv))
    simp only [execOp, ho, he, Instr.extract, hvs, Sem.run_bind, Sem.run_pure, Result.andThen_ok]

theorem opdsOK_AR : ∀ {xs : List Operand} {ys : List Opd}, opdsOK fm xs ys = true → SlR fm Z β a s → xs.length = ys.length ∧ ∀ (i : Nat) (y : Opd), ys[i]? = some y → ∃ x, xs[i]? = some x ∧ AR fm Z β (a.eval x) (s.ev y)
  | [], [], _, _ => ⟨rfl, fun i y h => by simp at h⟩
  | x :: xs, y :: ys, h, hs => by
    simp only [opdsOK, Bool.and_eq_true] at h
    obtain ⟨h1, h2⟩ := opdsOK_AR (xs := xs) (ys := ys) h.2 hs
    refine ⟨by simp [h1], fun i z hz => ?_⟩
    cases i with
    | zero => simp at hz; subst hz; exact ⟨x, by simp, opdOK_AR h.1 hs⟩
    | succ i => simp at hz; obtain ⟨x', k1, k2⟩ := h2 i z hz; exact ⟨x', by simpa using k1, k2⟩
  | [], _ :: _, h, _ => by simp [opdsOK] at h
  | _ :: _, [], h, _ => by simp [opdsOK] at h

theorem opds1 {xs : List Operand} {y : Opd} (h : opdsOK fm xs [y] = true) : ∃ x, xs = [x] ∧ opdOK fm x y = true := by
  match xs, h with
  | [x], h => simp only [opdsOK, Bool.and_eq_true] at h; exact ⟨x, rfl, h.1⟩
  | _ :: _ :: _, h => simp [opdsOK] at h

theorem opds2 {xs : List Operand} {y z : Opd} (h : opdsOK fm xs [y, z] = true) : ∃ x u, xs = [x, u] ∧ opdOK fm x y = true ∧ opdOK fm u z = true := by
  match xs, h with
  | [x, u], h => simp only [opdsOK, Bool.and_eq_true] at h; exact ⟨x, u, rfl, h.1, h.2.1⟩
  | [_], h => simp [opdsOK] at h
  | _ :: _ :: _ :: _, h => simp [opdsOK] at h

theorem sound_len {c : Go.Call} {y : Opd} {v : AV} {n : Int} {t : TypeId} {o : Oper} (ho : o.op = .call c) (hc : c.callee = .builtin .len) (ht : c.argTypes[0]? = some t)
    (hu : (sliceTy P t).isSome = true) (ha : opdsOK fm c.args.toList [y] = true) (hs : SlR fm Z β a s) (h : WR fm Z β objs w0 w) (hy : s.ev y = v)
    (hv : (∃ xs, v = vs xs ∧ n = xs.length) ∨ (v = .s (.c .e0) ∧ n = 0) ∨ (∃ q u sz st len, v = .s (.c (.rs q u sz st len)) ∧ n = len)) :
    OpS fm Z β w0 ((execOp a.eval o).run P w) objs (vi .i64 n) := by
  obtain ⟨x, hx, hx1⟩ := opds1 ha
  have g1 := opdOK_AR hx1 hs
  rw [hy] at g1
  have harg : c.args = #[x] := by rw [← hx]
  have hsl : ∃ ad len cap, a.eval x = .slice ad len cap ∧ n = len := by
    rcases hv with ⟨xs, rfl, rfl⟩ | ⟨rfl, rfl⟩ | ⟨q, u, sz, st, len, rfl, rfl⟩
    · rcases g1.pr.sl_inv with ⟨ad, cap, he, rfl⟩ | ⟨b, off, cap, sz', cells, he, _⟩
      · exact ⟨_, _, _, he, rfl⟩
      · exact ⟨_, _, _, he, rfl⟩
    · obtain ⟨ad, he⟩ := g1.vr.e0_inv
      exact ⟨_, _, _, he, rfl⟩
    · rcases g1.vr.rs_inv with ⟨he, _, rfl, _⟩ | ⟨b, base, m, cap, ad, he, _⟩
      · exact ⟨_, _, _, he, rfl⟩
      · exact ⟨_, _, _, he, rfl⟩
  obtain ⟨ad, len, cap, he, rfl⟩ := hsl
  obtain ⟨e, hse⟩ := Option.isSome_iff_exists.1 hu
  refine OpS.same (x := .int .i64 len) h ?_ (.s (.c (.p .int)))
  simp [execOp, ho, resolve, hc, harg, invoke, builtin, Builtin.len_, ht, run_underlying (sliceTy_spec hse), he, goInt]

/-- The row that is appended, in memory. -/
theorem sliceElems_mem {x : Value} {v : AV} {sz : Nat} {ys : List (List C)} (g1 : AR fm Z β x v) (h : WR fm Z β objs w0 w) (hy : sliceElems objs sz v = some ys) :
    ∃ ad cap, x = .slice ad ys.length cap ∧ (∀ y, y ∈ ys → y.length = sz) ∧
      ((ad = none ∧ ys = []) ∨ ∃ q, ad = some q ∧ ∀ (i j : Nat) (y : List C) (c : C), ys[i]? = some y → y[j]? = some c → ∃ u, w.cell? (q.add (i * sz + j)) = some u ∧ VR fm Z β u c) := by
  unfold sliceElems at hy
  split at hy
  · rename_i xs
    split at hy
    · rename_i hall
      cases hy
      rcases g1.pr.sl_inv with ⟨ad, cap, he, rfl⟩ | ⟨b, off, cap, sz', cells, he, hz, hcap, hw, hb, hr⟩
      · refine ⟨ad, cap, he, by simp, ?_⟩
        cases ad with
        | none => exact .inl ⟨rfl, rfl⟩
        | some q => exact .inr ⟨q, rfl, fun i j y c hi => by simp at hi⟩
      · obtain ⟨e, f, hh⟩ := h.hz b cells hz
        refine ⟨some ⟨b, off, none⟩, cap, by simpa using he, ?_, .inr ⟨_, rfl, fun i j y c hi hj => ?_⟩⟩
        · intro y hy
          obtain ⟨x, hx, rfl⟩ := List.mem_map.1 hy
          have := List.all_eq_true.1 hall x hx
          simpa using this
        · rw [List.getElem?_map] at hi
          cases hx : xs[i]? with
          | none => simp [hx] at hi
          | some x =>
            simp only [hx, Option.map_some, Option.some.injEq] at hi
            subst hi
            rw [List.getElem?_map] at hj
            cases hc : x[j]? with
            | none => simp [hc] at hj
            | some c' =>
              simp only [hc, Option.map_some, Option.some.injEq] at hj
              subst hj
              have h1 := hw x (List.mem_of_getElem? hx)
              have h2 := List.all_eq_true.1 hall x (List.mem_of_getElem? hx)
              simp only [beq_iff_eq] at h2
              have hss : sz' = sz := by omega
              subst hss
              have hil := lt_of_get hx
              have hjl := lt_of_get hc
              have hm : (i + 1) * sz' ≤ xs.length * sz' := Nat.mul_le_mul_right _ (by omega)
              rw [Nat.add_mul, Nat.one_mul] at hm
              rw [add_none, ← Nat.add_assoc]
              exact ⟨_, cell_of hh (by omega), .p (hr i j x c' hx hc)⟩
    · cases hy
  · cases hy
    obtain ⟨ad, he⟩ := g1.vr.e0_inv
    refine ⟨ad, 0, he, by simp, ?_⟩
    cases ad with
    | none => exact .inl ⟨rfl, rfl⟩
    | some q => exact .inr ⟨q, rfl, fun i j y c hi => by simp at hi⟩
  · rename_i o v sz' st len
    split at hy
    · rename_i ob hob
      split at hy
      · rename_i hc
        obtain ⟨rfl, hsz, hle⟩ := hc
        cases hy
        have ho1 := hob
        have hlen : ((ob.elems.drop st).take len).length = len := by simp; omega
        have hget : ∀ (i : Nat) (y : List C), ((ob.elems.drop st).take len)[i]? = some y → ob.elems[st + i]? = some y := by
          intro i y hi
          rw [List.getElem?_take] at hi
          split at hi
          · rw [List.getElem?_drop] at hi; exact hi
          · cases hi
        rcases g1.vr.rs_inv with ⟨he, rfl, rfl, _⟩ | ⟨b, base, m, cap, ad, he, hβ, k1, k2, k3⟩
        · exact ⟨none, 0, by simpa using he, by simp, .inl ⟨rfl, by simp⟩⟩
        · refine ⟨some ad, cap, by rw [hlen]; exact he, ?_, .inr ⟨ad, rfl, fun i j y c hi hj => ?_⟩⟩
          · intro y hy
            obtain ⟨i, hi⟩ := List.getElem?_of_mem hy
            obtain ⟨cells, e, _, _, k5, _⟩ := elem_cells h ho1 hβ (hget i y hi)
            exact k5
          · have hil := lt_of_get hi
            rw [hlen] at hil
            obtain ⟨cells, e, q1, q2, q3, q4, q5, q6⟩ := elem_cells h ho1 hβ (hget i y hi)
            rw [k3 (by omega), add_none]
            have := q6 j c hj
            rw [show base + st * sz' + (i * sz' + j) = base + (st + i) * sz' + j by rw [Nat.add_mul]; omega]
            exact ⟨_, this⟩
      · cases hy
    · cases hy
  · cases hy

/-- A row's cells, one behind the other. -/
theorem flat_get {sz : Nat} : ∀ {ys : List (List C)}, (∀ y, y ∈ ys → y.length = sz) → ys.flatten.length = ys.length * sz ∧
    ∀ (k : Nat) (c : C), ys.flatten[k]? = some c → ∃ (i j : Nat) (y : List C), ys[i]? = some y ∧ y[j]? = some c ∧ k = i * sz + j ∧ j < sz
  | [], _ => ⟨by simp, fun k c h => by simp at h⟩
  | y :: ys, h => by
    have hy := h y (by simp)
    obtain ⟨h1, h2⟩ := flat_get (sz := sz) (ys := ys) (fun z hz => h z (by simp [hz]))
    refine ⟨by simp [h1, hy, Nat.add_mul]; omega, fun k c hk => ?_⟩
    rw [List.flatten_cons, List.getElem?_append] at hk
    split at hk
    · exact ⟨0, k, y, by simp, hk, by omega, by omega⟩
    · obtain ⟨i, j, z, k1, k2, k3, k4⟩ := h2 _ c hk
      refine ⟨i + 1, j, z, by simpa using k1, k2, ?_, k4⟩
      rw [Nat.add_mul]; omega

theorem flat_at {sz : Nat} {ys : List (List C)} (h : ∀ y, y ∈ ys → y.length = sz) {i j : Nat} {y : List C} {c : C} (hi : ys[i]? = some y) (hj : y[j]? = some c) : ys.flatten[i * sz + j]? = some c := by
  induction ys generalizing i with
  | nil => simp at hi
  | cons z ys ih =>
    have hz := h z (by simp)
    rw [List.flatten_cons]
    cases i with
    | zero =>
      simp at hi; subst hi
      rw [List.getElem?_append_left (by have := lt_of_get hj; omega)]
      simpa using hj
    | succ i =>
      rw [List.getElem?_append_right (by rw [Nat.add_mul]; omega)]
      have := ih (fun w hw => h w (by simp [hw])) (i := i) (by simpa using hi)
      rw [← this]; congr 1; rw [Nat.add_mul]; omega

/-- The values of a row in memory. -/
theorem row_vals {sz : Nat} {ys : List (List C)} {q : Addr} (h : ∀ y, y ∈ ys → y.length = sz)
    (hm : ∀ (i j : Nat) (y : List C) (c : C), ys[i]? = some y → y[j]? = some c → ∃ u, w.cell? (q.add (i * sz + j)) = some u ∧ VR fm Z β u c) :
    ∃ us : List Value, us.length = ys.length * sz ∧ (∀ (k : Nat) (u : Value), us[k]? = some u → w.cell? (q.add k) = some u) ∧ (∀ u, u ∈ us → u.oneCell' = true) ∧
      ∀ (i j : Nat) (y : List C) (c : C), ys[i]? = some y → y[j]? = some c → ∃ u, us[i * sz + j]? = some u ∧ VR fm Z β u c := by
  obtain ⟨h1, h2⟩ := flat_get h
  let us := (List.range (ys.length * sz)).map fun k => (w.cell? (q.add k)).getD undef
  have hu : ∀ k : Nat, k < ys.length * sz → us[k]? = some ((w.cell? (q.add k)).getD undef) := by
    intro k hk
    simp [us, hk]
  have key : ∀ k : Nat, k < ys.length * sz → ∃ u c, w.cell? (q.add k) = some u ∧ VR fm Z β u c := by
    intro k hk
    have hc : ys.flatten[k]? = some (ys.flatten[k]'(by omega)) := by simp
    obtain ⟨i, j, y, g1, g2, rfl, _⟩ := h2 k _ hc
    obtain ⟨u, g3, g4⟩ := hm i j y _ g1 g2
    exact ⟨u, _, g3, g4⟩
  refine ⟨us, by simp [us], fun k u hk => ?_, fun u hu' => ?_, fun i j y c hi hj => ?_⟩
  · have hkl := lt_of_get hk
    simp [us] at hkl
    rw [hu k hkl] at hk
    obtain ⟨v, c, g1, _⟩ := key k hkl
    rw [g1] at hk; cases hk; exact g1
  · obtain ⟨k, hk⟩ := List.getElem?_of_mem hu'
    have hkl := lt_of_get hk
    simp [us] at hkl
    rw [hu k hkl] at hk
    obtain ⟨v, c, g1, g2⟩ := key k hkl
    rw [g1] at hk; cases hk
    exact g2.oneCell.1
  · have hf := flat_at h hi hj
    have := lt_of_get hf
    obtain ⟨u, g1, g2⟩ := hm i j y c hi hj
    exact ⟨u, by rw [hu _ (by omega), g1]; rfl, g2⟩
end Go.Av
