/- The abstract machine of the Av files, tenth part: make, slicing, addresses, length. No condition. -/
import Derived.Test.YthdilnjdkniofaaGreatAvOpU
namespace Go.Av
open Go Go.RowKit

variable {P : Program} {fm : Nat → Nat} {Z : ZM} {β : BM} {objs : Objs} {w0 w : World} {a : Act} {s : St}

theorem sound_mk {t e : TypeId} {sz bytes : Nat} {zero : List C} {x u : Operand} {y z : Opd} {l c : Int} {o : Oper} (id : Nat) (ho : o.op = .makeSlice t x u) (ht : sliceTy P t = some e)
    (hsz : sizeOK P e sz = true) (hz : zeroOK P e zero = true) (hb : (match P.info? e with | some i => i.bytes == bytes | none => false) = true) (hx : opdOK fm x y = true) (hu : opdOK fm u z = true)
    (hs : SlR fm Z β a s) (h : WR fm Z β objs w0 w) (hl : (s.ev y).int? = some l) (hc : (s.ev z).int? = some c) (h0 : 0 ≤ l) (h1 : l ≤ c) (h2 : c ≤ 9223372036854775807)
    (h3 : bytes * c ≤ 281474976710656) (h4 : zero.length = sz) :
    OpS fm Z β w0 ((execOp a.eval o).run P w) (newObj objs id sz (List.replicate l.toNat zero)).1 (.s (.c (.rs id (newObj objs id sz (List.replicate l.toNat zero)).2 sz 0 l.toNat))) := by
  obtain ⟨kl, e1⟩ := AV.int?_inv (opdOK_AR hx hs) hl
  obtain ⟨kc, e2⟩ := AV.int?_inv (opdOK_AR hu hs) hc
  obtain ⟨i, zv, hi, hzz, hzl, hv⟩ := zeroOK_spec (fm := fm) (Z := Z) (β := β) hz
  simp only [hi, beq_iff_eq] at hb
  have hsi : i.size = sz := by simpa [sizeOK, hi] using hsz
  have hr := run_make (P := P) w t e i zv (sliceTy_spec ht) hi hzz kl kc l c h0 h1 (by rw [hb]; exact h3) h2
  have hsize : (madeCells zv.cells (c.toNat * i.size)).size = c.toNat * sz := by rw [size_madeCells, hsi]
  have hcl : l.toNat ≤ c.toNat := by omega
  have hm : l.toNat * sz ≤ c.toNat * sz := Nat.mul_le_mul_right _ hcl
  obtain ⟨β', g1, g2, g3⟩ := h.newObj id sz (List.replicate l.toNat zero) (madeCells zv.cells (c.toNat * i.size)) e (by simp only [List.length_replicate]; omega)
    (fun x hx => by rw [List.eq_of_mem_replicate hx]; exact h4) (by
      intro k j x cc hk hj
      have hkl := lt_of_get hk
      simp only [List.length_replicate] at hkl
      rw [List.getElem?_replicate, if_pos hkl] at hk
      cases hk
      have hjl := lt_of_get hj
      have hkm : (k + 1) * sz ≤ c.toNat * sz := Nat.mul_le_mul_right _ (by omega)
      rw [Nat.add_mul, Nat.one_mul] at hkm
      have hg : (madeCells zv.cells (c.toNat * i.size)).getD (k * sz + j) undef = zv.cells.getD j undef := by
        have hne : c.toNat * i.size ≠ 0 := by rw [hsi]; omega
        unfold madeCells
        rw [Array.getD_eq_getD_getElem?, Array.getElem?_map, Array.getElem?_range, if_pos (by rw [hsi]; omega)]
        have hmod : (k * sz + j) % zv.cells.size = j := by
          rw [hzl, h4, Nat.mul_comm, Nat.mul_add_mod]; exact Nat.mod_eq_of_lt (by omega)
        simp only [Option.map_some, Option.getD_some, hmod]
        have : j < zv.cells.size := by omega
        simp [this]
      rw [hg]; exact hv j cc hj)
  refine ⟨.slice (some ⟨w.heap.size, 0, none⟩) l.toNat c.toNat, _, Z, β', .inl ?_, ZExt.refl _ _, g1, g2, .s (.c (.rs g3 hcl (by rw [hsize]; simp) (fun _ => by simp)))⟩
  simp only [execOp, ho, e1, e2, Sem.run_bind, hr, Result.andThen_ok, Sem.run_pure]

theorem bound_inv {lo' : Option Operand} {lo : Option Opd} {d l : Int} (h : opdOOK fm lo' lo = true) (hs : SlR fm Z β a s) (hb : bound s d lo = some l) :
    (lo' = none ∧ lo = none ∧ l = d) ∨ ∃ k, lo'.map a.eval = some (.int k l) := by
  unfold opdOOK at h
  split at h
  · simp only [bound, Option.some.injEq] at hb; exact .inl ⟨rfl, rfl, hb.symm⟩
  · simp only [bound] at hb
    obtain ⟨k, hk⟩ := AV.int?_inv (opdOK_AR h hs) hb
    exact .inr ⟨k, by simp [hk]⟩
  · cases h

theorem run_bound {x : Value} {k : IntKind} {l : Int} {y : Nat} {code : BoundsCode} (hx : x = .int k l) (h0 : 0 ≤ l) (h1 : l ≤ y) : (Instr.sliceBound x y code).run P w = .ok l.toNat w := by
  subst hx
  simp [Instr.sliceBound, asIntOf, h0, h1]

theorem run_bounds {isS : Bool} {len cap : Nat} {lo hi : Option Value} {l h : Int} (hlo : (lo = none ∧ l = 0) ∨ ∃ k, lo = some (.int k l)) (hhi : (hi = none ∧ h = len) ∨ ∃ k, hi = some (.int k h))
    (h0 : 0 ≤ l) (h1 : l ≤ h) (h2 : h ≤ cap) : (Instr.sliceBounds isS len cap lo hi none).run P w = .ok (l.toNat, h.toNat, cap) w := by
  unfold Instr.sliceBounds
  rcases hhi with ⟨rfl, rfl⟩ | ⟨k, rfl⟩
  · rcases hlo with ⟨rfl, rfl⟩ | ⟨k', rfl⟩
    · simp
    · simp [run_bound (P := P) (w := w) (k := k') (l := l) rfl h0 h1]
  · have hb := run_bound (P := P) (w := w) (x := .int k h) (k := k) (l := h) (y := cap) (code := if isS then .sliceAcap else .sliceAlen) rfl (by omega) h2
    rcases hlo with ⟨rfl, rfl⟩ | ⟨k', rfl⟩
    · cases isS <;> simp_all
    · have hb' := run_bound (P := P) (w := w) (x := .int k' l) (k := k') (l := l) (y := h.toNat) (code := .sliceB) rfl h0 (by omega)
      cases isS <;> simp_all

theorem elemOK_spec {t : TypeId} {sz : Nat} (h : elemOK P t sz = true) : ∃ e, P.underlying t = some (.slice e) ∧ ∀ w, (sizeOf e).run P w = .ok sz w := by
  unfold elemOK at h
  split at h
  · rename_i e he; exact ⟨e, sliceTy_spec he, sizeOK_spec h⟩
  · cases h

theorem run_slice_none {t : TypeId} {sz : Nat} {ad : Option Addr} {len cap : Nat} {lo hi : Option Value} {l h : Int} (ht : elemOK P t sz = true)
    (hlo : (lo = none ∧ l = 0) ∨ ∃ k, lo = some (.int k l)) (hhi : (hi = none ∧ h = len) ∨ ∃ k, hi = some (.int k h)) (h0 : 0 ≤ l) (h1 : l ≤ h) (h2 : h ≤ cap) :
    (Instr.sliceAt t (.slice ad len cap) lo hi none).run P w =
      .ok (.slice (if cap = l.toNat then ad else ad.map (·.add (l.toNat * sz))) (h.toNat - l.toNat) (cap - l.toNat)) w := by
  obtain ⟨e, h3, h4⟩ := elemOK_spec ht
  have hb := run_bounds (P := P) (w := w) (isS := true) (len := len) hlo hhi h0 h1 h2
  unfold Instr.sliceAt Instr.slice
  simp only [Sem.run_bind, run_underlying h3, Result.andThen_ok, hb, h4, Sem.run_pure]

theorem run_slice_zero {t : TypeId} {sz : Nat} {ad : Option Addr} {len cap : Nat} {lo : Option Value} {k1 k2 : IntKind} (ht : elemOK P t sz = true)
    (hlo : lo = none ∨ ∃ k, lo = some (.int k 0)) :
    (Instr.sliceAt t (.slice ad len cap) lo (some (.int k1 0)) (some (.int k2 0))).run P w = .ok (.slice ad 0 0) w := by
  obtain ⟨e, h3, h4⟩ := elemOK_spec ht
  have hb : (Instr.sliceBounds true len cap lo (some (.int k1 0)) (some (.int k2 0))).run P w = .ok (0, 0, 0) w := by
    unfold Instr.sliceBounds
    rcases hlo with rfl | ⟨k, rfl⟩ <;> simp [Instr.sliceBound, asIntOf]
  unfold Instr.sliceAt Instr.slice
  simp only [Sem.run_bind, run_underlying h3, Result.andThen_ok, hb, h4, Sem.run_pure, if_true, Nat.sub_self]

theorem PR.sl_inv {v : Value} {xs : List (List PC)} (h : PR fm Z v (.sl xs)) : (∃ ad cap, v = .slice ad 0 cap ∧ xs = []) ∨
    ∃ b off cap sz cells, v = .slice (some ⟨b, off, none⟩) xs.length cap ∧ Z b = some cells ∧ xs.length ≤ cap ∧ (∀ x, x ∈ xs → x.length = sz) ∧ off + xs.length * sz ≤ cells.size ∧
      ∀ (i j : Nat) (x : List PC) (c : PC), xs[i]? = some x → x[j]? = some c → PR fm Z (cells.getD (off + i * sz + j) undef) c := by
  cases h with
  | sl0 => exact .inl ⟨_, _, rfl, rfl⟩
  | sl hz hc hw hb hr => exact .inr ⟨_, _, _, _, _, rfl, hz, hc, hw, hb, hr⟩

theorem sound_slice {t : TypeId} {sz : Nat} {x : Operand} {y : Opd} {lo' hi' mx' : Option Operand} {lo hi mx : Option Opd} {v : AV} {o : Oper} (ho : o.op = .slice t x lo' hi' mx') (ht : elemOK P t sz = true)
    (hx : opdOK fm x y = true) (hlo : opdOOK fm lo' lo = true) (hhi : opdOOK fm hi' hi = true) (hmx : opdOOK fm mx' mx = true)
    (hs : SlR fm Z β a s) (h : WR fm Z β objs w0 w) (hv : asl sz (s.ev y) s lo hi mx = some v) :
    OpS fm Z β w0 ((execOp a.eval o).run P w) objs v := by
  have h1 := opdOK_AR hx hs
  suffices hh : ∃ r, (Instr.sliceAt t (a.eval x) (lo'.map a.eval) (hi'.map a.eval) (mx'.map a.eval)).run P w = .ok r w ∧ AR fm Z β r v by
    obtain ⟨r, g1, g2⟩ := hh
    refine OpS.same (x := r) h ?_ g2
    simp only [execOp, ho, Sem.run_bind, g1, Result.andThen_ok, Sem.run_pure]
  have cv : ∀ (q' : Option Operand) (q : Option Opd) (d l : Int), opdOOK fm q' q = true → bound s d q = some l → (q'.map a.eval = none ∧ l = d) ∨ ∃ k, q'.map a.eval = some (.int k l) := by
    intro q' q d l hq hb
    rcases bound_inv hq hs hb with ⟨rfl, _, h⟩ | h
    · exact .inl ⟨rfl, h⟩
    · exact .inr h
  generalize s.ev y = Y at h1 hv
  generalize a.eval x = X at h1 ⊢
  unfold asl at hv
  cases mx with
  | none =>
    have hmx' : mx' = none := by cases mx' <;> simp_all [opdOOK]
    subst hmx'
    simp only at hv
    split at hv
    · rename_i xs
      split at hv
      · rename_i l hh hl hh'
        split at hv
        · rename_i hc
          obtain ⟨c1, c2, c3, c4⟩ := hc
          simp only [Option.some.injEq] at hv
          subst hv
          have clo := cv _ _ _ _ hlo hl
          have chi := cv _ _ _ _ hhi hh'
          rcases h1.pr.sl_inv with ⟨ad, cap, rfl, rfl⟩ | ⟨b, off, cap, sz', cells, rfl, hz, hcap, hw, hb, hr⟩
          · simp only [List.length_nil, Int.natCast_zero] at c3 chi
            have hr := run_slice_none (P := P) (w := w) (ad := ad) (len := 0) (cap := cap) ht clo chi c1 c2 (by omega)
            refine ⟨_, hr, .s (.c (.p ?_))⟩
            rw [show hh.toNat - l.toNat = 0 by omega]
            simpa using PR.sl0
          · have hrun := run_slice_none (P := P) (w := w) (ad := some ⟨b, off, none⟩) (len := xs.length) (cap := cap) ht clo chi c1 c2 (by omega)
            refine ⟨_, hrun, .s (.c (.p ?_))⟩
            have hlen : ((xs.take hh.toNat).drop l.toNat).length = hh.toNat - l.toNat := by simp; omega
            by_cases he : hh.toNat - l.toNat = 0
            · rw [List.eq_nil_of_length_eq_zero (by omega : ((xs.take hh.toNat).drop l.toNat).length = 0), he]; exact .sl0
            · rw [if_neg (by omega), ← hlen]
              simp only [Option.map_some, add_none]
              have hsz : sz' = sz := by
                have hx0 : xs[0]? = some (xs[0]'(by omega)) := by simp
                have g1 := hw _ (List.mem_of_getElem? hx0)
                have g2 := List.all_eq_true.1 c4 _ (List.mem_of_getElem? hx0)
                simp only [beq_iff_eq] at g2
                omega
              subst hsz
              have hget : ∀ (i : Nat) (x : List PC), ((xs.take hh.toNat).drop l.toNat)[i]? = some x → xs[l.toNat + i]? = some x := by
                intro i x hi
                rw [List.getElem?_drop, List.getElem?_take] at hi
                split at hi
                · exact hi
                · cases hi
              refine .sl (sz := sz') hz (by omega) (fun x hx => ?_) ?_ fun i j x c hi hj => ?_
              · obtain ⟨i, hi⟩ := List.getElem?_of_mem hx
                exact hw x (List.mem_of_getElem? (hget i x hi))
              · rw [hlen, Nat.add_assoc, ← Nat.add_mul]
                have : (l.toNat + (hh.toNat - l.toNat)) * sz' ≤ xs.length * sz' := Nat.mul_le_mul_right _ (by omega)
                omega
              · have := hr (l.toNat + i) j x c (hget i x hi) hj
                rw [Nat.add_mul] at this
                rw [show off + l.toNat * sz' + i * sz' + j = off + (l.toNat * sz' + i * sz') + j by omega]
                exact this
        · cases hv
      · cases hv
    · rename_i q u sz' st len
      split at hv
      · rename_i l hh hl hh'
        split at hv
        · rename_i hc
          obtain ⟨rfl, c1, c2, c3⟩ := hc
          simp only [Option.some.injEq] at hv
          subst hv
          have clo := cv _ _ _ _ hlo hl
          have chi := cv _ _ _ _ hhi hh'
          rcases h1.vr.rs_inv with ⟨rfl, rfl, rfl, hβ⟩ | ⟨b, base, n, cap, ad, rfl, hβ, g1, g2, g3⟩
          · have hr := run_slice_none (P := P) (w := w) (ad := none) (len := 0) (cap := 0) ht clo chi c1 c2 (by omega)
            refine ⟨_, hr, .s (.c ?_)⟩
            rw [show hh.toNat - l.toNat = 0 by omega, show l.toNat = 0 by omega]
            simpa using VR.rsn hβ
          · have hr := run_slice_none (P := P) (w := w) (ad := some ad) (len := len) (cap := cap) ht clo chi c1 c2 (by omega)
            refine ⟨_, hr, .s (.c ?_)⟩
            by_cases hcap : cap = l.toNat
            · rw [if_pos hcap]
              refine .rs hβ (by omega) ?_ (fun h => by omega)
              have : (st + l.toNat + (cap - l.toNat)) = st + cap := by omega
              rw [this]; exact g2
            · rw [if_neg hcap]
              rw [g3 (by omega)]
              simp only [Option.map_some, add_none]
              refine .rs hβ (by omega) ?_ (fun h => ?_)
              · have : (st + l.toNat + (cap - l.toNat)) = st + cap := by omega
                rw [this]; exact g2
              · rw [Nat.add_mul, Nat.add_assoc]
        · cases hv
      · cases hv
    · split at hv
      · rename_i l hh hl hh'
        split at hv
        · rename_i hc
          obtain ⟨rfl, rfl⟩ := hc
          simp only [Option.some.injEq] at hv
          subst hv
          have clo := cv _ _ _ _ hlo hl
          have chi := cv _ _ _ _ hhi hh'
          obtain ⟨ad, rfl⟩ := h1.vr.e0_inv
          have hr := run_slice_none (P := P) (w := w) (ad := ad) (len := 0) (cap := 0) (l := 0) (h := 0) ht clo chi (by omega) (by omega) (by omega)
          exact ⟨_, hr, .s (.c .e0)⟩
        · cases hv
      · cases hv
    · cases hv
  | some m =>
    simp only at hv
    split at hv
    · rename_i l hh mm hl hh' hm
      split at hv
      · rename_i hc
        obtain ⟨c1, rfl, rfl, rfl⟩ := hc
        have clo := cv _ _ _ _ hlo hl
        have chi : ∃ k, hi'.map a.eval = some (.int k 0) := by
          rcases bound_inv hhi hs hh' with ⟨_, rfl, _⟩ | h
          · simp at c1
          · exact h
        have cmx : ∃ k, mx'.map a.eval = some (.int k 0) := by
          cases mx' with
          | none => simp [opdOOK] at hmx
          | some m' =>
            obtain ⟨k, hk⟩ := AV.int?_inv (opdOK_AR (by simpa [opdOOK] using hmx) hs) hm
            exact ⟨k, by simp [hk]⟩
        obtain ⟨k1, chi⟩ := chi
        obtain ⟨k2, cmx⟩ := cmx
        rw [chi, cmx]
        have hsl : ∃ ad len cap, X = .slice ad len cap ∧ v = .s (.c .e0) := by
          split at hv
          · cases hv
            rcases h1.pr.sl_inv with ⟨ad, cap, rfl, _⟩ | ⟨b, off, cap, sz', cells, rfl, _⟩ <;> exact ⟨_, _, _, rfl, rfl⟩
          · cases hv
            obtain ⟨ad, rfl⟩ := h1.vr.e0_inv
            exact ⟨_, _, _, rfl, rfl⟩
          · cases hv
            rcases h1.vr.rs_inv with ⟨rfl, _⟩ | ⟨b, base, n, cap, ad, rfl, _⟩ <;> exact ⟨_, _, _, rfl, rfl⟩
          · cases hv
        obtain ⟨ad, len, cap, rfl, rfl⟩ := hsl
        have hr := run_slice_zero (P := P) (w := w) (ad := ad) (len := len) (cap := cap) (k1 := k1) (k2 := k2) (lo := lo'.map a.eval) ht (by
          rcases clo with ⟨h, _⟩ | ⟨k, h⟩
          · exact .inl h
          · exact .inr ⟨k, h⟩)
        exact ⟨_, hr, .s (.c .e0)⟩
      · cases hv
    · cases hv
end Go.Av
