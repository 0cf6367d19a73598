/- A part of the proof (own method: an abstract machine). No condition. -/
import Derived.Test.YtncdbpobpkmliaaGreatRhC
namespace Go.Av
open Go
variable {ext : Calls0}

/-- A fraction as an argument. -/
structure FA where
  neg : Bool
  a : List Nat
  b : List Nat
def FA.row (f : FA) : List PC := [.bool f.neg, .sl (encK .u32 f.a), .sl (encK .u32 f.b)]
def FA.r (f : FA) : Rat := qR f.neg (val f.a) (val f.b)
def FA.small (f : FA) : Prop := f.a.length ≤ 4 ∧ f.b.length ≤ 4
def dgtsN : List (List PC) → List Nat := List.map fun x => match x with
  | [.int _ n] => n.toNat
  | _ => 0
theorem dgtsN_enc (k : IntKind) (l : List Nat) : dgtsN (encK k l) = l := by
  induction l with
  | nil => rfl
  | cons x l ih =>
    show (_ :: dgtsN (encK k l)) = _
    rw [ih]; rfl
theorem qR_le {neg : Bool} {n d : Nat} : (qR neg n d).num.natAbs ≤ n ∧ (qR neg n d).den ≤ max d 1 := by
  by_cases h : n = 0 ∨ d = 0
  · rw [qR_zero h]
    show 0 ≤ n ∧ 1 ≤ max d 1
    omega
  · have hn : 0 < n := by omega
    have hd : 0 < d := by omega
    have e := encR_qR (neg := neg) hn hd
    unfold encR at e
    injection e with _ e
    injection e with e1 e
    injection e with e2 _
    injection e1 with e1
    injection e2 with e2
    have e1 := congrArg val (congrArg dgtsN e1)
    have e2 := congrArg val (congrArg dgtsN e2)
    rw [dgtsN_enc, dgtsN_enc, val_ofN, val_ofN] at e1 e2
    have h1 := Nat.div_le_self n (Nat.gcd n d)
    have h2 := Nat.div_le_self d (Nat.gcd n d)
    omega
theorem FA.small_r {f : FA} (ha : Dg f.a) (hb : Dg f.b) (h : f.small) : f.r.num.natAbs < 4294967296 ^ 4 ∧ f.r.den < 4294967296 ^ 4 := by
  have h1 := val_lt ha
  have h2 := val_lt hb
  have h3 : 4294967296 ^ f.a.length ≤ 4294967296 ^ 4 := Nat.pow_le_pow_right (by omega) h.1
  have h4 : 4294967296 ^ f.b.length ≤ 4294967296 ^ 4 := Nat.pow_le_pow_right (by omega) h.2
  have h5 := qR_le (neg := f.neg) (n := val f.a) (d := val f.b)
  unfold FA.r
  have h6 : (1 : Nat) < 4294967296 ^ 4 := by decide
  generalize 4294967296 ^ 4 = B at *
  omega
theorem FA.isF {f : FA} (ha : Dg f.a) (hb : Dg f.b) (h : f.small) : IsF (.agg f.row) f.r :=
  ⟨f.neg, f.a, f.b, rfl, ha, hb, by have := h.1; show _ < _; omega, by have := h.2; show _ < _; omega, rfl⟩

theorem smallProbs_ok {fs : List FA} {t : Bool} (hn : fs.length ≤ 60) (h1 : ∀ (i : Nat) (f : FA), fs[i]? = some f → ¬ f.small → t = false) (h2 : (∀ (i : Nat) (f : FA), fs[i]? = some f → f.small) → t = true) :
    PCall env ext 0 [.c (.sl (fs.map FA.row))] (.s (.c (.bool t))) := by
  have hl : (fs.map FA.row).length = fs.length := List.length_map ..
  refine PCall.walk (env := env) (g := 0) rfl rfl ?_
  (repeat' first | refine st ?_ | refine s2 (fun _ => ?_) (fun _ => ?_) | refine s4 fun _ _ _ _ => ?_ | fail)
  rw [hl]
  refine w_loopUp (fun i sl o => i ≤ fs.length ∧ Hd (∀ (j : Nat) (f : FA), j < i → fs[j]? = some f → f.small) ∧ sl 5 = vs (fs.map FA.row) ∧ sl 6 = vn .i64 fs.length ∧ sl 7 = vn .i64 i) 0 fs.length
    ⟨by omega, ⟨fun j f h => absurd h (by omega)⟩, rfl, rfl, rfl⟩ (fun i sl o h => h.1) ?_
  rintro i sl o ⟨hi, hnn, s5, s6, s7⟩
  rw [upd3 s5 s6 s7]
  clear s5 s6 s7
  by_cases hin : i < fs.length
  · have hf : fs[i]? = some fs[i] := List.getElem?_eq_getElem hin
    generalize fs[i] = f at hf
    have hb := h1 i f hf
    have hst : f.small → ∀ (j : Nat) (g : FA), j < i + 1 → fs[j]? = some g → g.small := by
      intro hs j g hj hg
      by_cases hji : j < i
      · exact hnn.h j g hji hg
      · have : j = i := by omega
        subst this
        rw [hf] at hg; cases hg; exact hs
    obtain ⟨neg, a, b⟩ := f
    have hrow : (fs.map FA.row)[i]? = some [.bool neg, .sl (encK .u32 a), .sl (encK .u32 b)] := by rw [List.getElem?_map, hf]; rfl
    by_cases ha : a.length ≤ 4
    · by_cases hbb : b.length ≤ 4
      · have hst := hst ⟨ha, hbb⟩
        (repeat' first | refine st ?_ | refine s2 (fun _ => ?_) (fun _ => ?_) | refine s4 fun _ _ _ _ => ?_ | fail)
        refine r_iaS rfl rfl (by first | with_reducible exact cself _ | exact nlit _) hrow rfl ?_
        (repeat' first | refine st ?_ | refine s2 (fun _ => ?_) (fun _ => ?_) | refine s4 fun _ _ _ _ => ?_ | fail)
        exact ⟨⟨by omega, ⟨hst⟩, rfl, rfl, rfl⟩, rfl⟩
      · rw [hb (fun h => hbb h.2)]
        (repeat' first | refine st ?_ | refine s2 (fun _ => ?_) (fun _ => ?_) | refine s4 fun _ _ _ _ => ?_ | fail)
        refine r_iaS rfl rfl (by first | with_reducible exact cself _ | exact nlit _) hrow rfl ?_
        (repeat' first | refine st ?_ | refine s2 (fun _ => ?_) (fun _ => ?_) | refine s4 fun _ _ _ _ => ?_ | fail)
        exact ends1 rfl rfl rfl
    · rw [hb (fun h => ha h.1)]
      (repeat' first | refine st ?_ | refine s2 (fun _ => ?_) (fun _ => ?_) | refine s4 fun _ _ _ _ => ?_ | fail)
      refine r_iaS rfl rfl (by first | with_reducible exact cself _ | exact nlit _) hrow rfl ?_
      (repeat' first | refine st ?_ | refine s2 (fun _ => ?_) (fun _ => ?_) | refine s4 fun _ _ _ _ => ?_ | fail)
      exact ends1 rfl rfl rfl
  · have hie : i = fs.length := by omega
    rw [h2 (fun j f hf => hnn.h j f (by rw [hie]; exact (List.getElem?_eq_some_iff.1 hf).1) hf)]
    (repeat' first | refine st ?_ | refine s2 (fun _ => ?_) (fun _ => ?_) | refine s4 fun _ _ _ _ => ?_ | fail)
    exact ends1 rfl rfl rfl

theorem sc_pure (hA : PCall env ext 159 [] (.s (.c (.bool true)))) {fs : List FA} {bs : List Nat} (hf : ∀ (i : Nat) (f : FA), fs[i]? = some f → Dg f.a ∧ Dg f.b) (hb : Db bs) :
    PCall env ext 165 [.c (.sl (fs.map FA.row)), pB bs] (.s (.c (.bool true))) := by
  have hl : (fs.map FA.row).length = fs.length := List.length_map ..
  have hbad : PCall env ext 4 [.c (.sl (fs.map FA.row))] (.s (.c (.bool false))) →
      PCall env ext 165 [.c (.sl (fs.map FA.row)), pB bs] (.s (.c (.bool true))) := by
    intro h4
    refine PCall.walk (env := env) (g := 165) rfl rfl ?_
    (repeat' first | refine st ?_ | refine s2 (fun _ => ?_) (fun _ => ?_) | refine s4 fun _ _ _ _ => ?_ | fail)
    refine r_call1 h4 rfl rfl ?_
    (repeat' first | refine st ?_ | refine s2 (fun _ => ?_) (fun _ => ?_) | refine s4 fun _ _ _ _ => ?_ | fail)
    refine r_call1 hA rfl rfl ?_
    (repeat' first | refine st ?_ | refine s2 (fun _ => ?_) (fun _ => ?_) | refine s4 fun _ _ _ _ => ?_ | fail)
    exact ends1 rfl rfl rfl
  by_cases hn : fs.length ≤ 60
  · by_cases hsm : ∀ (i : Nat) (f : FA), fs[i]? = some f → f.small
    · have h0 := smallProbs_ok (ext := ext) (fs := fs) (t := true) hn (fun i f h hs => absurd (hsm i f h) hs) (fun _ => rfl)
      have h4 : PCall env ext 4 [.c (.sl (fs.map FA.row))] (.s (.c (.bool true))) := by
        refine PCall.walk (env := env) (g := 4) rfl rfl ?_
        (repeat' first | refine st ?_ | refine s2 (fun _ => ?_) (fun _ => ?_) | refine s4 fun _ _ _ _ => ?_ | fail)
        rw [hl]
        (repeat' first | refine st ?_ | refine s2 (fun _ => ?_) (fun _ => ?_) | refine s4 fun _ _ _ _ => ?_ | fail)
        refine r_call1 h0 rfl rfl ?_
        (repeat' first | refine st ?_ | refine s2 (fun _ => ?_) (fun _ => ?_) | refine s4 fun _ _ _ _ => ?_ | fail)
        exact ends1 rfl rfl rfl
      by_cases hn2 : fs.length ≤ 20
      · by_cases hb2 : bs.length ≤ 200
        · have hlr : (fs.map FA.row).length = (fs.map FA.r).length := by simp
          have hget : ∀ i, (fs.map FA.r).getD i 0 = ((fs[i]?).map FA.r).getD 0 := by intro i; simp [List.getD]
          have hx : ∀ i row, (fs.map FA.row)[i]? = some row → IsF (.agg row) ((fs.map FA.r).getD i 0) := by
            intro i row h
            rw [List.getElem?_map] at h
            rw [hget]
            cases hfi : fs[i]? with
            | none => rw [hfi] at h; cases h
            | some f =>
              rw [hfi] at h
              cases h
              obtain ⟨d1, d2⟩ := hf i f hfi
              exact FA.isF d1 d2 (hsm i f hfi)
          have hs : Sml (fs.map FA.r) := by
            refine ⟨by simpa using hn2, fun i => ?_⟩
            rw [hget]
            cases hfi : fs[i]? with
            | none => exact ⟨by decide, by decide⟩
            | some f =>
              obtain ⟨d1, d2⟩ := hf i f hfi
              exact FA.small_r d1 d2 (hsm i f hfi)
          have hc := Choose_ok (ext := ext) hlr hx hs hb (by omega)
          have hr := refChoose_ok (ext := ext) hlr hx hs hb (by omega)
          obtain ⟨a, b, c, e⟩ := cfull_shape (fs.map FA.r) bs
          rw [e] at hc hr
          refine PCall.walk (env := env) (g := 165) rfl rfl ?_
          (repeat' first | refine st ?_ | refine s2 (fun _ => ?_) (fun _ => ?_) | refine s4 fun _ _ _ _ => ?_ | fail)
          refine r_call1 h4 rfl rfl ?_
          (repeat' first | refine st ?_ | refine s2 (fun _ => ?_) (fun _ => ?_) | refine s4 fun _ _ _ _ => ?_ | fail)
          rw [hl]
          (repeat' first | refine st ?_ | refine s2 (fun _ => ?_) (fun _ => ?_) | refine s4 fun _ _ _ _ => ?_ | fail)
          refine r_call3 hc rfl rfl ?_
          (repeat' first | refine st ?_ | refine s2 (fun _ => ?_) (fun _ => ?_) | refine s4 fun _ _ _ _ => ?_ | fail)
          refine r_call3 hr rfl rfl ?_
          (repeat' first | refine st ?_ | refine s2 (fun _ => ?_) (fun _ => ?_) | refine s4 fun _ _ _ _ => ?_ | fail)
          refine r_call1 hA rfl rfl ?_
          (repeat' first | refine st ?_ | refine s2 (fun _ => ?_) (fun _ => ?_) | refine s4 fun _ _ _ _ => ?_ | fail)
          exact ends1 rfl rfl rfl
        · refine PCall.walk (env := env) (g := 165) rfl rfl ?_
          (repeat' first | refine st ?_ | refine s2 (fun _ => ?_) (fun _ => ?_) | refine s4 fun _ _ _ _ => ?_ | fail)
          refine r_call1 h4 rfl rfl ?_
          (repeat' first | refine st ?_ | refine s2 (fun _ => ?_) (fun _ => ?_) | refine s4 fun _ _ _ _ => ?_ | fail)
          rw [hl]
          (repeat' first | refine st ?_ | refine s2 (fun _ => ?_) (fun _ => ?_) | refine s4 fun _ _ _ _ => ?_ | fail)
          refine r_call1 hA rfl rfl ?_
          (repeat' first | refine st ?_ | refine s2 (fun _ => ?_) (fun _ => ?_) | refine s4 fun _ _ _ _ => ?_ | fail)
          exact ends1 rfl rfl rfl
      · refine PCall.walk (env := env) (g := 165) rfl rfl ?_
        (repeat' first | refine st ?_ | refine s2 (fun _ => ?_) (fun _ => ?_) | refine s4 fun _ _ _ _ => ?_ | fail)
        refine r_call1 h4 rfl rfl ?_
        (repeat' first | refine st ?_ | refine s2 (fun _ => ?_) (fun _ => ?_) | refine s4 fun _ _ _ _ => ?_ | fail)
        rw [hl]
        (repeat' first | refine st ?_ | refine s2 (fun _ => ?_) (fun _ => ?_) | refine s4 fun _ _ _ _ => ?_ | fail)
        refine r_call1 hA rfl rfl ?_
        (repeat' first | refine st ?_ | refine s2 (fun _ => ?_) (fun _ => ?_) | refine s4 fun _ _ _ _ => ?_ | fail)
        exact ends1 rfl rfl rfl
    · have h0 := smallProbs_ok (ext := ext) (fs := fs) (t := false) hn (fun i f h hs => rfl) (fun h => absurd h hsm)
      refine hbad ?_
      refine PCall.walk (env := env) (g := 4) rfl rfl ?_
      (repeat' first | refine st ?_ | refine s2 (fun _ => ?_) (fun _ => ?_) | refine s4 fun _ _ _ _ => ?_ | fail)
      rw [hl]
      (repeat' first | refine st ?_ | refine s2 (fun _ => ?_) (fun _ => ?_) | refine s4 fun _ _ _ _ => ?_ | fail)
      refine r_call1 h0 rfl rfl ?_
      (repeat' first | refine st ?_ | refine s2 (fun _ => ?_) (fun _ => ?_) | refine s4 fun _ _ _ _ => ?_ | fail)
      exact ends1 rfl rfl rfl
  · refine hbad ?_
    refine PCall.walk (env := env) (g := 4) rfl rfl ?_
    (repeat' first | refine st ?_ | refine s2 (fun _ => ?_) (fun _ => ?_) | refine s4 fun _ _ _ _ => ?_ | fail)
    rw [hl]
    (repeat' first | refine st ?_ | refine s2 (fun _ => ?_) (fun _ => ?_) | refine s4 fun _ _ _ _ => ?_ | fail)
    exact ends1 rfl rfl rfl
end Go.Av
