/- A part of the proof (own method: an abstract machine). No condition. -/
import Derived.Test.YthdilnjdkniofaaGreatRaA
namespace Go.Av
open Go
variable {ext : Calls0}

/-- A fraction as it comes: a sign and two lists of digits. -/
abbrev pF (neg : Bool) (a b : List Nat) : PSV := .agg [.bool neg, .sl (encK .u32 a), .sl (encK .u32 b)]
abbrev Sm (l : List Nat) : Prop := l.length < 137438953472

theorem blz {n : Nat} : (bl n = 0) ↔ n = 0 := by
  unfold bl; split
  · rename_i h; simp [h]
  · rename_i h; simp [h]

theorem partsZ_ok {neg : Bool} {a b : List Nat} (ha : Dg a) (hb : Dg b) (la : Sm a) (lb : Sm b) (h : val b = 0 ∨ val a = 0) : PCall env ext 11 [pF neg a b] (.tup [.c (.bool false), pN [], pN [1]]) := by
  have h1 := bitLen_ok (ext := ext) ha (by omega)
  have h2 := bitLen_ok (ext := ext) hb (by omega)
  refine PCall.walk (env := env) (g := 11) rfl rfl ?_
  by_cases hb0 : val b = 0
  · have e := blz.2 hb0
    rw [e] at h2
    (repeat' first | refine st ?_ | refine s2 (fun _ => ?_) (fun _ => ?_) | refine s4 fun _ _ _ _ => ?_ | fail)
    refine r_call1 h2 rfl rfl ?_
    (repeat' first | refine st ?_ | refine s2 (fun _ => ?_) (fun _ => ?_) | refine s4 fun _ _ _ _ => ?_ | fail)
    refine r_call1 one_ok rfl rfl ?_
    (repeat' first | refine st ?_ | refine s2 (fun _ => ?_) (fun _ => ?_) | refine s4 fun _ _ _ _ => ?_ | fail)
    exact ends3 rfl rfl rfl rfl rfl rfl rfl
  · have e : bl (val b) ≠ 0 := fun h => hb0 (blz.1 h)
    have e2 := blz.2 (h.resolve_left hb0)
    rw [e2] at h1
    (repeat' first | refine st ?_ | refine s2 (fun _ => ?_) (fun _ => ?_) | refine s4 fun _ _ _ _ => ?_ | fail)
    refine r_call1 h2 rfl rfl ?_
    (repeat' first | refine st ?_ | refine s2 (fun _ => ?_) (fun _ => ?_) | refine s4 fun _ _ _ _ => ?_ | fail)
    refine r_call1 h1 rfl rfl ?_
    (repeat' first | refine st ?_ | refine s2 (fun _ => ?_) (fun _ => ?_) | refine s4 fun _ _ _ _ => ?_ | fail)
    refine r_call1 one_ok rfl rfl ?_
    (repeat' first | refine st ?_ | refine s2 (fun _ => ?_) (fun _ => ?_) | refine s4 fun _ _ _ _ => ?_ | fail)
    exact ends3 rfl rfl rfl rfl rfl rfl rfl
theorem partsN_ok {neg : Bool} {a b : List Nat} (ha : Dg a) (hb : Dg b) (la : Sm a) (lb : Sm b) (hb0 : val b ≠ 0) (ha0 : val a ≠ 0) : PCall env ext 11 [pF neg a b] (.tup [.c (.bool neg), pN a, pN b]) := by
  have h1 := bitLen_ok (ext := ext) ha (by omega)
  have h2 := bitLen_ok (ext := ext) hb (by omega)
  have e : bl (val b) ≠ 0 := fun h => hb0 (blz.1 h)
  have e2 : bl (val a) ≠ 0 := fun h => ha0 (blz.1 h)
  refine PCall.walk (env := env) (g := 11) rfl rfl ?_
  (repeat' first | refine st ?_ | refine s2 (fun _ => ?_) (fun _ => ?_) | refine s4 fun _ _ _ _ => ?_ | fail)
  refine r_call1 h2 rfl rfl ?_
  (repeat' first | refine st ?_ | refine s2 (fun _ => ?_) (fun _ => ?_) | refine s4 fun _ _ _ _ => ?_ | fail)
  refine r_call1 h1 rfl rfl ?_
  (repeat' first | refine st ?_ | refine s2 (fun _ => ?_) (fun _ => ?_) | refine s4 fun _ _ _ _ => ?_ | fail)
  exact ends3 rfl rfl rfl rfl rfl rfl rfl
/-- The sign of a fraction. -/
def sgF (neg : Bool) (n d : Nat) : Int := if n = 0 ∨ d = 0 then 0 else if neg then -1 else 1
theorem sign_ok {neg : Bool} {a b : List Nat} (ha : Dg a) (hb : Dg b) (la : Sm a) (lb : Sm b) : PCall env ext 12 [pF neg a b] (.s (.c (.int .i64 (sgF neg (val a) (val b))))) := by
  have h1 := bitLen_ok (ext := ext) ha (by omega)
  have h0 := bitLen_ok (ext := ext) (l := []) Dg.nil (by simp)
  refine PCall.walk (env := env) (g := 12) rfl rfl ?_
  by_cases hz : val b = 0 ∨ val a = 0
  · rw [show bl (val []) = 0 from rfl] at h0
    (repeat' first | refine st ?_ | refine s2 (fun _ => ?_) (fun _ => ?_) | refine s4 fun _ _ _ _ => ?_ | fail)
    refine r_call3 (partsZ_ok ha hb la lb hz) rfl rfl ?_
    (repeat' first | refine st ?_ | refine s2 (fun _ => ?_) (fun _ => ?_) | refine s4 fun _ _ _ _ => ?_ | fail)
    refine r_call1 h0 rfl rfl ?_
    (repeat' first | refine st ?_ | refine s2 (fun _ => ?_) (fun _ => ?_) | refine s4 fun _ _ _ _ => ?_ | fail)
    refine ends1 rfl rfl ?_
    simp only [sgF]; rw [if_pos hz.symm]
  · have hb0 : val b ≠ 0 := fun h => hz (.inl h)
    have ha0 : val a ≠ 0 := fun h => hz (.inr h)
    have e2 : bl (val a) ≠ 0 := fun h => ha0 (blz.1 h)
    (repeat' first | refine st ?_ | refine s2 (fun _ => ?_) (fun _ => ?_) | refine s4 fun _ _ _ _ => ?_ | fail)
    refine r_call3 (partsN_ok ha hb la lb hb0 ha0) rfl rfl ?_
    (repeat' first | refine st ?_ | refine s2 (fun _ => ?_) (fun _ => ?_) | refine s4 fun _ _ _ _ => ?_ | fail)
    refine r_call1 h1 rfl rfl ?_
    cases neg with
    | true =>
      (repeat' first | refine st ?_ | refine s2 (fun _ => ?_) (fun _ => ?_) | refine s4 fun _ _ _ _ => ?_ | fail)
      refine ends1 rfl rfl ?_
      simp only [sgF]; rw [if_neg (fun h => hz h.symm)]; rfl
    | false =>
      (repeat' first | refine st ?_ | refine s2 (fun _ => ?_) (fun _ => ?_) | refine s4 fun _ _ _ _ => ?_ | fail)
      refine ends1 rfl rfl ?_
      simp only [sgF]; rw [if_neg (fun h => hz h.symm)]; rfl
theorem normF_ok {neg : Bool} {a b : List Nat} (ha : Dg a) (hb : Dg b) (la : Sm a) (lb : Sm b) : PCall env ext 46 [pF neg a b] (.s (.agg (encR (qR neg (val a) (val b))))) := by
  refine PCall.walk (env := env) (g := 46) rfl rfl ?_
  (repeat' first | refine st ?_ | refine s2 (fun _ => ?_) (fun _ => ?_) | refine s4 fun _ _ _ _ => ?_ | fail)
  refine r_callA (reduce_ok ha hb (by omega) (by omega)) rfl rfl ?_
  (repeat' first | refine st ?_ | refine s2 (fun _ => ?_) (fun _ => ?_) | refine s4 fun _ _ _ _ => ?_ | fail)
  exact endsC (.inr rfl) rfl (by assumption) rfl rfl rfl
end Go.Av
namespace Go.Av
open Go
variable {ext : Calls0}

theorem parts_ok {neg : Bool} {a b : List Nat} (ha : Dg a) (hb : Dg b) (la : Sm a) (lb : Sm b) :
    ∃ neg' A B, (PCall env ext 11 [pF neg a b] (.tup [.c (.bool neg'), pN A, pN B])) ∧ Dg A ∧ Dg B ∧ A.length ≤ a.length ∧ B.length ≤ b.length + 1 ∧ val B ≠ 0 ∧ qR neg' (val A) (val B) = qR neg (val a) (val b) := by
  by_cases hz : val b = 0 ∨ val a = 0
  · refine ⟨false, [], [1], partsZ_ok ha hb la lb hz, Dg.nil, Dg.cons (by omega) Dg.nil, by simp, by simp, by simp [val], ?_⟩
    rw [qR_zero hz.symm]; exact qR_zero (.inl rfl)
  · exact ⟨neg, a, b, partsN_ok ha hb la lb (fun h => hz (.inl h)) (fun h => hz (.inr h)), ha, hb, by omega, by omega, fun h => hz (.inl h), rfl⟩

theorem negF_ok {neg : Bool} {a b : List Nat} (ha : Dg a) (hb : Dg b) (la : Sm a) (lb : Sm b) : PCall env ext 33 [pF neg a b] (.s (.agg (encR (-(qR neg (val a) (val b)))))) := by
  have e : -(qR neg (val a) (val b)) = qR (!neg) (val a) (val b) := by
    unfold qR; rw [Rat.neg_mkRat]; congr 1; cases neg <;> simp [sg]
  rw [e]
  refine PCall.walk (env := env) (g := 33) rfl rfl ?_
  (repeat' first | refine st ?_ | refine s2 (fun _ => ?_) (fun _ => ?_) | refine s4 fun _ _ _ _ => ?_ | fail)
  refine r_callA (reduce_ok ha hb (by omega) (by omega)) rfl rfl ?_
  (repeat' first | refine st ?_ | refine s2 (fun _ => ?_) (fun _ => ?_) | refine s4 fun _ _ _ _ => ?_ | fail)
  exact endsC (.inr rfl) rfl (by assumption) rfl rfl rfl

theorem mulF_ok {s t : Bool} {a b c d : List Nat} (ha : Dg a) (hb : Dg b) (hc : Dg c) (hd : Dg d) (la : Sm a) (lb : Sm b) (lc : Sm c) (ld : Sm d) :
    PCall env ext 48 [pF s a b, pF t c d] (.s (.agg (encR (qR s (val a) (val b) * qR t (val c) (val d))))) := by
  obtain ⟨s', A, B, p1, dA, dB, lA, lB, nB, e1⟩ := parts_ok (ext := ext) (neg := s) ha hb la lb
  obtain ⟨t', C, D, p2, dC, dD, lC, lD, nD, e2⟩ := parts_ok (ext := ext) (neg := t) hc hd lc ld
  have e : qR s (val a) (val b) * qR t (val c) (val d) = qR (!(s' == t')) (val A * val C) (val B * val D) := by
    rw [← e1, ← e2]; unfold qR; rw [Rat.mkRat_mul_mkRat]; congr 1; cases s' <;> cases t' <;> simp [sg, Int.neg_mul, Int.mul_neg]
  rw [e]
  have m1 : (ofN (val A * val C)).length ≤ A.length + C.length := by
    apply ofN_len_le
    rw [Nat.pow_add]
    exact Nat.mul_lt_mul'' (val_lt dA) (val_lt dC)
  have m2 : (ofN (val B * val D)).length ≤ B.length + D.length := by
    apply ofN_len_le
    rw [Nat.pow_add]
    exact Nat.mul_lt_mul'' (val_lt dB) (val_lt dD)
  have hr := reduce_ok (ext := ext) (neg := !(s' == t')) (Dg.ofN (val A * val C)) (Dg.ofN (val B * val D)) (by omega) (by omega)
  rw [val_ofN, val_ofN] at hr
  refine PCall.walk (env := env) (g := 48) rfl rfl ?_
  (repeat' first | refine st ?_ | refine s2 (fun _ => ?_) (fun _ => ?_) | refine s4 fun _ _ _ _ => ?_ | fail)
  refine r_call3 p1 rfl rfl ?_
  (repeat' first | refine st ?_ | refine s2 (fun _ => ?_) (fun _ => ?_) | refine s4 fun _ _ _ _ => ?_ | fail)
  refine r_call3 p2 rfl rfl ?_
  (repeat' first | refine st ?_ | refine s2 (fun _ => ?_) (fun _ => ?_) | refine s4 fun _ _ _ _ => ?_ | fail)
  refine r_call1 (mul_ok dA dC (by omega) (by omega)) rfl rfl ?_
  (repeat' first | refine st ?_ | refine s2 (fun _ => ?_) (fun _ => ?_) | refine s4 fun _ _ _ _ => ?_ | fail)
  refine r_call1 (mul_ok dB dD (by omega) (by omega)) rfl rfl ?_
  (repeat' first | refine st ?_ | refine s2 (fun _ => ?_) (fun _ => ?_) | refine s4 fun _ _ _ _ => ?_ | fail)
  refine r_callA hr rfl rfl ?_
  (repeat' first | refine st ?_ | refine s2 (fun _ => ?_) (fun _ => ?_) | refine s4 fun _ _ _ _ => ?_ | fail)
  exact endsC (.inr rfl) rfl (by assumption) rfl rfl rfl
end Go.Av
namespace Go.Av
open Go
variable {ext : Calls0}

theorem sub0_ok {a b : List Nat} (ha : Dg a) (hb : Dg b) (la : Sh a) (lb : Sh b) (hlt : val a < val b) : PCall env ext 30 [pN a, pN b] (.tup [pN [], .c (.bool false)]) := by
  have h2 := ofN_len_le_of ha
  have h3 := ofN_len_le_of hb
  have v1 := val_ofN (val a)
  have v2 := val_ofN (val b)
  have d1 := Dg.ofN (val a)
  have d2 := Dg.ofN (val b)
  have hc : cmpI (val (ofN (val a))) (val (ofN (val b))) < 0 := by rw [v1, v2]; unfold cmpI; omega
  refine PCall.walk (env := env) (g := 30) rfl rfl ?_
  (repeat' first | refine st ?_ | refine s2 (fun _ => ?_) (fun _ => ?_) | refine s4 fun _ _ _ _ => ?_ | fail)
  refine r_call1 (trim_ok ha la) rfl rfl ?_
  (repeat' first | refine st ?_ | refine s2 (fun _ => ?_) (fun _ => ?_) | refine s4 fun _ _ _ _ => ?_ | fail)
  refine r_call1 (trim_ok hb lb) rfl rfl ?_
  (repeat' first | refine st ?_ | refine s2 (fun _ => ?_) (fun _ => ?_) | refine s4 fun _ _ _ _ => ?_ | fail)
  refine r_call1 (cmp_ok d1 d2 (by omega) (by omega)) rfl rfl ?_
  (repeat' first | refine st ?_ | refine s2 (fun _ => ?_) (fun _ => ?_) | refine s4 fun _ _ _ _ => ?_ | fail)
  exact ends2 rfl rfl rfl rfl rfl

theorem qR_add {s t : Bool} {x y d e : Nat} (hd : d ≠ 0) (he : e ≠ 0) : qR s x d + qR t y e = mkRat (sg s (x * e) + sg t (y * d)) (d * e) := by
  unfold qR
  rw [Rat.mkRat_add_mkRat _ _ hd he]
  congr 2
  · cases s <;> simp [sg, Int.neg_mul]
  · cases t <;> simp [sg, Int.neg_mul]
theorem qR_addS {s t : Bool} {x y d : Nat} (hd : d ≠ 0) : qR s x d + qR t y d = mkRat (sg s x + sg t y) d := by
  rw [qR_add hd hd]
  have : sg s (x * d) + sg t (y * d) = (sg s x + sg t y) * (d : Int) := by
    rw [Int.add_mul]; congr 1
    · cases s <;> simp [sg, Int.neg_mul]
    · cases t <;> simp [sg, Int.neg_mul]
  rw [this, Rat.mkRat_mul_right hd]
theorem sg_same {s : Bool} {x y : Nat} : sg s x + sg s y = sg s (x + y) := by cases s <;> simp [sg] <;> omega
theorem sg_ge {s t : Bool} {x y : Nat} (h : s ≠ t) (hxy : y ≤ x) : sg s x + sg t y = sg s (x - y) := by cases s <;> cases t <;> simp [sg] at h ⊢ <;> omega
theorem sg_lt {s t : Bool} {x y : Nat} (h : s ≠ t) (hxy : x < y) : sg s x + sg t y = sg t (y - x) := by cases s <;> cases t <;> simp [sg] at h ⊢ <;> omega

set_option maxHeartbeats 1000000 in
theorem addF_ok {s t : Bool} {a b c d : List Nat} (ha : Dg a) (hb : Dg b) (hc : Dg c) (hd : Dg d) (la : Sm a) (lb : Sm b) (lc : Sm c) (ld : Sm d) :
    PCall env ext 31 [pF s a b, pF t c d] (.s (.agg (encR (qR s (val a) (val b) + qR t (val c) (val d))))) := by
  obtain ⟨s', A, B, p1, dA, dB, lA, lB, nB, e1⟩ := parts_ok (ext := ext) (neg := s) ha hb la lb
  obtain ⟨t', C, D, p2, dC, dD, lC, lD, nD, e2⟩ := parts_ok (ext := ext) (neg := t) hc hd lc ld
  rw [← e1, ← e2]
  clear e1 e2
  have mul_len : ∀ {X Y : List Nat}, Dg X → Dg Y → (ofN (val X * val Y)).length ≤ X.length + Y.length := by
    intro X Y hX hY
    apply ofN_len_le
    rw [Nat.pow_add]
    exact Nat.mul_lt_mul'' (val_lt hX) (val_lt hY)
  -- what is done with x, y over one denominator
  have tail : ∀ (X Y Z : List Nat), Dg X → Dg Y → Dg Z → X.length < 300000000000 → Y.length < 300000000000 → Z.length < 300000000000 → qR s' (val A) (val B) + qR t' (val C) (val D) = mkRat (sg s' (val X) + sg t' (val Y)) (val Z) →
      ∀ (sl : Nat → AV) (o : Objs), o.cel 0 0 [.p (.bool false), .e0, .e0] → sl 4 = .s (.c (.ptr 0 0 0 0)) → sl 5 = vb s' → sl 8 = vb t' → sl 11 = vk .u32 X → sl 12 = vk .u32 Y → sl 13 = vk .u32 Z →
      ∀ Qq, Qq = Ends [.cell true 3 4] (.s (.agg (encR (qR s' (val A) (val B) + qR t' (val C) (val D))))) → WC (Call env ext) fn31n26 [] Qq ⟨sl, o, 0⟩ := by
    intro X Y Z dX dY dZ lX lY lZ he sl o hm s4 s5 s8 s11 s12 s13 Qq hQ
    rw [he] at hQ
    subst hQ
    rw [upd6 s4 s5 s8 s11 s12 s13]
    clear s4 s5 s8 s11 s12 s13 he
    have ladd : (ofN (val X + val Y)).length < 1099511627776 := by
      have : (ofN (val X + val Y)).length ≤ (X.length + Y.length) + 1 := by
        apply ofN_len_le
        have h1 := val_lt dX
        have h2 := val_lt dY
        have h3 : 4294967296 ^ X.length ≤ 4294967296 ^ (X.length + Y.length) := Nat.pow_le_pow_right (by omega) (by omega)
        have h4 : 4294967296 ^ Y.length ≤ 4294967296 ^ (X.length + Y.length) := Nat.pow_le_pow_right (by omega) (by omega)
        rw [Nat.pow_succ]; omega
      omega
    have lsub1 := ofN_len_mono (show val X - val Y ≤ val X by omega)
    have lsub2 := ofN_len_mono (show val Y - val X ≤ val Y by omega)
    have lXo := ofN_len_le_of dX
    have lYo := ofN_len_le_of dY
    by_cases hst : s' = t'
    · subst hst
      rw [sg_same]
      have hr := reduce_ok (ext := ext) (neg := s') (Dg.ofN (val X + val Y)) dZ ladd (by omega)
      rw [val_ofN] at hr
      have hbb : (s' == s') = true := by simp
      (repeat' first | refine st ?_ | refine s2 (fun _ => ?_) (fun _ => ?_) | refine s4 fun _ _ _ _ => ?_ | fail)
      · refine r_call1 (add_ok dX dY (by omega) (by omega)) rfl rfl ?_
        (repeat' first | refine st ?_ | refine s2 (fun _ => ?_) (fun _ => ?_) | refine s4 fun _ _ _ _ => ?_ | fail)
        refine r_callA hr rfl rfl ?_
        (repeat' first | refine st ?_ | refine s2 (fun _ => ?_) (fun _ => ?_) | refine s4 fun _ _ _ _ => ?_ | fail)
        exact endsC (.inr rfl) rfl (by assumption) rfl rfl rfl
      · rename_i hh
        rw [hbb] at hh; cases hh
    · have hbb : (s' == t') = false := by simp [hst]
      by_cases hxy : val Y ≤ val X
      · rw [sg_ge hst hxy]
        have hr := reduce_ok (ext := ext) (neg := s') (Dg.ofN (val X - val Y)) dZ (by omega) (by omega)
        rw [val_ofN] at hr
        (repeat' first | refine st ?_ | refine s2 (fun _ => ?_) (fun _ => ?_) | refine s4 fun _ _ _ _ => ?_ | fail)
        · rename_i hh
          rw [hbb] at hh; cases hh
        · refine r_call2 (sub_ok dX dY (by omega) (by omega) hxy) rfl rfl ?_
          (repeat' first | refine st ?_ | refine s2 (fun _ => ?_) (fun _ => ?_) | refine s4 fun _ _ _ _ => ?_ | fail)
          refine r_callA hr rfl rfl ?_
          (repeat' first | refine st ?_ | refine s2 (fun _ => ?_) (fun _ => ?_) | refine s4 fun _ _ _ _ => ?_ | fail)
          exact endsC (.inr rfl) rfl (by assumption) rfl rfl rfl
      · rw [sg_lt hst (show val X < val Y by omega)]
        have hr := reduce_ok (ext := ext) (neg := t') (Dg.ofN (val Y - val X)) dZ (by omega) (by omega)
        rw [val_ofN] at hr
        (repeat' first | refine st ?_ | refine s2 (fun _ => ?_) (fun _ => ?_) | refine s4 fun _ _ _ _ => ?_ | fail)
        · rename_i hh
          rw [hbb] at hh; cases hh
        · refine r_call2 (sub0_ok dX dY (by omega) (by omega) (by omega)) rfl rfl ?_
          (repeat' first | refine st ?_ | refine s2 (fun _ => ?_) (fun _ => ?_) | refine s4 fun _ _ _ _ => ?_ | fail)
          refine r_call2 (sub_ok dY dX (by omega) (by omega) (by omega)) rfl rfl ?_
          (repeat' first | refine st ?_ | refine s2 (fun _ => ?_) (fun _ => ?_) | refine s4 fun _ _ _ _ => ?_ | fail)
          refine r_callA hr rfl rfl ?_
          (repeat' first | refine st ?_ | refine s2 (fun _ => ?_) (fun _ => ?_) | refine s4 fun _ _ _ _ => ?_ | fail)
          exact endsC (.inr rfl) rfl (by assumption) rfl rfl rfl
  refine PCall.walk (env := env) (g := 31) rfl rfl ?_
  (repeat' first | refine st ?_ | refine s2 (fun _ => ?_) (fun _ => ?_) | refine s4 fun _ _ _ _ => ?_ | fail)
  refine r_call3 p1 rfl rfl ?_
  (repeat' first | refine st ?_ | refine s2 (fun _ => ?_) (fun _ => ?_) | refine s4 fun _ _ _ _ => ?_ | fail)
  refine r_call3 p2 rfl rfl ?_
  (repeat' first | refine st ?_ | refine s2 (fun _ => ?_) (fun _ => ?_) | refine s4 fun _ _ _ _ => ?_ | fail)
  refine r_call1 (cmp_ok dB dD (by omega) (by omega)) rfl rfl ?_
  have m1 := mul_len dA dD
  have m2 := mul_len dC dB
  have m3 := mul_len dB dD
  by_cases hBD : val B = val D
  · have hc : cmpI (val B) (val D) = 0 := by unfold cmpI; omega
    have ht := tail A C B dA dC dB (by omega) (by omega) (by omega) (by rw [← hBD]; exact qR_addS nB)
    generalize hX : fn31n26 = X at ht
    (repeat' first | refine st ?_ | refine s2 (fun _ => ?_) (fun _ => ?_) | refine s4 fun _ _ _ _ => ?_ | fail)
    exact ht _ _ (by assumption) rfl rfl rfl rfl rfl rfl _ rfl
  · have hc : cmpI (val B) (val D) ≠ 0 := by unfold cmpI; omega
    have ht := tail (ofN (val A * val D)) (ofN (val C * val B)) (ofN (val B * val D)) (Dg.ofN _) (Dg.ofN _) (Dg.ofN _) (by omega) (by omega) (by omega) (by rw [val_ofN, val_ofN, val_ofN]; exact qR_add nB nD)
    generalize hX : fn31n26 = X at ht
    (repeat' first | refine st ?_ | refine s2 (fun _ => ?_) (fun _ => ?_) | refine s4 fun _ _ _ _ => ?_ | fail)
    refine r_call1 (mul_ok dA dD (by omega) (by omega)) rfl rfl ?_
    (repeat' first | refine st ?_ | refine s2 (fun _ => ?_) (fun _ => ?_) | refine s4 fun _ _ _ _ => ?_ | fail)
    refine r_call1 (mul_ok dC dB (by omega) (by omega)) rfl rfl ?_
    (repeat' first | refine st ?_ | refine s2 (fun _ => ?_) (fun _ => ?_) | refine s4 fun _ _ _ _ => ?_ | fail)
    refine r_call1 (mul_ok dB dD (by omega) (by omega)) rfl rfl ?_
    (repeat' first | refine st ?_ | refine s2 (fun _ => ?_) (fun _ => ?_) | refine s4 fun _ _ _ _ => ?_ | fail)
    exact ht _ _ (by assumption) rfl rfl rfl rfl rfl rfl _ rfl
end Go.Av
