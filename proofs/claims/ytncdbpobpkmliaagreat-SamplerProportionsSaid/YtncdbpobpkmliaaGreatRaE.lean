/- A part of the proof (own method: an abstract machine). No condition. -/
import Derived.Test.YtncdbpobpkmliaaGreatRaB
import Derived.Test.YtncdbpobpkmliaaGreatAvRul
import Derived.Test.YtncdbpobpkmliaaGreatRaA
namespace Go.Av
open Go
variable {ext : Calls0}

/-- How many digits a rational number takes at most. -/
def sz (r : Rat) : Nat := (ofN r.num.natAbs).length + (ofN r.den).length
theorem sg_self (r : Rat) : sg (decide (r.num < 0)) r.num.natAbs = r.num := by
  by_cases h : r.num < 0
  · rw [decide_eq_true h]; show -((r.num.natAbs : Nat) : Int) = _; omega
  · rw [decide_eq_false h]; show ((r.num.natAbs : Nat) : Int) = _; omega
theorem qR_self (r : Rat) : qR (decide (r.num < 0)) r.num.natAbs r.den = r := by
  unfold qR; rw [sg_self, Rat.mkRat_self]
theorem encR_pF (r : Rat) : PSV.agg (encR r) = pF (decide (r.num < 0)) (ofN r.num.natAbs) (ofN r.den) := rfl

/-- Of a struct: it holds a rational number, canonical or not. -/
structure IsF (x : PSV) (r : Rat) : Prop where
  h : ∃ neg a b, x = pF neg a b ∧ Dg a ∧ Dg b ∧ Sm a ∧ Sm b ∧ qR neg (val a) (val b) = r
theorem IsF.enc {r : Rat} (h : sz r < 137438953472) : IsF (.agg (encR r)) r := by
  refine ⟨_, _, _, encR_pF r, Dg.ofN _, Dg.ofN _, ?_, ?_, ?_⟩
  · unfold sz at h; show _ < 137438953472; omega
  · unfold sz at h; show _ < 137438953472; omega
  · rw [val_ofN, val_ofN]; exact qR_self r
theorem add_F {x y : PSV} {r s : Rat} (hx : IsF x r) (hy : IsF y s) : PCall env ext 31 [x, y] (.s (.agg (encR (r + s)))) := by
  obtain ⟨_, a, b, rfl, h1, h2, h3, h4, rfl⟩ := hx.h
  obtain ⟨_, c, d, rfl, h5, h6, h7, h8, rfl⟩ := hy.h
  exact addF_ok h1 h2 h5 h6 h3 h4 h7 h8
theorem mul_F {x y : PSV} {r s : Rat} (hx : IsF x r) (hy : IsF y s) : PCall env ext 48 [x, y] (.s (.agg (encR (r * s)))) := by
  obtain ⟨_, a, b, rfl, h1, h2, h3, h4, rfl⟩ := hx.h
  obtain ⟨_, c, d, rfl, h5, h6, h7, h8, rfl⟩ := hy.h
  exact mulF_ok h1 h2 h5 h6 h3 h4 h7 h8
theorem neg_F {x : PSV} {r : Rat} (hx : IsF x r) : PCall env ext 33 [x] (.s (.agg (encR (-r)))) := by
  obtain ⟨_, a, b, rfl, h1, h2, h3, h4, rfl⟩ := hx.h
  exact negF_ok h1 h2 h3 h4
theorem norm_F {x : PSV} {r : Rat} (hx : IsF x r) : PCall env ext 46 [x] (.s (.agg (encR r))) := by
  obtain ⟨_, a, b, rfl, h1, h2, h3, h4, rfl⟩ := hx.h
  exact normF_ok h1 h2 h3 h4
theorem sz_neg (r : Rat) : sz (-r) = sz r := by unfold sz; simp
theorem encR_one : encR 1 = [.bool false, .sl (encK .u32 [1]), .sl (encK .u32 [1])] := rfl
theorem sz_one : sz 1 = 2 := rfl

theorem sub_F {x y : PSV} {r s : Rat} (hx : IsF x r) (hy : IsF y s) (hs : sz s < 137438953472) : PCall env ext 34 [x, y] (.s (.agg (encR (r - s)))) := by
  have h1 := neg_F (ext := ext) hy
  have h2 := add_F (ext := ext) hx (IsF.enc (r := -s) (by rw [sz_neg]; exact hs))
  rw [← Rat.sub_eq_add_neg] at h2
  obtain ⟨n1, a, b, rfl, _⟩ := hx.h
  obtain ⟨n2, c, d, rfl, _⟩ := hy.h
  refine PCall.walk (env := env) (g := 34) rfl rfl ?_
  (repeat' first | refine st ?_ | refine s2 (fun _ => ?_) (fun _ => ?_) | refine s4 fun _ _ _ _ => ?_ | fail)
  refine p_callA h1 rfl rfl ?_
  (repeat' first | refine st ?_ | refine s2 (fun _ => ?_) (fun _ => ?_) | refine s4 fun _ _ _ _ => ?_ | fail)
  refine p_callA h2 rfl rfl ?_
  (repeat' first | refine st ?_ | refine s2 (fun _ => ?_) (fun _ => ?_) | refine s4 fun _ _ _ _ => ?_ | fail)
  exact endsC (.inr rfl) rfl (by assumption) rfl rfl rfl
theorem compl_F {x : PSV} {r : Rat} (hx : IsF x r) (hs : sz r < 137438953472) : PCall env ext 35 [x] (.s (.agg (encR (1 - r)))) := by
  have h2 := sub_F (ext := ext) (IsF.enc (r := 1) (by rw [sz_one]; omega)) hx hs
  obtain ⟨n1, a, b, rfl, _⟩ := hx.h
  refine PCall.walk (env := env) (g := 35) rfl rfl ?_
  (repeat' first | refine st ?_ | refine s2 (fun _ => ?_) (fun _ => ?_) | refine s4 fun _ _ _ _ => ?_ | fail)
  refine p_call1 one_ok rfl rfl ?_
  (repeat' first | refine st ?_ | refine s2 (fun _ => ?_) (fun _ => ?_) | refine s4 fun _ _ _ _ => ?_ | fail)
  refine p_call1 one_ok rfl rfl ?_
  (repeat' first | refine st ?_ | refine s2 (fun _ => ?_) (fun _ => ?_) | refine s4 fun _ _ _ _ => ?_ | fail)
  refine p_callA h2 rfl rfl ?_
  (repeat' first | refine st ?_ | refine s2 (fun _ => ?_) (fun _ => ?_) | refine s4 fun _ _ _ _ => ?_ | fail)
  exact endsC (.inr rfl) rfl (by assumption) rfl rfl rfl
end Go.Av
namespace Go.Av
open Go
variable {ext : Calls0}

theorem natDivMod0_ok {a b : List Nat} (ha : Dg a) (hb : Dg b) (la : Sh a) (lb : Sh b) (hb0 : val b = 0) : PCall env ext 66 [pN a, pN b] (.tup [pN [], pN [], .c (.bool false)]) := by
  refine PCall.walk (env := env) (g := 66) rfl rfl ?_
  (repeat' first | refine st ?_ | refine s2 (fun _ => ?_) (fun _ => ?_) | refine s4 fun _ _ _ _ => ?_ | fail)
  refine r_call1 (natNorm_ok ha la) rfl rfl ?_
  (repeat' first | refine st ?_ | refine s2 (fun _ => ?_) (fun _ => ?_) | refine s4 fun _ _ _ _ => ?_ | fail)
  refine r_call1 (natNorm_ok hb lb) rfl rfl ?_
  rw [hb0, ofN_zero]
  (repeat' first | refine st ?_ | refine s2 (fun _ => ?_) (fun _ => ?_) | refine s4 fun _ _ _ _ => ?_ | fail)
  exact ends3 rfl rfl rfl rfl rfl rfl rfl

set_option maxHeartbeats 1000000 in
theorem frac_ok {neg : Bool} {a b : List Nat} (ha : Dg a) (hb : Dg b) (la : a.length < 500000000000) (lb : b.length < 500000000000) : PCall env ext 67 [.c (.bool neg), pN a, pN b] (.s (.agg (encR (qR neg (val a) (val b))))) := by
  have hg := natGCD_ok (ext := ext) ha hb la lb
  have l1 := ofN_len_le_of ha
  have l2 := ofN_len_le_of hb
  generalize hn : val a = n at *
  generalize hd : val b = d at *
  have lg : (ofN (Nat.gcd n d)).length < 500000000000 := by
    by_cases h0 : n = 0
    · subst h0; rw [Nat.gcd_zero_left]; omega
    · have := ofN_len_mono (Nat.gcd_le_left d (show 0 < n by omega)); omega
  have dg := Dg.ofN (Nat.gcd n d)
  have h1 := natOf_ok (ext := ext) (n := 1) (by omega)
  rw [ofN_one] at h1
  refine PCall.walk (env := env) (g := 67) rfl rfl ?_
  (repeat' first | refine st ?_ | refine s2 (fun _ => ?_) (fun _ => ?_) | refine s4 fun _ _ _ _ => ?_ | fail)
  refine r_call1 hg rfl rfl ?_
  by_cases hg0 : Nat.gcd n d = 0
  · have hz : n = 0 := Nat.eq_zero_of_gcd_eq_zero_left hg0
    have q1 := natDivMod0_ok (ext := ext) ha dg (by omega) (by omega) (by rw [val_ofN, hg0])
    have q2 := natDivMod0_ok (ext := ext) hb dg (by omega) (by omega) (by rw [val_ofN, hg0])
    rw [qR_zero (.inl hz), encR_zero]
    (repeat' first | refine st ?_ | refine s2 (fun _ => ?_) (fun _ => ?_) | refine s4 fun _ _ _ _ => ?_ | fail)
    refine r_call3 q1 rfl rfl ?_
    (repeat' first | refine st ?_ | refine s2 (fun _ => ?_) (fun _ => ?_) | refine s4 fun _ _ _ _ => ?_ | fail)
    refine r_call3 q2 rfl rfl ?_
    (repeat' first | refine st ?_ | refine s2 (fun _ => ?_) (fun _ => ?_) | refine s4 fun _ _ _ _ => ?_ | fail)
    refine r_call1 h1 rfl rfl ?_
    (repeat' first | refine st ?_ | refine s2 (fun _ => ?_) (fun _ => ?_) | refine s4 fun _ _ _ _ => ?_ | fail)
    exact endsC (.inr rfl) rfl (by assumption) rfl rfl rfl
  have q1 := natDivMod_ok (ext := ext) ha dg (by omega) (by omega) (by rw [val_ofN]; omega)
  have q2 := natDivMod_ok (ext := ext) hb dg (by omega) (by omega) (by rw [val_ofN]; omega)
  rw [val_ofN, hn] at q1
  rw [val_ofN, hd] at q2
  by_cases hn0 : n = 0
  · rw [qR_zero (.inl hn0), encR_zero]
    rw [show n / Nat.gcd n d = 0 by rw [hn0, Nat.zero_div], ofN_zero] at q1
    (repeat' first | refine st ?_ | refine s2 (fun _ => ?_) (fun _ => ?_) | refine s4 fun _ _ _ _ => ?_ | fail)
    refine r_call3 q1 rfl rfl ?_
    (repeat' first | refine st ?_ | refine s2 (fun _ => ?_) (fun _ => ?_) | refine s4 fun _ _ _ _ => ?_ | fail)
    refine r_call3 q2 rfl rfl ?_
    (repeat' first | refine st ?_ | refine s2 (fun _ => ?_) (fun _ => ?_) | refine s4 fun _ _ _ _ => ?_ | fail)
    refine r_call1 h1 rfl rfl ?_
    (repeat' first | refine st ?_ | refine s2 (fun _ => ?_) (fun _ => ?_) | refine s4 fun _ _ _ _ => ?_ | fail)
    exact endsC (.inr rfl) rfl (by assumption) rfl rfl rfl
  have pn : 0 < (ofN (n / Nat.gcd n d)).length := len_pos (Nat.div_pos (Nat.le_of_dvd (by omega) (Nat.gcd_dvd_left _ _)) (by omega))
  by_cases hd0 : d = 0
  · rw [qR_zero (.inr hd0), encR_zero]
    rw [show d / Nat.gcd n d = 0 by rw [hd0, Nat.zero_div], ofN_zero] at q2
    (repeat' first | refine st ?_ | refine s2 (fun _ => ?_) (fun _ => ?_) | refine s4 fun _ _ _ _ => ?_ | fail)
    refine r_call3 q1 rfl rfl ?_
    (repeat' first | refine st ?_ | refine s2 (fun _ => ?_) (fun _ => ?_) | refine s4 fun _ _ _ _ => ?_ | fail)
    refine r_call3 q2 rfl rfl ?_
    (repeat' first | refine st ?_ | refine s2 (fun _ => ?_) (fun _ => ?_) | refine s4 fun _ _ _ _ => ?_ | fail)
    refine r_call1 h1 rfl rfl ?_
    (repeat' first | refine st ?_ | refine s2 (fun _ => ?_) (fun _ => ?_) | refine s4 fun _ _ _ _ => ?_ | fail)
    exact endsC (.inr rfl) rfl (by assumption) rfl rfl rfl
  have pd : 0 < (ofN (d / Nat.gcd n d)).length := len_pos (Nat.div_pos (Nat.le_of_dvd (by omega) (Nat.gcd_dvd_right _ _)) (by omega))
  rw [encR_qR (show 0 < n by omega) (show 0 < d by omega)]
  (repeat' first | refine st ?_ | refine s2 (fun _ => ?_) (fun _ => ?_) | refine s4 fun _ _ _ _ => ?_ | fail)
  refine r_call3 q1 rfl rfl ?_
  (repeat' first | refine st ?_ | refine s2 (fun _ => ?_) (fun _ => ?_) | refine s4 fun _ _ _ _ => ?_ | fail)
  refine r_call3 q2 rfl rfl ?_
  (repeat' first | refine st ?_ | refine s2 (fun _ => ?_) (fun _ => ?_) | refine s4 fun _ _ _ _ => ?_ | fail)
  exact endsC (.inr rfl) rfl (by assumption) rfl rfl rfl

theorem rnorm_F {x : PSV} {r : Rat} (hx : IsF x r) : PCall env ext 83 [x] (.s (.agg (encR r))) := by
  obtain ⟨neg, a, b, rfl, h1, h2, h3, h4, rfl⟩ := hx.h
  refine PCall.walk (env := env) (g := 83) rfl rfl ?_
  (repeat' first | refine st ?_ | refine s2 (fun _ => ?_) (fun _ => ?_) | refine s4 fun _ _ _ _ => ?_ | fail)
  refine r_callA (frac_ok h1 h2 (by omega) (by omega)) rfl rfl ?_
  (repeat' first | refine st ?_ | refine s2 (fun _ => ?_) (fun _ => ?_) | refine s4 fun _ _ _ _ => ?_ | fail)
  exact endsC (.inr rfl) rfl (by assumption) rfl rfl rfl
theorem fracInt_ok {n : Nat} (h : n < 9223372036854775808) : PCall env ext 72 [.c (.int .i64 (n : Nat))] (.s (.agg (encR (n : Rat)))) := by
  have ln : (ofN n).length ≤ 2 := ofN_len_le (by simp only [Nat.reducePow]; omega)
  have hf := frac_ok (ext := ext) (neg := false) (Dg.ofN n) (Dg.ofN 1) (by omega) (by rw [ofN_one]; simp)
  rw [val_ofN, val_ofN] at hf
  have e : qR false n 1 = (n : Rat) := by
    unfold qR; show mkRat (n : Int) 1 = _
    rw [Rat.mkRat_one]; rfl
  rw [e] at hf
  refine PCall.walk (env := env) (g := 72) rfl rfl ?_
  (repeat' first | refine st ?_ | refine s2 (fun _ => ?_) (fun _ => ?_) | refine s4 fun _ _ _ _ => ?_ | fail)
  refine r_call1 (natOf_ok (n := n) (by omega)) rfl rfl ?_
  (repeat' first | refine st ?_ | refine s2 (fun _ => ?_) (fun _ => ?_) | refine s4 fun _ _ _ _ => ?_ | fail)
  refine r_call1 (natOf_ok (n := 1) (by omega)) rfl rfl ?_
  (repeat' first | refine st ?_ | refine s2 (fun _ => ?_) (fun _ => ?_) | refine s4 fun _ _ _ _ => ?_ | fail)
  refine r_callA hf rfl rfl ?_
  (repeat' first | refine st ?_ | refine s2 (fun _ => ?_) (fun _ => ?_) | refine s4 fun _ _ _ _ => ?_ | fail)
  exact endsC (.inr rfl) rfl (by assumption) rfl rfl rfl
end Go.Av
namespace Go.Av
open Go
variable {ext : Calls0}

/-- The sign of a rational number. -/
def sgn (r : Rat) : Int := if r.num = 0 then 0 else if r.num < 0 then -1 else 1
theorem sgn_qR {neg : Bool} {n d : Nat} : sgF neg n d = sgn (qR neg n d) := by
  unfold sgF
  by_cases h : n = 0 ∨ d = 0
  · rw [if_pos h, qR_zero h]; rfl
  · rw [if_neg h]
    have hn : 0 < n := by omega
    have hd : 0 < d := by omega
    have e := encR_qR (neg := neg) hn hd
    unfold encR at e
    injection e with e1 _
    injection e1 with e1
    have hne : (qR neg n d).num ≠ 0 := by
      intro h0
      have h1 : qR neg n d = 0 := Rat.num_eq_zero.1 h0
      unfold qR at h1
      rw [Rat.mkRat_eq_zero (by omega)] at h1
      cases neg
      · have : (n : Int) = 0 := h1
        omega
      · have : -(n : Int) = 0 := h1
        omega
    unfold sgn
    rw [if_neg hne]
    cases neg with
    | true => rw [if_pos (of_decide_eq_true e1)]; rfl
    | false => rw [if_neg (of_decide_eq_false e1)]; rfl
theorem sign_F {x : PSV} {r : Rat} (hx : IsF x r) : PCall env ext 12 [x] (.s (.c (.int .i64 (sgn r)))) := by
  obtain ⟨_, a, b, rfl, h1, h2, h3, h4, rfl⟩ := hx.h
  rw [← sgn_qR]
  exact sign_ok h1 h2 h3 h4

theorem rsign_F {x : PSV} {r : Rat} (hx : IsF x r) : PCall env ext 84 [x] (.s (.c (.int .i64 (sgn r)))) := by
  have hn := rnorm_F (ext := ext) hx
  obtain ⟨neg, a, b, rfl, _⟩ := hx.h
  unfold encR at hn
  refine PCall.walk (env := env) (g := 84) rfl rfl ?_
  by_cases h0 : r.num = 0
  · rw [h0] at hn
    have e : (ofN (0 : Int).natAbs).length = 0 := rfl
    (repeat' first | refine st ?_ | refine s2 (fun _ => ?_) (fun _ => ?_) | refine s4 fun _ _ _ _ => ?_ | fail)
    refine r_callA hn rfl rfl ?_
    (repeat' first | refine st ?_ | refine s2 (fun _ => ?_) (fun _ => ?_) | refine s4 fun _ _ _ _ => ?_ | fail)
    refine ends1 rfl rfl ?_
    unfold sgn; rw [if_pos h0]
  · have hp := len_pos (show 0 < r.num.natAbs by omega)
    unfold sgn
    rw [if_neg h0]
    by_cases hneg : r.num < 0
    · rw [decide_eq_true hneg] at hn
      rw [if_pos hneg]
      (repeat' first | refine st ?_ | refine s2 (fun _ => ?_) (fun _ => ?_) | refine s4 fun _ _ _ _ => ?_ | fail)
      refine r_callA hn rfl rfl ?_
      (repeat' first | refine st ?_ | refine s2 (fun _ => ?_) (fun _ => ?_) | refine s4 fun _ _ _ _ => ?_ | fail)
      exact ends1 rfl rfl rfl
    · rw [decide_eq_false hneg] at hn
      rw [if_neg hneg]
      (repeat' first | refine st ?_ | refine s2 (fun _ => ?_) (fun _ => ?_) | refine s4 fun _ _ _ _ => ?_ | fail)
      refine r_callA hn rfl rfl ?_
      (repeat' first | refine st ?_ | refine s2 (fun _ => ?_) (fun _ => ?_) | refine s4 fun _ _ _ _ => ?_ | fail)
      exact ends1 rfl rfl rfl

/-- The least common multiple, as the program computes it. -/
def lcmN (a b : Nat) : Nat := a / Nat.gcd a b * b
theorem lcmN_eq (a b : Nat) : lcmN a b = a * (b / Nat.gcd a b) := by
  unfold lcmN
  by_cases hg : Nat.gcd a b = 0
  · have h1 := Nat.eq_zero_of_gcd_eq_zero_left hg
    subst h1; simp
  · have ha : Nat.gcd a b ∣ a := Nat.gcd_dvd_left a b
    have hb : Nat.gcd a b ∣ b := Nat.gcd_dvd_right a b
    obtain ⟨x, hx⟩ := ha
    obtain ⟨y, hy⟩ := hb
    generalize Nat.gcd a b = g at *
    rw [hx, hy, Nat.mul_div_cancel_left _ (by omega), Nat.mul_div_cancel_left _ (by omega)]
    grind
theorem lcmN_pos {a b : Nat} (ha : 0 < a) (hb : 0 < b) : 0 < lcmN a b :=
  Nat.mul_pos (Nat.div_pos (Nat.gcd_le_left _ ha) (Nat.gcd_pos_of_pos_left _ ha)) hb
theorem lcmN_le (a b : Nat) : lcmN a b ≤ a * b := Nat.mul_le_mul_right _ (Nat.div_le_self _ _)
theorem lcm_ok {a b : List Nat} (ha : Dg a) (hb : Dg b) (la : Sh a) (lb : Sh b) (ha0 : 0 < val a) : PCall env ext 118 [pN a, pN b] (.s (pN (ofN (lcmN (val a) (val b))))) := by
  have hg := gcdAll_ok (ext := ext) ha hb la lb
  have hle := ofN_len_mono (Nat.gcd_le_left (val b) ha0)
  have l1 := ofN_len_le_of ha
  have h0 := Nat.gcd_pos_of_pos_left (val b) ha0
  have hdm := divMod_ok (ext := ext) ha (Dg.ofN (Nat.gcd (val a) (val b))) la (by omega) (by rw [val_ofN]; exact h0)
  rw [val_ofN] at hdm
  have lq := ofN_len_mono (Nat.div_le_self (val a) (Nat.gcd (val a) (val b)))
  have hm := mul_ok (ext := ext) (Dg.ofN (val a / Nat.gcd (val a) (val b))) hb (by omega) lb
  rw [val_ofN] at hm
  refine PCall.walk (env := env) (g := 118) rfl rfl ?_
  (repeat' first | refine st ?_ | refine s2 (fun _ => ?_) (fun _ => ?_) | refine s4 fun _ _ _ _ => ?_ | fail)
  refine r_call1 hg rfl rfl ?_
  (repeat' first | refine st ?_ | refine s2 (fun _ => ?_) (fun _ => ?_) | refine s4 fun _ _ _ _ => ?_ | fail)
  refine r_call3 hdm rfl rfl ?_
  (repeat' first | refine st ?_ | refine s2 (fun _ => ?_) (fun _ => ?_) | refine s4 fun _ _ _ _ => ?_ | fail)
  refine r_call1 hm rfl rfl ?_
  (repeat' first | refine st ?_ | refine s2 (fun _ => ?_) (fun _ => ?_) | refine s4 fun _ _ _ _ => ?_ | fail)
  exact ends1 rfl rfl rfl
end Go.Av
