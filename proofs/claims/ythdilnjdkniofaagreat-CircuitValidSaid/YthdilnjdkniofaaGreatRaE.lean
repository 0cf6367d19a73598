/- A part of the proof (own method: an abstract machine). No condition. -/
import Derived.Test.YthdilnjdkniofaaGreatRaB
import Derived.Test.YthdilnjdkniofaaGreatAvRul
import Derived.Test.YthdilnjdkniofaaGreatRaA
import Derived.Test.YthdilnjdkniofaaGreatAvArg
namespace Go.Av
open Go
variable {ext : Calls0}

/-- How many digits a rational number takes at most. -/
def sz (r : Rat) : Nat := (ofN r.num.natAbs).length + (ofN r.den).length
theorem sg_self (r : Rat) : sg (decide (r.num < 0)) r.num.natAbs = r.num := by
  by_cases h : r.num < 0
  · rw [decide_eq_true h]; show -((r.num.natAbs : Nat) : Int) = _; omega
  · rw [decide_eq_false h]; show ((r.num.natAbs : Nat) : Int) = _; omega
theorem qR_self (r : Rat) : qR (decide (r.num < 0)) r.num.natAbs r.den = r := by
  unfold qR; rw [sg_self, Rat.mkRat_self]
theorem encR_pF (r : Rat) : PSV.agg (encR r) = pF (decide (r.num < 0)) (ofN r.num.natAbs) (ofN r.den) := rfl

/-- Of a struct: it holds a rational number, canonical or not. -/
structure IsF (x : PSV) (r : Rat) : Prop where
  h : ∃ neg a b, x = pF neg a b ∧ Dg a ∧ Dg b ∧ Sm a ∧ Sm b ∧ qR neg (val a) (val b) = r
theorem IsF.enc {r : Rat} (h : sz r < 137438953472) : IsF (.agg (encR r)) r := by
  refine ⟨_, _, _, encR_pF r, Dg.ofN _, Dg.ofN _, ?_, ?_, ?_⟩
  · unfold sz at h; show _ < 137438953472; omega
  · unfold sz at h; show _ < 137438953472; omega
  · rw [val_ofN, val_ofN]; exact qR_self r
theorem add_F {x y : PSV} {r s : Rat} (hx : IsF x r) (hy : IsF y s) : PCall env ext 31 [x, y] (.s (.agg (encR (r + s)))) := by
  obtain ⟨_, a, b, rfl, h1, h2, h3, h4, rfl⟩ := hx.h
  obtain ⟨_, c, d, rfl, h5, h6, h7, h8, rfl⟩ := hy.h
  exact addF_ok h1 h2 h5 h6 h3 h4 h7 h8
theorem mul_F {x y : PSV} {r s : Rat} (hx : IsF x r) (hy : IsF y s) : PCall env ext 48 [x, y] (.s (.agg (encR (r * s)))) := by
  obtain ⟨_, a, b, rfl, h1, h2, h3, h4, rfl⟩ := hx.h
  obtain ⟨_, c, d, rfl, h5, h6, h7, h8, rfl⟩ := hy.h
  exact mulF_ok h1 h2 h5 h6 h3 h4 h7 h8
theorem neg_F {x : PSV} {r : Rat} (hx : IsF x r) : PCall env ext 33 [x] (.s (.agg (encR (-r)))) := by
  obtain ⟨_, a, b, rfl, h1, h2, h3, h4, rfl⟩ := hx.h
  exact negF_ok h1 h2 h3 h4
theorem norm_F {x : PSV} {r : Rat} (hx : IsF x r) : PCall env ext 46 [x] (.s (.agg (encR r))) := by
  obtain ⟨_, a, b, rfl, h1, h2, h3, h4, rfl⟩ := hx.h
  exact normF_ok h1 h2 h3 h4
theorem sz_neg (r : Rat) : sz (-r) = sz r := by unfold sz; simp
theorem encR_one : encR 1 = [.bool false, .sl (encK .u32 [1]), .sl (encK .u32 [1])] := rfl
theorem sz_one : sz 1 = 2 := rfl

theorem sub_F {x y : PSV} {r s : Rat} (hx : IsF x r) (hy : IsF y s) (hs : sz s < 137438953472) : PCall env ext 34 [x, y] (.s (.agg (encR (r - s)))) := by
  have h1 := neg_F (ext := ext) hy
  have h2 := add_F (ext := ext) hx (IsF.enc (r := -s) (by rw [sz_neg]; exact hs))
  rw [← Rat.sub_eq_add_neg] at h2
  obtain ⟨n1, a, b, rfl, _⟩ := hx.h
  obtain ⟨n2, c, d, rfl, _⟩ := hy.h
  refine PCall.walk (env := env) (g := 34) rfl rfl ?_
  (repeat' first | refine st ?_ | refine s2 (fun _ => ?_) (fun _ => ?_) | refine s4 fun _ _ _ _ => ?_ | fail)
  refine p_callA h1 rfl rfl ?_
  (repeat' first | refine st ?_ | refine s2 (fun _ => ?_) (fun _ => ?_) | refine s4 fun _ _ _ _ => ?_ | fail)
  refine p_callA h2 rfl rfl ?_
  (repeat' first | refine st ?_ | refine s2 (fun _ => ?_) (fun _ => ?_) | refine s4 fun _ _ _ _ => ?_ | fail)
  exact endsC (.inr rfl) rfl (by assumption) rfl rfl rfl
theorem compl_F {x : PSV} {r : Rat} (hx : IsF x r) (hs : sz r < 137438953472) : PCall env ext 35 [x] (.s (.agg (encR (1 - r)))) := by
  have h2 := sub_F (ext := ext) (IsF.enc (r := 1) (by rw [sz_one]; omega)) hx hs
  obtain ⟨n1, a, b, rfl, _⟩ := hx.h
  refine PCall.walk (env := env) (g := 35) rfl rfl ?_
  (repeat' first | refine st ?_ | refine s2 (fun _ => ?_) (fun _ => ?_) | refine s4 fun _ _ _ _ => ?_ | fail)
  refine p_call1 one_ok rfl rfl ?_
  (repeat' first | refine st ?_ | refine s2 (fun _ => ?_) (fun _ => ?_) | refine s4 fun _ _ _ _ => ?_ | fail)
  refine p_call1 one_ok rfl rfl ?_
  (repeat' first | refine st ?_ | refine s2 (fun _ => ?_) (fun _ => ?_) | refine s4 fun _ _ _ _ => ?_ | fail)
  refine p_callA h2 rfl rfl ?_
  (repeat' first | refine st ?_ | refine s2 (fun _ => ?_) (fun _ => ?_) | refine s4 fun _ _ _ _ => ?_ | fail)
  exact endsC (.inr rfl) rfl (by assumption) rfl rfl rfl
end Go.Av
namespace Go.Av
open Go
variable {ext : Calls0}

/-- The sum of the first i numbers. -/
def psum (rs : List Rat) : Nat → Rat
  | 0 => 0
  | i + 1 => psum rs i + rs.getD i 0
def pprod (rs : List Rat) : Nat → Rat
  | 0 => 1
  | i + 1 => pprod rs i * rs.getD i 0

theorem sum_F {xs : List (List PC)} {rs : List Rat} (hl : xs.length = rs.length) (hx : ∀ i row, xs[i]? = some row → IsF (.agg row) (rs.getD i 0)) (hs : ∀ i, i ≤ rs.length → sz (psum rs i) < 137438953472) (hn : rs.length < 1099511627776) :
    PCall env ext 32 [.c (.sl xs)] (.s (.agg (encR (psum rs rs.length)))) := by
  refine PCall.walk (env := env) (g := 32) rfl rfl ?_
  (repeat' first | refine st ?_ | refine s2 (fun _ => ?_) (fun _ => ?_) | refine s4 fun _ _ _ _ => ?_ | fail)
  refine r_call1 one_ok rfl rfl ?_
  (repeat' first | refine st ?_ | refine s2 (fun _ => ?_) (fun _ => ?_) | refine s4 fun _ _ _ _ => ?_ | fail)
  rename_i o0 g1 g2 g3 o1 g4 g5 g6 o2 g7 g8 g9
  rw [hl]
  have hres : o2.cel 0 0 [.p (.bool false), .e0, .e0] := by
    unfold Objs.cel; rw [g8 0 0 (by omega), g5 0 0 (by omega)]; exact g1
  generalize hw : o0.nv (0 + 1) = w at *
  refine w_loopUp (fun i sl o => i ≤ rs.length ∧ o.cel 0 0 [.p (.bool false), .e0, .e0] ∧ ((psum rs i = 0 ∧ o.cel 1 w [.p (.bool false), .e0, .p (.sl (encK .u32 [1]))]) ∨ o.cel 1 w ((encR (psum rs i)).map C.p)) ∧
    sl 2 = .s (.c (.ptr 0 0 0 0)) ∧ sl 3 = .s (.c (.ptr 1 w 0 0)) ∧ sl 8 = vs xs ∧ sl 9 = vn .i64 rs.length ∧ sl 10 = vn .i64 i) 0 rs.length
    ⟨by omega, hres, .inl ⟨rfl, g7⟩, rfl, rfl, rfl, rfl, rfl⟩ (fun i sl o h => h.1) ?_
  clear g1 g2 g3 g4 g5 g6 g7 g8 g9 hres
  rintro i sl o ⟨hi, hres, hacc, s2, s3, s8, s9, s10⟩
  rw [upd5 s2 s3 s8 s9 s10]
  clear s2 s3 s8 s9 s10
  by_cases hin : i < rs.length
  · obtain ⟨row, hrow⟩ : ∃ row, xs[i]? = some row := ⟨_, List.getElem?_eq_getElem (by omega)⟩
    have hF := hx i row hrow
    have ha := add_F (ext := ext) (IsF.enc (hs i hi)) hF
    obtain ⟨neg, a, b, he, _⟩ := hF.h
    cases he
    have keep : ∀ oA oB : Objs, (∀ o2 v2, ¬ (o2 = 0 + 2 ∧ v2 = o.nv (0 + 2)) → oA.m o2 v2 = o.m o2 v2) → (∀ o2 v2, ¬ (o2 = 0 + 2 ∧ v2 = o.nv (0 + 2)) → oB.m o2 v2 = oA.m o2 v2) →
        oB.m 0 0 = o.m 0 0 ∧ oB.m 1 w = o.m 1 w := by
      intro oA oB h1 h2
      refine ⟨?_, ?_⟩
      · rw [h2 _ _ (by omega), h1 _ _ (by omega)]
      · rw [h2 _ _ (by omega), h1 _ _ (by omega)]
    (repeat' first | refine st ?_ | refine s2 (fun _ => ?_) (fun _ => ?_) | refine s4 fun _ _ _ _ => ?_ | fail)
    refine r_iaS rfl rfl (by first | with_reducible exact cself _ | exact nlit _) hrow rfl ?_
    (repeat' first | refine st ?_ | refine s2 (fun _ => ?_) (fun _ => ?_) | refine s4 fun _ _ _ _ => ?_ | fail)
    rename_i oA g1 g2 g3 oB g4 g5 g6
    obtain ⟨k0, k1⟩ := keep oA oB g2 g5
    have hres' : oB.cel 0 0 [.p (.bool false), .e0, .e0] := by unfold Objs.cel; rw [k0]; exact hres
    rcases hacc with ⟨hz, hacc⟩ | hacc
    · have hacc' : oB.cel 1 w [.p (.bool false), .e0, .p (.sl (encK .u32 [1]))] := by unfold Objs.cel; rw [k1]; exact hacc
      rw [hz] at ha
      have e0 : psum rs (i + 1) = 0 + rs.getD i 0 := by simp only [psum, hz]
      (repeat' first | refine st ?_ | refine s2 (fun _ => ?_) (fun _ => ?_) | refine s4 fun _ _ _ _ => ?_ | fail)
      refine r_callA ha rfl rfl ?_
      (repeat' first | refine st ?_ | refine s2 (fun _ => ?_) (fun _ => ?_) | refine s4 fun _ _ _ _ => ?_ | fail)
      rename_i oC g7 g8 g9
      rw [← e0] at g7
      exact ⟨⟨by omega, by unfold Objs.cel; rw [g8 _ _ (by omega)]; exact hres', .inr g7, rfl, rfl, rfl, rfl, rfl⟩, rfl⟩
    · have hacc' : oB.cel 1 w ((encR (psum rs i)).map C.p) := by unfold Objs.cel; rw [k1]; exact hacc
      (repeat' first | refine st ?_ | refine s2 (fun _ => ?_) (fun _ => ?_) | refine s4 fun _ _ _ _ => ?_ | fail)
      refine r_callA ha rfl rfl ?_
      (repeat' first | refine st ?_ | refine s2 (fun _ => ?_) (fun _ => ?_) | refine s4 fun _ _ _ _ => ?_ | fail)
      rename_i oC g7 g8 g9
      exact ⟨⟨by omega, by unfold Objs.cel; rw [g8 _ _ (by omega)]; exact hres', .inr g7, rfl, rfl, rfl, rfl, rfl⟩, rfl⟩
  · have : i = rs.length := by omega
    subst this
    rcases hacc with ⟨hz, hacc⟩ | hacc
    · rw [hz]
      (repeat' first | refine st ?_ | refine s2 (fun _ => ?_) (fun _ => ?_) | refine s4 fun _ _ _ _ => ?_ | fail)
      exact endsC (.inr rfl) rfl (by assumption) rfl rfl rfl
    · (repeat' first | refine st ?_ | refine s2 (fun _ => ?_) (fun _ => ?_) | refine s4 fun _ _ _ _ => ?_ | fail)
      exact endsC (.inr rfl) rfl (by assumption) rfl rfl rfl

theorem prod_F {xs : List (List PC)} {rs : List Rat} (hl : xs.length = rs.length) (hx : ∀ i row, xs[i]? = some row → IsF (.agg row) (rs.getD i 0)) (hs : ∀ i, i ≤ rs.length → sz (pprod rs i) < 137438953472) (hn : rs.length < 1099511627776) :
    PCall env ext 49 [.c (.sl xs)] (.s (.agg (encR (pprod rs rs.length)))) := by
  refine PCall.walk (env := env) (g := 49) rfl rfl ?_
  (repeat' first | refine st ?_ | refine s2 (fun _ => ?_) (fun _ => ?_) | refine s4 fun _ _ _ _ => ?_ | fail)
  refine r_call1 one_ok rfl rfl ?_
  (repeat' first | refine st ?_ | refine s2 (fun _ => ?_) (fun _ => ?_) | refine s4 fun _ _ _ _ => ?_ | fail)
  refine r_call1 one_ok rfl rfl ?_
  (repeat' first | refine st ?_ | refine s2 (fun _ => ?_) (fun _ => ?_) | refine s4 fun _ _ _ _ => ?_ | fail)
  rename_i o0 g1 g2 g3 o1 g4 g5 g6 o2 g7 g8 g9
  rw [hl]
  have hres : o2.cel 0 0 [.p (.bool false), .e0, .e0] := by
    unfold Objs.cel; rw [g8 0 0 (by omega), g5 0 0 (by omega)]; exact g1
  generalize hw : o0.nv (0 + 1) = w at *
  refine w_loopUp (fun i sl o => i ≤ rs.length ∧ o.cel 0 0 [.p (.bool false), .e0, .e0] ∧ o.cel 1 w ((encR (pprod rs i)).map C.p) ∧
    sl 2 = .s (.c (.ptr 0 0 0 0)) ∧ sl 3 = .s (.c (.ptr 1 w 0 0)) ∧ sl 9 = vs xs ∧ sl 10 = vn .i64 rs.length ∧ sl 11 = vn .i64 i) 0 rs.length
    ⟨by omega, hres, g7, rfl, rfl, rfl, rfl, rfl⟩ (fun i sl o h => h.1) ?_
  clear g1 g2 g3 g4 g5 g6 g7 g8 g9 hres
  rintro i sl o ⟨hi, hres, hacc, s2, s3, s9, s10, s11⟩
  rw [upd5 s2 s3 s9 s10 s11]
  clear s2 s3 s9 s10 s11
  by_cases hin : i < rs.length
  · obtain ⟨row, hrow⟩ : ∃ row, xs[i]? = some row := ⟨_, List.getElem?_eq_getElem (by omega)⟩
    have hF := hx i row hrow
    have ha := mul_F (ext := ext) (IsF.enc (hs i hi)) hF
    obtain ⟨neg, a, b, he, _⟩ := hF.h
    cases he
    have keep : ∀ oA oB : Objs, (∀ o2 v2, ¬ (o2 = 0 + 2 ∧ v2 = o.nv (0 + 2)) → oA.m o2 v2 = o.m o2 v2) → (∀ o2 v2, ¬ (o2 = 0 + 2 ∧ v2 = o.nv (0 + 2)) → oB.m o2 v2 = oA.m o2 v2) →
        oB.m 0 0 = o.m 0 0 ∧ oB.m 1 w = o.m 1 w := by
      intro oA oB h1 h2
      refine ⟨?_, ?_⟩
      · rw [h2 _ _ (by omega), h1 _ _ (by omega)]
      · rw [h2 _ _ (by omega), h1 _ _ (by omega)]
    (repeat' first | refine st ?_ | refine s2 (fun _ => ?_) (fun _ => ?_) | refine s4 fun _ _ _ _ => ?_ | fail)
    refine r_iaS rfl rfl (by first | with_reducible exact cself _ | exact nlit _) hrow rfl ?_
    (repeat' first | refine st ?_ | refine s2 (fun _ => ?_) (fun _ => ?_) | refine s4 fun _ _ _ _ => ?_ | fail)
    rename_i oA g1 g2 g3 oB g4 g5 g6
    obtain ⟨k0, k1⟩ := keep oA oB g2 g5
    have hres' : oB.cel 0 0 [.p (.bool false), .e0, .e0] := by unfold Objs.cel; rw [k0]; exact hres
    have hacc' : oB.cel 1 w ((encR (pprod rs i)).map C.p) := by unfold Objs.cel; rw [k1]; exact hacc
    (repeat' first | refine st ?_ | refine s2 (fun _ => ?_) (fun _ => ?_) | refine s4 fun _ _ _ _ => ?_ | fail)
    refine r_callA ha rfl rfl ?_
    (repeat' first | refine st ?_ | refine s2 (fun _ => ?_) (fun _ => ?_) | refine s4 fun _ _ _ _ => ?_ | fail)
    rename_i oC g7 g8 g9
    exact ⟨⟨by omega, by unfold Objs.cel; rw [g8 _ _ (by omega)]; exact hres', g7, rfl, rfl, rfl, rfl, rfl⟩, rfl⟩
  · have : i = rs.length := by omega
    subst this
    (repeat' first | refine st ?_ | refine s2 (fun _ => ?_) (fun _ => ?_) | refine s4 fun _ _ _ _ => ?_ | fail)
    exact endsC (.inr rfl) rfl (by assumption) rfl rfl rfl

/-- What a comparison of two numbers gives. -/
def cmpR (r s : Rat) : Int := if r < s then -1 else if s < r then 1 else 0
end Go.Av
namespace Go.Av
open Go
variable {ext : Calls0}

theorem natDivMod0_ok {a b : List Nat} (ha : Dg a) (hb : Dg b) (la : Sh a) (lb : Sh b) (hb0 : val b = 0) : PCall env ext 66 [pN a, pN b] (.tup [pN [], pN [], .c (.bool false)]) := by
  refine PCall.walk (env := env) (g := 66) rfl rfl ?_
  (repeat' first | refine st ?_ | refine s2 (fun _ => ?_) (fun _ => ?_) | refine s4 fun _ _ _ _ => ?_ | fail)
  refine r_call1 (natNorm_ok ha la) rfl rfl ?_
  (repeat' first | refine st ?_ | refine s2 (fun _ => ?_) (fun _ => ?_) | refine s4 fun _ _ _ _ => ?_ | fail)
  refine r_call1 (natNorm_ok hb lb) rfl rfl ?_
  rw [hb0, ofN_zero]
  (repeat' first | refine st ?_ | refine s2 (fun _ => ?_) (fun _ => ?_) | refine s4 fun _ _ _ _ => ?_ | fail)
  exact ends3 rfl rfl rfl rfl rfl rfl rfl

set_option maxHeartbeats 1000000 in
theorem frac_ok {neg : Bool} {a b : List Nat} (ha : Dg a) (hb : Dg b) (la : a.length < 500000000000) (lb : b.length < 500000000000) : PCall env ext 67 [.c (.bool neg), pN a, pN b] (.s (.agg (encR (qR neg (val a) (val b))))) := by
  have hg := natGCD_ok (ext := ext) ha hb la lb
  have l1 := ofN_len_le_of ha
  have l2 := ofN_len_le_of hb
  generalize hn : val a = n at *
  generalize hd : val b = d at *
  have lg : (ofN (Nat.gcd n d)).length < 500000000000 := by
    by_cases h0 : n = 0
    · subst h0; rw [Nat.gcd_zero_left]; omega
    · have := ofN_len_mono (Nat.gcd_le_left d (show 0 < n by omega)); omega
  have dg := Dg.ofN (Nat.gcd n d)
  have h1 := natOf_ok (ext := ext) (n := 1) (by omega)
  rw [ofN_one] at h1
  refine PCall.walk (env := env) (g := 67) rfl rfl ?_
  (repeat' first | refine st ?_ | refine s2 (fun _ => ?_) (fun _ => ?_) | refine s4 fun _ _ _ _ => ?_ | fail)
  refine r_call1 hg rfl rfl ?_
  by_cases hg0 : Nat.gcd n d = 0
  · have hz : n = 0 := Nat.eq_zero_of_gcd_eq_zero_left hg0
    have q1 := natDivMod0_ok (ext := ext) ha dg (by omega) (by omega) (by rw [val_ofN, hg0])
    have q2 := natDivMod0_ok (ext := ext) hb dg (by omega) (by omega) (by rw [val_ofN, hg0])
    rw [qR_zero (.inl hz), encR_zero]
    (repeat' first | refine st ?_ | refine s2 (fun _ => ?_) (fun _ => ?_) | refine s4 fun _ _ _ _ => ?_ | fail)
    refine r_call3 q1 rfl rfl ?_
    (repeat' first | refine st ?_ | refine s2 (fun _ => ?_) (fun _ => ?_) | refine s4 fun _ _ _ _ => ?_ | fail)
    refine r_call3 q2 rfl rfl ?_
    (repeat' first | refine st ?_ | refine s2 (fun _ => ?_) (fun _ => ?_) | refine s4 fun _ _ _ _ => ?_ | fail)
    refine r_call1 h1 rfl rfl ?_
    (repeat' first | refine st ?_ | refine s2 (fun _ => ?_) (fun _ => ?_) | refine s4 fun _ _ _ _ => ?_ | fail)
    exact endsC (.inr rfl) rfl (by assumption) rfl rfl rfl
  have q1 := natDivMod_ok (ext := ext) ha dg (by omega) (by omega) (by rw [val_ofN]; omega)
  have q2 := natDivMod_ok (ext := ext) hb dg (by omega) (by omega) (by rw [val_ofN]; omega)
  rw [val_ofN, hn] at q1
  rw [val_ofN, hd] at q2
  by_cases hn0 : n = 0
  · rw [qR_zero (.inl hn0), encR_zero]
    rw [show n / Nat.gcd n d = 0 by rw [hn0, Nat.zero_div], ofN_zero] at q1
    (repeat' first | refine st ?_ | refine s2 (fun _ => ?_) (fun _ => ?_) | refine s4 fun _ _ _ _ => ?_ | fail)
    refine r_call3 q1 rfl rfl ?_
    (repeat' first | refine st ?_ | refine s2 (fun _ => ?_) (fun _ => ?_) | refine s4 fun _ _ _ _ => ?_ | fail)
    refine r_call3 q2 rfl rfl ?_
    (repeat' first | refine st ?_ | refine s2 (fun _ => ?_) (fun _ => ?_) | refine s4 fun _ _ _ _ => ?_ | fail)
    refine r_call1 h1 rfl rfl ?_
    (repeat' first | refine st ?_ | refine s2 (fun _ => ?_) (fun _ => ?_) | refine s4 fun _ _ _ _ => ?_ | fail)
    exact endsC (.inr rfl) rfl (by assumption) rfl rfl rfl
  have pn : 0 < (ofN (n / Nat.gcd n d)).length := len_pos (Nat.div_pos (Nat.le_of_dvd (by omega) (Nat.gcd_dvd_left _ _)) (by omega))
  by_cases hd0 : d = 0
  · rw [qR_zero (.inr hd0), encR_zero]
    rw [show d / Nat.gcd n d = 0 by rw [hd0, Nat.zero_div], ofN_zero] at q2
    (repeat' first | refine st ?_ | refine s2 (fun _ => ?_) (fun _ => ?_) | refine s4 fun _ _ _ _ => ?_ | fail)
    refine r_call3 q1 rfl rfl ?_
    (repeat' first | refine st ?_ | refine s2 (fun _ => ?_) (fun _ => ?_) | refine s4 fun _ _ _ _ => ?_ | fail)
    refine r_call3 q2 rfl rfl ?_
    (repeat' first | refine st ?_ | refine s2 (fun _ => ?_) (fun _ => ?_) | refine s4 fun _ _ _ _ => ?_ | fail)
    refine r_call1 h1 rfl rfl ?_
    (repeat' first | refine st ?_ | refine s2 (fun _ => ?_) (fun _ => ?_) | refine s4 fun _ _ _ _ => ?_ | fail)
    exact endsC (.inr rfl) rfl (by assumption) rfl rfl rfl
  have pd : 0 < (ofN (d / Nat.gcd n d)).length := len_pos (Nat.div_pos (Nat.le_of_dvd (by omega) (Nat.gcd_dvd_right _ _)) (by omega))
  rw [encR_qR (show 0 < n by omega) (show 0 < d by omega)]
  (repeat' first | refine st ?_ | refine s2 (fun _ => ?_) (fun _ => ?_) | refine s4 fun _ _ _ _ => ?_ | fail)
  refine r_call3 q1 rfl rfl ?_
  (repeat' first | refine st ?_ | refine s2 (fun _ => ?_) (fun _ => ?_) | refine s4 fun _ _ _ _ => ?_ | fail)
  refine r_call3 q2 rfl rfl ?_
  (repeat' first | refine st ?_ | refine s2 (fun _ => ?_) (fun _ => ?_) | refine s4 fun _ _ _ _ => ?_ | fail)
  exact endsC (.inr rfl) rfl (by assumption) rfl rfl rfl

theorem rnorm_F {x : PSV} {r : Rat} (hx : IsF x r) : PCall env ext 83 [x] (.s (.agg (encR r))) := by
  obtain ⟨neg, a, b, rfl, h1, h2, h3, h4, rfl⟩ := hx.h
  refine PCall.walk (env := env) (g := 83) rfl rfl ?_
  (repeat' first | refine st ?_ | refine s2 (fun _ => ?_) (fun _ => ?_) | refine s4 fun _ _ _ _ => ?_ | fail)
  refine r_callA (frac_ok h1 h2 (by omega) (by omega)) rfl rfl ?_
  (repeat' first | refine st ?_ | refine s2 (fun _ => ?_) (fun _ => ?_) | refine s4 fun _ _ _ _ => ?_ | fail)
  exact endsC (.inr rfl) rfl (by assumption) rfl rfl rfl
theorem fracInt_ok {n : Nat} (h : n < 9223372036854775808) : PCall env ext 72 [.c (.int .i64 (n : Nat))] (.s (.agg (encR (n : Rat)))) := by
  have ln : (ofN n).length ≤ 2 := ofN_len_le (by simp only [Nat.reducePow]; omega)
  have hf := frac_ok (ext := ext) (neg := false) (Dg.ofN n) (Dg.ofN 1) (by omega) (by rw [ofN_one]; simp)
  rw [val_ofN, val_ofN] at hf
  have e : qR false n 1 = (n : Rat) := by
    unfold qR; show mkRat (n : Int) 1 = _
    rw [Rat.mkRat_one]; rfl
  rw [e] at hf
  refine PCall.walk (env := env) (g := 72) rfl rfl ?_
  (repeat' first | refine st ?_ | refine s2 (fun _ => ?_) (fun _ => ?_) | refine s4 fun _ _ _ _ => ?_ | fail)
  refine r_call1 (natOf_ok (n := n) (by omega)) rfl rfl ?_
  (repeat' first | refine st ?_ | refine s2 (fun _ => ?_) (fun _ => ?_) | refine s4 fun _ _ _ _ => ?_ | fail)
  refine r_call1 (natOf_ok (n := 1) (by omega)) rfl rfl ?_
  (repeat' first | refine st ?_ | refine s2 (fun _ => ?_) (fun _ => ?_) | refine s4 fun _ _ _ _ => ?_ | fail)
  refine r_callA hf rfl rfl ?_
  (repeat' first | refine st ?_ | refine s2 (fun _ => ?_) (fun _ => ?_) | refine s4 fun _ _ _ _ => ?_ | fail)
  exact endsC (.inr rfl) rfl (by assumption) rfl rfl rfl
end Go.Av
namespace Go.Av
open Go
variable {ext : Calls0}

/-- The sign of a rational number. -/
def sgn (r : Rat) : Int := if r.num = 0 then 0 else if r.num < 0 then -1 else 1
theorem sgn_qR {neg : Bool} {n d : Nat} : sgF neg n d = sgn (qR neg n d) := by
  unfold sgF
  by_cases h : n = 0 ∨ d = 0
  · rw [if_pos h, qR_zero h]; rfl
  · rw [if_neg h]
    have hn : 0 < n := by omega
    have hd : 0 < d := by omega
    have e := encR_qR (neg := neg) hn hd
    unfold encR at e
    injection e with e1 _
    injection e1 with e1
    have hne : (qR neg n d).num ≠ 0 := by
      intro h0
      have h1 : qR neg n d = 0 := Rat.num_eq_zero.1 h0
      unfold qR at h1
      rw [Rat.mkRat_eq_zero (by omega)] at h1
      cases neg
      · have : (n : Int) = 0 := h1
        omega
      · have : -(n : Int) = 0 := h1
        omega
    unfold sgn
    rw [if_neg hne]
    cases neg with
    | true => rw [if_pos (of_decide_eq_true e1)]; rfl
    | false => rw [if_neg (of_decide_eq_false e1)]; rfl
theorem sign_F {x : PSV} {r : Rat} (hx : IsF x r) : PCall env ext 12 [x] (.s (.c (.int .i64 (sgn r)))) := by
  obtain ⟨_, a, b, rfl, h1, h2, h3, h4, rfl⟩ := hx.h
  rw [← sgn_qR]
  exact sign_ok h1 h2 h3 h4

theorem rsign_F {x : PSV} {r : Rat} (hx : IsF x r) : PCall env ext 84 [x] (.s (.c (.int .i64 (sgn r)))) := by
  have hn := rnorm_F (ext := ext) hx
  obtain ⟨neg, a, b, rfl, _⟩ := hx.h
  unfold encR at hn
  refine PCall.walk (env := env) (g := 84) rfl rfl ?_
  by_cases h0 : r.num = 0
  · rw [h0] at hn
    have e : (ofN (0 : Int).natAbs).length = 0 := rfl
    (repeat' first | refine st ?_ | refine s2 (fun _ => ?_) (fun _ => ?_) | refine s4 fun _ _ _ _ => ?_ | fail)
    refine r_callA hn rfl rfl ?_
    (repeat' first | refine st ?_ | refine s2 (fun _ => ?_) (fun _ => ?_) | refine s4 fun _ _ _ _ => ?_ | fail)
    refine ends1 rfl rfl ?_
    unfold sgn; rw [if_pos h0]
  · have hp := len_pos (show 0 < r.num.natAbs by omega)
    unfold sgn
    rw [if_neg h0]
    by_cases hneg : r.num < 0
    · rw [decide_eq_true hneg] at hn
      rw [if_pos hneg]
      (repeat' first | refine st ?_ | refine s2 (fun _ => ?_) (fun _ => ?_) | refine s4 fun _ _ _ _ => ?_ | fail)
      refine r_callA hn rfl rfl ?_
      (repeat' first | refine st ?_ | refine s2 (fun _ => ?_) (fun _ => ?_) | refine s4 fun _ _ _ _ => ?_ | fail)
      exact ends1 rfl rfl rfl
    · rw [decide_eq_false hneg] at hn
      rw [if_neg hneg]
      (repeat' first | refine st ?_ | refine s2 (fun _ => ?_) (fun _ => ?_) | refine s4 fun _ _ _ _ => ?_ | fail)
      refine r_callA hn rfl rfl ?_
      (repeat' first | refine st ?_ | refine s2 (fun _ => ?_) (fun _ => ?_) | refine s4 fun _ _ _ _ => ?_ | fail)
      exact ends1 rfl rfl rfl

theorem sgn_neg {r : Rat} (h : r.num < 0) : sgn r = -1 := by unfold sgn; rw [if_neg (by omega), if_pos h]
theorem sgn_nn {r : Rat} (h : 0 ≤ r.num) : 0 ≤ sgn r := by
  unfold sgn; split
  · omega
  · rw [if_neg (by omega)]; omega

end Go.Av
namespace Go.Av
open Go
variable {ext : Calls0}

/-- A fraction as an argument. -/
structure FA where
  neg : Bool
  a : List Nat
  b : List Nat
def FA.row (f : FA) : List PC := [.bool f.neg, .sl (encK .u32 f.a), .sl (encK .u32 f.b)]
def FA.r (f : FA) : Rat := qR f.neg (val f.a) (val f.b)
def FA.small (f : FA) : Prop := f.a.length ≤ 4 ∧ f.b.length ≤ 4
def dgtsN : List (List PC) → List Nat := List.map fun x => match x with
  | [.int _ n] => n.toNat
  | _ => 0
theorem dgtsN_enc (k : IntKind) (l : List Nat) : dgtsN (encK k l) = l := by
  induction l with
  | nil => rfl
  | cons x l ih =>
    show (_ :: dgtsN (encK k l)) = _
    rw [ih]; rfl
theorem qR_le {neg : Bool} {n d : Nat} : (qR neg n d).num.natAbs ≤ n ∧ (qR neg n d).den ≤ max d 1 := by
  by_cases h : n = 0 ∨ d = 0
  · rw [qR_zero h]
    show 0 ≤ n ∧ 1 ≤ max d 1
    omega
  · have hn : 0 < n := by omega
    have hd : 0 < d := by omega
    have e := encR_qR (neg := neg) hn hd
    unfold encR at e
    injection e with _ e
    injection e with e1 e
    injection e with e2 _
    injection e1 with e1
    injection e2 with e2
    have e1 := congrArg val (congrArg dgtsN e1)
    have e2 := congrArg val (congrArg dgtsN e2)
    rw [dgtsN_enc, dgtsN_enc, val_ofN, val_ofN] at e1 e2
    have h1 := Nat.div_le_self n (Nat.gcd n d)
    have h2 := Nat.div_le_self d (Nat.gcd n d)
    omega
theorem FA.small_r {f : FA} (ha : Dg f.a) (hb : Dg f.b) (h : f.small) : f.r.num.natAbs < 4294967296 ^ 4 ∧ f.r.den < 4294967296 ^ 4 := by
  have h1 := val_lt ha
  have h2 := val_lt hb
  have h3 : 4294967296 ^ f.a.length ≤ 4294967296 ^ 4 := Nat.pow_le_pow_right (by omega) h.1
  have h4 : 4294967296 ^ f.b.length ≤ 4294967296 ^ 4 := Nat.pow_le_pow_right (by omega) h.2
  have h5 := qR_le (neg := f.neg) (n := val f.a) (d := val f.b)
  unfold FA.r
  have h6 : (1 : Nat) < 4294967296 ^ 4 := by decide
  generalize 4294967296 ^ 4 = B at *
  omega
theorem FA.isF {f : FA} (ha : Dg f.a) (hb : Dg f.b) (h : f.small) : IsF (.agg f.row) f.r :=
  ⟨f.neg, f.a, f.b, rfl, ha, hb, by have := h.1; show _ < _; omega, by have := h.2; show _ < _; omega, rfl⟩

theorem smallProbs_ok {fs : List FA} {t : Bool} (hn : fs.length ≤ 60) (h1 : ∀ (i : Nat) (f : FA), fs[i]? = some f → ¬ f.small → t = false) (h2 : (∀ (i : Nat) (f : FA), fs[i]? = some f → f.small) → t = true) :
    PCall env ext 0 [.c (.sl (fs.map FA.row))] (.s (.c (.bool t))) := by
  have hl : (fs.map FA.row).length = fs.length := List.length_map ..
  refine PCall.walk (env := env) (g := 0) rfl rfl ?_
  (repeat' first | refine st ?_ | refine s2 (fun _ => ?_) (fun _ => ?_) | refine s4 fun _ _ _ _ => ?_ | fail)
  rw [hl]
  refine w_loopUp (fun i sl o => i ≤ fs.length ∧ Hd (∀ (j : Nat) (f : FA), j < i → fs[j]? = some f → f.small) ∧ sl 5 = vs (fs.map FA.row) ∧ sl 6 = vn .i64 fs.length ∧ sl 7 = vn .i64 i) 0 fs.length
    ⟨by omega, ⟨fun j f h => absurd h (by omega)⟩, rfl, rfl, rfl⟩ (fun i sl o h => h.1) ?_
  rintro i sl o ⟨hi, hnn, s5, s6, s7⟩
  rw [upd3 s5 s6 s7]
  clear s5 s6 s7
  by_cases hin : i < fs.length
  · have hf : fs[i]? = some fs[i] := List.getElem?_eq_getElem hin
    generalize fs[i] = f at hf
    have hb := h1 i f hf
    have hst : f.small → ∀ (j : Nat) (g : FA), j < i + 1 → fs[j]? = some g → g.small := by
      intro hs j g hj hg
      by_cases hji : j < i
      · exact hnn.h j g hji hg
      · have : j = i := by omega
        subst this
        rw [hf] at hg; cases hg; exact hs
    obtain ⟨neg, a, b⟩ := f
    have hrow : (fs.map FA.row)[i]? = some [.bool neg, .sl (encK .u32 a), .sl (encK .u32 b)] := by rw [List.getElem?_map, hf]; rfl
    by_cases ha : a.length ≤ 4
    · by_cases hbb : b.length ≤ 4
      · have hst := hst ⟨ha, hbb⟩
        (repeat' first | refine st ?_ | refine s2 (fun _ => ?_) (fun _ => ?_) | refine s4 fun _ _ _ _ => ?_ | fail)
        refine r_iaS rfl rfl (by first | with_reducible exact cself _ | exact nlit _) hrow rfl ?_
        (repeat' first | refine st ?_ | refine s2 (fun _ => ?_) (fun _ => ?_) | refine s4 fun _ _ _ _ => ?_ | fail)
        exact ⟨⟨by omega, ⟨hst⟩, rfl, rfl, rfl⟩, rfl⟩
      · rw [hb (fun h => hbb h.2)]
        (repeat' first | refine st ?_ | refine s2 (fun _ => ?_) (fun _ => ?_) | refine s4 fun _ _ _ _ => ?_ | fail)
        refine r_iaS rfl rfl (by first | with_reducible exact cself _ | exact nlit _) hrow rfl ?_
        (repeat' first | refine st ?_ | refine s2 (fun _ => ?_) (fun _ => ?_) | refine s4 fun _ _ _ _ => ?_ | fail)
        exact ends1 rfl rfl rfl
    · rw [hb (fun h => ha h.1)]
      (repeat' first | refine st ?_ | refine s2 (fun _ => ?_) (fun _ => ?_) | refine s4 fun _ _ _ _ => ?_ | fail)
      refine r_iaS rfl rfl (by first | with_reducible exact cself _ | exact nlit _) hrow rfl ?_
      (repeat' first | refine st ?_ | refine s2 (fun _ => ?_) (fun _ => ?_) | refine s4 fun _ _ _ _ => ?_ | fail)
      exact ends1 rfl rfl rfl
  · have hie : i = fs.length := by omega
    rw [h2 (fun j f hf => hnn.h j f (by rw [hie]; exact (List.getElem?_eq_some_iff.1 hf).1) hf)]
    (repeat' first | refine st ?_ | refine s2 (fun _ => ?_) (fun _ => ?_) | refine s4 fun _ _ _ _ => ?_ | fail)
    exact ends1 rfl rfl rfl

end Go.Av
