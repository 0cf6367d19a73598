/- A part of the proof (own method: an abstract machine). No condition. -/
import Derived.Test.YthdilnjdkniofaaGreatBrC
namespace Go.Av
open Go
variable {ext : Calls0}

/-- A rational number as the struct that holds it in canonical form. -/
def encR (r : Rat) : List PC := [.bool (decide (r.num < 0)), .sl (encK .u32 (ofN r.num.natAbs)), .sl (encK .u32 (ofN r.den))]
def sg (neg : Bool) (n : Nat) : Int := match neg with
  | true => -(n : Int)
  | false => (n : Int)
def qR (neg : Bool) (n d : Nat) : Rat := mkRat (sg neg n) d
theorem qR_zero {neg : Bool} {n d : Nat} (h : n = 0 ∨ d = 0) : qR neg n d = 0 := by
  unfold qR sg
  rcases h with rfl | rfl
  · cases neg <;> simp
  · cases neg <;> simp
theorem encR_zero : encR 0 = [.bool false, .sl (encK .u32 []), .sl (encK .u32 [1])] := rfl
theorem encR_qR {neg : Bool} {n d : Nat} (hn : 0 < n) (hd : 0 < d) : encR (qR neg n d) = [.bool neg, .sl (encK .u32 (ofN (n / Nat.gcd n d))), .sl (encK .u32 (ofN (d / Nat.gcd n d)))] := by
  have hg : 0 < Nat.gcd n d := Nat.gcd_pos_of_pos_left _ hn
  have hna : ∀ m, (sg neg m).natAbs = m := fun m => by cases neg <;> simp [sg]
  have hd' : d ≠ 0 := by omega
  have e : qR neg n d = Rat.normalize (sg neg n) d hd' := (Rat.normalize_eq_mkRat hd').symm
  have e2 := Rat.normalize_eq (num := sg neg n) hd'
  have hdv : n / Nat.gcd n d * Nat.gcd n d = n := Nat.div_mul_cancel (Nat.gcd_dvd_left _ _)
  have hpos : 0 < n / Nat.gcd n d := Nat.div_pos (Nat.le_of_dvd hn (Nat.gcd_dvd_left _ _)) hg
  have hnum : (qR neg n d).num = sg neg n / ((Nat.gcd n d : Nat) : Int) := by
    rw [e, e2]; show sg neg n / (((sg neg n).natAbs.gcd d : Nat) : Int) = _; rw [hna]
  have hden : (qR neg n d).den = d / Nat.gcd n d := by
    rw [e, e2]; show d / (sg neg n).natAbs.gcd d = _; rw [hna]
  have hnum2 : (qR neg n d).num = sg neg (n / Nat.gcd n d) := by
    rw [hnum]
    generalize n / Nat.gcd n d = q at *
    generalize Nat.gcd n d = g at *
    have : (g : Int) ≠ 0 := by omega
    cases neg with
    | false => show (n : Int) / g = q; rw [← hdv, Int.natCast_mul, Int.mul_ediv_cancel _ this]
    | true => show -(n : Int) / g = -q; rw [← hdv, Int.natCast_mul, ← Int.neg_mul, Int.mul_ediv_cancel _ this]
  unfold encR
  rw [hnum2, hden, hna]
  have h1 : decide (sg neg (n / Nat.gcd n d) < 0) = neg := by
    generalize n / Nat.gcd n d = q at *
    cases neg with
    | false => exact decide_eq_false (by show ¬ (q : Int) < 0; omega)
    | true => exact decide_eq_true (by show -(q : Int) < 0; omega)
  rw [h1]

theorem one_ok : PCall env ext 10 [] (.s (pN [1])) := by
  refine PCall.walk (env := env) (g := 10) rfl rfl ?_
  (repeat' first | refine st ?_ | refine s2 (fun _ => ?_) (fun _ => ?_) | refine s4 fun _ _ _ _ => ?_ | fail)
  exact ends1 rfl rfl rfl

theorem ofN_ge1 {n : Nat} (h : n ≠ 1) (h0 : 0 < n) : ¬ ((ofN n).length ≤ 1 ∧ (ofN n).getD 0 0 = 1) := by
  rintro ⟨h1, h2⟩
  have h3 : (ofN n).length = 1 := by
    have : (ofN n).length ≠ 0 := fun h => by have := ofN_eq_nil.1 (List.eq_nil_of_length_eq_zero h); omega
    omega
  obtain ⟨h4, _, _⟩ := ofN_len1 h3
  rw [h4] at h2
  exact h h2
theorem ofN_one : ofN 1 = [1] := rfl
theorem len_pos {n : Nat} (h : 0 < n) : 0 < (ofN n).length := by
  apply Nat.pos_of_ne_zero
  intro h'; have := ofN_eq_nil.1 (List.eq_nil_of_length_eq_zero h'); omega

set_option maxHeartbeats 1000000 in
theorem reduce_ok {neg : Bool} {a b : List Nat} (ha : Dg a) (hb : Dg b) (la : Sh a) (lb : Sh b) : PCall env ext 29 [.c (.bool neg), pN a, pN b] (.s (.agg (encR (qR neg (val a) (val b))))) := by
  have l1 := ofN_len_le_of ha
  have l2 := ofN_len_le_of hb
  have d1 := Dg.ofN (val a)
  have d2 := Dg.ofN (val b)
  have v1 := val_ofN (val a)
  have v2 := val_ofN (val b)
  refine PCall.walk (env := env) (g := 29) rfl rfl ?_
  (repeat' first | refine st ?_ | refine s2 (fun _ => ?_) (fun _ => ?_) | refine s4 fun _ _ _ _ => ?_ | fail)
  refine r_call1 (normalize_ok ha la) rfl rfl ?_
  (repeat' first | refine st ?_ | refine s2 (fun _ => ?_) (fun _ => ?_) | refine s4 fun _ _ _ _ => ?_ | fail)
  refine r_call1 (normalize_ok hb lb) rfl rfl ?_
  generalize hn : val a = n at *
  generalize hd : val b = d at *
  by_cases hn0 : n = 0
  · rw [qR_zero (.inl hn0), encR_zero]
    subst hn0
    rw [ofN_zero]
    (repeat' first | refine st ?_ | refine s2 (fun _ => ?_) (fun _ => ?_) | refine s4 fun _ _ _ _ => ?_ | fail)
    refine r_call1 one_ok rfl rfl ?_
    (repeat' first | refine st ?_ | refine s2 (fun _ => ?_) (fun _ => ?_) | refine s4 fun _ _ _ _ => ?_ | fail)
    exact endsC (.inr rfl) rfl (by assumption) rfl rfl rfl
  by_cases hd0 : d = 0
  · rw [qR_zero (.inr hd0), encR_zero]
    subst hd0
    rw [ofN_zero]
    have := len_pos (show 0 < n by omega)
    (repeat' first | refine st ?_ | refine s2 (fun _ => ?_) (fun _ => ?_) | refine s4 fun _ _ _ _ => ?_ | fail)
    refine r_call1 one_ok rfl rfl ?_
    (repeat' first | refine st ?_ | refine s2 (fun _ => ?_) (fun _ => ?_) | refine s4 fun _ _ _ _ => ?_ | fail)
    exact endsC (.inr rfl) rfl (by assumption) rfl rfl rfl
  have p1 := len_pos (show 0 < n by omega)
  have p2 := len_pos (show 0 < d by omega)
  rw [encR_qR (show 0 < n by omega) (show 0 < d by omega)]
  by_cases hd1 : d = 1
  · subst hd1
    rw [Nat.gcd_one_right, Nat.div_one, Nat.div_one, ofN_one]
    have h11 : ([1] : List Nat).getD 0 0 = 1 := rfl
    (repeat' first | refine st ?_ | refine s2 (fun _ => ?_) (fun _ => ?_) | refine s4 fun _ _ _ _ => ?_ | fail)
    exact endsC (.inr rfl) rfl (by assumption) rfl rfl rfl
  have hge := ofN_ge1 hd1 (by omega)
  have hgcd := gcdAll_ok (ext := ext) d1 d2 (by omega) (by omega)
  rw [v1, v2] at hgcd
  have hg0 : 0 < Nat.gcd n d := Nat.gcd_pos_of_pos_left _ (by omega)
  have gl := ofN_len_mono (Nat.le_of_dvd (show 0 < n by omega) (Nat.gcd_dvd_left n d))
  have dg := Dg.ofN (Nat.gcd n d)
  have q1 := divMod_ok (ext := ext) d1 dg (by omega) (by omega) (by rw [val_ofN]; exact hg0)
  have q2 := divMod_ok (ext := ext) d2 dg (by omega) (by omega) (by rw [val_ofN]; exact hg0)
  rw [v1, val_ofN] at q1
  rw [v2, val_ofN] at q2
  have pg := len_pos hg0
  have tail : Nat.gcd n d = 1 ∨ (Nat.gcd n d ≠ 1 ∧ ¬ ((ofN (Nat.gcd n d)).length ≤ 1 ∧ (ofN (Nat.gcd n d)).getD 0 0 = 1)) := by
    by_cases h : Nat.gcd n d = 1
    · exact .inl h
    · exact .inr ⟨h, ofN_ge1 h hg0⟩
  clear hn hd v1 v2 d1 d2 hg0 dg
  generalize hG : Nat.gcd n d = G at *
  (repeat' first | refine st ?_ | refine s2 (fun _ => ?_) (fun _ => ?_) | refine s4 fun _ _ _ _ => ?_ | fail)
  all_goals first
    | (exfalso; omega)
    | (refine r_call1 hgcd rfl rfl ?_
       rcases tail with rfl | ⟨t1, t2⟩
       · rw [ofN_one, Nat.div_one, Nat.div_one]
         have h11 : ([1] : List Nat).getD 0 0 = 1 := rfl
         (repeat' first | refine st ?_ | refine s2 (fun _ => ?_) (fun _ => ?_) | refine s4 fun _ _ _ _ => ?_ | fail)
         exact endsC (.inr rfl) rfl (by assumption) rfl rfl rfl
       · (repeat' first | refine st ?_ | refine s2 (fun _ => ?_) (fun _ => ?_) | refine s4 fun _ _ _ _ => ?_ | fail)
         all_goals first
           | (exfalso; omega)
           | (refine r_call3 q1 rfl rfl ?_
              (repeat' first | refine st ?_ | refine s2 (fun _ => ?_) (fun _ => ?_) | refine s4 fun _ _ _ _ => ?_ | fail)
              refine r_call3 q2 rfl rfl ?_
              (repeat' first | refine st ?_ | refine s2 (fun _ => ?_) (fun _ => ?_) | refine s4 fun _ _ _ _ => ?_ | fail)
              exact endsC (.inr rfl) rfl (by assumption) rfl rfl rfl))
end Go.Av
namespace Go.Av
open Go
variable {ext : Calls0}

theorem half_digit {a : List Nat} (ha : Dg a) (i : Nat) : (a.getD i 0 / 2) ||| (a.getD (i + 1) 0 * 2147483648 % 4294967296) = val a / 2 / 4294967296 ^ i % 4294967296 := by
  have h := unshift_digit (U := a) (i := i) (s := 1) ha (by omega)
  rw [Nat.pow_one] at h
  rw [h]
  have h1 := ha i
  have e : a.getD (i + 1) 0 * 2147483648 % 4294967296 = (a.getD (i + 1) 0 % 2) * 2 ^ 31 := by simp only [Nat.reducePow]; omega
  rw [e, or_hi (by simp only [Nat.reducePow]; omega)]
  simp only [Nat.reducePow]; omega

set_option maxHeartbeats 1000000 in
theorem half_ok {a : List Nat} (ha : Dg a) (la : Sh a) (hne : 0 < a.length) : PCall env ext 61 [pN a] (.s (pN (ofN (val a / 2)))) := by
  refine PCall.walk (env := env) (g := 61) rfl rfl ?_
  (repeat' first | refine st ?_ | refine s2 (fun _ => ?_) (fun _ => ?_) | refine s4 fun _ _ _ _ => ?_ | fail)
  refine w_loopUp (fun i sl o => i ≤ a.length ∧ ∃ X, X.length = i ∧ Dg X ∧ Hd (val X = val a / 2 % 4294967296 ^ i) ∧ sl 0 = vk .u32 a ∧ sl 4 = vn .i64 i ∧
    ((i = 0 ∧ sl 3 = .s (.c .e0)) ∨ (0 < i ∧ ∃ w, sl 3 = .s (.c (.rs 0 w 1 0 i)) ∧ o.is 0 w .u32 X))) 0 a.length
    ⟨by omega, [], rfl, Dg.nil, ⟨by simp [val, Nat.mod_one]⟩, rfl, rfl, .inl ⟨rfl, rfl⟩⟩ (fun i sl o h => h.1) ?_
  rintro i sl o ⟨hi, X, hX, hd, he, s0, s4, hs⟩
  have a1 := ha i
  have a2 := ha (i + 1)
  have hdig := half_digit ha i
  have stp : ∀ x, x = val a / 2 / 4294967296 ^ i % 4294967296 → Dg (X ++ [x]) ∧ val (X ++ [x]) = val a / 2 % 4294967296 ^ (i + 1) := by
    intro x hx
    refine ⟨hd.append (Dg.cons (by rw [hx]; exact Nat.mod_lt _ (by omega)) Dg.nil), ?_⟩
    rw [val_snoc, hX, he.h, hx, Nat.mod_pow_succ]
  have z1 : a.length ≤ i + 1 → a.getD i 0 / 2 = val a / 2 / 4294967296 ^ i % 4294967296 := by
    intro h
    rw [← hdig, getD_lt (show ¬ i + 1 < a.length by omega)]; simp
  have fin : i = a.length → val X = val a / 2 ∧ (ofN (val X)).length ≤ a.length := by
    intro h
    have h1 := val_lt ha
    refine ⟨?_, by rw [← h, ← hX]; exact ofN_len_le_of hd⟩
    rw [he.h, h, Nat.mod_eq_of_lt (by omega)]
  have hor1 : a.getD i 0 / 2 < 4294967296 := by omega
  have hor2 : a.getD (i + 1) 0 * 2147483648 % 4294967296 < 4294967296 := Nat.mod_lt _ (by omega)
  replace hdig : Hd _ := ⟨hdig⟩
  replace z1 : a.length ≤ i + 1 → Hd _ := fun h => ⟨z1 h⟩
  rcases hs with ⟨h0, s3⟩ | ⟨h0, w, s3, hm⟩
  · subst h0
    have hX0 : X = [] := List.eq_nil_of_length_eq_zero hX
    subst hX0
    rw [upd3 s0 s4 s3]
    clear s0 s4 s3
    by_cases hin : 0 < a.length
    · by_cases h2 : 0 + 1 < a.length
      · (repeat' first | refine st ?_ | refine s2 (fun _ => ?_) (fun _ => ?_) | refine s4 fun _ _ _ _ => ?_ | fail)
        rename_i o' hm' _ _
        rw [hdig.h] at hm'
        obtain ⟨f1, f2⟩ := stp _ rfl
        exact ⟨⟨by omega, _, by simp, f1, ⟨f2⟩, rfl, rfl, .inr ⟨by omega, _, rfl, hm'⟩⟩, rfl⟩
      · have zz := z1 (by omega)
        (repeat' first | refine st ?_ | refine s2 (fun _ => ?_) (fun _ => ?_) | refine s4 fun _ _ _ _ => ?_ | fail)
        rename_i o' hm' _ _
        rw [zz.h] at hm'
        obtain ⟨f1, f2⟩ := stp _ rfl
        exact ⟨⟨by omega, _, by simp, f1, ⟨f2⟩, rfl, rfl, .inr ⟨by omega, _, rfl, hm'⟩⟩, rfl⟩
    · exact absurd hne hin
  · rw [upd3 s0 s4 s3]
    clear s0 s4 s3
    by_cases hin : i < a.length
    · by_cases h2 : i + 1 < a.length
      · (repeat' first | refine st ?_ | refine s2 (fun _ => ?_) (fun _ => ?_) | refine s4 fun _ _ _ _ => ?_ | fail)
        rename_i o' hm' _ _
        rw [hdig.h, List.drop_zero] at hm'
        obtain ⟨f1, f2⟩ := stp _ rfl
        exact ⟨⟨by omega, _, by simp [hX], f1, ⟨f2⟩, rfl, rfl, .inr ⟨by omega, _, rfl, hm'⟩⟩, rfl⟩
      · have zz := z1 (by omega)
        (repeat' first | refine st ?_ | refine s2 (fun _ => ?_) (fun _ => ?_) | refine s4 fun _ _ _ _ => ?_ | fail)
        rename_i o' hm' _ _
        rw [zz.h, List.drop_zero] at hm'
        obtain ⟨f1, f2⟩ := stp _ rfl
        exact ⟨⟨by omega, _, by simp [hX], f1, ⟨f2⟩, rfl, rfl, .inr ⟨by omega, _, rfl, hm'⟩⟩, rfl⟩
    · obtain ⟨q1, q2⟩ := fin (by omega)
      (repeat' first | refine st ?_ | refine s2 (fun _ => ?_) (fun _ => ?_) | refine s4 fun _ _ _ _ => ?_ | fail)
      rw [← hX]
      refine r_callR (natNormR hd (by omega) hm (by omega) (by omega)) rfl ?_
      rintro o'' r ⟨w', rfl, hm'', _, _⟩
      (repeat' first | refine st ?_ | refine s2 (fun _ => ?_) (fun _ => ?_) | refine s4 fun _ _ _ _ => ?_ | fail)
      refine ends1 rfl (purK hm'' (Nat.le_refl _)) ?_
      rw [List.take_length, q1]

theorem gcd_half {x y : Nat} (hx : x % 2 = 0) (ho : Nat.gcd x y % 2 = 1) : Nat.gcd (x / 2) y = Nat.gcd x y := by
  have e : x = x / 2 * 2 := by omega
  apply Nat.dvd_antisymm
  · exact Nat.dvd_gcd (Nat.dvd_trans (Nat.gcd_dvd_left _ _) ⟨2, e⟩) (Nat.gcd_dvd_right _ _)
  · refine Nat.dvd_gcd ?_ (Nat.gcd_dvd_right _ _)
    have h1 : Nat.gcd x y ∣ x / 2 * 2 := by rw [← e]; exact Nat.gcd_dvd_left _ _
    have h2 : Nat.Coprime (Nat.gcd x y) 2 := by
      rw [Nat.coprime_comm]
      unfold Nat.Coprime
      rw [Nat.gcd_rec 2, ho]; rfl
    exact h2.dvd_of_dvd_mul_right h1
theorem odd_dvd {g x : Nat} (h : g ∣ x) (hx : x % 2 = 1) : g % 2 = 1 := by
  obtain ⟨t, rfl⟩ := h
  by_cases hg : g % 2 = 0
  · have e : g * t = 2 * (g / 2 * t) := by
      conv => lhs; rw [show g = 2 * (g / 2) by omega]
      rw [Nat.mul_assoc]
    omega
  · omega
theorem digit0 {n : Nat} (h : 0 < n) : (ofN n).getD 0 0 &&& 1 = n % 2 := by
  rw [ofN_pos h, Nat.and_one_is_mod]
  show n % 4294967296 % 2 = _
  omega

set_option maxHeartbeats 2000000 in
theorem natGCD_ok {a b : List Nat} (ha : Dg a) (hb : Dg b) (la : a.length < 500000000000) (lb : b.length < 500000000000) : PCall env ext 65 [pN a, pN b] (.s (pN (ofN (Nat.gcd (val a) (val b))))) := by
  have l1 := ofN_len_le_of ha
  have l2 := ofN_len_le_of hb
  refine PCall.walk (env := env) (g := 65) rfl rfl ?_
  (repeat' first | refine st ?_ | refine s2 (fun _ => ?_) (fun _ => ?_) | refine s4 fun _ _ _ _ => ?_ | fail)
  refine r_call1 (natNorm_ok ha (by omega)) rfl rfl ?_
  (repeat' first | refine st ?_ | refine s2 (fun _ => ?_) (fun _ => ?_) | refine s4 fun _ _ _ _ => ?_ | fail)
  refine r_call1 (natNorm_ok hb (by omega)) rfl rfl ?_
  generalize hN : val a = N at *
  generalize hM : val b = M at *
  by_cases hN0 : N = 0
  · subst hN0
    rw [Nat.gcd_zero_left, ofN_zero]
    (repeat' first | refine st ?_ | refine s2 (fun _ => ?_) (fun _ => ?_) | refine s4 fun _ _ _ _ => ?_ | fail)
    exact ends1 rfl rfl rfl
  have pN0 := len_pos (show 0 < N by omega)
  by_cases hM0 : M = 0
  · subst hM0
    rw [Nat.gcd_zero_right, ofN_zero]
    (repeat' first | refine st ?_ | refine s2 (fun _ => ?_) (fun _ => ?_) | refine s4 fun _ _ _ _ => ?_ | fail)
    exact ends1 rfl rfl rfl
  have pM0 := len_pos (show 0 < M by omega)
  (repeat' first | refine st ?_ | refine s2 (fun _ => ?_) (fun _ => ?_) | refine s4 fun _ _ _ _ => ?_ | fail)
  have d1 := fun x => Dg.ofN x 0
  refine w_cut (fun sl _ b => b = 0 ∧ ∃ x y sh, 0 < x ∧ 0 < y ∧ (x % 2 = 1 ∨ y % 2 = 1) ∧ Hd (N = x * 2 ^ sh ∧ M = y * 2 ^ sh) ∧ sh < 100000000000000 ∧ sl 5 = vk .u32 (ofN x) ∧ sl 6 = vk .u32 (ofN y) ∧ sl 7 = vn .i64 sh) ?_ ?_
  · refine w_loopS (fun x sl _ => ∃ y sh, 0 < x ∧ 0 < y ∧ Hd (N = x * 2 ^ sh ∧ M = y * 2 ^ sh) ∧ sl 5 = vk .u32 (ofN x) ∧ sl 6 = vk .u32 (ofN y) ∧ sl 7 = vn .i64 sh) N ⟨M, 0, by omega, by omega, ⟨by omega, by omega⟩, rfl, rfl, rfl⟩ ?_
    rintro x sl o ⟨y, sh, hx, hy, he, s5, s6, s7⟩
    rw [upd3 s5 s6 s7]
    clear s5 s6 s7
    have hxN : x ≤ N := by rw [he.h.1]; exact Nat.le_mul_of_pos_right _ (Nat.pow_pos (by omega))
    have hyM : y ≤ M := by rw [he.h.2]; exact Nat.le_mul_of_pos_right _ (Nat.pow_pos (by omega))
    have lx := ofN_len_mono hxN
    have ly := ofN_len_mono hyM
    have px := len_pos hx
    have py := len_pos hy
    have gx := digit0 hx
    have gy := digit0 hy
    have dx := d1 x
    have dy := d1 y
    have hsh : sh < 32 * (ofN N).length := by
      have h1 : 2 ^ sh ≤ N := by rw [he.h.1]; exact Nat.le_mul_of_pos_left _ hx
      have h2 := ofN_len_lt N
      rw [W_pow] at h2
      exact (Nat.pow_lt_pow_iff_right (by omega : 1 < 2)).1 (Nat.lt_of_le_of_lt h1 h2)
    have hhx := half_ok (ext := ext) (Dg.ofN x) (by omega) px
    have hhy := half_ok (ext := ext) (Dg.ofN y) (by omega) py
    rw [val_ofN] at hhx hhy
    have hstep : x % 2 = 0 → y % 2 = 0 → Hd (N = x / 2 * 2 ^ (sh + 1) ∧ M = y / 2 * 2 ^ (sh + 1)) := by
      intro h1 h2
      have e1 : x = x / 2 * 2 := by omega
      have e2 : y = y / 2 * 2 := by omega
      refine ⟨?_, ?_⟩
      · rw [he.h.1]; conv => lhs; rw [e1]
        rw [Nat.pow_succ]; grind
      · rw [he.h.2]; conv => lhs; rw [e2]
        rw [Nat.pow_succ]; grind
    clear d1
    by_cases ex : x % 2 = 0
    · by_cases ey : y % 2 = 0
      · (repeat' first | refine st ?_ | refine s2 (fun _ => ?_) (fun _ => ?_) | refine s4 fun _ _ _ _ => ?_ | fail)
        refine r_call1 hhx rfl rfl ?_
        (repeat' first | refine st ?_ | refine s2 (fun _ => ?_) (fun _ => ?_) | refine s4 fun _ _ _ _ => ?_ | fail)
        refine r_call1 hhy rfl rfl ?_
        (repeat' first | refine st ?_ | refine s2 (fun _ => ?_) (fun _ => ?_) | refine s4 fun _ _ _ _ => ?_ | fail)
        exact ⟨x / 2, by omega, ⟨y / 2, sh + 1, by omega, by omega, hstep ex ey, rfl, rfl, rfl⟩, rfl⟩
      · (repeat' first | refine st ?_ | refine s2 (fun _ => ?_) (fun _ => ?_) | refine s4 fun _ _ _ _ => ?_ | fail)
        exact ⟨rfl, x, y, sh, hx, hy, .inr (by omega), he, by omega, rfl, rfl, rfl⟩
    · (repeat' first | refine st ?_ | refine s2 (fun _ => ?_) (fun _ => ?_) | refine s4 fun _ _ _ _ => ?_ | fail)
      exact ⟨rfl, x, y, sh, hx, hy, .inl (by omega), he, by omega, rfl, rfl, rfl⟩
  · rintro sl o b ⟨rfl, x0, y0, sh, hx0, hy0, hodd, he, hshb, s5, s6, s7⟩
    rw [upd3 s5 s6 s7]
    clear s5 s6 s7
    have hG : Nat.gcd N M = Nat.gcd x0 y0 * 2 ^ sh := by rw [he.h.1, he.h.2, Nat.gcd_mul_right]
    have hGo : Nat.gcd x0 y0 % 2 = 1 := by
      rcases hodd with h | h
      · exact odd_dvd (Nat.gcd_dvd_left x0 y0) h
      · exact odd_dvd (Nat.gcd_dvd_right x0 y0) h
    have hxN : x0 ≤ N := by rw [he.h.1]; exact Nat.le_mul_of_pos_right _ (Nat.pow_pos (by omega))
    have hyM : y0 ≤ M := by rw [he.h.2]; exact Nat.le_mul_of_pos_right _ (Nat.pow_pos (by omega))
    rw [hG]
    have lG2 : ∀ i, i ≤ sh → (ofN (Nat.gcd x0 y0 * 2 ^ i)).length < 1000000000000 := by
      intro i hi
      have h1 : Nat.gcd x0 y0 * 2 ^ i ≤ N := by
        rw [he.h.1]
        exact Nat.mul_le_mul (Nat.gcd_le_left _ hx0) (Nat.pow_le_pow_right (by omega) hi)
      have := ofN_len_mono h1
      omega
    have gpos : 0 < Nat.gcd x0 y0 := Nat.gcd_pos_of_pos_left _ hx0
    clear hodd
    have lx0 := ofN_len_mono hxN
    have ly0 := ofN_len_mono hyM
    generalize hGG : Nat.gcd x0 y0 = G at *
    replace lG2 : Hd _ := ⟨lG2⟩
    (repeat' first | refine st ?_ | refine s2 (fun _ => ?_) (fun _ => ?_) | refine s4 fun _ _ _ _ => ?_ | fail)
    refine w_cut (fun sl _ b => b = 0 ∧ sl 5 = vk .u32 (ofN G) ∧ sl 7 = vn .i64 sh) ?_ ?_
    · refine w_loopS (fun k sl _ => ∃ x y, x + y = k ∧ 0 < x ∧ Nat.gcd x y = G ∧ (ofN x).length < 500000000000 ∧ (ofN y).length < 500000000000 ∧ sl 5 = vk .u32 (ofN x) ∧ sl 6 = vk .u32 (ofN y) ∧ sl 7 = vn .i64 sh) (x0 + y0)
        ⟨x0, y0, rfl, hx0, hGG, by omega, by omega, rfl, rfl, rfl⟩ ?_
      rintro k sl o ⟨x, y, hk, hx, hg, lx, ly, s5, s6, s7⟩
      rw [upd3 s5 s6 s7]
      clear s5 s6 s7
      by_cases hy : y = 0
      · subst hy
        rw [Nat.gcd_zero_right] at hg
        subst hg
        rw [ofN_zero]
        (repeat' first | refine st ?_ | refine s2 (fun _ => ?_) (fun _ => ?_) | refine s4 fun _ _ _ _ => ?_ | fail)
        exact ⟨rfl, rfl, rfl⟩
      have py := len_pos (show 0 < y by omega)
      (repeat' first | refine st ?_ | refine s2 (fun _ => ?_) (fun _ => ?_) | refine s4 fun _ _ _ _ => ?_ | fail)
      refine w_cut (fun sl _ b => b = 0 ∧ ∃ x', 0 < x' ∧ x' ≤ x ∧ x' % 2 = 1 ∧ Nat.gcd x' y = G ∧ (ofN x').length < 500000000000 ∧ sl 5 = vk .u32 (ofN x') ∧ sl 6 = vk .u32 (ofN y) ∧ sl 7 = vn .i64 sh) ?_ ?_
      · refine w_loopS (fun x' sl _ => 0 < x' ∧ x' ≤ x ∧ Nat.gcd x' y = G ∧ (ofN x').length < 500000000000 ∧ sl 5 = vk .u32 (ofN x') ∧ sl 6 = vk .u32 (ofN y) ∧ sl 7 = vn .i64 sh) x ⟨hx, Nat.le_refl _, hg, lx, rfl, rfl, rfl⟩ ?_
        rintro x' sl o ⟨hx', hle, hg', lx', s5, s6, s7⟩
        rw [upd3 s5 s6 s7]
        clear s5 s6 s7
        have px := len_pos hx'
        have gx := digit0 hx'
        have dx := d1 x'
        have hh := half_ok (ext := ext) (Dg.ofN x') (by omega) px
        rw [val_ofN] at hh
        have lh := ofN_len_mono (show x' / 2 ≤ x' by omega)
        clear d1
        by_cases ex : x' % 2 = 0
        · have hgh := gcd_half (y := y) ex (by rw [hg']; exact hGo)
          rw [hg'] at hgh
          (repeat' first | refine st ?_ | refine s2 (fun _ => ?_) (fun _ => ?_) | refine s4 fun _ _ _ _ => ?_ | fail)
          refine r_call1 hh rfl rfl ?_
          (repeat' first | refine st ?_ | refine s2 (fun _ => ?_) (fun _ => ?_) | refine s4 fun _ _ _ _ => ?_ | fail)
          exact ⟨x' / 2, by omega, ⟨by omega, by omega, hgh, by omega, rfl, rfl, rfl⟩, rfl⟩
        · (repeat' first | refine st ?_ | refine s2 (fun _ => ?_) (fun _ => ?_) | refine s4 fun _ _ _ _ => ?_ | fail)
          exact ⟨rfl, x', hx', hle, by omega, hg', lx', rfl, rfl, rfl⟩
      · rintro sl o b ⟨rfl, x', hx', hle, ox, hg', lx', s5, s6, s7⟩
        rw [upd3 s5 s6 s7]
        clear s5 s6 s7
        (repeat' first | refine st ?_ | refine s2 (fun _ => ?_) (fun _ => ?_) | refine s4 fun _ _ _ _ => ?_ | fail)
        refine w_cut (fun sl _ b => b = 0 ∧ ∃ y', 0 < y' ∧ y' ≤ y ∧ Nat.gcd x' y' = G ∧ (ofN y').length < 500000000000 ∧ sl 5 = vk .u32 (ofN x') ∧ sl 6 = vk .u32 (ofN y') ∧ sl 7 = vn .i64 sh) ?_ ?_
        · refine w_loopS (fun y' sl _ => 0 < y' ∧ y' ≤ y ∧ Nat.gcd x' y' = G ∧ (ofN y').length < 500000000000 ∧ sl 5 = vk .u32 (ofN x') ∧ sl 6 = vk .u32 (ofN y') ∧ sl 7 = vn .i64 sh) y ⟨by omega, Nat.le_refl _, hg', ly, rfl, rfl, rfl⟩ ?_
          rintro y' sl o ⟨hy', hle', hg2, ly', s5, s6, s7⟩
          rw [upd3 s5 s6 s7]
          clear s5 s6 s7
          have px := len_pos hy'
          have gx := digit0 hy'
          have dx := d1 y'
          have hh := half_ok (ext := ext) (Dg.ofN y') (by omega) px
          rw [val_ofN] at hh
          have lh := ofN_len_mono (show y' / 2 ≤ y' by omega)
          clear d1
          by_cases ex : y' % 2 = 0
          · have hgh := gcd_half (y := x') ex (by rw [Nat.gcd_comm, hg2]; exact hGo)
            rw [Nat.gcd_comm, Nat.gcd_comm y', hg2] at hgh
            (repeat' first | refine st ?_ | refine s2 (fun _ => ?_) (fun _ => ?_) | refine s4 fun _ _ _ _ => ?_ | fail)
            refine r_call1 hh rfl rfl ?_
            (repeat' first | refine st ?_ | refine s2 (fun _ => ?_) (fun _ => ?_) | refine s4 fun _ _ _ _ => ?_ | fail)
            exact ⟨y' / 2, by omega, ⟨by omega, by omega, hgh, by omega, rfl, rfl, rfl⟩, rfl⟩
          · (repeat' first | refine st ?_ | refine s2 (fun _ => ?_) (fun _ => ?_) | refine s4 fun _ _ _ _ => ?_ | fail)
            exact ⟨rfl, y', hy', hle', hg2, ly', rfl, rfl, rfl⟩
        · rintro sl o b ⟨rfl, y', hy', hle', hg2, ly', s5, s6, s7⟩
          rw [upd3 s5 s6 s7]
          clear s5 s6 s7
          have hcmp := natCmp_ok (ext := ext) (Dg.ofN x') (Dg.ofN y') (by omega) (by omega)
          rw [val_ofN, val_ofN] at hcmp
          have sub1 := fun (h : x' ≤ y') => natSub_ok (ext := ext) (Dg.ofN y') (Dg.ofN x') (by omega) (by omega) (show val (ofN x') ≤ val (ofN y') by rw [val_ofN, val_ofN]; exact h)
          have sub2 := fun (h : y' ≤ x') => natSub_ok (ext := ext) (Dg.ofN x') (Dg.ofN y') (by omega) (by omega) (show val (ofN y') ≤ val (ofN x') by rw [val_ofN, val_ofN]; exact h)
          simp only [val_ofN] at sub1 sub2
          have ls1 := ofN_len_mono (show y' - x' ≤ y' by omega)
          have ls2 := ofN_len_mono (show x' - y' ≤ x' by omega)
          have gs1 : x' ≤ y' → Nat.gcd x' (y' - x') = G := fun h => by rw [Nat.gcd_sub_self_right h, hg2]
          have gs2 : y' ≤ x' → Nat.gcd y' (x' - y') = G := fun h => by rw [Nat.gcd_sub_self_right h, Nat.gcd_comm, hg2]
          by_cases hxy : y' < x'
          · have hc : cmpI x' y' > 0 := by unfold cmpI; omega
            (repeat' first | refine st ?_ | refine s2 (fun _ => ?_) (fun _ => ?_) | refine s4 fun _ _ _ _ => ?_ | fail)
            refine r_call1 hcmp rfl rfl ?_
            (repeat' first | refine st ?_ | refine s2 (fun _ => ?_) (fun _ => ?_) | refine s4 fun _ _ _ _ => ?_ | fail)
            refine r_call2 (sub2 (by omega)) rfl rfl ?_
            (repeat' first | refine st ?_ | refine s2 (fun _ => ?_) (fun _ => ?_) | refine s4 fun _ _ _ _ => ?_ | fail)
            exact ⟨y' + (x' - y'), by omega, ⟨y', x' - y', rfl, hy', gs2 (by omega), by omega, by omega, rfl, rfl, rfl⟩, rfl⟩
          · have hc : ¬ cmpI x' y' > 0 := by unfold cmpI; omega
            (repeat' first | refine st ?_ | refine s2 (fun _ => ?_) (fun _ => ?_) | refine s4 fun _ _ _ _ => ?_ | fail)
            refine r_call1 hcmp rfl rfl ?_
            (repeat' first | refine st ?_ | refine s2 (fun _ => ?_) (fun _ => ?_) | refine s4 fun _ _ _ _ => ?_ | fail)
            refine r_call2 (sub1 (by omega)) rfl rfl ?_
            (repeat' first | refine st ?_ | refine s2 (fun _ => ?_) (fun _ => ?_) | refine s4 fun _ _ _ _ => ?_ | fail)
            exact ⟨x' + (y' - x'), by omega, ⟨x', y' - x', rfl, hx', gs1 (by omega), by omega, by omega, rfl, rfl, rfl⟩, rfl⟩
    · rintro sl o b ⟨rfl, s5, s7⟩
      rw [upd2 s5 s7]
      clear s5 s7
      (repeat' first | refine st ?_ | refine s2 (fun _ => ?_) (fun _ => ?_) | refine s4 fun _ _ _ _ => ?_ | fail)
      refine w_loopUp (fun i sl _ => i ≤ sh ∧ sl 5 = vk .u32 (ofN (G * 2 ^ i)) ∧ sl 7 = vn .i64 sh ∧ sl 8 = vn .i64 i) 0 sh ⟨by omega, ?_, rfl, rfl⟩ (fun i sl o h => h.1) ?_
      · rw [Nat.pow_zero, Nat.mul_one]; rfl
      rintro i sl o ⟨hi, s5, s7, s8⟩
      rw [upd3 s5 s7 s8]
      clear s5 s7 s8
      have hdb := double_ok (ext := ext) (b := 0) (Dg.ofN (G * 2 ^ i)) (by have := lG2.h i hi; omega) (by omega)
      rw [val_ofN, Nat.add_zero, show 2 * (G * 2 ^ i) = G * 2 ^ (i + 1) by rw [Nat.pow_succ]; grind] at hdb
      by_cases hin : i < sh
      · (repeat' first | refine st ?_ | refine s2 (fun _ => ?_) (fun _ => ?_) | refine s4 fun _ _ _ _ => ?_ | fail)
        refine r_call1 hdb rfl rfl ?_
        (repeat' first | refine st ?_ | refine s2 (fun _ => ?_) (fun _ => ?_) | refine s4 fun _ _ _ _ => ?_ | fail)
        exact ⟨⟨by omega, rfl, rfl, rfl⟩, rfl⟩
      · have : i = sh := by omega
        subst this
        (repeat' first | refine st ?_ | refine s2 (fun _ => ?_) (fun _ => ?_) | refine s4 fun _ _ _ _ => ?_ | fail)
        exact ends1 rfl rfl rfl
end Go.Av
