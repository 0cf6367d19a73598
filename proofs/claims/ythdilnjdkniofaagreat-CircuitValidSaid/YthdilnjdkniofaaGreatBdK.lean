/- The quotient's digit by Knuth's algorithm D: plain numbers. No condition. -/
import Derived.Test.YthdilnjdkniofaaGreatAvDig
namespace Go.Av

section
variable {q T top next P V U vl w ul g r : Nat}
theorem kn_a (hV : V = (top * 4294967296 + next) * P + vl) (hU : U = (T * 4294967296 + w) * P + ul) (hul : ul < P) (hq : q * V ≤ U) : q * (top * 4294967296 + next) ≤ T * 4294967296 + w := by
  have h1 : q * (top * 4294967296 + next) * P ≤ q * V := by
    rw [hV, Nat.mul_add q ((top * 4294967296 + next) * P) vl, ← Nat.mul_assoc q]; omega
  have h2 : U < (T * 4294967296 + w + 1) * P := by rw [hU, Nat.add_mul _ 1 P]; omega
  have h3 : q * (top * 4294967296 + next) * P < (T * 4294967296 + w + 1) * P := by omega
  have := Nat.lt_of_mul_lt_mul_right h3
  omega
theorem kn_b (hw : w < 4294967296) (h : q * (top * 4294967296 + next) ≤ T * 4294967296 + w) : q * top ≤ T := by
  have h1 : q * (top * 4294967296 + next) = q * top * 4294967296 + q * next := by rw [Nat.mul_add, Nat.mul_assoc]
  omega
theorem kn_c (hg : g * top + r = T) (hqg : q ≤ g) (h : q * (top * 4294967296 + next) ≤ T * 4294967296 + w) (hlt : r * 4294967296 + w < g * next) : q ≤ g - 1 ∧ 0 < g := by
  have h0 : 0 < g := by
    rcases Nat.eq_zero_or_pos g with h | h
    · subst h; omega
    · exact h
  refine ⟨?_, h0⟩
  by_cases he : q = g
  · subst he
    have h1 : q * (top * 4294967296 + next) = q * top * 4294967296 + q * next := by rw [Nat.mul_add, Nat.mul_assoc]
    omega
  · omega
theorem kn_d (hV : V = (top * 4294967296 + next) * P + vl) (hU : U = (T * 4294967296 + w) * P + ul) (hvl : vl < P) (hg : g * top + r = T) (hgW : g < 4294967296) (hle : g * next ≤ r * 4294967296 + w) (hVP : 4294967296 * P ≤ V) (hV0 : 0 < V) : g ≤ U / V + 1 := by
  have h1 : g * (top * 4294967296 + next) ≤ T * 4294967296 + w := by
    have : g * (top * 4294967296 + next) = g * top * 4294967296 + g * next := by rw [Nat.mul_add, Nat.mul_assoc]
    omega
  have h2 : g * V ≤ (T * 4294967296 + w) * P + g * vl := by
    have h3 : g * V = g * (top * 4294967296 + next) * P + g * vl := by rw [hV, Nat.mul_add g ((top * 4294967296 + next) * P) vl, ← Nat.mul_assoc g]
    have h4 := Nat.mul_le_mul_right P h1
    omega
  have h3 : g * vl < V := by
    have h4 : g * vl ≤ 4294967295 * vl := Nat.mul_le_mul_right _ (by omega)
    omega
  have h5 : g * V < U + V := by omega
  have h6 := Nat.lt_mul_div_succ U hV0
  have h7 : g * V < (U / V + 2) * V := by
    have : (U / V + 2) * V = V * (U / V + 1) + V := by rw [show U / V + 2 = (U / V + 1) + 1 by omega, Nat.add_mul, Nat.mul_comm]; omega
    omega
  have := Nat.lt_of_mul_lt_mul_right h7
  omega
theorem kn_q (hV0 : 0 < V) (h : U < V * 4294967296) : U / V < 4294967296 := by
  rw [Nat.div_lt_iff_lt_mul hV0, Nat.mul_comm]; exact h
end
theorem vt_of_lt {l : List Nat} (hd : Dg l) {k : Nat} (h : val l < 4294967296 ^ k) : vt l k = val l := by
  by_cases hk : l.length ≤ k
  · exact vt_ge hk
  · have e := vt_vd l k (l.length - k)
    rw [show k + (l.length - k) = l.length by omega, vt_len] at e
    have : vd l k (l.length - k) = 0 := by
      rcases Nat.eq_zero_or_pos (vd l k (l.length - k)) with h0 | h0
      · exact h0
      · have := Nat.mul_le_mul_left (4294967296 ^ k) h0
        omega
    rw [this] at e; omega
theorem zero_of_lt {l : List Nat} (hd : Dg l) {k : Nat} (h : val l < 4294967296 ^ k) {i : Nat} (hi : k ≤ i) : l.getD i 0 = 0 := by
  by_cases h0 : l.getD i 0 = 0
  · exact h0
  · have h1 := val_pos h0
    have : 4294967296 ^ k ≤ 4294967296 ^ i := Nat.pow_le_pow_right (by omega) hi
    omega
theorem vd_top3 (U : List Nat) (j n : Nat) (hn : 2 ≤ n) : vd U j (n + 1) = ((U.getD (j + n) 0 * 4294967296 + U.getD (j + n - 1) 0) * 4294967296 + U.getD (j + n - 2) 0) * 4294967296 ^ (n - 2) + vd U j (n - 2) := by
  obtain ⟨p, rfl⟩ : ∃ p, n = p + 2 := ⟨n - 2, by omega⟩
  rw [show p + 2 + 1 = p + 1 + 1 + 1 from rfl, vd_succ, vd_succ, vd_succ, Nat.pow_succ, Nat.pow_succ, show p + 2 - 2 = p by omega, show j + (p + 1 + 1) = j + (p + 2) from rfl, show j + (p + 2) - 1 = j + (p + 1) by omega, show j + (p + 2) - 2 = j + p by omega]
  grind
theorem kn_step {g r tp wn w1 nx w2 : Nat} (hg : g * tp + r = wn * 4294967296 + w1) (h0 : 0 < g) (hw : wn ≤ tp) (hw1 : w1 < 4294967296) (hnx : nx < 4294967296) :
    (g - 1) * tp + (r + tp) = wn * 4294967296 + w1 ∧ (4294967296 ≤ r + tp → g - 1 < 4294967296 ∧ (g - 1) * nx ≤ (r + tp) * 4294967296 + w2) := by
  obtain ⟨p, rfl⟩ : ∃ p, g = p + 1 := ⟨g - 1, by omega⟩
  rw [Nat.add_sub_cancel]
  have h1 : p * tp + (r + tp) = wn * 4294967296 + w1 := by rw [Nat.add_mul] at hg; omega
  refine ⟨h1, fun hr => ?_⟩
  have h2 : p < 4294967296 := by
    apply Nat.lt_of_not_le
    intro h
    have := Nat.mul_le_mul_right tp h
    omega
  refine ⟨h2, ?_⟩
  have : p * nx ≤ 4294967295 * 4294967295 := Nat.mul_le_mul (by omega) (by omega)
  omega
/-- One round of the long division. -/
theorem kn_round {U U' Q : List Nat} {j n q V A m : Nat} (hUd : Dg U) (hUd' : Dg U') (hlt : ∀ i, i < j ∨ j + n + 1 ≤ i → U'.getD i 0 = U.getD i 0) (hw : val U = vt U j + 4294967296 ^ j * vd U j (n + 1))
    (he : vd U' j (n + 1) + q * V = vd U j (n + 1)) (hR : vd U' j (n + 1) < V) (hA : A = val Q * V + val U) (hQl : Q.length = m) (hj : j < m) (hQ : ∀ t, t < j + 1 → Q.getD t 0 = 0) :
    A = val (Q.set j q) * V + val U' ∧ val U' < V * 4294967296 ^ j ∧ ∀ t, t < j → (Q.set j q).getD t 0 = 0 := by
  have h1 := val_top (a := U') (b := U) (k := j + n + 1) (fun i hi => hlt i (.inr hi))
  have h2 := vt_vd U j (n + 1)
  have h3 := vt_vd U' j (n + 1)
  have h4 : vt U' j = vt U j := vt_congr fun i hi => hlt i (.inl hi)
  rw [← Nat.add_assoc] at h2 h3
  have h5 : val U' = vt U j + 4294967296 ^ j * vd U' j (n + 1) := by omega
  have h6 := vt_lt hUd j
  have h7 : val (Q.set j q) = val Q + 4294967296 ^ j * q := by
    have := vt_set_in (l := Q) (k := j) (v := q) (n := Q.length) (by omega) (by omega)
    rw [vt_len, hQ j (by omega)] at this
    have e : vt (Q.set j q) Q.length = val (Q.set j q) := by rw [← vt_len, List.length_set]
    omega
  refine ⟨?_, ?_, fun t ht => ?_⟩
  · rw [h7, h5, hA, hw, ← he]; grind
  · have h8 : 4294967296 ^ j * (vd U' j (n + 1) + 1) ≤ 4294967296 ^ j * V := Nat.mul_le_mul_left _ hR
    rw [Nat.mul_add] at h8
    rw [Nat.mul_comm V]; omega
  · rw [getD_set (by omega), if_neg (by omega)]; exact hQ t (by omega)
theorem unshift_digit {U : List Nat} {i s : Nat} (hU : Dg U) (hs : s < 32) : val U / 2 ^ s / 4294967296 ^ i % 4294967296 = (U.getD (i + 1) 0 * 4294967296 + U.getD i 0) / 2 ^ s % 4294967296 := by
  have h1 : val U = vt U i + 4294967296 ^ i * (U.getD i 0 + 4294967296 * U.getD (i + 1) 0 + 18446744073709551616 * vd U (i + 2) (U.length)) := by
    have h2 := vt_vd U (i + 2) U.length
    rw [vt_ge (by omega), vt_succ, vt_succ, Nat.pow_succ, Nat.pow_succ] at h2
    rw [h2]; grind
  have h2 := vt_lt hU i
  have h3 : val U / 4294967296 ^ i = U.getD i 0 + 4294967296 * U.getD (i + 1) 0 + 18446744073709551616 * vd U (i + 2) (U.length) := by
    rw [h1, Nat.add_comm, Nat.mul_add_div (Nat.pow_pos (by omega)), Nat.div_eq_of_lt h2, Nat.add_zero]
  rw [Nat.div_div_eq_div_mul, Nat.mul_comm, ← Nat.div_div_eq_div_mul, h3]
  have h4 : 18446744073709551616 = 2 ^ s * (2 ^ (32 - s) * 4294967296) := by
    rw [← Nat.mul_assoc, ← Nat.pow_add, show s + (32 - s) = 32 by omega]
  rw [h4, Nat.mul_assoc, Nat.add_mul_div_left _ _ (Nat.pow_pos (by omega))]
  rw [show U.getD i 0 + 4294967296 * U.getD (i + 1) 0 = U.getD (i + 1) 0 * 4294967296 + U.getD i 0 by omega]
  generalize (U.getD (i + 1) 0 * 4294967296 + U.getD i 0) / 2 ^ s = z
  rw [show 2 ^ (32 - s) * 4294967296 * vd U (i + 2) U.length = 4294967296 * (2 ^ (32 - s) * vd U (i + 2) U.length) by grind, Nat.add_mul_mod_self_left]
theorem kn_end {A U V a b s Q : Nat} (hA : A = Q * V + U) (hU : U < V) (ha : A = a * 2 ^ s) (hb : V = b * 2 ^ s) : a / b = Q ∧ a % b = U / 2 ^ s := by
  have hp : 0 < 2 ^ s := Nat.pow_pos (by omega)
  have h1 : U = (a - Q * b) * 2 ^ s := by
    rw [Nat.sub_mul, ← ha, hA, hb, ← Nat.mul_assoc]; omega
  have h2 : U / 2 ^ s = a - Q * b := by rw [h1, Nat.mul_div_cancel _ hp]
  have h3 : a - Q * b < b := by
    rw [h1, hb] at hU
    exact Nat.lt_of_mul_lt_mul_right hU
  have h4 : Q * b ≤ a := by
    have : Q * b * 2 ^ s ≤ a * 2 ^ s := by rw [← ha, hA, hb, ← Nat.mul_assoc]; omega
    exact Nat.le_of_mul_le_mul_right this hp
  have h5 : a = b * Q + (a - Q * b) := by rw [Nat.mul_comm b]; omega
  refine ⟨?_, ?_⟩
  · rw [h5, Nat.mul_add_div (by omega), Nat.div_eq_of_lt h3, Nat.add_zero]
  · rw [h2]; conv => lhs; rw [h5]
    rw [Nat.mul_add_mod, Nat.mod_eq_of_lt h3]
end Go.Av
