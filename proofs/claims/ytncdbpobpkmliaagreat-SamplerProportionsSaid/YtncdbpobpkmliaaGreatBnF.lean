/- A part of the proof (own method: an abstract machine). No condition. -/
import Derived.Test.YtncdbpobpkmliaaGreatBnA
namespace Go.Av
open Go
variable {ext : Calls0}

theorem divMod1_ok {a b : List Nat} (ha : Dg a) (hb : Dg b) (la : Sh a) (lb : Sh b) (hb0 : 0 < val b) (hb1 : val b < 4294967296) :
    PCall env ext 27 [pN a, pN b] (.tup [pN (ofN (val a / val b)), pN (ofN (val a % val b)), .c (.bool true)]) := by
  have h2 := ofN_len_le_of ha
  have h3 := ofN_len_le_of hb
  have v1 := val_ofN (val a)
  have v2 := val_ofN (val b)
  have d1 := Dg.ofN (val a)
  have d2 := Dg.ofN (val b)
  have hB : ofN (val b) = [val b] := by
    rw [ofN_pos hb0, Nat.mod_eq_of_lt hb1, Nat.div_eq_of_lt hb1]; rfl
  refine PCall.walk (env := env) (g := 27) rfl rfl ?_
  (repeat' first | refine st ?_ | refine s2 (fun _ => ?_) (fun _ => ?_) | refine s4 fun _ _ _ _ => ?_ | fail)
  refine r_call1 (trim_ok ha la) rfl rfl ?_
  (repeat' first | refine st ?_ | refine s2 (fun _ => ?_) (fun _ => ?_) | refine s4 fun _ _ _ _ => ?_ | fail)
  refine r_call1 (trim_ok hb lb) rfl rfl ?_
  rw [hB] at h3 v2 d2 ⊢
  have hBl : [val b].length = 1 := rfl
  (repeat' first | refine st ?_ | refine s2 (fun _ => ?_) (fun _ => ?_) | refine s4 fun _ _ _ _ => ?_ | fail)
  refine r_call1 (cmp_ok d1 d2 (by omega) (by omega)) rfl rfl ?_
  rw [v1, v2]
  by_cases hlt : val a < val b
  · have hc : cmpI (val a) (val b) < 0 := by unfold cmpI; omega
    (repeat' first | refine st ?_ | refine s2 (fun _ => ?_) (fun _ => ?_) | refine s4 fun _ _ _ _ => ?_ | fail)
    refine r_call1 (clone_ok d1 (by omega)) rfl rfl ?_
    (repeat' first | refine st ?_ | refine s2 (fun _ => ?_) (fun _ => ?_) | refine s4 fun _ _ _ _ => ?_ | fail)
    refine ends3 rfl rfl rfl rfl rfl rfl ?_
    rw [v1, Nat.div_eq_of_lt hlt, Nat.mod_eq_of_lt hlt]; rfl
  · have hc : 0 ≤ cmpI (val a) (val b) := by unfold cmpI; omega
    (repeat' first | refine st ?_ | refine s2 (fun _ => ?_) (fun _ => ?_) | refine s4 fun _ _ _ _ => ?_ | fail)
    refine r_call2 (divSmall_ok d1 (by omega) hb0 hb1) rfl rfl ?_
    rw [v1]
    have hm : val a % val b < val b := Nat.mod_lt _ hb0
    (repeat' first | refine st ?_ | refine s2 (fun _ => ?_) (fun _ => ?_) | refine s4 fun _ _ _ _ => ?_ | fail)
    refine r_call1 (fromUint64_ok (n := val a % val b) (by omega)) rfl rfl ?_
    (repeat' first | refine st ?_ | refine s2 (fun _ => ?_) (fun _ => ?_) | refine s4 fun _ _ _ _ => ?_ | fail)
    exact ends3 rfl rfl rfl rfl rfl rfl rfl

theorem power_ok {k : Nat} (hk : k < 1048576) : PCall env ext 113 [.c (.int .i64 (k : Int))] (.s (pN (ofN (256 ^ k)))) := by
  refine PCall.walk (env := env) (g := 113) rfl rfl ?_
  (repeat' first | refine st ?_ | refine s2 (fun _ => ?_) (fun _ => ?_) | refine s4 fun _ _ _ _ => ?_ | fail)
  rename_i o1 h1 h2 h3 o2 hm h5 h6
  refine ends1 rfl (purK hm (by simp)) ?_
  have hv : 2 ^ (8 * (k % 4)) < 4294967296 := by
    have h4 : k % 4 < 4 := Nat.mod_lt _ (by omega)
    generalize k % 4 = r at *
    have : r = 0 ∨ r = 1 ∨ r = 2 ∨ r = 3 := by omega
    rcases this with rfl | rfl | rfl | rfl <;> decide
  have hp : 0 < 2 ^ (8 * (k % 4)) := Nat.pow_pos (by omega)
  have e1 : 1 * 2 ^ min (8 * (k % 4)) 32 % 4294967296 = 2 ^ (8 * (k % 4)) := by
    rw [Nat.min_eq_left (by omega), Nat.one_mul, Nat.mod_eq_of_lt hv]
  rw [e1] at *
  have e2 : 256 ^ k = val ((List.replicate (k / 4 + 1) 0).set (k / 4) (2 ^ (8 * (k % 4)))) := by
    rw [← vt_len, List.length_set, List.length_replicate, vt_set_succ (by simp), vt_replicate, Nat.zero_add]
    rw [show (4294967296 : Nat) = 2 ^ 32 from rfl, show (256 : Nat) = 2 ^ 8 from rfl, ← Nat.pow_mul, ← Nat.pow_mul, ← Nat.pow_add]
    congr 1; omega
  generalize 2 ^ (8 * (k % 4)) = v at *
  rw [e2, ofN_val ((Dg.replicate _).set hv)]
  · congr 3
    rw [List.take_of_length_le (by simp)]
  · right
    rw [List.length_set, List.length_replicate, getD_set (by simp), if_pos (by omega)]; omega

theorem limited_ok {bs : List Nat} (h : bs.length ≤ 4096) : PCall env ext 112 [.c (.sl (encK .u8 bs))] (.s (.c (.sl (encK .u8 bs)))) := by
  refine PCall.walk (env := env) (g := 112) rfl rfl ?_
  (repeat' first | refine st ?_ | refine s2 (fun _ => ?_) (fun _ => ?_) | refine s4 fun _ _ _ _ => ?_ | fail)
  refine ends1 rfl rfl ?_
  rw [List.take_length]
theorem normalizeR_ok {l : List Nat} {o : Objs} {id ver base : Nat} (hd : Dg l) (hl : Sh l) (hm : o.is id ver .u32 l) :
    ∃ o' r, Call env ext 17 base o [.c (.rs id ver 1 0 l.length)] o' r ∧ r = vk .u32 (ofN (val l)) := by
  refine Call.walk (env := env) (g := 17) (P := fun _ r => r = vk .u32 (ofN (val l))) rfl rfl ?_
  (repeat' first | refine st ?_ | refine s2 (fun _ => ?_) (fun _ => ?_) | refine s4 fun _ _ _ _ => ?_ | fail)
  have e := clone_ok (ext := ext) hd hl
  rw [← List.take_length (l := l)] at e
  refine r_callM hm (Nat.le_refl _) e rfl fun o' _ _ => ?_
  rw [List.take_length]
  (repeat' first | refine st ?_ | refine s2 (fun _ => ?_) (fun _ => ?_) | refine s4 fun _ _ _ _ => ?_ | fail)
  exact endsR1 rfl rfl
theorem number0_ok : PCall env ext 114 [.c (.sl (encK .u8 []))] (.s (pN (ofN 0))) := by
  refine PCall.walk (env := env) (g := 114) rfl rfl ?_
  (repeat' first | refine st ?_ | refine s2 (fun _ => ?_) (fun _ => ?_) | refine s4 fun _ _ _ _ => ?_ | fail)
  rename_i o1 hm _ _
  refine w_unroll ?_
  (repeat' first | refine st ?_ | refine s2 (fun _ => ?_) (fun _ => ?_) | refine s4 fun _ _ _ _ => ?_ | fail)
  refine r_callR (normalizeR_ok (l := []) Dg.nil (by simp) hm) rfl ?_
  rintro o' r rfl
  (repeat' first | refine st ?_ | refine s2 (fun _ => ?_) (fun _ => ?_) | refine s4 fun _ _ _ _ => ?_ | fail)
  exact ends1 rfl rfl rfl
theorem number1_ok {v : Nat} (h : v < 256) : PCall env ext 114 [.c (.sl (encK .u8 [v]))] (.s (pN (ofN v))) := by
  refine PCall.walk (env := env) (g := 114) rfl rfl ?_
  (repeat' first | refine st ?_ | refine s2 (fun _ => ?_) (fun _ => ?_) | refine s4 fun _ _ _ _ => ?_ | fail)
  rename_i o1 hm _ _
  refine w_unroll ?_
  have hz : (List.replicate ((1 + 3) / 4) 0).getD ((1 - 1 - 0) / 4) 0 = 0 := rfl
  (repeat' first | refine st ?_ | refine s2 (fun _ => ?_) (fun _ => ?_) | refine s4 fun _ _ _ _ => ?_ | fail)
  rename_i o2 hm2 _ _
  have e : (List.replicate ((1 + 3) / 4) 0).set ((1 - 1 - 0) / 4) ((List.replicate ((1 + 3) / 4) 0).getD ((1 - 1 - 0) / 4) 0 ||| [v].getD 0 0 % 4294967296 * 2 ^ min (8 * ((1 - 1 - 0) % 4)) 32 % 4294967296) = [v] := by
    rw [hz, Nat.zero_or]
    have e2 : [v].getD 0 0 % 4294967296 * 2 ^ min (8 * ((1 - 1 - 0) % 4)) 32 % 4294967296 = v := by
      show v % 4294967296 * 1 % 4294967296 = v
      omega
    rw [e2]; rfl
  rw [e] at hm2
  refine w_unroll ?_
  (repeat' first | refine st ?_ | refine s2 (fun _ => ?_) (fun _ => ?_) | refine s4 fun _ _ _ _ => ?_ | fail)
  refine r_callR (normalizeR_ok (l := [v]) (Dg.cons (by omega) Dg.nil) (by simp) hm2) rfl ?_
  rintro o' r rfl
  (repeat' first | refine st ?_ | refine s2 (fun _ => ?_) (fun _ => ?_) | refine s4 fun _ _ _ _ => ?_ | fail)
  refine ends1 rfl rfl ?_
  simp only [val]; rfl
end Go.Av
namespace Go.Av
open Go
variable {ext : Calls0}

abbrev pB (l : List Nat) : PSV := .c (.sl (encK .u8 l))
abbrev pI (n : Int) : PSV := .c (.int .i64 n)

theorem ofN_len_small {n : Nat} (h : n < 4294967296) : (ofN n).length ≤ 1 := ofN_len_le (by simpa using h)

/-- Below at one byte, for a number of 2 or more. -/
theorem below1 {n v : Nat} (hn : 2 ≤ n) (hn2 : n ≤ 256) (hv : v < 256) :
    PCall env ext 115 [pN (ofN n), pB [v]] (if v < 256 / n * n then .tup [pN (ofN (v % n)), pI 1, pI 0] else .tup [pN [], pI 0, pI 3]) := by
  have d1 := Dg.ofN n
  have l1 := ofN_len_small (n := n) (by omega)
  have v1 := val_ofN n
  have d2 := Dg.ofN 1
  have l2 := ofN_len_small (n := 1) (by omega)
  have v2 := val_ofN 1
  have d3 := Dg.ofN (n - 1)
  have l3 := ofN_len_small (n := n - 1) (by omega)
  have v3 := val_ofN (n - 1)
  have hbn : bl n ≠ 0 := by unfold bl; rw [if_neg (by omega)]; omega
  have hbn9 : bl n ≤ 9 := by
    have h5 := bl_le (n := n) (by omega)
    have : 2 ^ (bl n - 1) < 2 ^ 9 := by omega
    have := (Nat.pow_lt_pow_iff_right (by omega : 1 < 2)).1 this
    omega
  have hb0 : bl (n - 1) ≠ 0 := by unfold bl; rw [if_neg (by omega)]; omega
  have hb8 := bl_byte (n := n - 1) (by omega)
  have hk : (bl (n - 1) + 7) / 8 = 1 := by omega
  refine PCall.walk (env := env) (g := 115) rfl rfl ?_
  (repeat' first | refine st ?_ | refine s2 (fun _ => ?_) (fun _ => ?_) | refine s4 fun _ _ _ _ => ?_ | fail)
  refine r_call1 (bitLen_ok d1 (by omega)) rfl rfl ?_
  rw [v1]
  (repeat' first | refine st ?_ | refine s2 (fun _ => ?_) (fun _ => ?_) | refine s4 fun _ _ _ _ => ?_ | fail)
  refine r_call1 (fromUint64_ok (n := 1) (by omega)) rfl rfl ?_
  (repeat' first | refine st ?_ | refine s2 (fun _ => ?_) (fun _ => ?_) | refine s4 fun _ _ _ _ => ?_ | fail)
  refine r_call2 (sub_ok d1 d2 (by omega) (by omega) (by omega)) rfl rfl ?_
  rw [v1, v2]
  (repeat' first | refine st ?_ | refine s2 (fun _ => ?_) (fun _ => ?_) | refine s4 fun _ _ _ _ => ?_ | fail)
  refine r_call1 (bitLen_ok d3 (by omega)) rfl rfl ?_
  rw [v3]
  (repeat' first | refine st ?_ | refine s2 (fun _ => ?_) (fun _ => ?_) | refine s4 fun _ _ _ _ => ?_ | fail)
  rw [hk]
  refine r_call1 (power_ok (k := 1) (by omega)) rfl rfl ?_
  rw [Nat.pow_one]
  have d4 := Dg.ofN 256
  have l4 := ofN_len_small (n := 256) (by omega)
  have v4 := val_ofN 256
  (repeat' first | refine st ?_ | refine s2 (fun _ => ?_) (fun _ => ?_) | refine s4 fun _ _ _ _ => ?_ | fail)
  refine r_call3 (divMod1_ok d4 d1 (by omega) (by omega) (by omega) (by omega)) rfl rfl ?_
  rw [v1, v4]
  have hq : 256 / n ≤ 256 := Nat.div_le_self _ _
  have hql : 256 / n * n ≤ 256 := Nat.div_mul_le_self _ _
  have d5 := Dg.ofN (256 / n)
  have l5 := ofN_len_small (n := 256 / n) (by omega)
  have v5 := val_ofN (256 / n)
  (repeat' first | refine st ?_ | refine s2 (fun _ => ?_) (fun _ => ?_) | refine s4 fun _ _ _ _ => ?_ | fail)
  refine r_call1 (mul_ok d5 d1 (by omega) (by omega)) rfl rfl ?_
  rw [v1, v5]
  have d6 := Dg.ofN (256 / n * n)
  have l6 := ofN_len_small (n := 256 / n * n) (by omega)
  have v6 := val_ofN (256 / n * n)
  have d7 := Dg.ofN v
  have l7 := ofN_len_small (n := v) (by omega)
  have v7 := val_ofN v
  (repeat' first | refine st ?_ | refine s2 (fun _ => ?_) (fun _ => ?_) | refine s4 fun _ _ _ _ => ?_ | fail)
  refine w_unroll ?_
  (repeat' first | refine st ?_ | refine s2 (fun _ => ?_) (fun _ => ?_) | refine s4 fun _ _ _ _ => ?_ | fail)
  refine r_call1 (number1_ok hv) rfl rfl ?_
  (repeat' first | refine st ?_ | refine s2 (fun _ => ?_) (fun _ => ?_) | refine s4 fun _ _ _ _ => ?_ | fail)
  refine r_call1 (cmp_ok d7 d6 (by omega) (by omega)) rfl rfl ?_
  rw [v6, v7]
  by_cases hlt : v < 256 / n * n
  · have hc : cmpI v (256 / n * n) < 0 := by unfold cmpI; omega
    rw [if_pos hlt]
    (repeat' first | refine st ?_ | refine s2 (fun _ => ?_) (fun _ => ?_) | refine s4 fun _ _ _ _ => ?_ | fail)
    refine r_call3 (divMod1_ok d7 d1 (by omega) (by omega) (by omega) (by omega)) rfl rfl ?_
    rw [v1, v7]
    (repeat' first | refine st ?_ | refine s2 (fun _ => ?_) (fun _ => ?_) | refine s4 fun _ _ _ _ => ?_ | fail)
    exact ends3 rfl rfl rfl rfl rfl rfl rfl
  · have hc : 0 ≤ cmpI v (256 / n * n) := by unfold cmpI; omega
    rw [if_neg hlt]
    (repeat' first | refine st ?_ | refine s2 (fun _ => ?_) (fun _ => ?_) | refine s4 fun _ _ _ _ => ?_ | fail)
    refine w_unroll ?_
    (repeat' first | refine st ?_ | refine s2 (fun _ => ?_) (fun _ => ?_) | refine s4 fun _ _ _ _ => ?_ | fail)
    exact ends3 rfl rfl rfl rfl rfl rfl rfl

/-- Below at the number 1: no byte is read. -/
theorem below_one {v : Nat} : PCall env ext 115 [pN (ofN 1), pB [v]] (.tup [pN [], pI 0, pI 0]) := by
  have d1 : Dg (ofN 1) := Dg.ofN 1
  have l1 := ofN_len_small (n := 1) (by omega)
  have v1 := val_ofN 1
  have d3 := Dg.ofN 0
  have l3 := ofN_len_small (n := 0) (by omega)
  have v3 := val_ofN 0
  have hb : bl 1 = 1 := by decide
  have hb0 : bl 0 = 0 := by decide
  refine PCall.walk (env := env) (g := 115) rfl rfl ?_
  (repeat' first | refine st ?_ | refine s2 (fun _ => ?_) (fun _ => ?_) | refine s4 fun _ _ _ _ => ?_ | fail)
  refine r_call1 (bitLen_ok d1 (by omega)) rfl rfl ?_
  rw [v1, hb]
  (repeat' first | refine st ?_ | refine s2 (fun _ => ?_) (fun _ => ?_) | refine s4 fun _ _ _ _ => ?_ | fail)
  refine r_call1 (fromUint64_ok (n := 1) (by omega)) rfl rfl ?_
  (repeat' first | refine st ?_ | refine s2 (fun _ => ?_) (fun _ => ?_) | refine s4 fun _ _ _ _ => ?_ | fail)
  refine r_call2 (sub_ok d1 d1 (by omega) (by omega) (by omega)) rfl rfl ?_
  rw [v1]
  (repeat' first | refine st ?_ | refine s2 (fun _ => ?_) (fun _ => ?_) | refine s4 fun _ _ _ _ => ?_ | fail)
  refine r_call1 (bitLen_ok d3 (by omega)) rfl rfl ?_
  rw [v3, hb0]
  (repeat' first | refine st ?_ | refine s2 (fun _ => ?_) (fun _ => ?_) | refine s4 fun _ _ _ _ => ?_ | fail)
  refine r_call1 (power_ok (k := 0) (by omega)) rfl rfl ?_
  rw [Nat.pow_zero]
  (repeat' first | refine st ?_ | refine s2 (fun _ => ?_) (fun _ => ?_) | refine s4 fun _ _ _ _ => ?_ | fail)
  refine r_call3 (divMod1_ok d1 d1 (by omega) (by omega) (by omega) (by omega)) rfl rfl ?_
  rw [v1]
  (repeat' first | refine st ?_ | refine s2 (fun _ => ?_) (fun _ => ?_) | refine s4 fun _ _ _ _ => ?_ | fail)
  refine r_call1 (mul_ok d1 d1 (by omega) (by omega)) rfl rfl ?_
  rw [v1]
  (repeat' first | refine st ?_ | refine s2 (fun _ => ?_) (fun _ => ?_) | refine s4 fun _ _ _ _ => ?_ | fail)
  refine w_unroll ?_
  (repeat' first | refine st ?_ | refine s2 (fun _ => ?_) (fun _ => ?_) | refine s4 fun _ _ _ _ => ?_ | fail)
  refine r_call1 number0_ok rfl rfl ?_
  (repeat' first | refine st ?_ | refine s2 (fun _ => ?_) (fun _ => ?_) | refine s4 fun _ _ _ _ => ?_ | fail)
  refine r_call1 (cmp_ok d3 d1 (by omega) (by omega)) rfl rfl ?_
  rw [v1, v3]
  have hc : cmpI 0 1 < 0 := by decide
  (repeat' first | refine st ?_ | refine s2 (fun _ => ?_) (fun _ => ?_) | refine s4 fun _ _ _ _ => ?_ | fail)
  refine r_call3 (divMod1_ok d3 d1 (by omega) (by omega) (by omega) (by omega)) rfl rfl ?_
  rw [v1, v3]
  (repeat' first | refine st ?_ | refine s2 (fun _ => ?_) (fun _ => ?_) | refine s4 fun _ _ _ _ => ?_ | fail)
  exact ends3 rfl rfl rfl rfl rfl rfl rfl

/-- The exported function, at one byte. -/
theorem Below1 {n v : Nat} {r : PSV} {i j : Int} (h : PCall env ext 115 [pN (ofN n), pB [v]] (.tup [r, pI i, pI j])) (hr : ∃ l, r = pN l) : PCall env ext 116 [pN (ofN n), pB [v]] (.tup [r, pI i, pI j]) := by
  obtain ⟨l, rfl⟩ := hr
  refine PCall.walk (env := env) (g := 116) rfl rfl ?_
  (repeat' first | refine st ?_ | refine s2 (fun _ => ?_) (fun _ => ?_) | refine s4 fun _ _ _ _ => ?_ | fail)
  refine r_call1 (limited_ok (bs := [v]) (by simp)) rfl rfl ?_
  (repeat' first | refine st ?_ | refine s2 (fun _ => ?_) (fun _ => ?_) | refine s4 fun _ _ _ _ => ?_ | fail)
  refine r_call3 h rfl rfl ?_
  (repeat' first | refine st ?_ | refine s2 (fun _ => ?_) (fun _ => ?_) | refine s4 fun _ _ _ _ => ?_ | fail)
  exact ends3 rfl rfl rfl rfl rfl rfl rfl

end Go.Av
namespace Go.Av
open Go
variable {ext : Calls0}

theorem or_hi {m x i : Nat} (h : m < 2 ^ i) : m ||| x * 2 ^ i = m + x * 2 ^ i := by
  rw [Nat.or_comm, Nat.mul_comm, ← Nat.two_pow_add_eq_or_of_lt h, Nat.add_comm]

theorem uint64_ok {l : List Nat} (hd : Dg l) (hl : Sh l) : PCall env ext 18 [pN l] (if val l < 18446744073709551616 then .tup [.c (.int .u64 (val l : Nat)), .c (.bool true)] else .tup [.c (.int .u64 0), .c (.bool false)]) := by
  have h2 := ofN_len_le_of hd
  have v1 := val_ofN (val l)
  have d1 := Dg.ofN (val l)
  have c1 := Canon.ofN (val l)
  refine PCall.walk (env := env) (g := 18) rfl rfl ?_
  (repeat' first | refine st ?_ | refine s2 (fun _ => ?_) (fun _ => ?_) | refine s4 fun _ _ _ _ => ?_ | fail)
  refine r_call1 (trim_ok hd hl) rfl rfl ?_
  generalize ofN (val l) = A at *
  rw [← v1]
  (repeat' first | refine st ?_ | refine s2 (fun _ => ?_) (fun _ => ?_) | refine s4 fun _ _ _ _ => ?_ | fail)
  · rename_i h4
    have : 18446744073709551616 ≤ val A := by
      rcases c1 with h | h
      · subst h; simp at h4
      · have h5 := val_pos h
        have : 4294967296 ^ 2 ≤ 4294967296 ^ (A.length - 1) := Nat.pow_le_pow_right (by omega) (by omega)
        omega
    rw [if_neg (by omega)]
    exact ends2 rfl rfl rfl rfl rfl
  · rename_i h4
    have hlt : val A < 18446744073709551616 := by
      have h5 := val_lt d1
      have : 4294967296 ^ A.length ≤ 4294967296 ^ 2 := Nat.pow_le_pow_right (by omega) (by omega)
      omega
    rw [if_pos hlt]
    refine w_loopUp (fun i sl o => i ≤ A.length ∧ sl 4 = vn .u64 (vt A i) ∧ sl 12 = vk .u32 A ∧ sl 13 = vn .i64 A.length ∧ sl 14 = vn .i64 i) 0 A.length ⟨by omega, ?_, rfl, rfl, rfl⟩ (fun i sl o h => h.1) ?_
    · rw [vt_zero]; rfl
    rintro i sl o ⟨hi, s4, s12, s13, s14⟩
    rw [upd4 s4 s12 s13 s14]
    clear s4 s12 s13 s14
    by_cases hi2 : i = A.length
    · subst hi2
      rw [vt_len]
      (repeat' first | refine st ?_ | refine s2 (fun _ => ?_) (fun _ => ?_) | refine s4 fun _ _ _ _ => ?_ | fail)
      exact ends2 rfl rfl rfl rfl rfl
    · have hi3 : i = 0 ∨ i = 1 := by omega
      have a1 := d1 i
      have hvt : vt A i < 18446744073709551616 := by
        have := vt_mono A (show i ≤ A.length by omega)
        rw [vt_len] at this; omega
      have key : vt A i ||| A.getD i 0 * 2 ^ min (32 * i) 64 % 18446744073709551616 = vt A (i + 1) := by
        have h6 := vt_lt d1 i
        rw [vt_succ]
        rcases hi3 with rfl | rfl
        · rw [vt_zero, Nat.zero_or, show min (32 * 0) 64 = 0 from rfl]; simp only [Nat.pow_zero, Nat.mul_one, Nat.one_mul]; omega
        · simp only [Nat.pow_one] at h6
          rw [show min (32 * 1) 64 = 32 from rfl, Nat.mod_eq_of_lt (by simp only [Nat.reducePow]; omega), or_hi (by simp only [Nat.reducePow]; exact h6)]; simp only [Nat.reducePow]; omega
      (repeat' first | refine st ?_ | refine s2 (fun _ => ?_) (fun _ => ?_) | refine s4 fun _ _ _ _ => ?_ | fail)
      refine ⟨⟨by omega, ?_, rfl, rfl, rfl⟩, rfl⟩
      show vn .u64 _ = _
      rw [key]

theorem gcdSmall_ok {m n : Nat} (hm : m < 18446744073709551616) (hn : n < 18446744073709551616) : PCall env ext 20 [pN (ofN m), pN (ofN n)] (.s (pN (ofN (Nat.gcd m n)))) := by
  have d1 := Dg.ofN m
  have v1 := val_ofN m
  have d2 := Dg.ofN n
  have v2 := val_ofN n
  have l1 : (ofN m).length ≤ 2 := ofN_len_le (by simpa using hm)
  have l2 : (ofN n).length ≤ 2 := ofN_len_le (by simpa using hn)
  have u1 := uint64_ok (ext := ext) d1 (by omega)
  have u2 := uint64_ok (ext := ext) d2 (by omega)
  rw [v1, if_pos hm] at u1
  rw [v2, if_pos hn] at u2
  refine PCall.walk (env := env) (g := 20) rfl rfl ?_
  (repeat' first | refine st ?_ | refine s2 (fun _ => ?_) (fun _ => ?_) | refine s4 fun _ _ _ _ => ?_ | fail)
  refine r_call2 u1 rfl rfl ?_
  (repeat' first | refine st ?_ | refine s2 (fun _ => ?_) (fun _ => ?_) | refine s4 fun _ _ _ _ => ?_ | fail)
  refine r_call2 u2 rfl rfl ?_
  (repeat' first | refine st ?_ | refine s2 (fun _ => ?_) (fun _ => ?_) | refine s4 fun _ _ _ _ => ?_ | fail)
  refine w_loopS (fun k sl o => ∃ x, x < 18446744073709551616 ∧ k < 18446744073709551616 ∧ Nat.gcd x k = Nat.gcd m n ∧ sl 5 = vn .u64 x ∧ sl 7 = vn .u64 k) n ⟨m, hm, hn, rfl, rfl, rfl⟩ ?_
  rintro k sl o ⟨x, hx, hk, hg, s5, s7⟩
  rw [upd2 s5 s7]
  clear s5 s7 u1 u2
  (repeat' first | refine st ?_ | refine s2 (fun _ => ?_) (fun _ => ?_) | refine s4 fun _ _ _ _ => ?_ | fail)
  · rename_i h4
    have hk0 : 0 < k := by omega
    have hlt := Nat.mod_lt x hk0
    refine ⟨x % k, hlt, ⟨k, hk, by omega, ?_, rfl, rfl⟩, rfl⟩
    rw [← hg, Nat.gcd_comm k, ← Nat.gcd_rec, Nat.gcd_comm]
  · rename_i h4
    have hk0 : k = 0 := by omega
    subst hk0
    refine r_call1 (fromUint64_ok hx) rfl rfl ?_
    (repeat' first | refine st ?_ | refine s2 (fun _ => ?_) (fun _ => ?_) | refine s4 fun _ _ _ _ => ?_ | fail)
    refine ends1 rfl rfl ?_
    rw [← hg, Nat.gcd_zero_right]

theorem gcd_ok {a b : List Nat} (ha : Dg a) (hb : Dg b) (la : Sh a) (lb : Sh b) (h1 : val a < 18446744073709551616) (h2 : val b < 18446744073709551616) : PCall env ext 28 [pN a, pN b] (.s (pN (ofN (Nat.gcd (val a) (val b))))) := by
  have l1 : (ofN (val a)).length ≤ 2 := ofN_len_le (by simpa using h1)
  have l2 : (ofN (val b)).length ≤ 2 := ofN_len_le (by simpa using h2)
  refine PCall.walk (env := env) (g := 28) rfl rfl ?_
  (repeat' first | refine st ?_ | refine s2 (fun _ => ?_) (fun _ => ?_) | refine s4 fun _ _ _ _ => ?_ | fail)
  refine r_call1 (clone_ok ha la) rfl rfl ?_
  (repeat' first | refine st ?_ | refine s2 (fun _ => ?_) (fun _ => ?_) | refine s4 fun _ _ _ _ => ?_ | fail)
  refine r_call1 (clone_ok hb lb) rfl rfl ?_
  (repeat' first | refine st ?_ | refine s2 (fun _ => ?_) (fun _ => ?_) | refine s4 fun _ _ _ _ => ?_ | fail)
  refine w_unroll ?_
  by_cases h0 : val b = 0
  · rw [h0, ofN_zero, Nat.gcd_zero_right]
    (repeat' first | refine st ?_ | refine s2 (fun _ => ?_) (fun _ => ?_) | refine s4 fun _ _ _ _ => ?_ | fail)
    exact ends1 rfl rfl rfl
  · have h3 : 0 < (ofN (val b)).length := by
      apply Nat.pos_of_ne_zero
      intro h; exact h0 (ofN_eq_nil.1 (List.eq_nil_of_length_eq_zero h))
    (repeat' first | refine st ?_ | refine s2 (fun _ => ?_) (fun _ => ?_) | refine s4 fun _ _ _ _ => ?_ | fail)
    refine r_call1 (gcdSmall_ok h1 h2) rfl rfl ?_
    (repeat' first | refine st ?_ | refine s2 (fun _ => ?_) (fun _ => ?_) | refine s4 fun _ _ _ _ => ?_ | fail)
    exact ends1 rfl rfl rfl
end Go.Av
