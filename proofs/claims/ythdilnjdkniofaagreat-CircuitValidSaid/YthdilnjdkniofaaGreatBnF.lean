/- A part of the proof (own method: an abstract machine). No condition. -/
import Derived.Test.YthdilnjdkniofaaGreatBnA
namespace Go.Av
open Go
variable {ext : Calls0}

theorem divMod1_ok {a b : List Nat} (ha : Dg a) (hb : Dg b) (la : Sh a) (lb : Sh b) (hb0 : 0 < val b) (hb1 : val b < 4294967296) :
    PCall env ext 27 [pN a, pN b] (.tup [pN (ofN (val a / val b)), pN (ofN (val a % val b)), .c (.bool true)]) := by
  have h2 := ofN_len_le_of ha
  have h3 := ofN_len_le_of hb
  have v1 := val_ofN (val a)
  have v2 := val_ofN (val b)
  have d1 := Dg.ofN (val a)
  have d2 := Dg.ofN (val b)
  have hB : ofN (val b) = [val b] := by
    rw [ofN_pos hb0, Nat.mod_eq_of_lt hb1, Nat.div_eq_of_lt hb1]; rfl
  refine PCall.walk (env := env) (g := 27) rfl rfl ?_
  (repeat' first | refine st ?_ | refine s2 (fun _ => ?_) (fun _ => ?_) | refine s4 fun _ _ _ _ => ?_ | fail)
  refine r_call1 (trim_ok ha la) rfl rfl ?_
  (repeat' first | refine st ?_ | refine s2 (fun _ => ?_) (fun _ => ?_) | refine s4 fun _ _ _ _ => ?_ | fail)
  refine r_call1 (trim_ok hb lb) rfl rfl ?_
  rw [hB] at h3 v2 d2 ⊢
  have hBl : [val b].length = 1 := rfl
  (repeat' first | refine st ?_ | refine s2 (fun _ => ?_) (fun _ => ?_) | refine s4 fun _ _ _ _ => ?_ | fail)
  refine r_call1 (cmp_ok d1 d2 (by omega) (by omega)) rfl rfl ?_
  rw [v1, v2]
  by_cases hlt : val a < val b
  · have hc : cmpI (val a) (val b) < 0 := by unfold cmpI; omega
    (repeat' first | refine st ?_ | refine s2 (fun _ => ?_) (fun _ => ?_) | refine s4 fun _ _ _ _ => ?_ | fail)
    refine r_call1 (clone_ok d1 (by omega)) rfl rfl ?_
    (repeat' first | refine st ?_ | refine s2 (fun _ => ?_) (fun _ => ?_) | refine s4 fun _ _ _ _ => ?_ | fail)
    refine ends3 rfl rfl rfl rfl rfl rfl ?_
    rw [v1, Nat.div_eq_of_lt hlt, Nat.mod_eq_of_lt hlt]; rfl
  · have hc : 0 ≤ cmpI (val a) (val b) := by unfold cmpI; omega
    (repeat' first | refine st ?_ | refine s2 (fun _ => ?_) (fun _ => ?_) | refine s4 fun _ _ _ _ => ?_ | fail)
    refine r_call2 (divSmall_ok d1 (by omega) hb0 hb1) rfl rfl ?_
    rw [v1]
    have hm : val a % val b < val b := Nat.mod_lt _ hb0
    (repeat' first | refine st ?_ | refine s2 (fun _ => ?_) (fun _ => ?_) | refine s4 fun _ _ _ _ => ?_ | fail)
    refine r_call1 (fromUint64_ok (n := val a % val b) (by omega)) rfl rfl ?_
    (repeat' first | refine st ?_ | refine s2 (fun _ => ?_) (fun _ => ?_) | refine s4 fun _ _ _ _ => ?_ | fail)
    exact ends3 rfl rfl rfl rfl rfl rfl rfl

theorem normalizeR_ok {l : List Nat} {o : Objs} {id ver base : Nat} (hd : Dg l) (hl : Sh l) (hm : o.is id ver .u32 l) :
    ∃ o' r, Call env ext 17 base o [.c (.rs id ver 1 0 l.length)] o' r ∧ r = vk .u32 (ofN (val l)) := by
  refine Call.walk (env := env) (g := 17) (P := fun _ r => r = vk .u32 (ofN (val l))) rfl rfl ?_
  (repeat' first | refine st ?_ | refine s2 (fun _ => ?_) (fun _ => ?_) | refine s4 fun _ _ _ _ => ?_ | fail)
  have e := clone_ok (ext := ext) hd hl
  rw [← List.take_length (l := l)] at e
  refine r_callM hm (Nat.le_refl _) e rfl fun o' _ _ => ?_
  rw [List.take_length]
  (repeat' first | refine st ?_ | refine s2 (fun _ => ?_) (fun _ => ?_) | refine s4 fun _ _ _ _ => ?_ | fail)
  exact endsR1 rfl rfl
end Go.Av
namespace Go.Av
open Go
variable {ext : Calls0}

theorem or_hi {m x i : Nat} (h : m < 2 ^ i) : m ||| x * 2 ^ i = m + x * 2 ^ i := by
  rw [Nat.or_comm, Nat.mul_comm, ← Nat.two_pow_add_eq_or_of_lt h, Nat.add_comm]

theorem uint64_ok {l : List Nat} (hd : Dg l) (hl : Sh l) : PCall env ext 18 [pN l] (if val l < 18446744073709551616 then .tup [.c (.int .u64 (val l : Nat)), .c (.bool true)] else .tup [.c (.int .u64 0), .c (.bool false)]) := by
  have h2 := ofN_len_le_of hd
  have v1 := val_ofN (val l)
  have d1 := Dg.ofN (val l)
  have c1 := Canon.ofN (val l)
  refine PCall.walk (env := env) (g := 18) rfl rfl ?_
  (repeat' first | refine st ?_ | refine s2 (fun _ => ?_) (fun _ => ?_) | refine s4 fun _ _ _ _ => ?_ | fail)
  refine r_call1 (trim_ok hd hl) rfl rfl ?_
  generalize ofN (val l) = A at *
  rw [← v1]
  (repeat' first | refine st ?_ | refine s2 (fun _ => ?_) (fun _ => ?_) | refine s4 fun _ _ _ _ => ?_ | fail)
  · rename_i h4
    have : 18446744073709551616 ≤ val A := by
      rcases c1 with h | h
      · subst h; simp at h4
      · have h5 := val_pos h
        have : 4294967296 ^ 2 ≤ 4294967296 ^ (A.length - 1) := Nat.pow_le_pow_right (by omega) (by omega)
        omega
    rw [if_neg (by omega)]
    exact ends2 rfl rfl rfl rfl rfl
  · rename_i h4
    have hlt : val A < 18446744073709551616 := by
      have h5 := val_lt d1
      have : 4294967296 ^ A.length ≤ 4294967296 ^ 2 := Nat.pow_le_pow_right (by omega) (by omega)
      omega
    rw [if_pos hlt]
    refine w_loopUp (fun i sl o => i ≤ A.length ∧ sl 4 = vn .u64 (vt A i) ∧ sl 12 = vk .u32 A ∧ sl 13 = vn .i64 A.length ∧ sl 14 = vn .i64 i) 0 A.length ⟨by omega, ?_, rfl, rfl, rfl⟩ (fun i sl o h => h.1) ?_
    · rw [vt_zero]; rfl
    rintro i sl o ⟨hi, s4, s12, s13, s14⟩
    rw [upd4 s4 s12 s13 s14]
    clear s4 s12 s13 s14
    by_cases hi2 : i = A.length
    · subst hi2
      rw [vt_len]
      (repeat' first | refine st ?_ | refine s2 (fun _ => ?_) (fun _ => ?_) | refine s4 fun _ _ _ _ => ?_ | fail)
      exact ends2 rfl rfl rfl rfl rfl
    · have hi3 : i = 0 ∨ i = 1 := by omega
      have a1 := d1 i
      have hvt : vt A i < 18446744073709551616 := by
        have := vt_mono A (show i ≤ A.length by omega)
        rw [vt_len] at this; omega
      have key : vt A i ||| A.getD i 0 * 2 ^ min (32 * i) 64 % 18446744073709551616 = vt A (i + 1) := by
        have h6 := vt_lt d1 i
        rw [vt_succ]
        rcases hi3 with rfl | rfl
        · rw [vt_zero, Nat.zero_or, show min (32 * 0) 64 = 0 from rfl]; simp only [Nat.pow_zero, Nat.mul_one, Nat.one_mul]; omega
        · simp only [Nat.pow_one] at h6
          rw [show min (32 * 1) 64 = 32 from rfl, Nat.mod_eq_of_lt (by simp only [Nat.reducePow]; omega), or_hi (by simp only [Nat.reducePow]; exact h6)]; simp only [Nat.reducePow]; omega
      (repeat' first | refine st ?_ | refine s2 (fun _ => ?_) (fun _ => ?_) | refine s4 fun _ _ _ _ => ?_ | fail)
      refine ⟨⟨by omega, ?_, rfl, rfl, rfl⟩, rfl⟩
      show vn .u64 _ = _
      rw [key]

theorem gcdSmall_ok {m n : Nat} (hm : m < 18446744073709551616) (hn : n < 18446744073709551616) : PCall env ext 20 [pN (ofN m), pN (ofN n)] (.s (pN (ofN (Nat.gcd m n)))) := by
  have d1 := Dg.ofN m
  have v1 := val_ofN m
  have d2 := Dg.ofN n
  have v2 := val_ofN n
  have l1 : (ofN m).length ≤ 2 := ofN_len_le (by simpa using hm)
  have l2 : (ofN n).length ≤ 2 := ofN_len_le (by simpa using hn)
  have u1 := uint64_ok (ext := ext) d1 (by omega)
  have u2 := uint64_ok (ext := ext) d2 (by omega)
  rw [v1, if_pos hm] at u1
  rw [v2, if_pos hn] at u2
  refine PCall.walk (env := env) (g := 20) rfl rfl ?_
  (repeat' first | refine st ?_ | refine s2 (fun _ => ?_) (fun _ => ?_) | refine s4 fun _ _ _ _ => ?_ | fail)
  refine r_call2 u1 rfl rfl ?_
  (repeat' first | refine st ?_ | refine s2 (fun _ => ?_) (fun _ => ?_) | refine s4 fun _ _ _ _ => ?_ | fail)
  refine r_call2 u2 rfl rfl ?_
  (repeat' first | refine st ?_ | refine s2 (fun _ => ?_) (fun _ => ?_) | refine s4 fun _ _ _ _ => ?_ | fail)
  refine w_loopS (fun k sl o => ∃ x, x < 18446744073709551616 ∧ k < 18446744073709551616 ∧ Nat.gcd x k = Nat.gcd m n ∧ sl 5 = vn .u64 x ∧ sl 7 = vn .u64 k) n ⟨m, hm, hn, rfl, rfl, rfl⟩ ?_
  rintro k sl o ⟨x, hx, hk, hg, s5, s7⟩
  rw [upd2 s5 s7]
  clear s5 s7 u1 u2
  (repeat' first | refine st ?_ | refine s2 (fun _ => ?_) (fun _ => ?_) | refine s4 fun _ _ _ _ => ?_ | fail)
  · rename_i h4
    have hk0 : 0 < k := by omega
    have hlt := Nat.mod_lt x hk0
    refine ⟨x % k, hlt, ⟨k, hk, by omega, ?_, rfl, rfl⟩, rfl⟩
    rw [← hg, Nat.gcd_comm k, ← Nat.gcd_rec, Nat.gcd_comm]
  · rename_i h4
    have hk0 : k = 0 := by omega
    subst hk0
    refine r_call1 (fromUint64_ok hx) rfl rfl ?_
    (repeat' first | refine st ?_ | refine s2 (fun _ => ?_) (fun _ => ?_) | refine s4 fun _ _ _ _ => ?_ | fail)
    refine ends1 rfl rfl ?_
    rw [← hg, Nat.gcd_zero_right]

theorem gcd_ok {a b : List Nat} (ha : Dg a) (hb : Dg b) (la : Sh a) (lb : Sh b) (h1 : val a < 18446744073709551616) (h2 : val b < 18446744073709551616) : PCall env ext 28 [pN a, pN b] (.s (pN (ofN (Nat.gcd (val a) (val b))))) := by
  have l1 : (ofN (val a)).length ≤ 2 := ofN_len_le (by simpa using h1)
  have l2 : (ofN (val b)).length ≤ 2 := ofN_len_le (by simpa using h2)
  refine PCall.walk (env := env) (g := 28) rfl rfl ?_
  (repeat' first | refine st ?_ | refine s2 (fun _ => ?_) (fun _ => ?_) | refine s4 fun _ _ _ _ => ?_ | fail)
  refine r_call1 (clone_ok ha la) rfl rfl ?_
  (repeat' first | refine st ?_ | refine s2 (fun _ => ?_) (fun _ => ?_) | refine s4 fun _ _ _ _ => ?_ | fail)
  refine r_call1 (clone_ok hb lb) rfl rfl ?_
  (repeat' first | refine st ?_ | refine s2 (fun _ => ?_) (fun _ => ?_) | refine s4 fun _ _ _ _ => ?_ | fail)
  refine w_unroll ?_
  by_cases h0 : val b = 0
  · rw [h0, ofN_zero, Nat.gcd_zero_right]
    (repeat' first | refine st ?_ | refine s2 (fun _ => ?_) (fun _ => ?_) | refine s4 fun _ _ _ _ => ?_ | fail)
    exact ends1 rfl rfl rfl
  · have h3 : 0 < (ofN (val b)).length := by
      apply Nat.pos_of_ne_zero
      intro h; exact h0 (ofN_eq_nil.1 (List.eq_nil_of_length_eq_zero h))
    (repeat' first | refine st ?_ | refine s2 (fun _ => ?_) (fun _ => ?_) | refine s4 fun _ _ _ _ => ?_ | fail)
    refine r_call1 (gcdSmall_ok h1 h2) rfl rfl ?_
    (repeat' first | refine st ?_ | refine s2 (fun _ => ?_) (fun _ => ?_) | refine s4 fun _ _ _ _ => ?_ | fail)
    exact ends1 rfl rfl rfl
end Go.Av
