/- A part of the proof (own method: an abstract machine). No condition. -/
import Derived.Test.YthdilnjdkniofaaGreatAvRul
import Derived.Test.YthdilnjdkniofaaGreatAvDig
import Derived.Test.YthdilnjdkniofaaGreatCdCode
namespace Go.Av
open Go
variable {ext : Calls0}

/-- How long a slice of digits may be here. -/
abbrev Sh (l : List Nat) : Prop := l.length < 1099511627776
abbrev pN (l : List Nat) : PSV := .c (.sl (encK .u32 l))

theorem trim_ok {l : List Nat} (hd : Dg l) (hl : Sh l) : PCall env ext 7 [pN l] (.s (pN (ofN (val l)))) := by
  refine PCall.walk (env := env) (g := 7) rfl rfl ?_
  (repeat' first | refine st ?_ | refine s2 (fun _ => ?_) (fun _ => ?_) | refine s4 fun _ _ _ _ => ?_ | fail)
  refine w_loopS (fun k sl o => k ≤ l.length ∧ (∀ i, k ≤ i → i < l.length → l.getD i 0 = 0) ∧ sl 0 = vk .u32 l ∧ sl 3 = vn .i64 k) l.length ⟨Nat.le_refl _, fun i h1 h2 => by omega, rfl, rfl⟩ ?_
  rintro k sl o ⟨hk, hz, h0, h3⟩
  rw [upd1 h0, upd1 (sl := upd sl 0 _) (a := 3) h3]
  (repeat' first | refine st ?_ | refine s2 (fun _ => ?_) (fun _ => ?_) | refine s4 fun _ _ _ _ => ?_ | fail)
  · rename_i h1 h2
    refine ⟨k - 1, by omega, ⟨by omega, fun i h3 h4 => ?_, rfl, rfl⟩, rfl⟩
    by_cases hi : i = k - 1
    · subst hi; omega
    · exact hz i (by omega) h4
  · rename_i h1 h2
    refine ends1 rfl rfl ?_
    rw [take_ofN hd hk hz (.inr (by omega))]
  · rename_i h1
    refine ends1 rfl rfl ?_
    rw [take_ofN hd hk hz (.inl (by omega))]

/-- The same for an object that the caller has made. -/
theorem trimR_ok {l : List Nat} {o : Objs} {id ver base : Nat} (hd : Dg l) (hl : l.length < 1125899906842624) (hm : o.is id ver .u32 l) :
    ∃ o' r, Call env ext 7 base o [.c (.rs id ver 1 0 l.length)] o' r ∧ o' = o ∧ ∃ n, n ≤ l.length ∧ r = .s (.c (.rs id ver 1 0 n)) ∧ l.take n = ofN (val l) := by
  refine Call.walk (env := env) (g := 7) rfl rfl ?_
  (repeat' first | refine st ?_ | refine s2 (fun _ => ?_) (fun _ => ?_) | refine s4 fun _ _ _ _ => ?_ | fail)
  refine w_loopS (fun k sl o' => k ≤ l.length ∧ (∀ i, k ≤ i → i < l.length → l.getD i 0 = 0) ∧ sl 0 = .s (.c (.rs id ver 1 0 l.length)) ∧ sl 3 = vn .i64 k ∧ o' = o) l.length ⟨Nat.le_refl _, fun i h1 h2 => by omega, rfl, rfl, rfl⟩ ?_
  rintro k sl o' ⟨hk, hz, h0, h3, rfl⟩
  rw [upd1 h0, upd1 (sl := upd sl 0 _) (a := 3) h3]
  (repeat' first | refine st ?_ | refine s2 (fun _ => ?_) (fun _ => ?_) | refine s4 fun _ _ _ _ => ?_ | fail)
  · rename_i h1 h2
    refine ⟨k - 1, by omega, ⟨by omega, fun i h3 h4 => ?_, rfl, rfl, rfl⟩, rfl⟩
    by_cases hi : i = k - 1
    · subst hi; simpa using h2
    · exact hz i (by omega) h4
  · rename_i h1 h2
    exact endsR1 rfl ⟨rfl, k, hk, rfl, take_ofN hd hk hz (.inr (by intro h; apply h2; simpa using h))⟩
  · rename_i h1
    exact endsR1 rfl ⟨rfl, k, hk, rfl, take_ofN hd hk hz (.inl (by omega))⟩

theorem clone_ok {l : List Nat} (hd : Dg l) (hl : Sh l) : PCall env ext 16 [pN l] (.s (pN (ofN (val l)))) := by
  have h2 := ofN_len_le_of hd
  refine PCall.walk (env := env) (g := 16) rfl rfl ?_
  (repeat' first | refine st ?_ | refine s2 (fun _ => ?_) (fun _ => ?_) | refine s4 fun _ _ _ _ => ?_ | fail)
  refine r_call1 (trim_ok hd hl) rfl rfl ?_
  (repeat' first | refine st ?_ | refine s2 (fun _ => ?_) (fun _ => ?_) | refine s4 fun _ _ _ _ => ?_ | fail)
  · rename_i h1
    refine ends1 rfl rfl ?_
    rw [List.eq_nil_of_length_eq_zero (l := ofN (val l)) (by omega)]; rfl
  · rename_i hm _ _
    refine ends1 rfl (purK hm (Nat.le_refl _)) ?_
    rw [List.take_length]
theorem normalize_ok {l : List Nat} (hd : Dg l) (hl : Sh l) : PCall env ext 17 [pN l] (.s (pN (ofN (val l)))) := by
  refine PCall.walk (env := env) (g := 17) rfl rfl ?_
  (repeat' first | refine st ?_ | refine s2 (fun _ => ?_) (fun _ => ?_) | refine s4 fun _ _ _ _ => ?_ | fail)
  refine r_call1 (clone_ok hd hl) rfl rfl ?_
  (repeat' first | refine st ?_ | refine s2 (fun _ => ?_) (fun _ => ?_) | refine s4 fun _ _ _ _ => ?_ | fail)
  exact ends1 rfl rfl rfl
theorem natNorm_ok {l : List Nat} (hd : Dg l) (hl : Sh l) : PCall env ext 58 [pN l] (.s (pN (ofN (val l)))) := by
  have h2 := ofN_len_le_of hd
  refine PCall.walk (env := env) (g := 58) rfl rfl ?_
  (repeat' first | refine st ?_ | refine s2 (fun _ => ?_) (fun _ => ?_) | refine s4 fun _ _ _ _ => ?_ | fail)
  refine w_loopS (fun k sl o => k ≤ l.length ∧ (∀ i, k ≤ i → i < l.length → l.getD i 0 = 0) ∧ sl 0 = vk .u32 l ∧ sl 3 = vn .i64 k ∧ o = Objs.empty) l.length ⟨Nat.le_refl _, fun i h1 h2 => by omega, rfl, rfl, rfl⟩ ?_
  rintro k sl o ⟨hk, hz, h0, h3, rfl⟩
  rw [upd1 h0, upd1 (sl := upd sl 0 _) (a := 3) h3]
  (repeat' first | refine st ?_ | refine s2 (fun _ => ?_) (fun _ => ?_) | refine s4 fun _ _ _ _ => ?_ | fail)
  · rename_i h1 h2
    refine ⟨k - 1, by omega, ⟨by omega, fun i h3 h4 => ?_, rfl, rfl, rfl⟩, rfl⟩
    by_cases hi : i = k - 1
    · subst hi; omega
    · exact hz i (by omega) h4
  · rename_i h1 h2 o1 h3 h4 h5 o2 hm h7 h8
    refine ends1 rfl (purK hm (by simp)) ?_
    simp only [List.length_nil, List.drop_zero, List.nil_append, Nat.zero_add, List.take_length]
    rw [take_ofN hd hk hz (.inr (by omega))]
  · rename_i h1 o1 h3 h4 h5 o2 hm h7 h8
    refine ends1 rfl (purK hm (by simp)) ?_
    simp only [List.length_nil, List.drop_zero, List.nil_append, Nat.zero_add, List.take_length]
    rw [take_ofN hd hk hz (.inl (by omega))]
theorem fromUint64_ok {n : Nat} (h : n < 18446744073709551616) : PCall env ext 19 [.c (.int .u64 (n : Int))] (.s (pN (ofN n))) := by
  refine PCall.walk (env := env) (g := 19) rfl rfl ?_
  (repeat' first | refine st ?_ | refine s2 (fun _ => ?_) (fun _ => ?_) | refine s4 fun _ _ _ _ => ?_ | fail)
  · rename_i h1
    refine ends1 rfl rfl ?_
    rw [show n = 0 by omega]; rfl
  · rename_i h1 h2
    refine ends1 rfl rfl ?_
    rw [ofN_pos (by omega), show n / 4294967296 = 0 by omega]; rfl
  · rename_i h1 h2
    refine ends1 rfl rfl ?_
    rw [ofN_pos (by omega), ofN_pos (n := n / 4294967296) (by omega), show n / 4294967296 / 4294967296 = 0 by omega]; rfl
theorem natOf_ok {n : Nat} (h : n < 18446744073709551616) : PCall env ext 59 [.c (.int .u64 (n : Int))] (.s (pN (ofN n))) := by
  have hd : Dg [n % 4294967296, n / 4294967296 % 4294967296] := Dg.cons (by omega) (Dg.cons (by omega) Dg.nil)
  have hv : val [n % 4294967296, n / 4294967296 % 4294967296] = n := by simp only [val]; omega
  refine PCall.walk (env := env) (g := 59) rfl rfl ?_
  (repeat' first | refine st ?_ | refine s2 (fun _ => ?_) (fun _ => ?_) | refine s4 fun _ _ _ _ => ?_ | fail)
  refine r_call1 (natNorm_ok hd (by simp)) rfl rfl ?_
  (repeat' first | refine st ?_ | refine s2 (fun _ => ?_) (fun _ => ?_) | refine s4 fun _ _ _ _ => ?_ | fail)
  refine ends1 rfl rfl ?_
  rw [hv]
/-- What a comparison gives. -/
def cmpI (x y : Nat) : Int := if x < y then -1 else if y < x then 1 else 0
theorem cmp_ok {a b : List Nat} (ha : Dg a) (hb : Dg b) (la : Sh a) (lb : Sh b) : PCall env ext 13 [pN a, pN b] (.s (.c (.int .i64 (cmpI (val a) (val b))))) := by
  have h2 := ofN_len_le_of ha
  have h3 := ofN_len_le_of hb
  have v1 := val_ofN (val a)
  have v2 := val_ofN (val b)
  have d1 := Dg.ofN (val a)
  have d2 := Dg.ofN (val b)
  refine PCall.walk (env := env) (g := 13) rfl rfl ?_
  (repeat' first | refine st ?_ | refine s2 (fun _ => ?_) (fun _ => ?_) | refine s4 fun _ _ _ _ => ?_ | fail)
  refine r_call1 (trim_ok ha la) rfl rfl ?_
  (repeat' first | refine st ?_ | refine s2 (fun _ => ?_) (fun _ => ?_) | refine s4 fun _ _ _ _ => ?_ | fail)
  refine r_call1 (trim_ok hb lb) rfl rfl ?_
  (repeat' first | refine st ?_ | refine s2 (fun _ => ?_) (fun _ => ?_) | refine s4 fun _ _ _ _ => ?_ | fail)
  · rename_i h4
    refine ends1 rfl rfl ?_
    have h5 : val a < val b := by
      apply Nat.lt_of_not_le
      intro h; have := ofN_len_mono h; omega
    simp only [cmpI, if_pos h5]
  · rename_i h4 h5
    refine ends1 rfl rfl ?_
    have h6 : val b < val a := by
      apply Nat.lt_of_not_le
      intro h; have := ofN_len_mono h; omega
    simp only [cmpI, if_pos h6, if_neg (show ¬ val a < val b by omega)]
  · rename_i h4 h5
    have hl : (ofN (val a)).length = (ofN (val b)).length := by omega
    generalize ofN (val a) = A at *
    generalize ofN (val b) = B at *
    refine w_loopS (fun k sl o => k ≤ A.length ∧ (∀ i, k ≤ i → A.getD i 0 = B.getD i 0) ∧ sl 0 = vk .u32 A ∧ sl 1 = vk .u32 B ∧ sl 5 = .s (.c (.p (.int .i64 ((k : Int) - 1))))) A.length
      ⟨Nat.le_refl _, fun i hi => by rw [getD_lt (by omega), getD_lt (by omega)], rfl, rfl, rfl⟩ ?_
    rintro k sl o ⟨hk, hz, s0, s1, s5⟩
    rw [upd1 s0, upd1 (sl := upd sl 0 _) (a := 1) s1, upd1 (sl := upd (upd sl 0 _) 1 _) (a := 5) s5]
    clear h4 h5
    rcases k with _ | k
    · (repeat' first | refine st ?_ | refine s2 (fun _ => ?_) (fun _ => ?_) | refine s4 fun _ _ _ _ => ?_ | fail)
      refine ends1 rfl rfl ?_
      have : val a = val b := by
        rw [← v1, ← v2, ← vt_len A, ← vt_len B, hl]
        exact vt_congr fun j _ => hz j (by omega)
      simp only [cmpI, if_neg (show ¬ val a < val b by omega), if_neg (show ¬ val b < val a by omega)]
    · rw [show (((k + 1 : Nat) : Int) - 1) = (k : Int) by omega]
      have t1 := val_top (k := k + 1) hz
      have t2 : A.getD k 0 < B.getD k 0 → val a < val b := fun h => by have := vt_less d1 h; omega
      have t3 : B.getD k 0 < A.getD k 0 → val b < val a := fun h => by have := vt_less d2 h; omega
      (repeat' first | refine st ?_ | refine s2 (fun _ => ?_) (fun _ => ?_) | refine s4 fun _ _ _ _ => ?_ | fail)
      · rename_i h4 h5
        refine ends1 rfl rfl ?_
        simp only [cmpI, if_pos (t2 (by omega))]
      · rename_i h4 h5
        have := t3 (by omega)
        refine ends1 rfl rfl ?_
        simp only [cmpI, if_pos this, if_neg (show ¬ val a < val b by omega)]
      · rename_i h4
        refine ⟨k, by omega, ⟨by omega, fun i hi => ?_, rfl, rfl, rfl⟩, rfl⟩
        by_cases hk : i = k
        · subst hk; omega
        · exact hz i (by omega)
end Go.Av
namespace Go.Av
open Go
variable {ext : Calls0}

theorem sub_step {a b bo : Nat} (ha : a < 4294967296) (hb : b < 4294967296) (hbo : bo ≤ 1) :
    a + 4294967296 * ((((a + 18446744073709551616 - bo) % 18446744073709551616 + 18446744073709551616 - b) % 18446744073709551616) / 9223372036854775808) =
      b + bo + (((a + 18446744073709551616 - bo) % 18446744073709551616 + 18446744073709551616 - b) % 18446744073709551616) % 4294967296 := by omega
theorem sub_step0 {a bo : Nat} (ha : a < 4294967296) (hbo : bo ≤ 1) :
    a + 4294967296 * (((a + 18446744073709551616 - bo) % 18446744073709551616) / 9223372036854775808) = bo + ((a + 18446744073709551616 - bo) % 18446744073709551616) % 4294967296 := by omega
theorem sub_ok {a b : List Nat} (ha : Dg a) (hb : Dg b) (la : Sh a) (lb : Sh b) (hle : val b ≤ val a) : PCall env ext 30 [pN a, pN b] (.tup [pN (ofN (val a - val b)), .c (.bool true)]) := by
  have h2 := ofN_len_le_of ha
  have h3 := ofN_len_le_of hb
  have v1 := val_ofN (val a)
  have v2 := val_ofN (val b)
  have d1 := Dg.ofN (val a)
  have d2 := Dg.ofN (val b)
  have hl := ofN_len_mono hle
  have hc : cmpI (val (ofN (val a))) (val (ofN (val b))) ≥ 0 := by rw [v1, v2]; unfold cmpI; omega
  refine PCall.walk (env := env) (g := 30) rfl rfl ?_
  (repeat' first | refine st ?_ | refine s2 (fun _ => ?_) (fun _ => ?_) | refine s4 fun _ _ _ _ => ?_ | fail)
  refine r_call1 (trim_ok ha la) rfl rfl ?_
  (repeat' first | refine st ?_ | refine s2 (fun _ => ?_) (fun _ => ?_) | refine s4 fun _ _ _ _ => ?_ | fail)
  refine r_call1 (trim_ok hb lb) rfl rfl ?_
  (repeat' first | refine st ?_ | refine s2 (fun _ => ?_) (fun _ => ?_) | refine s4 fun _ _ _ _ => ?_ | fail)
  refine r_call1 (cmp_ok d1 d2 (by omega) (by omega)) rfl rfl ?_
  (repeat' first | refine st ?_ | refine s2 (fun _ => ?_) (fun _ => ?_) | refine s4 fun _ _ _ _ => ?_ | fail)
  rename_i o1 hm _ _
  clear hc
  generalize ofN (val a) = A at *
  generalize ofN (val b) = B at *
  refine w_loopUp (fun i sl o => i ≤ A.length ∧ ∃ xs bo, xs.length = A.length ∧ Dg xs ∧ bo ≤ 1 ∧ vt A i + 4294967296 ^ i * bo = vt B i + vt xs i ∧ o.is 0 0 .u32 xs ∧
    sl 0 = vk .u32 A ∧ sl 1 = vk .u32 B ∧ sl 6 = .s (.c (.rs 0 0 1 0 A.length)) ∧ sl 7 = vn .u64 bo ∧ sl 22 = vn .i64 A.length ∧ sl 23 = vn .i64 i) 0 A.length
    ⟨by omega, _, 0, List.length_replicate, Dg.replicate _, by omega, by simp [vt_zero], hm, rfl, rfl, rfl, rfl, rfl, rfl⟩ (fun i sl o h => h.1) ?_
  rintro i sl o ⟨hi, xs, bo, hx, hd, hbo, he, hm, s0, s1, s6, s7, s22, s23⟩
  rw [upd6 s0 s1 s6 s7 s22 s23]
  have a1 := d1 i
  have a2 := d2 i
  (repeat' first | refine st ?_ | refine s2 (fun _ => ?_) (fun _ => ?_) | refine s4 fun _ _ _ _ => ?_ | fail)
  · rename_i h4 h5 o' hm' _ _
    refine ⟨⟨by omega, _, _, ?_, hd.set (by omega), ?_, ?_, hm', rfl, rfl, rfl, rfl, rfl, rfl⟩, rfl⟩
    · rw [List.length_set, hx]
    · omega
    · have key := sub_step a1 a2 hbo
      rw [vt_succ A, vt_succ B, vt_set_succ (by omega)]
      generalize (((A.getD i 0 + 18446744073709551616 - bo) % 18446744073709551616 + 18446744073709551616 - B.getD i 0) % 18446744073709551616) = D at *
      generalize D / 9223372036854775808 = q at *
      generalize D % 4294967296 = r at *
      grind
  · rename_i h4 h5 o' hm' _ _
    refine ⟨⟨by omega, _, _, ?_, hd.set (by omega), ?_, ?_, hm', rfl, rfl, rfl, rfl, rfl, rfl⟩, rfl⟩
    · rw [List.length_set, hx]
    · omega
    · have key := sub_step0 a1 hbo
      have hz : B.getD i 0 = 0 := getD_lt (by omega)
      rw [vt_succ A, vt_succ B, vt_set_succ (by omega), hz]
      generalize (A.getD i 0 + 18446744073709551616 - bo) % 18446744073709551616 = D at *
      generalize D / 9223372036854775808 = q at *
      generalize D % 4294967296 = r at *
      grind
  · rename_i h4
    have hiA : i = A.length := by omega
    subst hiA
    rw [vt_len, vt_ge (l := B) hl, v1, v2] at he
    have hlt := vt_lt hd A.length
    have hbo0 : bo = 0 := by
      rcases Nat.eq_zero_or_pos bo with h | h
      · exact h
      · have : bo = 1 := by omega
        subst this
        omega
    subst hbo0
    have hv : val xs = val a - val b := by rw [← vt_len xs, hx]; omega
    rw [← hx]
    refine r_callR (trimR_ok hd (by omega) hm) rfl ?_
    rintro o' r ⟨rfl, n, hn, rfl, ht⟩
    (repeat' first | refine st ?_ | refine s2 (fun _ => ?_) (fun _ => ?_) | refine s4 fun _ _ _ _ => ?_ | fail)
    refine ends2 rfl rfl (purK hm hn) rfl ?_
    rw [ht, hv]
end Go.Av
namespace Go.Av
open Go
variable {ext : Calls0}

theorem mul_step {x y c t : Nat} (hx : x < 4294967296) (hy : y < 4294967296) (hc : c < 4294967296) (ht : t < 4294967296) : x * y + t + c < 18446744073709551616 ∧ (c + (x * y + t)) / 4294967296 < 4294967296 ∧ x * y < 18446744073709551616 := by
  have : x * y ≤ 4294967295 * 4294967295 := Nat.mul_le_mul (by omega) (by omega)
  omega

set_option maxHeartbeats 800000 in
theorem mul_ok {a b : List Nat} (ha : Dg a) (hb : Dg b) (la : Sh a) (lb : Sh b) : PCall env ext 14 [pN a, pN b] (.s (pN (ofN (val a * val b)))) := by
  have h2 := ofN_len_le_of ha
  have h3 := ofN_len_le_of hb
  have v1 := val_ofN (val a)
  have v2 := val_ofN (val b)
  have d1 := Dg.ofN (val a)
  have d2 := Dg.ofN (val b)
  refine PCall.walk (env := env) (g := 14) rfl rfl ?_
  (repeat' first | refine st ?_ | refine s2 (fun _ => ?_) (fun _ => ?_) | refine s4 fun _ _ _ _ => ?_ | fail)
  refine r_call1 (trim_ok ha la) rfl rfl ?_
  (repeat' first | refine st ?_ | refine s2 (fun _ => ?_) (fun _ => ?_) | refine s4 fun _ _ _ _ => ?_ | fail)
  refine r_call1 (trim_ok hb lb) rfl rfl ?_
  generalize ofN (val a) = A at *
  generalize ofN (val b) = B at *
  rw [← v1, ← v2]
  clear v1 v2
  (repeat' first | refine st ?_ | refine s2 (fun _ => ?_) (fun _ => ?_) | refine s4 fun _ _ _ _ => ?_ | fail)
  · rename_i h4
    refine ends1 rfl rfl ?_
    rw [List.eq_nil_of_length_eq_zero (l := A) (by omega)]; simp [val]; rfl
  · rename_i h4 h5
    refine ends1 rfl rfl ?_
    rw [List.eq_nil_of_length_eq_zero (l := B) (by omega)]; simp [val]; rfl
  · rename_i h4 h5 o1 hm _ _
    refine w_loopUp (fun i sl o => i ≤ A.length ∧ ∃ xs, xs.length = A.length + B.length ∧ Dg xs ∧ Hd (vt xs (i + B.length) = vt A i * val B) ∧ o.is 0 0 .u32 xs ∧
      sl 29 = vk .u32 A ∧ sl 1 = vk .u32 B ∧ sl 5 = .s (.c (.rs 0 0 1 0 (A.length + B.length))) ∧ sl 30 = vn .i64 A.length ∧ sl 31 = vn .i64 i) 0 A.length
      ⟨by omega, _, List.length_replicate, Dg.replicate _, ?_, hm, rfl, rfl, rfl, rfl, rfl⟩ (fun i sl o h => h.1) ?_
    · constructor; rw [vt_zero, Nat.zero_mul, vt_zeros (k := 0) (fun i _ _ => ?_) (by omega), vt_zero]
      simp only [List.getD, List.getElem?_replicate]; split <;> simp
    rintro i sl o ⟨hi, xs, hx, hd, he, hm, s29, s1, s5, s30, s31⟩
    rw [upd5 s29 s1 s5 s30 s31]
    clear s29 s1 s5 s30 s31 h4 h5
    have a1 := d1 i
    (repeat' first | refine st ?_ | refine s2 (fun _ => ?_) (fun _ => ?_) | refine s4 fun _ _ _ _ => ?_ | fail)
    · rename_i h4
      refine w_loopUp (fun k sl o => k ≤ B.length ∧ ∃ ys c, ys.length = A.length + B.length ∧ Dg ys ∧ c < 4294967296 ∧
        Hd (vt ys (i + B.length) + 4294967296 ^ (i + k) * c = vt A i * val B + 4294967296 ^ i * A.getD i 0 * vt B k) ∧ o.is 0 0 .u32 ys ∧
        sl 36 = vk .u32 B ∧ sl 5 = .s (.c (.rs 0 0 1 0 (A.length + B.length))) ∧ sl 37 = vn .i64 B.length ∧ sl 38 = vn .i64 k ∧ sl 6 = vn .i64 i ∧ sl 7 = vn .u32 (A.getD i 0) ∧ sl 8 = vn .u64 c ∧
        sl 29 = vk .u32 A ∧ sl 30 = vn .i64 A.length ∧ sl 31 = vn .i64 i ∧ sl 1 = vk .u32 B) 0 B.length
        ⟨by omega, xs, 0, hx, hd, by omega, ⟨by rw [vt_zero]; simpa using he.h⟩, hm, rfl, rfl, rfl, rfl, rfl, rfl, rfl, rfl, rfl, rfl, rfl⟩ (fun i sl o h => h.1) ?_
      rintro k sl o ⟨hk, ys, c, hy, hd, hc, he, hm, s36, s5, s37, s38, s6, s7, s8, s29, s30, s31, s1⟩
      rw [upd7 s36 s5 s37 s38 s6 s7 s8]
      rw [upd4 s29 s30 s31 s1]
      clear s36 s5 s37 s38 s6 s7 s8 s29 s30 s31 s1
      have a2 := d2 k
      have a3 := hd (i + k)
      have a4 := (mul_step a1 a2 hc a3).1
      (repeat' first | refine st ?_ | refine s2 (fun _ => ?_) (fun _ => ?_) | refine s4 fun _ _ _ _ => ?_ | fail)
      · rename_i h4 o' hm' _ _
        refine ⟨⟨by omega, _, _, ?_, hd.set (by omega), (mul_step a1 a2 hc a3).2.1, ⟨?_⟩, hm', rfl, rfl, rfl, rfl, rfl, rfl, rfl, rfl, rfl, rfl, rfl⟩, rfl⟩
        · rw [List.length_set, hy]
        · have he := he.h
          have e0 := vt_set_in (l := ys) (k := i + k) (v := (c + (A.getD i 0 * B.getD k 0 + ys.getD (i + k) 0)) % 4294967296) (n := i + B.length) (by omega) (by omega)
          have e1 : 4294967296 ^ (i + k) = 4294967296 ^ i * 4294967296 ^ k := Nat.pow_add _ _ _
          have e2 : 4294967296 ^ (i + (k + 1)) = 4294967296 ^ i * 4294967296 ^ k * 4294967296 := by rw [← Nat.add_assoc, Nat.pow_succ, e1]
          have e3 := Nat.mod_add_div (c + (A.getD i 0 * B.getD k 0 + ys.getD (i + k) 0)) 4294967296
          rw [vt_succ B, e2]
          rw [e1] at he e0
          generalize (c + (A.getD i 0 * B.getD k 0 + ys.getD (i + k) 0)) % 4294967296 = r at *
          generalize (c + (A.getD i 0 * B.getD k 0 + ys.getD (i + k) 0)) / 4294967296 = q at *
          generalize vt (ys.set (i + k) r) (i + B.length) = V at *
          generalize 4294967296 ^ i = P at *
          generalize 4294967296 ^ k = R at *
          clear a4
          grind
      · rename_i h4 o' hm' _ _
        have : k = B.length := by omega
        subst this
        refine ⟨⟨by omega, _, ?_, hd.set (by omega), ⟨?_⟩, hm', rfl, rfl, rfl, rfl, rfl⟩, rfl⟩
        · rw [List.length_set, hy]
        · have he := he.h
          rw [show i + 1 + B.length = (i + B.length) + 1 by omega, vt_set_succ (by omega), vt_succ A, Nat.mod_eq_of_lt hc, he, vt_len]
          grind
    · rename_i h4
      have : i = A.length := by omega
      subst this
      have he := he.h
      rw [← hx, vt_len, vt_len] at he
      rw [← hx]
      refine r_callR (trimR_ok hd (by omega) hm) rfl ?_
      rintro o' r ⟨rfl, n, hn, rfl, ht⟩
      (repeat' first | refine st ?_ | refine s2 (fun _ => ?_) (fun _ => ?_) | refine s4 fun _ _ _ _ => ?_ | fail)
      refine ends1 rfl (purK hm hn) ?_
      rw [ht, he]
end Go.Av
namespace Go.Av
open Go
variable {ext : Calls0}

theorem add_ok {a b : List Nat} (ha : Dg a) (hb : Dg b) (la : Sh a) (lb : Sh b) : PCall env ext 15 [pN a, pN b] (.s (pN (ofN (val a + val b)))) := by
  have h2 := ofN_len_le_of ha
  have h3 := ofN_len_le_of hb
  have v1 := val_ofN (val a)
  have v2 := val_ofN (val b)
  have d1 := Dg.ofN (val a)
  have d2 := Dg.ofN (val b)
  refine PCall.walk (env := env) (g := 15) rfl rfl ?_
  (repeat' first | refine st ?_ | refine s2 (fun _ => ?_) (fun _ => ?_) | refine s4 fun _ _ _ _ => ?_ | fail)
  refine r_call1 (trim_ok ha la) rfl rfl ?_
  (repeat' first | refine st ?_ | refine s2 (fun _ => ?_) (fun _ => ?_) | refine s4 fun _ _ _ _ => ?_ | fail)
  refine r_call1 (trim_ok hb lb) rfl rfl ?_
  generalize ofN (val a) = A at *
  generalize ofN (val b) = B at *
  rw [← v1, ← v2]
  clear v1 v2
  have key : ∀ {A B : List Nat}, Dg A → Dg B → B.length ≤ A.length → A.length < 1099511627776 → ∀ (sl : Nat → AV) (o : Objs) (Q : Ex → St → Prop), o.is 0 0 .u32 (List.replicate (A.length + 1) 0) → sl 0 = vk .u32 A → sl 1 = vk .u32 B →
      sl 5 = .s (.c (.rs 0 0 1 0 (A.length + 1))) → sl 6 = vn .u64 0 → sl 24 = vn .i64 A.length → sl 25 = vn .i64 0 →
      Q = Ends [.tmp 4] (.s (pN (ofN (val A + val B)))) → WC (Call env ext) (.loop fn15n27) [.blk 0, .seq fn15n34] Q ⟨sl, o, 0⟩ := by
    intro A B d1 d2 hl h2 sl o1 Q hm s0 s1 s5 s6 s24 s25 hQ
    refine w_loopUp (fun i sl o => i ≤ A.length ∧ ∃ xs c, xs.length = A.length + 1 ∧ Dg xs ∧ c ≤ 1 ∧ Hd (vt xs i + 4294967296 ^ i * c = vt A i + vt B i) ∧ o.is 0 0 .u32 xs ∧
      sl 0 = vk .u32 A ∧ sl 1 = vk .u32 B ∧ sl 5 = .s (.c (.rs 0 0 1 0 (A.length + 1))) ∧ sl 6 = vn .u64 c ∧ sl 24 = vn .i64 A.length ∧ sl 25 = vn .i64 i) 0 A.length
      ⟨by omega, _, 0, List.length_replicate, Dg.replicate _, by omega, ⟨by simp [vt_zero]⟩, hm, s0, s1, s5, s6, s24, s25⟩ (fun i sl o h => h.1) ?_
    clear s0 s1 s5 s6 s24 s25 hm
    rintro i sl o ⟨hi, xs, c, hx, hd, hc, he, hm, s0, s1, s5, s6, s24, s25⟩
    rw [upd6 s0 s1 s5 s6 s24 s25]
    clear s0 s1 s5 s6 s24 s25
    have a1 := d1 i
    have a2 := d2 i
    (repeat' first | refine st ?_ | refine s2 (fun _ => ?_) (fun _ => ?_) | refine s4 fun _ _ _ _ => ?_ | fail)
    · rename_i h4 h5 o' hm' _ _
      refine ⟨⟨by omega, _, _, ?_, hd.set (by omega), ?_, ⟨?_⟩, hm', rfl, rfl, rfl, rfl, rfl, rfl⟩, rfl⟩
      · rw [List.length_set, hx]
      · omega
      · have he := he.h
        have e3 := Nat.mod_add_div (c + A.getD i 0 + B.getD i 0) 4294967296
        rw [vt_succ A, vt_succ B, vt_set_succ (by omega)]
        grind
    · rename_i h4 h5 o' hm' _ _
      refine ⟨⟨by omega, _, _, ?_, hd.set (by omega), ?_, ⟨?_⟩, hm', rfl, rfl, rfl, rfl, rfl, rfl⟩, rfl⟩
      · rw [List.length_set, hx]
      · omega
      · have he := he.h
        have e3 := Nat.mod_add_div (c + A.getD i 0) 4294967296
        have hz : B.getD i 0 = 0 := getD_lt (by omega)
        rw [vt_succ A, vt_succ B, vt_set_succ (by omega), hz]
        grind
    · rename_i h4 o' hm' _ _
      have : i = A.length := by omega
      subst this
      have he := he.h
      have hv : val (xs.set A.length (c % 4294967296)) = val A + val B := by
        rw [← vt_len (xs.set _ _), List.length_set, hx, vt_set_succ (by omega), Nat.mod_eq_of_lt (by omega), he, vt_len, vt_ge hl]
      have hlen : (xs.set A.length (c % 4294967296)).length = A.length + 1 := by rw [List.length_set, hx]
      rw [← hlen]
      refine r_callR (trimR_ok (hd.set (by omega)) (by omega) hm') rfl ?_
      rintro o'' r ⟨rfl, n, hn, rfl, ht⟩
      (repeat' first | refine st ?_ | refine s2 (fun _ => ?_) (fun _ => ?_) | refine s4 fun _ _ _ _ => ?_ | fail)
      rw [hQ]
      refine ends1 rfl (purK hm' hn) ?_
      rw [ht, hv]
  (repeat' first | refine st ?_ | refine s2 (fun _ => ?_) (fun _ => ?_) | refine s4 fun _ _ _ _ => ?_ | fail)
  · rename_i h4 o1 hm _ _
    exact key d2 d1 (by omega) (by omega) _ _ _ hm rfl rfl rfl rfl rfl rfl (by rw [Nat.add_comm])
  · rename_i h4 o1 hm _ _
    exact key d1 d2 (by omega) (by omega) _ _ _ hm rfl rfl rfl rfl rfl rfl rfl

theorem divSmall_ok {a : List Nat} {d : Nat} (ha : Dg a) (la : Sh a) (hd0 : 0 < d) (hd : d < 4294967296) : PCall env ext 21 [pN a, .c (.int .u32 (d : Int))] (.tup [pN (ofN (val a / d)), .c (.int .u32 ((val a % d : Nat) : Int))]) := by
  refine PCall.walk (env := env) (g := 21) rfl rfl ?_
  (repeat' first | refine st ?_ | refine s2 (fun _ => ?_) (fun _ => ?_) | refine s4 fun _ _ _ _ => ?_ | fail)
  rename_i o1 hm _ _
  refine w_loopS (fun k sl o => k ≤ a.length ∧ ∃ xs r, xs.length = a.length ∧ Dg xs ∧ r < d ∧ Hd (val a + vt xs k * d = vt a k + (val xs) * d + 4294967296 ^ k * r) ∧ o.is 0 0 .u32 xs ∧
      sl 0 = vk .u32 a ∧ sl 1 = vn .u32 d ∧ sl 6 = .s (.c (.rs 0 0 1 0 a.length)) ∧ sl 7 = vn .u64 r ∧ sl 8 = .s (.c (.p (.int .i64 ((k : Int) - 1))))) a.length
      ⟨by omega, _, 0, List.length_replicate, Dg.replicate _, by omega, ⟨?_⟩, hm, rfl, rfl, rfl, rfl, rfl⟩ ?_
  · rw [vt_len, ← vt_len (List.replicate _ _), List.length_replicate]; omega
  clear hm
  rintro k sl o ⟨hk, xs, r, hx, hdx, hr, he, hm, s0, s1, s6, s7, s8⟩
  rw [upd5 s0 s1 s6 s7 s8]
  clear s0 s1 s6 s7 s8
  rcases k with _ | k
  · (repeat' first | refine st ?_ | refine s2 (fun _ => ?_) (fun _ => ?_) | refine s4 fun _ _ _ _ => ?_ | fail)
    rw [← hx]
    refine r_callR (trimR_ok hdx (by omega) hm) rfl ?_
    rintro o' r' ⟨rfl, n, hn, rfl, ht⟩
    (repeat' first | refine st ?_ | refine s2 (fun _ => ?_) (fun _ => ?_) | refine s4 fun _ _ _ _ => ?_ | fail)
    have he := he.h
    rw [vt_zero, vt_zero] at he
    have h1 : val a = val xs * d + r := by simpa using he
    have h2 : val a / d = val xs := by rw [h1, Nat.mul_comm, Nat.mul_add_div hd0, Nat.div_eq_of_lt hr]; omega
    have h3 : val a % d = r := by rw [h1, Nat.mul_comm, Nat.mul_add_mod, Nat.mod_eq_of_lt hr]
    refine ends2 rfl rfl (purK hm hn) rfl ?_
    rw [ht, h2, h3, Nat.mod_eq_of_lt (by omega)]
  · rw [show (((k + 1 : Nat) : Int) - 1) = (k : Int) by omega]
    have a1 := ha k
    have hb : (r * 4294967296 % 18446744073709551616) ||| a.getD k 0 = r * 4294967296 + a.getD k 0 := by
      have : r * 4294967296 % 18446744073709551616 = 4294967296 * r := by omega
      rw [this, ← Nat.two_pow_add_eq_or_of_lt (i := 32) a1]; omega
    have hq : (r * 4294967296 + a.getD k 0) / d < 4294967296 := by
      rw [Nat.div_lt_iff_lt_mul hd0]
      have : (r + 1) * 4294967296 ≤ d * 4294967296 := Nat.mul_le_mul_right _ hr
      omega
    have hr' : (r * 4294967296 + a.getD k 0) % d < d := Nat.mod_lt _ hd0
    replace hq : Hd _ := ⟨hq⟩
    replace hr' : Hd _ := ⟨hr'⟩
    (repeat' first | refine st ?_ | refine s2 (fun _ => ?_) (fun _ => ?_) | refine s4 fun _ _ _ _ => ?_ | fail)
    rename_i o' hm' _ _
    replace hq := hq.h
    replace hr' := hr'.h
    rw [hb, Nat.mod_eq_of_lt hq] at hm'
    refine ⟨k, by omega, ⟨by omega, _, _, ?_, hdx.set hq, hr', ⟨?_⟩, hm', rfl, rfl, rfl, ?_, rfl⟩, rfl⟩
    · rw [List.length_set, hx]
    · have he := he.h
      have e0 := vt_set_in (l := xs) (k := k) (v := (r * 4294967296 + a.getD k 0) / d) (n := xs.length) (by omega) (by omega)
      have e1 := Nat.mod_add_div (r * 4294967296 + a.getD k 0) d
      rw [vt_len] at e0
      have e2 : vt (xs.set k ((r * 4294967296 + a.getD k 0) / d)) xs.length = val (xs.set k ((r * 4294967296 + a.getD k 0) / d)) := by rw [← vt_len, List.length_set]
      rw [e2] at e0
      rw [vt_set (by omega) (Nat.le_refl _)]
      rw [vt_succ, vt_succ, Nat.pow_succ] at he
      clear hb hq hr' hm' e2 hd hd0 hr hx hdx hm hk la ha a1
      revert he e0 e1
      generalize (r * 4294967296 + a.getD k 0) / d = q
      generalize (r * 4294967296 + a.getD k 0) % d = r'
      generalize 4294967296 ^ k = P
      generalize val (xs.set k q) = V
      generalize xs.getD k 0 = y
      generalize a.getD k 0 = z
      intro he e0 e1
      grind
    · show vn .u64 _ = _
      rw [hb]
end Go.Av
namespace Go.Av
open Go
variable {ext : Calls0}

/-- The table of the library's bit lengths, as the code holds it. -/
def len8 : ByteArray := match fn8r7 with
  | _ :: _ :: _ :: ⟨_, .sidx (.k (.p (.str t))) _, _⟩ :: _ => t
  | _ => .empty
theorem len8_all : (List.range 256).all (fun n => len8[n]? == some (UInt8.ofNat (bl n))) = true := by decide +kernel
theorem bl_byte {n : Nat} (h : n < 256) : bl n ≤ 8 := by
  by_cases h0 : n = 0
  · subst h0; decide
  · have h5 := bl_le h0
    have : 2 ^ (bl n - 1) < 2 ^ 8 := by omega
    have := (Nat.pow_lt_pow_iff_right (by omega : 1 < 2)).1 this
    omega
theorem len8_get {n : Nat} (h : n < 256) : len8[n]? = some (UInt8.ofNat (bl n)) ∧ (UInt8.ofNat (bl n)).toNat = bl n := by
  refine ⟨?_, ?_⟩
  · have := List.all_eq_true.1 len8_all n (List.mem_range.2 h)
    exact eq_of_beq this
  · have := bl_byte h
    simp; omega
theorem bl_div {n k : Nat} (h : 2 ^ k ≤ n) : bl n = bl (n / 2 ^ k) + k := by
  have h1 : n = n / 2 ^ k * 2 ^ k + n % 2 ^ k := by rw [Nat.mul_comm]; exact (Nat.div_add_mod n (2 ^ k)).symm
  have h2 : n / 2 ^ k ≠ 0 := by
    have := Nat.div_pos h (Nat.pow_pos (by omega))
    omega
  conv => lhs; rw [h1]
  exact bl_mul h2 (Nat.mod_lt _ (Nat.pow_pos (by omega)))
set_option maxRecDepth 20000 in
theorem len32_ok {n : Nat} (h : n < 4294967296) : PCall env ext 8 [.c (.int .u32 (n : Int))] (.s (.c (.int .i64 (bl n : Nat)))) := by
  refine PCall.walk (env := env) (g := 8) rfl rfl ?_
  have p16 : (2 : Nat) ^ min 16 IntKind.u32.bits = 65536 := rfl
  have p8 : (2 : Nat) ^ min 8 IntKind.u32.bits = 256 := rfl
  (repeat' first | refine st ?_ | refine s2 (fun _ => ?_) (fun _ => ?_) | refine s4 fun _ _ _ _ => ?_ | fail)
  · rename_i h1 h2
    rw [p16] at *
    rw [p8] at *
    obtain ⟨t1, t2⟩ := len8_get (n := n / 65536 / 256 % 256) (by omega)
    refine r_sidx (tb := len8) rfl rfl (by first | with_reducible exact cself _ | exact nlit _) t1 ?_
    have := bl_byte (n := n / 65536 / 256 % 256) (by omega)
    rw [t2]
    (repeat' first | refine st ?_ | refine s2 (fun _ => ?_) (fun _ => ?_) | refine s4 fun _ _ _ _ => ?_ | fail)
    refine ends1 rfl rfl ?_
    rw [bl_div (n := n) (k := 16) (by omega), bl_div (n := n / 2 ^ 16) (k := 8) (by omega), Nat.mod_eq_of_lt (show n / 65536 / 256 < 256 by omega)]
    simp only [Nat.reducePow]
    congr 3; omega
  · rename_i h1 h2
    rw [p16] at *
    obtain ⟨t1, t2⟩ := len8_get (n := n / 65536 % 256) (by omega)
    refine r_sidx (tb := len8) rfl rfl (by first | with_reducible exact cself _ | exact nlit _) t1 ?_
    have := bl_byte (n := n / 65536 % 256) (by omega)
    rw [t2]
    (repeat' first | refine st ?_ | refine s2 (fun _ => ?_) (fun _ => ?_) | refine s4 fun _ _ _ _ => ?_ | fail)
    refine ends1 rfl rfl ?_
    rw [bl_div (n := n) (k := 16) (by omega), Nat.mod_eq_of_lt (show n / 65536 < 256 by omega)]
    simp only [Nat.reducePow]
    congr 3; omega
  · rename_i h1 h2
    rw [p8] at *
    obtain ⟨t1, t2⟩ := len8_get (n := n / 256 % 256) (by omega)
    refine r_sidx (tb := len8) rfl rfl (by first | with_reducible exact cself _ | exact nlit _) t1 ?_
    have := bl_byte (n := n / 256 % 256) (by omega)
    rw [t2]
    (repeat' first | refine st ?_ | refine s2 (fun _ => ?_) (fun _ => ?_) | refine s4 fun _ _ _ _ => ?_ | fail)
    refine ends1 rfl rfl ?_
    rw [bl_div (n := n) (k := 8) (by omega), Nat.mod_eq_of_lt (show n / 256 < 256 by omega)]
    simp only [Nat.reducePow]
    congr 3; omega
  · rename_i h1 h2
    obtain ⟨t1, t2⟩ := len8_get (n := n % 256) (by omega)
    refine r_sidx (tb := len8) rfl rfl (by first | with_reducible exact cself _ | exact nlit _) t1 ?_
    have := bl_byte (n := n % 256) (by omega)
    rw [t2]
    (repeat' first | refine st ?_ | refine s2 (fun _ => ?_) (fun _ => ?_) | refine s4 fun _ _ _ _ => ?_ | fail)
    refine ends1 rfl rfl ?_
    rw [Nat.mod_eq_of_lt (show n < 256 by omega)]
    congr 3; omega

theorem bitLen_ok {l : List Nat} (hd : Dg l) (hl : Sh l) : PCall env ext 9 [pN l] (.s (.c (.int .i64 (bl (val l) : Nat)))) := by
  have h2 := ofN_len_le_of hd
  have v1 := val_ofN (val l)
  have d1 := Dg.ofN (val l)
  have c1 := Canon.ofN (val l)
  refine PCall.walk (env := env) (g := 9) rfl rfl ?_
  (repeat' first | refine st ?_ | refine s2 (fun _ => ?_) (fun _ => ?_) | refine s4 fun _ _ _ _ => ?_ | fail)
  refine r_call1 (trim_ok hd hl) rfl rfl ?_
  generalize ofN (val l) = A at *
  rw [← v1]
  (repeat' first | refine st ?_ | refine s2 (fun _ => ?_) (fun _ => ?_) | refine s4 fun _ _ _ _ => ?_ | fail)
  · rename_i h4
    refine ends1 rfl rfl ?_
    rw [List.eq_nil_of_length_eq_zero (l := A) (by omega)]; rfl
  · rename_i h4
    have a1 := d1 (A.length - 1)
    refine r_call1 (len32_ok a1) rfl rfl ?_
    have hA : A ≠ [] := by intro h; subst h; simp at h4
    have ht := c1.resolve_left hA
    have hbl : bl (A.getD (A.length - 1) 0) ≤ 32 := by
      have h5 := bl_le ht
      have : 2 ^ (bl (A.getD (A.length - 1) 0) - 1) < 2 ^ 32 := by omega
      have := (Nat.pow_lt_pow_iff_right (by omega : 1 < 2)).1 this
      omega
    (repeat' first | refine st ?_ | refine s2 (fun _ => ?_) (fun _ => ?_) | refine s4 fun _ _ _ _ => ?_ | fail)
    refine ends1 rfl rfl ?_
    have e : bl (val A) = bl (A.getD (A.length - 1) 0) + 32 * (A.length - 1) := by
      have e1 : val A = A.getD (A.length - 1) 0 * 2 ^ (32 * (A.length - 1)) + vt A (A.length - 1) := by
        rw [← vt_len A]
        conv => lhs; rw [show A.length = (A.length - 1) + 1 by omega]
        rw [vt_succ, Nat.pow_mul]; simp only [Nat.reducePow]; rw [Nat.mul_comm]; omega
      have e2 := vt_lt d1 (A.length - 1)
      rw [e1]
      refine bl_mul ht ?_
      rw [Nat.pow_mul]; exact e2
    rw [e, Nat.add_comm]
end Go.Av
