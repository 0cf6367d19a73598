/- A part of the proof (own method: an abstract machine). No condition. -/
import Derived.Test.YthdilnjdkniofaaGreatBdD
namespace Go.Av
open Go
variable {ext : Calls0}

/-- The reference's norm, of an object, as a new object. -/
theorem natNormR {l : List Nat} {o : Objs} {id ver base : Nat} (hd : Dg l) (hl : l.length < 1125899906842624) (hm : o.is id ver .u32 l) (hne : id ≠ base + 0) (hlen : (ofN (val l)).length < 35184372088832) :
    ∃ o' r, Call env ext 58 base o [.c (.rs id ver 1 0 l.length)] o' r ∧ ∃ w, r = .s (.c (.rs (base + 0) w 1 0 (ofN (val l)).length)) ∧ o'.is (base + 0) w .u32 (ofN (val l)) ∧ (∀ i v, i ≠ base + 0 → o'.m i v = o.m i v) ∧ (∀ i, i ≠ base + 0 → o'.nv i = o.nv i) := by
  refine Call.walk (env := env) (g := 58) rfl rfl ?_
  (repeat' first | refine st ?_ | refine s2 (fun _ => ?_) (fun _ => ?_) | refine s4 fun _ _ _ _ => ?_ | fail)
  refine w_loopS (fun k sl o' => k ≤ l.length ∧ (∀ i, k ≤ i → i < l.length → l.getD i 0 = 0) ∧ sl 0 = .s (.c (.rs id ver 1 0 l.length)) ∧ sl 3 = vn .i64 k ∧ o' = o) l.length ⟨Nat.le_refl _, fun i h1 h2 => by omega, rfl, rfl, rfl⟩ ?_
  rintro k sl o' ⟨hk, hz, h0, h3, rfl⟩
  rw [upd2 h0 h3]
  have fin : (k = 0 ∨ l.getD (k - 1) 0 ≠ 0) → ∀ o1 : Objs, o1.is (base + 0) (o'.nv (base + 0)) .u32 [] → (∀ o2 v2, ¬ (o2 = base + 0 ∧ v2 = o'.nv (base + 0)) → o1.m o2 v2 = o'.m o2 v2) →
      l.take k = ofN (val l) ∧ k = (ofN (val l)).length ∧ o1.is id ver .u32 l := by
    intro ht o1 h1 h2
    have e := take_ofN hd hk hz ht
    refine ⟨e, ?_, ?_⟩
    · rw [← e, List.length_take, Nat.min_eq_left hk]
    · unfold Objs.is; rw [h2 _ _ (fun h => hne h.1)]; exact hm
  (repeat' first | refine st ?_ | refine s2 (fun _ => ?_) (fun _ => ?_) | refine s4 fun _ _ _ _ => ?_ | fail)
  · rename_i h1 h2
    refine ⟨k - 1, by omega, ⟨by omega, fun i h3 h4 => ?_, rfl, rfl, rfl⟩, rfl⟩
    by_cases hi : i = k - 1
    · subst hi; simpa using h2
    · exact hz i (by omega) h4
  · rename_i h1 h2 o1 g1 g2 g3
    obtain ⟨e1, e2, e3⟩ := fin (.inr (by omega)) o1 g1 g2
    refine r_appRR rfl rfl rfl g1 e3 hk rfl (by omega) (by omega) fun o2 g4 g5 g6 => ?_
    rw [List.drop_zero, List.nil_append, e1, g3, if_pos rfl] at g4
    rw [Nat.zero_add, e2, g3, if_pos rfl]
    (repeat' first | refine st ?_ | refine s2 (fun _ => ?_) (fun _ => ?_) | refine s4 fun _ _ _ _ => ?_ | fail)
    exact endsR1 rfl ⟨_, rfl, g4, fun i v hi => by rw [g5 i v hi, g2 i v (fun h => hi h.1)], fun i hi => by rw [g6, if_neg hi, g3, if_neg hi]⟩
  · rename_i h1 o1 g1 g2 g3
    obtain ⟨e1, e2, e3⟩ := fin (.inl (by omega)) o1 g1 g2
    refine r_appRR rfl rfl rfl g1 e3 hk rfl (by omega) (by omega) fun o2 g4 g5 g6 => ?_
    rw [List.drop_zero, List.nil_append, e1, g3, if_pos rfl] at g4
    rw [Nat.zero_add, e2, g3, if_pos rfl]
    (repeat' first | refine st ?_ | refine s2 (fun _ => ?_) (fun _ => ?_) | refine s4 fun _ _ _ _ => ?_ | fail)
    exact endsR1 rfl ⟨_, rfl, g4, fun i v hi => by rw [g5 i v hi, g2 i v (fun h => hi h.1)], fun i hi => by rw [g6, if_neg hi, g3, if_neg hi]⟩
/-- The same of a list. -/
theorem natNormP {l : List Nat} {o : Objs} {base : Nat} (hd : Dg l) (hl : Sh l) :
    ∃ o' r, Call env ext 58 base o [.c (.p (.sl (encK .u32 l)))] o' r ∧ ∃ w, r = .s (.c (.rs (base + 0) w 1 0 (ofN (val l)).length)) ∧ o'.is (base + 0) w .u32 (ofN (val l)) ∧ (∀ i v, i ≠ base + 0 → o'.m i v = o.m i v) ∧ (∀ i, i ≠ base + 0 → o'.nv i = o.nv i) := by
  refine Call.walk (env := env) (g := 58) rfl rfl ?_
  (repeat' first | refine st ?_ | refine s2 (fun _ => ?_) (fun _ => ?_) | refine s4 fun _ _ _ _ => ?_ | fail)
  refine w_loopS (fun k sl o' => k ≤ l.length ∧ (∀ i, k ≤ i → i < l.length → l.getD i 0 = 0) ∧ sl 0 = vk .u32 l ∧ sl 3 = vn .i64 k ∧ o' = o) l.length ⟨Nat.le_refl _, fun i h1 h2 => by omega, rfl, rfl, rfl⟩ ?_
  rintro k sl o' ⟨hk, hz, h0, h3, rfl⟩
  rw [upd2 h0 h3]
  (repeat' first | refine st ?_ | refine s2 (fun _ => ?_) (fun _ => ?_) | refine s4 fun _ _ _ _ => ?_ | fail)
  · rename_i h1 h2
    refine ⟨k - 1, by omega, ⟨by omega, fun i h3 h4 => ?_, rfl, rfl, rfl⟩, rfl⟩
    by_cases hi : i = k - 1
    · subst hi; simpa using h2
    · exact hz i (by omega) h4
  · rename_i h1 h2 o1 g1 g2 g3 o2 g4 g5 g6
    have e1 := take_ofN hd hk hz (.inr (by omega))
    rw [List.drop_zero, List.nil_append, e1, g3, if_pos rfl] at g4
    refine endsR1 rfl ⟨_, ?_, g4, fun i v hi => by rw [g5 i v hi, g2 i v (fun h => hi h.1)], fun i hi => by rw [g6, if_neg hi, g3, if_neg hi]⟩
    rw [e1, Nat.zero_add, g3, if_pos rfl]
  · rename_i h1 o1 g1 g2 g3 o2 g4 g5 g6
    have e1 := take_ofN hd hk hz (.inl (by omega))
    rw [List.drop_zero, List.nil_append, e1, g3, if_pos rfl] at g4
    refine endsR1 rfl ⟨_, ?_, g4, fun i v hi => by rw [g5 i v hi, g2 i v (fun h => hi h.1)], fun i hi => by rw [g6, if_neg hi, g3, if_neg hi]⟩
    rw [e1, Nat.zero_add, g3, if_pos rfl]

theorem natCmp_ok {a b : List Nat} (ha : Dg a) (hb : Dg b) (la : Sh a) (lb : Sh b) : PCall env ext 62 [pN a, pN b] (.s (.c (.int .i64 (cmpI (val a) (val b))))) := by
  have h2 := ofN_len_le_of ha
  have h3 := ofN_len_le_of hb
  have v1 := val_ofN (val a)
  have v2 := val_ofN (val b)
  have d1 := Dg.ofN (val a)
  have d2 := Dg.ofN (val b)
  refine PCall.walk (env := env) (g := 62) rfl rfl ?_
  (repeat' first | refine st ?_ | refine s2 (fun _ => ?_) (fun _ => ?_) | refine s4 fun _ _ _ _ => ?_ | fail)
  refine r_call1 (natNorm_ok ha la) rfl rfl ?_
  (repeat' first | refine st ?_ | refine s2 (fun _ => ?_) (fun _ => ?_) | refine s4 fun _ _ _ _ => ?_ | fail)
  refine r_call1 (natNorm_ok hb lb) rfl rfl ?_
  by_cases hl1 : (ofN (val a)).length < (ofN (val b)).length
  · (repeat' first | refine st ?_ | refine s2 (fun _ => ?_) (fun _ => ?_) | refine s4 fun _ _ _ _ => ?_ | fail)
    refine ends1 rfl rfl ?_
    have h5 : val a < val b := by
      apply Nat.lt_of_not_le
      intro h; have := ofN_len_mono h; omega
    simp only [cmpI, if_pos h5]
  by_cases hl2 : (ofN (val b)).length < (ofN (val a)).length
  · (repeat' first | refine st ?_ | refine s2 (fun _ => ?_) (fun _ => ?_) | refine s4 fun _ _ _ _ => ?_ | fail)
    refine ends1 rfl rfl ?_
    have h6 : val b < val a := by
      apply Nat.lt_of_not_le
      intro h; have := ofN_len_mono h; omega
    simp only [cmpI, if_pos h6, if_neg (show ¬ val a < val b by omega)]
  have hl : (ofN (val a)).length = (ofN (val b)).length := by omega
  generalize ofN (val a) = A at *
  generalize ofN (val b) = B at *
  (repeat' first | refine st ?_ | refine s2 (fun _ => ?_) (fun _ => ?_) | refine s4 fun _ _ _ _ => ?_ | fail)
  refine w_loopS (fun k sl o => k ≤ A.length ∧ (∀ i, k ≤ i → A.getD i 0 = B.getD i 0) ∧ sl 5 = vk .u32 A ∧ sl 6 = vk .u32 B ∧ sl 7 = .s (.c (.p (.int .i64 ((k : Int) - 1))))) A.length
    ⟨Nat.le_refl _, fun i hi => by rw [getD_lt (by omega), getD_lt (by omega)], rfl, rfl, rfl⟩ ?_
  rintro k sl o ⟨hk, hz, s0, s1, s5⟩
  rw [upd3 s0 s1 s5]
  rcases k with _ | k
  · (repeat' first | refine st ?_ | refine s2 (fun _ => ?_) (fun _ => ?_) | refine s4 fun _ _ _ _ => ?_ | fail)
    refine ends1 rfl rfl ?_
    have : val a = val b := by
      rw [← v1, ← v2, ← vt_len A, ← vt_len B, hl]
      exact vt_congr fun j _ => hz j (by omega)
    simp only [cmpI, if_neg (show ¬ val a < val b by omega), if_neg (show ¬ val b < val a by omega)]
  · rw [show (((k + 1 : Nat) : Int) - 1) = (k : Int) by omega]
    have t1 := val_top (k := k + 1) hz
    have t2 : A.getD k 0 < B.getD k 0 → val a < val b := fun h => by have := vt_less d1 h; omega
    have t3 : B.getD k 0 < A.getD k 0 → val b < val a := fun h => by have := vt_less d2 h; omega
    (repeat' first | refine st ?_ | refine s2 (fun _ => ?_) (fun _ => ?_) | refine s4 fun _ _ _ _ => ?_ | fail)
    · rename_i h4
      refine ends1 rfl rfl ?_
      simp only [cmpI, if_pos (t2 (by omega))]
    · rename_i h4 h5
      have := t3 (by omega)
      refine ends1 rfl rfl ?_
      simp only [cmpI, if_pos this, if_neg (show ¬ val a < val b by omega)]
    · rename_i h4 h5
      refine ⟨k, by omega, ⟨by omega, fun i hi => ?_, rfl, rfl, rfl⟩, rfl⟩
      by_cases hk : i = k
      · subst hk; omega
      · exact hz i (by omega)
end Go.Av
namespace Go.Av
open Go
variable {ext : Calls0}

theorem natSub_ok {a b : List Nat} (ha : Dg a) (hb : Dg b) (la : Sh a) (lb : Sh b) (hle : val b ≤ val a) : PCall env ext 63 [pN a, pN b] (.tup [pN (ofN (val a - val b)), .c (.bool true)]) := by
  have h2 := ofN_len_le_of ha
  have h3 := ofN_len_le_of hb
  have v1 := val_ofN (val a)
  have v2 := val_ofN (val b)
  have d1 := Dg.ofN (val a)
  have d2 := Dg.ofN (val b)
  have hl := ofN_len_mono hle
  have hc : cmpI (val a) (val b) ≥ 0 := by unfold cmpI; omega
  refine PCall.walk (env := env) (g := 63) rfl rfl ?_
  (repeat' first | refine st ?_ | refine s2 (fun _ => ?_) (fun _ => ?_) | refine s4 fun _ _ _ _ => ?_ | fail)
  refine r_call1 (natCmp_ok ha hb la lb) rfl rfl ?_
  (repeat' first | refine st ?_ | refine s2 (fun _ => ?_) (fun _ => ?_) | refine s4 fun _ _ _ _ => ?_ | fail)
  clear hc
  refine r_callR (natNormP ha la) rfl ?_
  rintro o1 r ⟨w, rfl, hm, ho1, hn1⟩
  (repeat' first | refine st ?_ | refine s2 (fun _ => ?_) (fun _ => ?_) | refine s4 fun _ _ _ _ => ?_ | fail)
  refine r_call1 (natNorm_ok hb lb) rfl rfl ?_
  generalize ofN (val a) = A at *
  generalize ofN (val b) = B at *
  (repeat' first | refine st ?_ | refine s2 (fun _ => ?_) (fun _ => ?_) | refine s4 fun _ _ _ _ => ?_ | fail)
  refine w_loopUp (fun i sl o => i ≤ A.length ∧ ∃ X c, X.length = A.length ∧ Dg X ∧ c ≤ 1 ∧ Hd (vt X i + vt B i = vt A i + 4294967296 ^ i * c) ∧ (∀ t, i ≤ t → X.getD t 0 = A.getD t 0) ∧ o.is 100 w .u32 X ∧
    sl 6 = .s (.c (.rs 100 w 1 0 A.length)) ∧ sl 7 = vk .u32 B ∧ sl 8 = vn .u64 c ∧ sl 9 = vn .i64 i) 0 A.length
    ⟨by omega, A, 0, rfl, d1, by omega, ⟨by simp [vt_zero]⟩, fun _ _ => rfl, hm, rfl, rfl, rfl, rfl⟩ (fun i sl o h => h.1) ?_
  clear hm ho1 hn1
  rintro i sl o ⟨hi, X, c, hX, hd, hc, he, hup, hm, s6, s7, s8, s9⟩
  rw [upd4 s6 s7 s8 s9]
  clear s6 s7 s8 s9
  have a1 := hd i
  have a2 := d2 i
  have fin : ∀ (o' : Objs) x c', o'.is 100 w .u32 (X.set i x) → x < 4294967296 → x + (c + B.getD i 0) = X.getD i 0 + 4294967296 * c' → i < A.length → vt (X.set i x) (i + 1) + vt B (i + 1) = vt A (i + 1) + 4294967296 ^ (i + 1) * c' ∧ ∀ t, i + 1 ≤ t → (X.set i x).getD t 0 = A.getD t 0 := by
    intro o' x c' hm' hx hxe hin
    clear hm'
    have he := he.h
    have e1 := hup i (Nat.le_refl _)
    refine ⟨?_, fun t ht => ?_⟩
    · rw [vt_set_succ (by omega), vt_succ B, vt_succ A, ← e1]
      clear hup hm
      grind
    · rw [getD_set (by omega), if_neg (by omega)]
      exact hup t (by omega)
  by_cases hin : i < A.length
  · by_cases hb : i < B.length
    · by_cases hlt : X.getD i 0 < c + B.getD i 0
      · (repeat' first | refine st ?_ | refine s2 (fun _ => ?_) (fun _ => ?_) | refine s4 fun _ _ _ _ => ?_ | fail)
        rename_i o' hm' _ _
        obtain ⟨f1, f2⟩ := fin o' _ 1 hm' (by omega) (by omega) hin
        exact ⟨⟨by omega, _, 1, by rw [List.length_set, hX], hd.set (by omega), by omega, ⟨f1⟩, f2, hm', rfl, rfl, rfl, rfl⟩, rfl⟩
      · (repeat' first | refine st ?_ | refine s2 (fun _ => ?_) (fun _ => ?_) | refine s4 fun _ _ _ _ => ?_ | fail)
        rename_i o' hm' _ _
        obtain ⟨f1, f2⟩ := fin o' _ 0 hm' (by omega) (by omega) hin
        exact ⟨⟨by omega, _, 0, by rw [List.length_set, hX], hd.set (by omega), by omega, ⟨f1⟩, f2, hm', rfl, rfl, rfl, rfl⟩, rfl⟩
    · have hz : B.getD i 0 = 0 := getD_lt hb
      by_cases hlt : X.getD i 0 < c
      · (repeat' first | refine st ?_ | refine s2 (fun _ => ?_) (fun _ => ?_) | refine s4 fun _ _ _ _ => ?_ | fail)
        rename_i o' hm' _ _
        obtain ⟨f1, f2⟩ := fin o' _ 1 hm' (by omega) (by omega) hin
        exact ⟨⟨by omega, _, 1, by rw [List.length_set, hX], hd.set (by omega), by omega, ⟨f1⟩, f2, hm', rfl, rfl, rfl, rfl⟩, rfl⟩
      · (repeat' first | refine st ?_ | refine s2 (fun _ => ?_) (fun _ => ?_) | refine s4 fun _ _ _ _ => ?_ | fail)
        rename_i o' hm' _ _
        obtain ⟨f1, f2⟩ := fin o' _ 0 hm' (by omega) (by omega) hin
        exact ⟨⟨by omega, _, 0, by rw [List.length_set, hX], hd.set (by omega), by omega, ⟨f1⟩, f2, hm', rfl, rfl, rfl, rfl⟩, rfl⟩
  · have : i = A.length := by omega
    subst this
    have he := he.h
    rw [vt_ge (l := X) (by omega), vt_ge (l := B) hl, vt_len, v1, v2] at he
    have hlt := val_lt hd
    rw [hX] at hlt
    have hbo0 : c = 0 := by
      rcases Nat.eq_zero_or_pos c with h | h
      · exact h
      · have : c = 1 := by omega
        subst this
        have h5 := val_lt d1
        omega
    subst hbo0
    have hv : val X = val a - val b := by omega
    have hvl : (ofN (val X)).length ≤ X.length := ofN_len_le_of hd
    (repeat' first | refine st ?_ | refine s2 (fun _ => ?_) (fun _ => ?_) | refine s4 fun _ _ _ _ => ?_ | fail)
    rw [← hX]
    refine r_callR (natNormR hd (by omega) hm (by omega) (by omega)) rfl ?_
    rintro o' r ⟨w', rfl, hm', _, _⟩
    (repeat' first | refine st ?_ | refine s2 (fun _ => ?_) (fun _ => ?_) | refine s4 fun _ _ _ _ => ?_ | fail)
    refine ends2 rfl rfl (purK hm' (Nat.le_refl _)) rfl ?_
    rw [List.take_length, hv]

theorem or_bit {x c : Nat} (hx : x < 4294967296) (hc : c ≤ 1) : (x * 2 % 4294967296) ||| c = x * 2 % 4294967296 + c := by
  have : x * 2 % 4294967296 = x % 2147483648 * 2 ^ 1 := by simp only [Nat.pow_one]; omega
  rw [this, or_lo (by simp only [Nat.pow_one]; omega)]

theorem double_ok {a : List Nat} {b : Nat} (ha : Dg a) (la : a.length < 1099511627776) (hb : b ≤ 1) : PCall env ext 64 [pN a, .c (.int .u32 (b : Nat))] (.s (pN (ofN (2 * val a + b)))) := by
  refine PCall.walk (env := env) (g := 64) rfl rfl ?_
  (repeat' first | refine st ?_ | refine s2 (fun _ => ?_) (fun _ => ?_) | refine s4 fun _ _ _ _ => ?_ | fail)
  refine w_loopUp (fun i sl o => i ≤ a.length ∧ ∃ X c, X.length = i ∧ Dg X ∧ c ≤ 1 ∧ Hd (val X + 4294967296 ^ i * c = 2 * vt a i + b) ∧ sl 0 = vk .u32 a ∧ sl 1 = vn .u32 c ∧ sl 6 = vn .i64 i ∧
    ((i = 0 ∧ sl 5 = .s (.c .e0)) ∨ (0 < i ∧ ∃ w, sl 5 = .s (.c (.rs 0 w 1 0 i)) ∧ o.is 0 w .u32 X))) 0 a.length
    ⟨by omega, [], b, rfl, Dg.nil, hb, ⟨by simp [vt_zero, val]⟩, rfl, rfl, rfl, .inl ⟨rfl, rfl⟩⟩ (fun i sl o h => h.1) ?_
  rintro i sl o ⟨hi, X, c, hX, hd, hc, he, s0, s1, s6, hs⟩
  have a1 := ha i
  have hO := or_bit a1 hc
  have stp : i < a.length → Dg (X ++ [a.getD i 0 * 2 % 4294967296 + c]) ∧ val (X ++ [a.getD i 0 * 2 % 4294967296 + c]) + 4294967296 ^ (i + 1) * (a.getD i 0 / 2147483648) = 2 * vt a (i + 1) + b := by
    intro hin
    refine ⟨hd.append (Dg.cons (by omega) Dg.nil), ?_⟩
    have he := he.h
    rw [val_snoc, hX, vt_succ]
    have h1 : a.getD i 0 * 2 % 4294967296 + 4294967296 * (a.getD i 0 / 2147483648) = 2 * a.getD i 0 := by omega
    generalize a.getD i 0 * 2 % 4294967296 = p at *
    generalize a.getD i 0 / 2147483648 = q at *
    generalize a.getD i 0 = z at *
    clear hO hs
    grind
  have fin : ∀ Y : List Nat, Dg Y → Y.length = a.length + 1 → val Y = 2 * val a + b → ∀ (o : Objs) (w base : Nat), o.is base w .u32 Y → base ≠ 0 + 100 + 0 → True := fun _ _ _ _ _ _ _ _ _ => trivial
  have tail : ∀ Y : List Nat, i = a.length → Y = X ++ [c] → Dg Y ∧ val Y = 2 * val a + b ∧ Y.length = a.length + 1 := by
    intro Y hia hY
    subst hY
    refine ⟨hd.append (Dg.cons (by omega) Dg.nil), ?_, by rw [List.length_append, hX, hia]; rfl⟩
    have he := he.h
    rw [val_snoc, hX, he, hia, vt_len]
  replace he : Hd True := ⟨trivial⟩
  rcases hs with ⟨h0, s5⟩ | ⟨h0, w, s5, hm⟩
  · subst h0
    have hX0 : X = [] := List.eq_nil_of_length_eq_zero hX
    subst hX0
    rw [upd4 s0 s1 s6 s5]
    by_cases hin : 0 < a.length
    · (repeat' first | refine st ?_ | refine s2 (fun _ => ?_) (fun _ => ?_) | refine s4 fun _ _ _ _ => ?_ | fail)
      rename_i o' hm' _ _
      obtain ⟨f1, f2⟩ := stp hin
      rw [hO] at hm'
      exact ⟨⟨by omega, _, _, by simp, f1, by omega, ⟨f2⟩, rfl, rfl, rfl, .inr ⟨by omega, _, rfl, hm'⟩⟩, rfl⟩
    · (repeat' first | refine st ?_ | refine s2 (fun _ => ?_) (fun _ => ?_) | refine s4 fun _ _ _ _ => ?_ | fail)
      rename_i o' hm' _ _
      obtain ⟨f1, f2, f3⟩ := tail _ (by omega) rfl
      have f4 := ofN_len_le_of f1
      refine r_callR (natNormR f1 (by omega) hm' (by omega) (by omega)) rfl ?_
      rintro o'' r ⟨w', rfl, hm'', _, _⟩
      (repeat' first | refine st ?_ | refine s2 (fun _ => ?_) (fun _ => ?_) | refine s4 fun _ _ _ _ => ?_ | fail)
      refine ends1 rfl (purK hm'' (Nat.le_refl _)) ?_
      rw [List.take_length, f2]
  · rw [upd4 s0 s1 s6 s5]
    by_cases hin : i < a.length
    · (repeat' first | refine st ?_ | refine s2 (fun _ => ?_) (fun _ => ?_) | refine s4 fun _ _ _ _ => ?_ | fail)
      rename_i o' hm' _ _
      obtain ⟨f1, f2⟩ := stp hin
      rw [hO, List.drop_zero] at hm'
      exact ⟨⟨by omega, _, _, by simp [hX], f1, by omega, ⟨f2⟩, rfl, rfl, rfl, .inr ⟨by omega, _, rfl, hm'⟩⟩, rfl⟩
    · (repeat' first | refine st ?_ | refine s2 (fun _ => ?_) (fun _ => ?_) | refine s4 fun _ _ _ _ => ?_ | fail)
      rename_i o' hm' _ _
      rw [List.drop_zero] at hm'
      obtain ⟨f1, f2, f3⟩ := tail _ (by omega) rfl
      have f4 := ofN_len_le_of f1
      rw [show i + [c].length = (X ++ [c]).length by simp [hX]]
      refine r_callR (natNormR f1 (by omega) hm' (by omega) (by omega)) rfl ?_
      rintro o'' r ⟨w', rfl, hm'', _, _⟩
      (repeat' first | refine st ?_ | refine s2 (fun _ => ?_) (fun _ => ?_) | refine s4 fun _ _ _ _ => ?_ | fail)
      refine ends1 rfl (purK hm'' (Nat.le_refl _)) ?_
      rw [List.take_length, f2]
end Go.Av
