/- A part of the proof (own method: an abstract machine). No condition. -/
import Derived.Test.YthdilnjdkniofaaGreatBdA
import Derived.Test.YthdilnjdkniofaaGreatBdK
namespace Go.Av
open Go
variable {ext : Calls0}

theorem shiftLeft_ok {a : List Nat} {s n : Nat} (ha : Dg a) (la : Sh a) (hs : s < 32) (hn : a.length ≤ n) (hn2 : n < 35184372088832) :
    ∃ xs c, PCall env ext 23 [pN a, .c (.int .u64 (s : Nat)), .c (.int .i64 (n : Nat))] (.s (pN xs)) ∧ xs.length = n ∧ Dg xs ∧ c < 2 ^ s ∧ val xs + 4294967296 ^ n * c = val a * 2 ^ s := by
  obtain ⟨o', r, h1, xs, c, hm, hx, hd, hc, he, rfl, _, _⟩ := shiftLeftR (ext := ext) (o := Objs.empty) (base := 0) ha la hs hn hn2
  refine ⟨xs, c, ⟨o', _, h1, ?_⟩, hx, hd, hc, he⟩
  have := purK hm (n := n) (by omega)
  simp only [purAV, this, Option.map_some]
  rw [List.take_of_length_le (by omega)]

/-- The divisor's shift: its top digit has its top bit. -/
theorem shift_facts {b : List Nat} (hb : Dg b) (cb : Canon b) (hn : 2 ≤ b.length) :
    bl (b.getD (b.length - 1) 0) ≤ 32 ∧ 32 - bl (b.getD (b.length - 1) 0) < 32 ∧ val b * 2 ^ (32 - bl (b.getD (b.length - 1) 0)) < 4294967296 ^ b.length ∧
      2147483648 * 4294967296 ^ (b.length - 1) ≤ val b * 2 ^ (32 - bl (b.getD (b.length - 1) 0)) := by
  have ht : b.getD (b.length - 1) 0 ≠ 0 := by
    rcases cb with h | h
    · subst h; simp at hn
    · exact h
  have e : val b = vt b (b.length - 1) + 4294967296 ^ (b.length - 1) * b.getD (b.length - 1) 0 := by
    rw [← vt_succ, ← vt_len b]; congr 1; omega
  have h1 := vt_lt hb (b.length - 1)
  have h2 := hb (b.length - 1)
  have h3 := bl_lt (b.getD (b.length - 1) 0)
  have h4 := bl_le ht
  have h5 : bl (b.getD (b.length - 1) 0) ≤ 32 := by
    have : 2 ^ (bl (b.getD (b.length - 1) 0) - 1) < 2 ^ 32 := by omega
    have := (Nat.pow_lt_pow_iff_right (by omega : 1 < 2)).1 this
    omega
  have h6 : bl (b.getD (b.length - 1) 0) ≠ 0 := by unfold bl; rw [if_neg ht]; omega
  have h7 : 4294967296 ^ b.length = 4294967296 ^ (b.length - 1) * 4294967296 := by rw [← Nat.pow_succ]; congr 1; omega
  generalize b.getD (b.length - 1) 0 = t at *
  generalize bl t = m at *
  generalize 4294967296 ^ (b.length - 1) = P at *
  have h8 : 2 ^ m * 2 ^ (32 - m) = 4294967296 := by rw [← Nat.pow_add, show m + (32 - m) = 32 by omega]
  have h9 : 2 ^ (m - 1) * 2 ^ (32 - m) = 2147483648 := by rw [← Nat.pow_add, show m - 1 + (32 - m) = 31 by omega]
  refine ⟨h5, by omega, ?_, ?_⟩
  · rw [h7, ← h8, ← Nat.mul_assoc]
    have : val b < P * 2 ^ m := by
      have : P * (t + 1) ≤ P * 2 ^ m := Nat.mul_le_mul_left _ h3
      rw [Nat.mul_add] at this; omega
    exact Nat.mul_lt_mul_of_pos_right this (Nat.pow_pos (by omega))
  · rw [← h9, Nat.mul_right_comm]
    refine Nat.mul_le_mul_right _ ?_
    have : P * 2 ^ (m - 1) ≤ P * t := Nat.mul_le_mul_left _ h4
    rw [Nat.mul_comm] at this; omega

theorem or_lo {m x i : Nat} (h : m < 2 ^ i) : x * 2 ^ i ||| m = x * 2 ^ i + m := by rw [Nat.or_comm, or_hi h, Nat.add_comm]
/-- Two digits, put together. -/
theorem or_two {x y : Nat} (hx : x < 4294967296) (hy : y < 4294967296) : (x * 4294967296 % 18446744073709551616) ||| y = x * 4294967296 + y := by
  have : x * 4294967296 % 18446744073709551616 = x * 2 ^ 32 := by simp only [Nat.reducePow]; omega
  rw [this, or_lo (by simp only [Nat.reducePow]; exact hy)]
/-- The guess, its loop's state. -/
def Gs (q T top g r : Nat) : Prop := g * top + r = T ∧ q ≤ g

set_option maxHeartbeats 4000000 in
theorem divLong_ok {a b : List Nat} (ha : Dg a) (hb : Dg b) (la : Sh a) (lb : Sh b) (cb : Canon b) (hn : 2 ≤ b.length) (hab : b.length ≤ a.length) :
    PCall env ext 26 [pN a, pN b] (.tup [pN (ofN (val a / val b)), pN (ofN (val a % val b))]) := by
  obtain ⟨f1, f2, f3, f4⟩ := shift_facts hb cb hn
  have hd1 := hb (b.length - 1)
  refine PCall.walk (env := env) (g := 26) rfl rfl ?_
  (repeat' first | refine st ?_ | refine s2 (fun _ => ?_) (fun _ => ?_) | refine s4 fun _ _ _ _ => ?_ | fail)
  refine r_call1 (leadingZeros_ok hd1) rfl rfl ?_
  generalize hS : 32 - bl (b.getD (b.length - 1) 0) = s at *
  (repeat' first | refine st ?_ | refine s2 (fun _ => ?_) (fun _ => ?_) | refine s4 fun _ _ _ _ => ?_ | fail)
  refine r_callR (shiftLeftR ha la f2 (n := a.length + 1) (by omega) (by omega)) rfl ?_
  rintro o1 r ⟨U0, cU, hm0, hU0l, hU0d, hcU, hU0e, rfl, hoth0, hnv0⟩
  obtain ⟨v, cV, hvc, hvl, hvd, hcV, hve⟩ := shiftLeft_ok (ext := ext) hb lb f2 (n := b.length) (by omega) (by omega)
  have p2s : 2 ^ s ≤ 2147483648 := by
    have : 2 ^ s ≤ 2 ^ 31 := Nat.pow_le_pow_right (by omega) (by omega)
    simpa using this
  have hcU0 : cU = 0 := by
    rcases Nat.eq_zero_or_pos cU with h | h
    · exact h
    · have h1 := val_lt ha
      have h2 : val a * 2 ^ s ≤ val a * 2147483648 := Nat.mul_le_mul_left _ p2s
      have h3 := Nat.mul_le_mul_left (4294967296 ^ (a.length + 1)) h
      rw [Nat.pow_succ] at h3 hU0e
      omega
  have hcV0 : cV = 0 := by
    rcases Nat.eq_zero_or_pos cV with h | h
    · exact h
    · have h3 := Nat.mul_le_mul_left (4294967296 ^ b.length) h
      omega
  subst hcU0 hcV0
  rw [Nat.mul_zero, Nat.add_zero] at hU0e hve
  have tp2 := hvd (b.length - 1)
  have nx2 := hvd (b.length - 2)
  (repeat' first | refine st ?_ | refine s2 (fun _ => ?_) (fun _ => ?_) | refine s4 fun _ _ _ _ => ?_ | fail)
  refine r_call1 hvc rfl rfl ?_
  (repeat' first | refine st ?_ | refine s2 (fun _ => ?_) (fun _ => ?_) | refine s4 fun _ _ _ _ => ?_ | fail)
  have hq0 : o1.nv (0 + 0) = 0 := by rw [hnv0]; rfl
  rename_i o2 hmq hoq hnq
  have hmu : o2.is 100 0 .u32 U0 := by
    unfold Objs.is
    rw [hoq 100 0 (by rw [hq0]; omega)]
    exact hm0
  rw [hq0] at hmq ⊢
  clear hm0 hoth0 hnv0 hoq hnq hvc hq0 hd1 hcU hcV
  -- the divisor
  generalize hnb : b.length = n at *
  have eV : val v = (v.getD (n - 1) 0 * 4294967296 + v.getD (n - 2) 0) * 4294967296 ^ (n - 2) + vt v (n - 2) := by
    rw [← vt_len v, hvl]
    conv => lhs; rw [show n = (n - 2) + 1 + 1 by omega]
    rw [vt_succ, vt_succ, Nat.pow_succ, show n - 2 + 1 = n - 1 by omega]
    grind
  have hvl2 := vt_lt hvd (n - 2)
  have eV2 : val v = vt v (n - 1) + 4294967296 ^ (n - 1) * v.getD (n - 1) 0 := by
    rw [← vt_len v, hvl]
    conv => lhs; rw [show n = (n - 1) + 1 by omega]
    rw [vt_succ]
  have hV0' := vt_lt hvd (n - 1)
  have tp1 : 2147483648 ≤ v.getD (n - 1) 0 := by
    rw [← hve, eV2] at f4
    have h1 : 2147483648 * 4294967296 ^ (n - 1) < (v.getD (n - 1) 0 + 1) * 4294967296 ^ (n - 1) := by
      rw [Nat.add_mul, Nat.one_mul, Nat.mul_comm (v.getD (n - 1) 0)]; omega
    have := Nat.lt_of_mul_lt_mul_right h1
    omega
  have hVP : 4294967296 * 4294967296 ^ (n - 2) ≤ val v := by
    have h1 : 4294967296 * 4294967296 ^ (n - 2) = 4294967296 ^ (n - 1) := by rw [Nat.mul_comm, ← Nat.pow_succ]; congr 1; omega
    have h2 : 4294967296 ^ (n - 1) * 1 ≤ 4294967296 ^ (n - 1) * v.getD (n - 1) 0 := Nat.mul_le_mul_left _ (by omega)
    omega
  have hPp : 0 < 4294967296 ^ (n - 2) := Nat.pow_pos (by omega)
  have hV0 : 0 < val v := by omega
  have hVn : val v < 4294967296 ^ n := by rw [hve]; exact f3
  -- the start
  have hstart : val U0 < val v * 4294967296 ^ (a.length - n + 1) := by
    have h1 := val_lt ha
    have h2 : val a * 2 ^ s ≤ val a * 2147483648 := Nat.mul_le_mul_left _ p2s
    have h3 := Nat.mul_le_mul_right (4294967296 ^ (a.length - n + 1)) f4
    rw [Nat.mul_assoc, ← Nat.pow_add, show n - 1 + (a.length - n + 1) = a.length by omega, ← hve] at h3
    rw [hU0e]; omega
  have hQ0 : val (List.replicate (a.length - n + 1) 0) = 0 := by rw [← vt_len, vt_replicate]
  generalize hA : val U0 = A at *
  generalize htp : v.getD (n - 1) 0 = tp at *
  generalize hnx : v.getD (n - 2) 0 = nx at *
  have eVH : Hd _ := ⟨eV⟩
  have fH : Hd _ := And.intro hvl2 (And.intro hVP (And.intro hPp (And.intro hVn hV0))) |> Hd.mk
  clear eV eV2 hvl2 hV0' hVP hPp hVn hV0 f3 f4
  refine w_cut (fun sl o b => b = 0 ∧ ∃ U Q, U.length = a.length + 1 ∧ Q.length = a.length - n + 1 ∧ Dg U ∧ Dg Q ∧ Hd (A = val Q * val v + val U ∧ val U < val v) ∧ o.is 100 0 .u32 U ∧ o.is 0 0 .u32 Q ∧
    sl 6 = vn .i64 n ∧ sl 7 = vn .u64 s ∧ sl 8 = .s (.c (.rs 100 0 1 0 (a.length + 1))) ∧ sl 10 = .s (.c (.rs 0 0 1 0 (a.length - n + 1)))) ?_ ?_
  · refine w_loopS (fun k sl o => k ≤ a.length - n + 1 ∧ ∃ U Q, U.length = a.length + 1 ∧ Q.length = a.length - n + 1 ∧ Dg U ∧ Dg Q ∧ Hd (A = val Q * val v + val U ∧ val U < val v * 4294967296 ^ k ∧ ∀ t, t < k → Q.getD t 0 = 0) ∧
        o.is 100 0 .u32 U ∧ o.is 0 0 .u32 Q ∧ sl 6 = vn .i64 n ∧ sl 7 = vn .u64 s ∧ sl 8 = .s (.c (.rs 100 0 1 0 (a.length + 1))) ∧ sl 9 = vk .u32 v ∧ sl 10 = .s (.c (.rs 0 0 1 0 (a.length - n + 1))) ∧
        sl 11 = vn .u64 tp ∧ sl 12 = vn .u64 nx ∧ sl 13 = .s (.c (.p (.int .i64 ((k : Int) - 1))))) (a.length - n + 1)
        ⟨by omega, U0, _, hU0l, List.length_replicate, hU0d, Dg.replicate _, ⟨by rw [hQ0, hA]; omega, by rw [hA]; exact hstart, fun t _ => ?_⟩, hmu, hmq, rfl, rfl, rfl, rfl, rfl, rfl, rfl, ?_⟩ ?_
    · simp only [List.getD, List.getElem?_replicate]; split <;> simp
    · rw [show (((a.length - n + 1 : Nat) : Int) - 1) = ((a.length - n : Nat) : Int) by omega]; rfl
    clear hmu hmq hU0d hU0l hstart hQ0 hA hU0e hve
    rintro k sl o ⟨hk, U, Q, hUl, hQl, hUd, hQd, he, hmu, hmq, s6, s7, s8, s9, s10, s11, s12, s13⟩
    rcases k with _ | j
    · rw [upd8 s6 s7 s8 s9 s10 s11 s12 s13]
      (repeat' first | refine st ?_ | refine s2 (fun _ => ?_) (fun _ => ?_) | refine s4 fun _ _ _ _ => ?_ | fail)
      exact ⟨rfl, U, Q, hUl, hQl, hUd, hQd, ⟨he.h.1, by have := he.h.2.1; simpa using this⟩, hmu, hmq, rfl, rfl, rfl, rfl⟩
    · rw [show (((j + 1 : Nat) : Int) - 1) = (j : Int) by omega] at s13
      rw [upd8 s6 s7 s8 s9 s10 s11 s12 s13]
      clear s6 s7 s8 s9 s10 s11 s12 s13
      have w0b := hUd (j + n)
      have w1b := hUd (j + n - 1)
      have w2b := hUd (j + n - 2)
      have hT : (U.getD (j + n) 0 * 4294967296 % 18446744073709551616) ||| U.getD (j + n - 1) 0 = U.getD (j + n) 0 * 4294967296 + U.getD (j + n - 1) 0 := or_two w0b w1b
      (repeat' first | refine st ?_ | refine s2 (fun _ => ?_) (fun _ => ?_) | refine s4 fun _ _ _ _ => ?_ | fail)
      rw [hT]
      -- the window
      have hVW : val U < val v * 4294967296 ^ (j + 1) := he.h.2.1
      have hUtop : val U < 4294967296 ^ (j + n + 1) := by
        have h1 := Nat.mul_le_mul_right (4294967296 ^ (j + 1)) (Nat.le_of_lt fH.h.2.2.2.1)
        rw [← Nat.pow_add, show n + (j + 1) = j + n + 1 by omega] at h1
        omega
      have hw := vt_vd U j (n + 1)
      rw [← Nat.add_assoc, vt_of_lt hUd hUtop] at hw
      have hUj : vd U j (n + 1) < val v * 4294967296 := by
        have h1 : 4294967296 ^ j * vd U j (n + 1) < 4294967296 ^ j * (val v * 4294967296) := by
          have : val v * 4294967296 ^ (j + 1) = 4294967296 ^ j * (val v * 4294967296) := by rw [Nat.pow_succ]; grind
          omega
        exact Nat.lt_of_mul_lt_mul_left h1
      have eU : vd U j (n + 1) = ((U.getD (j + n) 0 * 4294967296 + U.getD (j + n - 1) 0) * 4294967296 + U.getD (j + n - 2) 0) * 4294967296 ^ (n - 2) + vd U j (n - 2) := vd_top3 U j n hn
      have hul := vd_lt hUd j (n - 2)
      obtain ⟨g1, g2, g3, g4, g5⟩ := fH.h
      have hqW := kn_q g5 hUj
      have hqV : vd U j (n + 1) / val v * val v ≤ vd U j (n + 1) := Nat.div_mul_le_self _ _
      have ka := kn_a eVH.h eU hul hqV
      have kb := kn_b w2b ka
      have kd := fun g r (h1 : g * tp + r = U.getD (j + n) 0 * 4294967296 + U.getD (j + n - 1) 0) (h2 : g < 4294967296) (h3 : g * nx ≤ r * 4294967296 + U.getD (j + n - 2) 0) => kn_d eVH.h eU g1 h1 h2 h3 g2 g5
      have kc := fun g r (h1 : g * tp + r = U.getD (j + n) 0 * 4294967296 + U.getD (j + n - 1) 0) (h2 : vd U j (n + 1) / val v ≤ g) (h3 : r * 4294967296 + U.getD (j + n - 2) 0 < g * nx) => kn_c h1 h2 ka h3
      have hwn : U.getD (j + n) 0 ≤ tp := by
        have h1 : U.getD (j + n) 0 * 4294967296 ^ n ≤ vd U j (n + 1) := by
          have h2 := vd_succ U j n
          rw [Nat.mul_comm]; omega
        have h2 : val v < (tp + 1) * 4294967296 ^ (n - 1) := by
          have h3 := eVH.h
          have h4 : 4294967296 ^ (n - 1) = 4294967296 ^ (n - 2) * 4294967296 := by rw [← Nat.pow_succ]; congr 1; omega
          rw [h4, h3]
          have h5 : (nx + 1) * 4294967296 ^ (n - 2) ≤ 4294967296 * 4294967296 ^ (n - 2) := Nat.mul_le_mul_right _ nx2
          rw [Nat.add_mul] at h5 ⊢
          generalize 4294967296 ^ (n - 2) = P at *
          grind
        have h3 : U.getD (j + n) 0 * 4294967296 ^ n < (tp + 1) * 4294967296 ^ n := by
          have h4 : 4294967296 ^ n = 4294967296 ^ (n - 1) * 4294967296 := by rw [← Nat.pow_succ]; congr 1; omega
          have h5 := Nat.mul_lt_mul_of_pos_right h2 (show 0 < 4294967296 by omega)
          rw [Nat.mul_assoc, ← h4] at h5
          omega
        have := Nat.lt_of_mul_lt_mul_right h3
        omega
      generalize hUjq : vd U j (n + 1) / val v = q at *
      generalize hwn' : U.getD (j + n) 0 = wn at *
      generalize hw1' : U.getD (j + n - 1) 0 = w1 at *
      generalize hw2' : U.getD (j + n - 2) 0 = w2 at *
      replace hT : Hd _ := ⟨hT⟩
      replace hw : Hd _ := ⟨hw⟩
      replace hqV : Hd _ := ⟨hqV⟩
      replace hUj : Hd _ := ⟨hUj⟩
      clear g1 g2 g3 g4 g5 ka hul eU hUtop hVW
      refine w_cut (fun sl o' b => b = 0 ∧ o' = o ∧ ∃ g, q ≤ g ∧ g ≤ q + 1 ∧ g < 4294967296 ∧ sl 6 = vn .i64 n ∧ sl 7 = vn .u64 s ∧ sl 8 = .s (.c (.rs 100 0 1 0 (a.length + 1))) ∧ sl 9 = vk .u32 v ∧ sl 10 = .s (.c (.rs 0 0 1 0 (a.length - n + 1))) ∧
        sl 11 = vn .u64 tp ∧ sl 12 = vn .u64 nx ∧ sl 13 = vn .i64 j ∧ sl 15 = vn .u64 g) ?_ ?_
      · refine w_loopS (fun g sl o' => o' = o ∧ q ≤ g ∧ g ≤ 4294967297 ∧ ∃ r, r < 4294967296 ∧ Hd (g * tp + r = wn * 4294967296 + w1) ∧ sl 6 = vn .i64 n ∧ sl 7 = vn .u64 s ∧ sl 8 = .s (.c (.rs 100 0 1 0 (a.length + 1))) ∧ sl 9 = vk .u32 v ∧
            sl 10 = .s (.c (.rs 0 0 1 0 (a.length - n + 1))) ∧ sl 11 = vn .u64 tp ∧ sl 12 = vn .u64 nx ∧ sl 13 = vn .i64 j ∧ sl 15 = vn .u64 g ∧ sl 16 = vn .u64 r) ((wn * 4294967296 + w1) / tp)
            ⟨rfl, ?_, ?_, (wn * 4294967296 + w1) % tp, ?_, ⟨?_⟩, rfl, rfl, rfl, rfl, rfl, rfl, rfl, rfl, rfl, rfl⟩ ?_
        · rw [Nat.le_div_iff_mul_le (by omega)]; exact kb
        · rw [← Nat.lt_succ_iff, Nat.div_lt_iff_lt_mul (by omega)]; omega
        · have := Nat.mod_lt (wn * 4294967296 + w1) (show 0 < tp by omega)
          omega
        · rw [Nat.mul_comm]; exact Nat.div_add_mod _ _
        clear kb
        rintro g sl o' ⟨rfl, hqg, hgm, r, hr, hgr, s6, s7, s8, s9, s10, s11, s12, s13, s15, s16⟩
        rw [upd8 s6 s7 s8 s9 s10 s11 s12 s13]
        rw [upd2 s15 s16]
        clear s6 s7 s8 s9 s10 s11 s12 s13 s15 s16
        have hO : (r * 4294967296 % 18446744073709551616) ||| U.getD (j + n - 2) 0 = r * 4294967296 + w2 := by rw [hw2']; exact or_two hr w2b
        have stp := fun h0 => kn_step (w2 := w2) hgr.h h0 hwn w1b nx2
        by_cases hA : 4294967296 ≤ g
        · obtain ⟨t1, t2⟩ := stp (by omega)
          (repeat' first | refine st ?_ | refine s2 (fun _ => ?_) (fun _ => ?_) | refine s4 fun _ _ _ _ => ?_ | fail)
          · rename_i h4
            obtain ⟨t3, t4⟩ := t2 (by omega)
            exact ⟨rfl, rfl, g - 1, by omega, kd _ _ t1 t3 t4, t3, rfl, rfl, rfl, rfl, rfl, rfl, rfl, rfl, rfl⟩
          · rename_i h4
            exact ⟨g - 1, by omega, ⟨rfl, by omega, by omega, r + tp, by omega, ⟨t1⟩, rfl, rfl, rfl, rfl, rfl, rfl, rfl, rfl, rfl, rfl⟩, rfl⟩
        · have hgn : g * nx < 18446744073709551616 := by
            have : g * nx ≤ 4294967295 * 4294967295 := Nat.mul_le_mul (by omega) (by omega)
            omega
          by_cases hB : r * 4294967296 + w2 < g * nx
          · obtain ⟨k1, k2⟩ := kc g r hgr.h hqg hB
            obtain ⟨t1, t2⟩ := stp k2
            (repeat' first | refine st ?_ | refine s2 (fun _ => ?_) (fun _ => ?_) | refine s4 fun _ _ _ _ => ?_ | fail)
            · rename_i h4
              obtain ⟨t3, t4⟩ := t2 (by omega)
              exact ⟨rfl, rfl, g - 1, by omega, kd _ _ t1 t3 t4, t3, rfl, rfl, rfl, rfl, rfl, rfl, rfl, rfl, rfl⟩
            · rename_i h4
              exact ⟨g - 1, by omega, ⟨rfl, by omega, by omega, r + tp, by omega, ⟨t1⟩, rfl, rfl, rfl, rfl, rfl, rfl, rfl, rfl, rfl, rfl⟩, rfl⟩
          · (repeat' first | refine st ?_ | refine s2 (fun _ => ?_) (fun _ => ?_) | refine s4 fun _ _ _ _ => ?_ | fail)
            exact ⟨rfl, rfl, g, hqg, kd _ _ hgr.h (by omega) (by omega), by omega, rfl, rfl, rfl, rfl, rfl, rfl, rfl, rfl, rfl⟩
      · clear kb kd kc
        rintro sl o' b ⟨rfl, rfl, g, hg1, hg2, hgW, s6, s7, s8, s9, s10, s11, s12, s13, s15⟩
        rw [upd8 s6 s7 s8 s9 s10 s11 s12 s13]
        rw [upd1 s15]
        clear s6 s7 s8 s9 s10 s11 s12 s13 s15
        have hvV : Hd (0 < val v ∧ val v < 4294967296 ^ n) := ⟨fH.h.2.2.2.2, fH.h.2.2.2.1⟩
        have hRm : ∀ R, R + q * val v = vd U j (n + 1) → R < val v := by
          intro R hR
          have h1 := Nat.div_add_mod (vd U j (n + 1)) (val v)
          have h2 := Nat.mod_lt (vd U j (n + 1)) hvV.h.1
          rw [hUjq, Nat.mul_comm] at h1
          omega
        have fin : ∀ (U' : List Nat) (o4 : Objs), U'.length = U.length → Dg U' → (∀ i, i < j ∨ j + n + 1 ≤ i → U'.getD i 0 = U.getD i 0) → vd U' j (n + 1) + q * val v = vd U j (n + 1) → o4.is 100 0 .u32 U' → o4.is 0 0 .u32 (Q.set j (q % 4294967296)) →
            ∃ U Q, U.length = a.length + 1 ∧ Q.length = a.length - n + 1 ∧ Dg U ∧ Dg Q ∧ Hd (A = val Q * val v + val U ∧ val U < val v * 4294967296 ^ j ∧ ∀ t, t < j → Q.getD t 0 = 0) ∧ o4.is 100 0 .u32 U ∧ o4.is 0 0 .u32 Q := by
          intro U' o4 h1 h2 h3 h4 h5 h6
          rw [Nat.mod_eq_of_lt hqW] at h6
          exact ⟨U', Q.set j q, by omega, by rw [List.length_set, hQl], h2, hQd.set hqW, ⟨kn_round hUd h2 h3 hw.h h4 (hRm _ h4) he.h.1 hQl (by omega) he.h.2.2⟩, h5, h6⟩
        have hqg' : g * val v ≤ vd U j (n + 1) → g = q := by
          intro h
          have := (Nat.le_div_iff_mul_le hvV.h.1).2 h
          rw [hUjq] at this; omega
        have hqg2 : vd U j (n + 1) < g * val v → g = q + 1 := by
          intro h
          have h1 := (Nat.div_lt_iff_lt_mul hvV.h.1).2 h
          rw [hUjq] at h1; omega
        (repeat' first | refine st ?_ | refine s2 (fun _ => ?_) (fun _ => ?_) | refine s4 fun _ _ _ _ => ?_ | fail)
        rw [show j + n + 1 - j = v.length + 1 by omega]
        refine r_callR (subtractScaledR (v := v) hUd hvd (by omega) hgW (by omega) hmu) rfl ?_
        rintro o3 r ⟨U1, neg, hm1, rfl, ⟨c1, c2, c3, hc⟩, hfr, hnv⟩
        have hmq3 : o3.is 0 0 .u32 Q := by unfold Objs.is; rw [hfr 0 0 (by omega)]; exact hmq
        rw [hvl] at c3 hc
        rcases hc with ⟨rfl, hc⟩ | ⟨rfl, hc⟩
        · have hgq := hqg' (by omega)
          subst hgq
          (repeat' first | refine st ?_ | refine s2 (fun _ => ?_) (fun _ => ?_) | refine s4 fun _ _ _ _ => ?_ | fail)
          rename_i o4 hm4 ho4 hn4
          have hm5 : o4.is 100 0 .u32 U1 := by unfold Objs.is; rw [ho4 100 0 (by omega)]; exact hm1
          obtain ⟨X, Y, x1, x2, x3, x4, x5, x6, x7⟩ := fin U1 o4 c1 c2 c3 hc hm5 hm4
          exact ⟨j, by omega, ⟨by omega, X, Y, x1, x2, x3, x4, x5, x6, x7, rfl, rfl, rfl, rfl, rfl, rfl, rfl, rfl⟩, rfl⟩
        · have hU1 := vd_lt c2 j (n + 1)
          have hgq := hqg2 (by omega)
          subst hgq
          (repeat' first | refine st ?_ | refine s2 (fun _ => ?_) (fun _ => ?_) | refine s4 fun _ _ _ _ => ?_ | fail)
          rw [show j + n + 1 - j = v.length + 1 by omega]
          refine r_callR (addBackR (v := v) c2 hvd (by omega) (by omega) hm1) rfl ?_
          rintro o4 r ⟨U2, hm4, ⟨e1, e2, e3, qq, e4⟩, hfr4, hnv4⟩
          rw [hvl] at e3 e4
          have hmq4 : o4.is 0 0 .u32 Q := by unfold Objs.is; rw [hfr4 0 0 (by omega)]; exact hmq3
          have hU2 := vd_lt e2 j (n + 1)
          have hend : vd U2 j (n + 1) + q * val v = vd U j (n + 1) := by
            have p1 := Nat.pow_succ (n := 4294967296) (m := n)
            have p2 := hvV.h.2
            have p3 := hRm (vd U j (n + 1) - q * val v) (by have := hqV.h; omega)
            have p4 := hqV.h
            rw [Nat.add_mul, Nat.one_mul] at hc
            have p5 : qq = 1 := by
              rcases Nat.lt_trichotomy qq 1 with h | h | h
              · have : qq = 0 := by omega
                subst this; omega
              · exact h
              · have := Nat.mul_le_mul_left (4294967296 ^ (n + 1)) h
                omega
            subst p5
            omega
          (repeat' first | refine st ?_ | refine s2 (fun _ => ?_) (fun _ => ?_) | refine s4 fun _ _ _ _ => ?_ | fail)
          rename_i o5 hm5 ho5 hn5
          have hm6 : o5.is 100 0 .u32 U2 := by unfold Objs.is; rw [ho5 100 0 (by omega)]; exact hm4
          rw [Nat.add_sub_cancel] at hm5
          obtain ⟨X, Y, x1, x2, x3, x4, x5, x6, x7⟩ := fin U2 o5 (by omega) e2 (fun i hi => by rw [e3 i hi, c3 i hi]) hend hm6 hm5
          exact ⟨j, by omega, ⟨by omega, X, Y, x1, x2, x3, x4, x5, x6, x7, rfl, rfl, rfl, rfl, rfl, rfl, rfl, rfl⟩, rfl⟩
  · clear hmu hmq hU0d hU0l hstart hQ0
    rintro sl o b' ⟨rfl, U, Q, hUl, hQl, hUd, hQd, he, hmu, hmq, s6, s7, s8, s10⟩
    rw [upd4 s6 s7 s8 s10]
    clear s6 s7 s8 s10
    obtain ⟨z1, z2⟩ := kn_end he.h.1 he.h.2 hU0e hve
    have hUn : val U < 4294967296 ^ n := Nat.lt_trans he.h.2 fH.h.2.2.2.1
    replace hUn : Hd _ := ⟨hUn⟩
    (repeat' first | refine st ?_ | refine s2 (fun _ => ?_) (fun _ => ?_) | refine s4 fun _ _ _ _ => ?_ | fail)
    rename_i o1 hmr hor hnr
    have hne1 : ∀ i v, i ≠ 1 → o1.m i v = o.m i v := fun i v h => hor i v (by omega)
    have hmu1 : o1.is 100 0 .u32 U := by unfold Objs.is; rw [hne1 _ _ (by omega)]; exact hmu
    have hmq1 : o1.is 0 0 .u32 Q := by unfold Objs.is; rw [hne1 _ _ (by omega)]; exact hmq
    generalize hver : o.nv (0 + 1) = ver at *
    refine w_loopUp (fun i sl o => i ≤ n ∧ ∃ X, X.length = n ∧ Dg X ∧ Hd (vt X i = val U / 2 ^ s % 4294967296 ^ i) ∧ o.is 1 ver .u32 X ∧ o.is 100 0 .u32 U ∧ o.is 0 0 .u32 Q ∧
      sl 7 = vn .u64 s ∧ sl 8 = .s (.c (.rs 100 0 1 0 (a.length + 1))) ∧ sl 10 = .s (.c (.rs 0 0 1 0 (a.length - n + 1))) ∧ sl 17 = .s (.c (.rs 1 ver 1 0 n)) ∧ sl 144 = vn .i64 n ∧ sl 145 = vn .i64 i) 0 n
      ⟨by omega, _, List.length_replicate, Dg.replicate _, ⟨by rw [vt_zero, Nat.pow_zero, Nat.mod_one]⟩, hmr, hmu1, hmq1, rfl, rfl, rfl, rfl, rfl, rfl⟩ (fun i sl o h => h.1) ?_
    clear hmr hor hnr hne1 hmu1 hmq1 hmu hmq
    rintro i sl o ⟨hi, X, hX, hXd, hv, hmr, hmu, hmq, s7, s8, s10, s17, s144, s145⟩
    rw [upd6 s7 s8 s10 s17 s144 s145]
    clear s7 s8 s10 s17 s144 s145
    have u0 := hUd i
    have u1 := hUd (i + 1)
    have hO := or_two u1 u0
    have hms : min s IntKind.u64.bits = s := by show min s 64 = s; omega
    by_cases hin : i < n
    · (repeat' first | refine st ?_ | refine s2 (fun _ => ?_) (fun _ => ?_) | refine s4 fun _ _ _ _ => ?_ | fail)
      rename_i o' hm' ho' hn'
      rw [hO, hms] at hm'
      refine ⟨⟨by omega, _, by rw [List.length_set, hX], hXd.set (Nat.mod_lt _ (by omega)), ⟨?_⟩, hm', ?_, ?_, rfl, rfl, rfl, rfl, rfl, rfl⟩, rfl⟩
      · rw [vt_set_succ (by omega), hv.h, Nat.mod_pow_succ, unshift_digit hUd f2]
      · unfold Objs.is; rw [ho' _ _ (by omega)]; exact hmu
      · unfold Objs.is; rw [ho' _ _ (by omega)]; exact hmq
    · have : i = n := by omega
      subst this
      have hr : val X = val a % val b := by
        have h1 := hv.h
        rw [vt_ge (by omega)] at h1
        have h2 : val U / 2 ^ s ≤ val U := Nat.div_le_self _ _
        rw [h1, Nat.mod_eq_of_lt (Nat.lt_of_le_of_lt h2 hUn.h), z2]
      rw [← hQl]
      (repeat' first | refine st ?_ | refine s2 (fun _ => ?_) (fun _ => ?_) | refine s4 fun _ _ _ _ => ?_ | fail)
      refine r_callR (trimR_ok hQd (by omega) hmq) rfl ?_
      rintro o' r ⟨rfl, n1, hn1, rfl, ht1⟩
      (repeat' first | refine st ?_ | refine s2 (fun _ => ?_) (fun _ => ?_) | refine s4 fun _ _ _ _ => ?_ | fail)
      rw [← hX]
      refine r_callR (trimR_ok hXd (by omega) hmr) rfl ?_
      rintro o' r ⟨rfl, n2, hn2, rfl, ht2⟩
      (repeat' first | refine st ?_ | refine s2 (fun _ => ?_) (fun _ => ?_) | refine s4 fun _ _ _ _ => ?_ | fail)
      refine ends2 rfl rfl (purK hmq hn1) (purK hmr hn2) ?_
      rw [ht1, ht2, z1, hr]
end Go.Av
namespace Go.Av
open Go
variable {ext : Calls0}

theorem ofN_len1 {n : Nat} (h : (ofN n).length = 1) : ofN n = [n] ∧ 0 < n ∧ n < 4294967296 := by
  have h1 : n ≠ 0 := by intro e; subst e; simp [ofN_zero] at h
  have h2 := ofN_len_lt n
  rw [h] at h2
  have h3 : n < 4294967296 := by simpa using h2
  exact ⟨by rw [ofN_pos (by omega), Nat.mod_eq_of_lt h3, Nat.div_eq_of_lt h3]; rfl, by omega, h3⟩

theorem divMod_ok {a b : List Nat} (ha : Dg a) (hb : Dg b) (la : Sh a) (lb : Sh b) (hb0 : 0 < val b) :
    PCall env ext 27 [pN a, pN b] (.tup [pN (ofN (val a / val b)), pN (ofN (val a % val b)), .c (.bool true)]) := by
  by_cases hb1 : val b < 4294967296
  · exact divMod1_ok ha hb la lb hb0 hb1
  have h2 := ofN_len_le_of ha
  have h3 := ofN_len_le_of hb
  have v1 := val_ofN (val a)
  have v2 := val_ofN (val b)
  have d1 := Dg.ofN (val a)
  have d2 := Dg.ofN (val b)
  have h4 : 1 < (ofN (val b)).length := ofN_len_gt (by simpa using hb1)
  refine PCall.walk (env := env) (g := 27) rfl rfl ?_
  (repeat' first | refine st ?_ | refine s2 (fun _ => ?_) (fun _ => ?_) | refine s4 fun _ _ _ _ => ?_ | fail)
  refine r_call1 (trim_ok ha la) rfl rfl ?_
  (repeat' first | refine st ?_ | refine s2 (fun _ => ?_) (fun _ => ?_) | refine s4 fun _ _ _ _ => ?_ | fail)
  refine r_call1 (trim_ok hb lb) rfl rfl ?_
  (repeat' first | refine st ?_ | refine s2 (fun _ => ?_) (fun _ => ?_) | refine s4 fun _ _ _ _ => ?_ | fail)
  refine r_call1 (cmp_ok d1 d2 (by omega) (by omega)) rfl rfl ?_
  rw [v1, v2]
  by_cases hlt : val a < val b
  · have hc : cmpI (val a) (val b) < 0 := by unfold cmpI; omega
    (repeat' first | refine st ?_ | refine s2 (fun _ => ?_) (fun _ => ?_) | refine s4 fun _ _ _ _ => ?_ | fail)
    refine r_call1 (clone_ok d1 (by omega)) rfl rfl ?_
    (repeat' first | refine st ?_ | refine s2 (fun _ => ?_) (fun _ => ?_) | refine s4 fun _ _ _ _ => ?_ | fail)
    refine ends3 rfl rfl rfl rfl rfl rfl ?_
    rw [v1, Nat.div_eq_of_lt hlt, Nat.mod_eq_of_lt hlt]; rfl
  · have hc : 0 ≤ cmpI (val a) (val b) := by unfold cmpI; omega
    have hab := ofN_len_mono (show val b ≤ val a by omega)
    (repeat' first | refine st ?_ | refine s2 (fun _ => ?_) (fun _ => ?_) | refine s4 fun _ _ _ _ => ?_ | fail)
    refine r_call2 (divLong_ok d1 d2 (by omega) (by omega) (Canon.ofN _) (by omega) hab) rfl rfl ?_
    rw [v1, v2]
    (repeat' first | refine st ?_ | refine s2 (fun _ => ?_) (fun _ => ?_) | refine s4 fun _ _ _ _ => ?_ | fail)
    exact ends3 rfl rfl rfl rfl rfl rfl rfl
theorem divMod0_ok {a b : List Nat} (ha : Dg a) (hb : Dg b) (la : Sh a) (lb : Sh b) (hb0 : val b = 0) :
    PCall env ext 27 [pN a, pN b] (.tup [pN [], pN [], .c (.bool false)]) := by
  refine PCall.walk (env := env) (g := 27) rfl rfl ?_
  (repeat' first | refine st ?_ | refine s2 (fun _ => ?_) (fun _ => ?_) | refine s4 fun _ _ _ _ => ?_ | fail)
  refine r_call1 (trim_ok ha la) rfl rfl ?_
  (repeat' first | refine st ?_ | refine s2 (fun _ => ?_) (fun _ => ?_) | refine s4 fun _ _ _ _ => ?_ | fail)
  refine r_call1 (trim_ok hb lb) rfl rfl ?_
  rw [hb0, ofN_zero]
  (repeat' first | refine st ?_ | refine s2 (fun _ => ?_) (fun _ => ?_) | refine s4 fun _ _ _ _ => ?_ | fail)
  exact ends3 rfl rfl rfl rfl rfl rfl rfl

theorem gcdAll_ok {a b : List Nat} (ha : Dg a) (hb : Dg b) (la : Sh a) (lb : Sh b) : PCall env ext 28 [pN a, pN b] (.s (pN (ofN (Nat.gcd (val a) (val b))))) := by
  have l1 := ofN_len_le_of ha
  have l2 := ofN_len_le_of hb
  refine PCall.walk (env := env) (g := 28) rfl rfl ?_
  (repeat' first | refine st ?_ | refine s2 (fun _ => ?_) (fun _ => ?_) | refine s4 fun _ _ _ _ => ?_ | fail)
  refine r_call1 (clone_ok ha la) rfl rfl ?_
  (repeat' first | refine st ?_ | refine s2 (fun _ => ?_) (fun _ => ?_) | refine s4 fun _ _ _ _ => ?_ | fail)
  refine r_call1 (clone_ok hb lb) rfl rfl ?_
  (repeat' first | refine st ?_ | refine s2 (fun _ => ?_) (fun _ => ?_) | refine s4 fun _ _ _ _ => ?_ | fail)
  refine w_loopS (fun k sl o => ∃ x, (ofN x).length < 1099511627776 ∧ (ofN k).length < 1099511627776 ∧ Nat.gcd x k = Nat.gcd (val a) (val b) ∧ sl 0 = vk .u32 (ofN x) ∧ sl 1 = vk .u32 (ofN k)) (val b) ⟨val a, by omega, by omega, rfl, rfl, rfl⟩ ?_
  rintro k sl o ⟨x, hx, hk, hg, s0, s1⟩
  rw [upd2 s0 s1]
  clear s0 s1
  by_cases h0 : k = 0
  · subst h0
    rw [ofN_zero]
    (repeat' first | refine st ?_ | refine s2 (fun _ => ?_) (fun _ => ?_) | refine s4 fun _ _ _ _ => ?_ | fail)
    refine ends1 rfl rfl ?_
    rw [← hg, Nat.gcd_zero_right]
  · have h3 : 0 < (ofN k).length := by
      apply Nat.pos_of_ne_zero
      intro h; exact h0 (ofN_eq_nil.1 (List.eq_nil_of_length_eq_zero h))
    have small : (ofN x).length ≤ 2 → (ofN k).length ≤ 2 → PCall env ext 20 [pN (ofN x), pN (ofN k)] (.s (pN (ofN (Nat.gcd x k)))) := by
      intro hx2 hk2
      have p1 : 4294967296 ^ (ofN x).length ≤ 4294967296 ^ 2 := Nat.pow_le_pow_right (by omega) hx2
      have p2 : 4294967296 ^ (ofN k).length ≤ 4294967296 ^ 2 := Nat.pow_le_pow_right (by omega) hk2
      have p3 := ofN_len_lt x
      have p4 := ofN_len_lt k
      exact gcdSmall_ok (by omega) (by omega)
    have big := divMod_ok (ext := ext) (Dg.ofN x) (Dg.ofN k) hx hk (by rw [val_ofN]; omega)
    rw [val_ofN, val_ofN] at big
    have hm := Nat.mod_lt x (Nat.pos_of_ne_zero h0)
    have hml := ofN_len_mono (Nat.le_of_lt hm)
    have nxt : Nat.gcd k (x % k) = Nat.gcd (val a) (val b) := by rw [← hg, Nat.gcd_comm k, ← Nat.gcd_rec, Nat.gcd_comm]
    replace hm : Hd _ := ⟨hm⟩
    (repeat' first | refine st ?_ | refine s2 (fun _ => ?_) (fun _ => ?_) | refine s4 fun _ _ _ _ => ?_ | fail)
    · rename_i h5 h6
      refine r_call1 (small (by omega) (by omega)) rfl rfl ?_
      (repeat' first | refine st ?_ | refine s2 (fun _ => ?_) (fun _ => ?_) | refine s4 fun _ _ _ _ => ?_ | fail)
      refine ends1 rfl rfl ?_
      rw [hg]
    · rename_i h5 h6
      refine r_call3 big rfl rfl ?_
      (repeat' first | refine st ?_ | refine s2 (fun _ => ?_) (fun _ => ?_) | refine s4 fun _ _ _ _ => ?_ | fail)
      exact ⟨x % k, hm.h, ⟨k, hk, by omega, nxt, rfl, rfl⟩, rfl⟩
    · rename_i h5
      refine r_call3 big rfl rfl ?_
      (repeat' first | refine st ?_ | refine s2 (fun _ => ?_) (fun _ => ?_) | refine s4 fun _ _ _ _ => ?_ | fail)
      exact ⟨x % k, hm.h, ⟨k, hk, by omega, nxt, rfl, rfl⟩, rfl⟩
end Go.Av
