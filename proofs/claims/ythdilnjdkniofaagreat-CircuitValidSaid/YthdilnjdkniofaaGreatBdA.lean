/- A part of the proof (own method: an abstract machine). No condition. -/
import Derived.Test.YthdilnjdkniofaaGreatBnF
namespace Go.Av
open Go
variable {ext : Calls0}

theorem leadingZeros_ok {n : Nat} (h : n < 4294967296) : PCall env ext 22 [.c (.int .u32 (n : Int))] (.s (.c (.int .i64 ((32 - bl n : Nat) : Int)))) := by
  have hb : bl n ≤ 32 := by
    by_cases h0 : n = 0
    · subst h0; decide
    · have h5 := bl_le h0
      have : 2 ^ (bl n - 1) < 2 ^ 32 := by omega
      have := (Nat.pow_lt_pow_iff_right (by omega : 1 < 2)).1 this
      omega
  refine PCall.walk (env := env) (g := 22) rfl rfl ?_
  (repeat' first | refine st ?_ | refine s2 (fun _ => ?_) (fun _ => ?_) | refine s4 fun _ _ _ _ => ?_ | fail)
  refine r_call1 (len32_ok h) rfl rfl ?_
  (repeat' first | refine st ?_ | refine s2 (fun _ => ?_) (fun _ => ?_) | refine s4 fun _ _ _ _ => ?_ | fail)
  exact ends1 rfl rfl rfl

theorem shl_step {x c s : Nat} (hs : s < 32) (hx : x < 4294967296) (hc : c < 2 ^ s) : c ||| x * 2 ^ s % 18446744073709551616 = c + x * 2 ^ s ∧ c + x * 2 ^ s < 18446744073709551616 ∧ (c + x * 2 ^ s) / 4294967296 < 2 ^ s := by
  have hp : 2 ^ s ≤ 2 ^ 31 := Nat.pow_le_pow_right (by omega) (by omega)
  have h1 : (x + 1) * 2 ^ s ≤ 4294967296 * 2 ^ s := Nat.mul_le_mul_right _ hx
  have h2 : c + x * 2 ^ s < 4294967296 * 2 ^ s := by rw [Nat.add_mul] at h1; omega
  refine ⟨?_, by omega, ?_⟩
  · rw [Nat.mod_eq_of_lt (by omega), or_hi hc]
  · rw [Nat.div_lt_iff_lt_mul (by omega), Nat.mul_comm (2 ^ s)]; exact h2

/-- The digits of a number, shifted left, as an object. -/
theorem shiftLeftR {a : List Nat} {s n : Nat} {o : Objs} {base : Nat} (ha : Dg a) (la : Sh a) (hs : s < 32) (hn : a.length ≤ n) (hn2 : n < 35184372088832) :
    ∃ o' r, Call env ext 23 base o [.c (.p (.sl (encK .u32 a))), .c (.p (.int .u64 (s : Nat))), .c (.p (.int .i64 (n : Nat)))] o' r ∧
      ∃ xs c, o'.is (base + 0) (o.nv (base + 0)) .u32 xs ∧ xs.length = n ∧ Dg xs ∧ c < 2 ^ s ∧ val xs + 4294967296 ^ n * c = val a * 2 ^ s ∧ r = .s (.c (.rs (base + 0) (o.nv (base + 0)) 1 0 n)) ∧
        (∀ o2 v2, ¬ (o2 = base + 0 ∧ v2 = o.nv (base + 0)) → o'.m o2 v2 = o.m o2 v2) ∧ (∀ o2, o'.nv o2 = if o2 = base + 0 then o.nv (base + 0) + 1 else o.nv o2) := by
  refine Call.walk (env := env) (g := 23) rfl rfl ?_
  (repeat' first | refine st ?_ | refine s2 (fun _ => ?_) (fun _ => ?_) | refine s4 fun _ _ _ _ => ?_ | fail)
  rename_i o1 hm hoth hnv
  generalize hB : base + 0 = B at *
  refine w_loopUp (fun i sl o2 => i ≤ n ∧ ∃ xs c, xs.length = n ∧ Dg xs ∧ c < 2 ^ s ∧ Hd (vt xs i + 4294967296 ^ i * c = vt a i * 2 ^ s) ∧ o2.is B (o.nv B) .u32 xs ∧ (∀ i v, ¬ (i = B ∧ v = o.nv B) → o2.m i v = o.m i v) ∧
      (∀ i, o2.nv i = if i = B then o.nv B + 1 else o.nv i) ∧
      sl 0 = vk .u32 a ∧ sl 1 = vn .u64 s ∧ sl 7 = .s (.c (.rs B (o.nv B) 1 0 n)) ∧ sl 8 = vn .u64 c ∧ sl 13 = vn .i64 n ∧ sl 14 = vn .i64 i) 0 n
      ⟨by omega, _, 0, List.length_replicate, Dg.replicate _, Nat.pow_pos (by omega), ⟨by simp [vt_zero]⟩, hm, hoth, hnv, rfl, rfl, rfl, rfl, rfl, rfl⟩ (fun i sl o h => h.1) ?_
  clear hm
  rintro i sl o2 ⟨hi, xs, c, hx, hd, hc, he, hm, hoth2, hnv2, s0, s1, s7, s8, s13, s14⟩
  rw [upd6 s0 s1 s7 s8 s13 s14]
  clear s0 s1 s7 s8 s13 s14
  have a1 := ha i
  obtain ⟨k1, k2, k3⟩ := shl_step hs a1 hc
  have hp : 2 ^ s ≤ 2147483648 := by
    have : 2 ^ s ≤ 2 ^ 31 := Nat.pow_le_pow_right (by omega) (by omega)
    simpa using this
  have hms : min s 64 = s := by omega
  have key : ∀ t : Nat, t = c + a.getD i 0 * 2 ^ s → vt (xs.set i (t % 4294967296)) (i + 1) + 4294967296 ^ (i + 1) * (t / 4294967296) = vt a (i + 1) * 2 ^ s ∨ n ≤ i := by
    intro t ht
    by_cases hin : n ≤ i
    · exact .inr hin
    · left
      have he := he.h
      have e3 := Nat.mod_add_div t 4294967296
      rw [vt_succ a, vt_set_succ (by omega)]
      grind
  have hcs : c < 18446744073709551616 := by omega
  by_cases hia : i < a.length
  · have k4 := k1
    rw [← hms] at k4
    replace k3 : Hd _ := ⟨k3⟩
    clear k1
    have k5 : c ||| a.getD i 0 * 2 ^ min s 64 % 18446744073709551616 < 18446744073709551616 := by rw [k4, hms]; exact k2
    clear k2 hc
    (repeat' first | refine st ?_ | refine s2 (fun _ => ?_) (fun _ => ?_) | refine s4 fun _ _ _ _ => ?_ | fail)
    rename_i o' hm' ho' hn'
    rw [k4, hms] at hm'
    have kk := (key _ rfl).resolve_right (by omega)
    refine ⟨⟨by omega, _, (c + a.getD i 0 * 2 ^ s) / 4294967296, ?_, hd.set (by omega), k3.h, ⟨kk⟩, hm', fun i v h => by rw [ho' i v h, hoth2 i v h], fun i => by rw [hn', hnv2], rfl, rfl, rfl, ?_, rfl, rfl⟩, rfl⟩
    · rw [List.length_set, hx]
    · show vn .u64 _ = vn .u64 _
      rw [k4, hms]
  · have hz : a.getD i 0 = 0 := getD_lt hia
    have kk := key c (by rw [hz, Nat.zero_mul, Nat.add_zero])
    rw [hz, Nat.zero_mul, Nat.add_zero] at k3
    replace kk : Hd _ := ⟨kk⟩
    replace k3 : Hd _ := ⟨k3⟩
    clear key k1 k2
    (repeat' first | refine st ?_ | refine s2 (fun _ => ?_) (fun _ => ?_) | refine s4 fun _ _ _ _ => ?_ | fail)
    · rename_i h4 o' hm' ho' hn'
      refine ⟨⟨by omega, _, c / 4294967296, ?_, hd.set (by omega), k3.h, ⟨kk.h.resolve_right (by omega)⟩, hm', fun i v h => by rw [ho' i v h, hoth2 i v h], fun i => by rw [hn', hnv2], rfl, rfl, rfl, rfl, rfl, rfl⟩, rfl⟩
      rw [List.length_set, hx]
    · rename_i h4
      have : i = n := by omega
      subst this
      have he := he.h
      rw [vt_ge (by omega), vt_ge (l := a) (by omega)] at he
      exact endsR1 rfl ⟨xs, c, hm, hx, hd, hc, he, rfl, hoth2, hnv2⟩
end Go.Av
namespace Go.Av
open Go
variable {ext : Calls0}

theorem sbs_bound {k d bw : Nat} (hk : k < 4294967296) (hd : d < 4294967296) (hb : bw < 4294967296) : k * d + bw ≤ 18446744069414584320 := by
  have : k * d ≤ 4294967295 * 4294967295 := Nat.mul_le_mul (by omega) (by omega)
  omega
theorem sbs_lt {p u : Nat} (hp : p ≤ 18446744069414584320) (hu : u < 4294967296) (h : u < p % 4294967296) :
    (u + 4294967296 - p % 4294967296) % 4294967296 + p = u + 4294967296 * (p / 4294967296 + 1) ∧ p / 4294967296 + 1 < 4294967296 := by omega
theorem sbs_ge {p u : Nat} (hp : p ≤ 18446744069414584320) (hu : u < 4294967296) (h : p % 4294967296 ≤ u) :
    (u + 4294967296 - p % 4294967296) % 4294967296 + p = u + 4294967296 * (p / 4294967296) ∧ p / 4294967296 < 4294967296 := by omega

/-- What subtractScaled does to the digits from j on. -/
def SubSc (U U' v : List Nat) (j k : Nat) (neg : Bool) : Prop :=
  U'.length = U.length ∧ Dg U' ∧ (∀ i, i < j ∨ j + v.length + 1 ≤ i → U'.getD i 0 = U.getD i 0) ∧
    ((neg = false ∧ vd U' j (v.length + 1) + k * val v = vd U j (v.length + 1)) ∨ (neg = true ∧ vd U' j (v.length + 1) + k * val v = vd U j (v.length + 1) + 4294967296 ^ (v.length + 1)))

theorem subtractScaledR {U v : List Nat} {id ver j k : Nat} {o : Objs} {base : Nat} (hU : Dg U) (hv : Dg v) (lU : U.length < 35184372088832) (hk : k < 4294967296) (hj : j + v.length + 1 ≤ U.length) (hm : o.is id ver .u32 U) :
    ∃ o' r, Call env ext 24 base o [.c (.rs id ver 1 j (v.length + 1)), .c (.p (.sl (encK .u32 v))), .c (.p (.int .u64 (k : Nat)))] o' r ∧
      ∃ U' neg, o'.is id ver .u32 U' ∧ r = vb neg ∧ SubSc U U' v j k neg ∧ (∀ i v, ¬ (i = id ∧ v = ver) → o'.m i v = o.m i v) ∧ o'.nv = o.nv := by
  refine Call.walk (env := env) (g := 24) rfl rfl ?_
  (repeat' first | refine st ?_ | refine s2 (fun _ => ?_) (fun _ => ?_) | refine s4 fun _ _ _ _ => ?_ | fail)
  refine w_loopUp (fun i sl o2 => i ≤ v.length ∧ ∃ X bw, X.length = U.length ∧ Dg X ∧ bw < 4294967296 ∧ Hd (vd X j i + k * vt v i = vd U j i + 4294967296 ^ i * bw) ∧ (∀ t, t < j ∨ j + i ≤ t → X.getD t 0 = U.getD t 0) ∧
      o2.is id ver .u32 X ∧ (∀ i v, ¬ (i = id ∧ v = ver) → o2.m i v = o.m i v) ∧ o2.nv = o.nv ∧
      sl 0 = .s (.c (.rs id ver 1 j (v.length + 1))) ∧ sl 2 = vn .u64 k ∧ sl 7 = vn .u64 bw ∧ sl 14 = vk .u32 v ∧ sl 15 = vn .i64 v.length ∧ sl 16 = vn .i64 i) 0 v.length
      ⟨by omega, U, 0, rfl, hU, by omega, ⟨by simp [vt_zero, vd_zero]⟩, fun _ _ => rfl, hm, fun _ _ _ => rfl, rfl, rfl, rfl, rfl, rfl, rfl, rfl⟩ (fun i sl o h => h.1) ?_
  clear hm
  rintro i sl o2 ⟨hi, X, bw, hX, hd, hbw, he, hoth, hm, hfr, hnv, s0, s2, s7, s14, s15, s16⟩
  rw [upd6 s0 s2 s7 s14 s15 s16]
  clear s0 s2 s7 s14 s15 s16
  have a1 := hv i
  have a2 := hd (j + i)
  have hp := sbs_bound hk a1 hbw
  have hkd : k * v.getD i 0 < 18446744073709551616 := by omega
  have fin : ∀ x bw', x < 4294967296 → x + (k * v.getD i 0 + bw) = X.getD (j + i) 0 + 4294967296 * bw' → i < v.length →
      vd (X.set (j + i) x) j (i + 1) + k * vt v (i + 1) = vd U j (i + 1) + 4294967296 ^ (i + 1) * bw' ∧ ∀ t, t < j ∨ j + (i + 1) ≤ t → (X.set (j + i) x).getD t 0 = U.getD t 0 := by
    intro x bw' hx hxe hin
    have he := he.h
    have e1 := hoth (j + i) (.inr (Nat.le_refl _))
    refine ⟨?_, fun t ht => ?_⟩
    · rw [vd_set_succ (by omega), vt_succ, vd_succ, ← e1]
      clear hkd hp hm hfr hnv hoth e1
      revert he hxe
      rw [Nat.pow_succ]
      generalize vd X j i = A
      generalize vt v i = B
      generalize vd U j i = C
      generalize 4294967296 ^ i = P
      generalize X.getD (j + i) 0 = u
      generalize v.getD i 0 = d
      intro he hxe
      grind
    · rw [getD_set (by omega), if_neg (by omega)]
      exact hoth t (by omega)
  have last : ∀ y, y < 4294967296 → i = v.length → ((bw ≤ X.getD (j + v.length) 0 ∧ y = X.getD (j + v.length) 0 - bw → SubSc U (X.set (j + v.length) y) v j k false) ∧
      (X.getD (j + v.length) 0 < bw ∧ y + bw = X.getD (j + v.length) 0 + 4294967296 → SubSc U (X.set (j + v.length) y) v j k true)) := by
    intro y hy hiv
    subst hiv
    have he := he.h
    rw [vt_len] at he
    have e1 := hoth (j + v.length) (.inr (Nat.le_refl _))
    have c1 : (X.set (j + v.length) y).length = U.length := by rw [List.length_set, hX]
    have c2 : ∀ t, t < j ∨ j + v.length + 1 ≤ t → (X.set (j + v.length) y).getD t 0 = U.getD t 0 := by
      intro t ht
      rw [getD_set (by omega), if_neg (by omega)]
      exact hoth t (by omega)
    have c3 := vd_set_succ (l := X) (j := j) (k := v.length) (v := y) (by omega)
    have c4 := vd_succ U j v.length
    rw [← e1] at c4
    have c5 : 4294967296 ^ (v.length + 1) = 4294967296 ^ v.length * 4294967296 := Nat.pow_succ _ _
    refine ⟨fun h => ⟨c1, hd.set hy, c2, .inl ⟨rfl, ?_⟩⟩, fun h => ⟨c1, hd.set hy, c2, .inr ⟨rfl, ?_⟩⟩⟩
    · rw [c3, c4]
      obtain ⟨h1, h2⟩ := h
      have h3 : X.getD (j + v.length) 0 = y + bw := by omega
      rw [h3]
      revert he
      generalize 4294967296 ^ v.length = P
      clear c3 c4 c5 c2 hoth
      intro he
      grind
    · rw [c3, c4, c5]
      obtain ⟨h1, h2⟩ := h
      revert he h2
      generalize 4294967296 ^ v.length = P
      generalize X.getD (j + v.length) 0 = u
      clear c3 c4 c5 c2 hoth
      intro he h2
      grind
  clear he
  (repeat' first | refine st ?_ | refine s2 (fun _ => ?_) (fun _ => ?_) | refine s4 fun _ _ _ _ => ?_ | fail)
  · rename_i h4 h5 o' hm' ho' hn'
    obtain ⟨q1, q2⟩ := sbs_lt hp a2 (by omega)
    obtain ⟨f1, f2⟩ := fin _ _ (by omega) q1 (by omega)
    exact ⟨⟨by omega, _, _, by rw [List.length_set, hX], hd.set (by omega), q2, ⟨f1⟩, f2, hm', fun i v h => by rw [ho' i v h, hfr i v h], by rw [hn', hnv], rfl, rfl, rfl, rfl, rfl, rfl⟩, rfl⟩
  · rename_i h4 h5 o' hm' ho' hn'
    obtain ⟨q1, q2⟩ := sbs_ge hp a2 (by omega)
    obtain ⟨f1, f2⟩ := fin _ _ (by omega) q1 (by omega)
    exact ⟨⟨by omega, _, _, by rw [List.length_set, hX], hd.set (by omega), q2, ⟨f1⟩, f2, hm', fun i v h => by rw [ho' i v h, hfr i v h], by rw [hn', hnv], rfl, rfl, rfl, rfl, rfl, rfl⟩, rfl⟩
  · rename_i h4 h5 o' hm' ho' hn'
    have a3 := hd (j + v.length)
    rw [Nat.add_sub_cancel] at h5 hm'
    exact endsR1 rfl ⟨_, true, hm', rfl, (last _ (by omega) (by omega)).2 ⟨by omega, by omega⟩, fun i v h => by rw [ho' i v h, hfr i v h], by rw [hn', hnv]⟩
  · rename_i h4 h5 o' hm' ho' hn'
    have a3 := hd (j + v.length)
    rw [Nat.add_sub_cancel] at h5 hm'
    exact endsR1 rfl ⟨_, false, hm', rfl, (last _ (by omega) (by omega)).1 ⟨by omega, by omega⟩, fun i v h => by rw [ho' i v h, hfr i v h], by rw [hn', hnv]⟩
end Go.Av
namespace Go.Av
open Go
variable {ext : Calls0}

theorem endsR0 {s : St} {P : Objs → AV → Prop} (hp : P s.objs (.tup [])) : EndsR [] P .normal s := ⟨.inl rfl, .tup [], rfl, hp⟩

/-- What addBack does to the digits from j on. -/
def AddB (U U' v : List Nat) (j : Nat) : Prop :=
  U'.length = U.length ∧ Dg U' ∧ (∀ i, i < j ∨ j + v.length + 1 ≤ i → U'.getD i 0 = U.getD i 0) ∧ ∃ q, vd U' j (v.length + 1) + 4294967296 ^ (v.length + 1) * q = vd U j (v.length + 1) + val v

theorem addBackR {U v : List Nat} {id ver j : Nat} {o : Objs} {base : Nat} (hU : Dg U) (hv : Dg v) (lU : U.length < 35184372088832) (hj : j + v.length + 1 ≤ U.length) (hm : o.is id ver .u32 U) :
    ∃ o' r, Call env ext 25 base o [.c (.rs id ver 1 j (v.length + 1)), .c (.p (.sl (encK .u32 v)))] o' r ∧
      ∃ U', o'.is id ver .u32 U' ∧ AddB U U' v j ∧ (∀ i v, ¬ (i = id ∧ v = ver) → o'.m i v = o.m i v) ∧ o'.nv = o.nv := by
  refine Call.walk (env := env) (g := 25) (P := fun o' _ => ∃ U', o'.is id ver .u32 U' ∧ AddB U U' v j ∧ (∀ i v, ¬ (i = id ∧ v = ver) → o'.m i v = o.m i v) ∧ o'.nv = o.nv) rfl rfl ?_
  (repeat' first | refine st ?_ | refine s2 (fun _ => ?_) (fun _ => ?_) | refine s4 fun _ _ _ _ => ?_ | fail)
  refine w_loopUp (fun i sl o2 => i ≤ v.length ∧ ∃ X c, X.length = U.length ∧ Dg X ∧ c ≤ 1 ∧ Hd (vd X j i + 4294967296 ^ i * c = vd U j i + vt v i) ∧ (∀ t, t < j ∨ j + i ≤ t → X.getD t 0 = U.getD t 0) ∧
      o2.is id ver .u32 X ∧ (∀ i v, ¬ (i = id ∧ v = ver) → o2.m i v = o.m i v) ∧ o2.nv = o.nv ∧
      sl 0 = .s (.c (.rs id ver 1 j (v.length + 1))) ∧ sl 4 = vn .u64 c ∧ sl 7 = vk .u32 v ∧ sl 8 = vn .i64 v.length ∧ sl 9 = vn .i64 i) 0 v.length
      ⟨by omega, U, 0, rfl, hU, by omega, ⟨by simp [vt_zero, vd_zero]⟩, fun _ _ => rfl, hm, fun _ _ _ => rfl, rfl, rfl, rfl, rfl, rfl, rfl⟩ (fun i sl o h => h.1) ?_
  clear hm
  rintro i sl o2 ⟨hi, X, c, hX, hd, hc, he, hoth, hm, hfr, hnv, s0, s4, s7, s8, s9⟩
  rw [upd5 s0 s4 s7 s8 s9]
  clear s0 s4 s7 s8 s9
  have a1 := hv i
  have a2 := hd (j + i)
  (repeat' first | refine st ?_ | refine s2 (fun _ => ?_) (fun _ => ?_) | refine s4 fun _ _ _ _ => ?_ | fail)
  · rename_i h4 o' hm' ho' hn'
    refine ⟨⟨by omega, _, _, by rw [List.length_set, hX], hd.set (by omega), ?_, ⟨?_⟩, fun t ht => ?_, hm', fun i v h => by rw [ho' i v h, hfr i v h], by rw [hn', hnv], rfl, rfl, rfl, rfl, rfl⟩, rfl⟩
    · omega
    · have he := he.h
      have e1 := hoth (j + i) (.inr (Nat.le_refl _))
      have e3 := Nat.mod_add_div (c + (X.getD (j + i) 0 + v.getD i 0)) 4294967296
      rw [vd_set_succ (by omega), vt_succ, vd_succ, ← e1]
      clear hoth hm hm' hfr ho'
      grind
    · rw [getD_set (by omega), if_neg (by omega)]
      exact hoth t (by omega)
  · rename_i h4 o' hm' ho' hn'
    have hiv : i = v.length := by omega
    subst hiv
    rw [Nat.add_sub_cancel] at hm'
    have he := he.h
    rw [vt_len] at he
    have e1 := hoth (j + v.length) (.inr (Nat.le_refl _))
    refine endsR0 ⟨_, hm', ⟨by rw [List.length_set, hX], hd.set (by omega), fun t ht => ?_, (X.getD (j + v.length) 0 + c % 4294967296) / 4294967296, ?_⟩, fun i v h => by rw [ho' i v h, hfr i v h], by rw [hn', hnv]⟩
    · rw [getD_set (by omega), if_neg (by omega)]
      exact hoth t (by omega)
    · have e3 := Nat.mod_add_div (X.getD (j + v.length) 0 + c % 4294967296) 4294967296
      have e4 : c % 4294967296 = c := by omega
      rw [vd_set_succ (by omega), vd_succ, ← e1]
      rw [e4] at e3 ⊢
      clear hoth hm hm' hfr ho' e4
      grind
end Go.Av
