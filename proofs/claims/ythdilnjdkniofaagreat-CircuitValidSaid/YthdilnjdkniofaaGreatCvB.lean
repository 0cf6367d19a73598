/- A part of the proof (own method: an abstract machine). No condition. -/
import Derived.Test.YthdilnjdkniofaaGreatCvA
import Derived.Test.YthdilnjdkniofaaGreatAvRul
namespace Go.Av
open Go
variable {ext : Calls0}

abbrev wd (L w : Nat) : List Nat := List.replicate L w
theorem wd_len (L w : Nat) : (wd L w).length = L := List.length_replicate
theorem wd1 (w : Nat) : (wd 1 w).getD 0 0 = w := rfl
abbrev pW (L w : Nat) : PSV := .c (.sl (encK .u64 (wd L w)))
/-- One word, or none (then the set is empty). -/
def Ln (L : Nat) (w : Nat) : Prop := w < 18446744073709551616 ∧ (L = 1 ∨ (L = 0 ∧ w = 0))
theorem and_zero_l (c : Nat) : 0 &&& c = 0 := Nat.zero_and c

theorem meets_ok {L a c : Nat} (ha : Ln L a) (hc : Ln L c) : PCall env ext 38 [pW L a, pW L c] (.s (.c (.bool (decide (a &&& c ≠ 0))))) := by
  obtain ⟨h1, h2⟩ := ha
  obtain ⟨h3, h4⟩ := hc
  rcases h2 with rfl | ⟨rfl, rfl⟩
  · have b1 : (wd 1 a).getD 0 0 < 18446744073709551616 := h1
    have b2 : (wd 1 c).getD 0 0 < 18446744073709551616 := h3
    refine PCall.walk (env := env) (g := 38) rfl rfl ?_
    (repeat' first | refine st ?_ | refine s2 (fun _ => ?_) (fun _ => ?_) | refine s4 fun _ _ _ _ => ?_ | fail)
    rw [wd_len]
    refine w_loopUp (fun i sl o => i ≤ 1 ∧ (i = 1 → a &&& c = 0) ∧ sl 0 = vk .u64 (wd 1 a) ∧ sl 1 = vk .u64 (wd 1 c) ∧ sl 7 = vn .i64 1 ∧ sl 8 = vn .i64 i) 0 1
      ⟨by omega, fun h => by omega, rfl, rfl, rfl, rfl⟩ (fun i sl o h => h.1) ?_
    rintro i sl o ⟨hi, hz, s0, s1, s7, s8⟩
    rw [upd4 s0 s1 s7 s8]
    clear s0 s1 s7 s8
    by_cases hin : i < 1
    · have hi0 : i = 0 := by omega
      subst hi0
      clear hz
      by_cases hac : a &&& c = 0
      · rw [decide_eq_false (fun h => h hac)]
        have e : (wd 1 a).getD 0 0 &&& (wd 1 c).getD 0 0 = 0 := hac
        (repeat' first | refine st ?_ | refine s2 (fun _ => ?_) (fun _ => ?_) | refine s4 fun _ _ _ _ => ?_ | fail)
        exact ⟨⟨by omega, fun _ => hac, rfl, rfl, rfl, rfl⟩, rfl⟩
      · rw [decide_eq_true hac]
        have e : (wd 1 a).getD 0 0 &&& (wd 1 c).getD 0 0 ≠ 0 := hac
        (repeat' first | refine st ?_ | refine s2 (fun _ => ?_) (fun _ => ?_) | refine s4 fun _ _ _ _ => ?_ | fail)
        exact ends1 rfl rfl rfl
    · have hi1 : i = 1 := by omega
      subst hi1
      rw [decide_eq_false (fun h => h (hz rfl))]
      (repeat' first | refine st ?_ | refine s2 (fun _ => ?_) (fun _ => ?_) | refine s4 fun _ _ _ _ => ?_ | fail)
      exact ends1 rfl rfl rfl
  · refine PCall.walk (env := env) (g := 38) rfl rfl ?_
    rw [decide_eq_false (fun h => h (and_zero_l c))]
    (repeat' first | refine st ?_ | refine s2 (fun _ => ?_) (fun _ => ?_) | refine s4 fun _ _ _ _ => ?_ | fail)
    rw [wd_len]
    refine w_loopUp (fun i sl o => i ≤ 0 ∧ sl 7 = vn .i64 0 ∧ sl 8 = vn .i64 i) 0 0
      ⟨by omega, rfl, rfl⟩ (fun i sl o h => h.1) ?_
    rintro i sl o ⟨hi, s7, s8⟩
    rw [upd2 s7 s8]
    clear s7 s8
    (repeat' first | refine st ?_ | refine s2 (fun _ => ?_) (fun _ => ?_) | refine s4 fun _ _ _ _ => ?_ | fail)
    exact ends1 rfl rfl rfl

theorem sadd_ok {L a c : Nat} (ha : Ln L a) (hc : Ln L c) {o : Objs} {base oi ov oj jv : Nat} (h1 : o.is oi ov .u64 (wd L a)) (h2 : o.is oj jv .u64 (wd L c)) :
    ∃ o' r, Call env ext 39 base o [.c (.rs oi ov 1 0 L), .c (.rs oj jv 1 0 L)] o' r ∧ o'.is oi ov .u64 (wd L (a ||| c)) ∧ (∀ o2 v2, ¬ (o2 = oi ∧ v2 = ov) → o'.m o2 v2 = o.m o2 v2) ∧ o'.nv = o.nv := by
  obtain ⟨h3, h4⟩ := ha
  obtain ⟨h5, h6⟩ := hc
  rcases h4 with rfl | ⟨rfl, rfl⟩
  · have b1 : (wd 1 a).getD 0 0 < 18446744073709551616 := h3
    have b2 : (wd 1 c).getD 0 0 < 18446744073709551616 := h5
    refine Call.walk (env := env) (g := 39) rfl rfl ?_
    (repeat' first | refine st ?_ | refine s2 (fun _ => ?_) (fun _ => ?_) | refine s4 fun _ _ _ _ => ?_ | fail)
    refine w_loopUp (fun i sl o' => i ≤ 1 ∧ (i = 0 → o' = o) ∧ (i = 1 → o'.is oi ov .u64 (wd 1 (a ||| c)) ∧ (∀ o2 v2, ¬ (o2 = oi ∧ v2 = ov) → o'.m o2 v2 = o.m o2 v2) ∧ o'.nv = o.nv) ∧
      sl 0 = .s (.c (.rs oi ov 1 0 1)) ∧ sl 1 = .s (.c (.rs oj jv 1 0 1)) ∧ sl 6 = vn .i64 1 ∧ sl 7 = vn .i64 i) 0 1
      ⟨by omega, fun _ => rfl, fun h => by omega, rfl, rfl, rfl, rfl⟩ (fun i sl o h => h.1) ?_
    rintro i sl o' ⟨hi, he, hz, s0, s1, s6, s7⟩
    rw [upd4 s0 s1 s6 s7]
    clear s0 s1 s6 s7
    by_cases hin : i < 1
    · have hi0 : i = 0 := by omega
      subst hi0
      have := he rfl
      subst this
      clear hz he
      (repeat' first | refine st ?_ | refine s2 (fun _ => ?_) (fun _ => ?_) | refine s4 fun _ _ _ _ => ?_ | fail)
      rename_i oA g1 g2 g3
      refine ⟨⟨by omega, fun h => by omega, fun _ => ⟨g1, g2, g3⟩, rfl, rfl, rfl, rfl⟩, rfl⟩
    · have hi1 : i = 1 := by omega
      subst hi1
      (repeat' first | refine st ?_ | refine s2 (fun _ => ?_) (fun _ => ?_) | refine s4 fun _ _ _ _ => ?_ | fail)
      exact endsR0 (hz rfl)
  · refine Call.walk (env := env) (g := 39) rfl rfl ?_
    (repeat' first | refine st ?_ | refine s2 (fun _ => ?_) (fun _ => ?_) | refine s4 fun _ _ _ _ => ?_ | fail)
    refine w_loopUp (fun i sl o' => i ≤ 0 ∧ o' = o ∧ sl 6 = vn .i64 0 ∧ sl 7 = vn .i64 i) 0 0
      ⟨by omega, rfl, rfl, rfl⟩ (fun i sl o h => h.1) ?_
    rintro i sl o' ⟨hi, rfl, s6, s7⟩
    rw [upd2 s6 s7]
    clear s6 s7
    (repeat' first | refine st ?_ | refine s2 (fun _ => ?_) (fun _ => ?_) | refine s4 fun _ _ _ _ => ?_ | fail)
    exact endsR0 ⟨h1, fun _ _ _ => rfl, rfl⟩

theorem has_ok {w q : Nat} (hw : w < 18446744073709551616) (hq : q < 64) : PCall env ext 40 [pW 1 w, .c (.int .i64 (q : Nat))] (.s (.c (.bool (w.testBit q)))) := by
  have b1 : (wd 1 w).getD 0 0 < 18446744073709551616 := hw
  have e1 : q / 64 = 0 := Nat.div_eq_of_lt hq
  have e2 : q % 64 = q := Nat.mod_eq_of_lt hq
  have e3 : (wd 1 w).getD (q / 64) 0 / 2 ^ min (q % 64) IntKind.u64.bits = w / 2 ^ q := by
    rw [e1, e2, show IntKind.u64.bits = 64 from rfl, Nat.min_eq_left (by omega)]; rfl
  have b2 : w / 2 ^ q < 18446744073709551616 := Nat.lt_of_le_of_lt (Nat.div_le_self _ _) hw
  have e4 : w.testBit q = decide (w / 2 ^ q % 2 = 1) := Nat.testBit_eq_decide_div_mod_eq
  have e5 : (wd 1 w).getD (q / 64) 0 / 2 ^ min (q % 64) IntKind.u64.bits &&& 1 = w / 2 ^ q % 2 := by rw [e3]; exact Nat.and_one_is_mod _
  rw [e4]
  by_cases hz : w / 2 ^ q % 2 = 1
  · rw [decide_eq_true hz]
    refine PCall.walk (env := env) (g := 40) rfl rfl ?_
    (repeat' first | refine st ?_ | refine s2 (fun _ => ?_) (fun _ => ?_) | refine s4 fun _ _ _ _ => ?_ | fail)
    exact ends1 rfl rfl rfl
  · rw [decide_eq_false hz]
    refine PCall.walk (env := env) (g := 40) rfl rfl ?_
    (repeat' first | refine st ?_ | refine s2 (fun _ => ?_) (fun _ => ?_) | refine s4 fun _ _ _ _ => ?_ | fail)
    exact ends1 rfl rfl rfl
end Go.Av
namespace Go.Av
open Go
variable {ext : Calls0}

theorem rhas_ok {w q : Nat} (hw : w < 18446744073709551616) (hq : q < 64) : PCall env ext 93 [.c (.pref (rwP w)), .c (.int .i64 (q : Nat))] (.s (.c (.bool (w.testBit q)))) := by
  have e1 : q / 64 = 0 := Nat.div_eq_of_lt hq
  have e2 : q % 64 = q := Nat.mod_eq_of_lt hq
  have e4 : w.testBit q = decide (w / 2 ^ q % 2 = 1) := Nat.testBit_eq_decide_div_mod_eq
  have b2 : w / 2 ^ q < 18446744073709551616 := Nat.lt_of_le_of_lt (Nat.div_le_self _ _) hw
  have e3 : w / 2 ^ min (q % 64) IntKind.u64.bits = w / 2 ^ q := by
    rw [e2, show IntKind.u64.bits = 64 from rfl, Nat.min_eq_left (by omega)]
  have e5 : w / 2 ^ min (q % 64) IntKind.u64.bits &&& 1 = w / 2 ^ q % 2 := by rw [e3]; exact Nat.and_one_is_mod _
  have b3 : w / 2 ^ min (q % 64) IntKind.u64.bits < 18446744073709551616 := by rw [e3]; exact b2
  rw [e4]
  by_cases hz : w / 2 ^ q % 2 = 1
  · rw [decide_eq_true hz]
    refine PCall.walk (env := env) (g := 93) rfl rfl ?_
    (repeat' first | refine st ?_ | refine s2 (fun _ => ?_) (fun _ => ?_) | refine s4 fun _ _ _ _ => ?_ | fail)
    refine r_nckP rfl ?_
    (repeat' first | refine st ?_ | refine s2 (fun _ => ?_) (fun _ => ?_) | refine s4 fun _ _ _ _ => ?_ | fail)
    refine r_iaAP (k := 0) rfl rfl (by rw [e1]) (by omega) rfl ?_
    rw [rwP_drop0]
    (repeat' first | refine st ?_ | refine s2 (fun _ => ?_) (fun _ => ?_) | refine s4 fun _ _ _ _ => ?_ | fail)
    exact ends1 rfl rfl rfl
  · rw [decide_eq_false hz]
    refine PCall.walk (env := env) (g := 93) rfl rfl ?_
    (repeat' first | refine st ?_ | refine s2 (fun _ => ?_) (fun _ => ?_) | refine s4 fun _ _ _ _ => ?_ | fail)
    refine r_nckP rfl ?_
    (repeat' first | refine st ?_ | refine s2 (fun _ => ?_) (fun _ => ?_) | refine s4 fun _ _ _ _ => ?_ | fail)
    refine r_iaAP (k := 0) rfl rfl (by rw [e1]) (by omega) rfl ?_
    rw [rwP_drop0]
    (repeat' first | refine st ?_ | refine s2 (fun _ => ?_) (fun _ => ?_) | refine s4 fun _ _ _ _ => ?_ | fail)
    exact ends1 rfl rfl rfl

theorem rmeets_ok {a c : Nat} (ha : a < 18446744073709551616) (hc : c < 18446744073709551616) : PCall env ext 95 [.c (.pref (rwP a)), .c (.pref (rwP c))] (.s (.c (.bool (decide (a &&& c ≠ 0))))) := by
  refine PCall.walk (env := env) (g := 95) rfl rfl ?_
  (repeat' first | refine st ?_ | refine s2 (fun _ => ?_) (fun _ => ?_) | refine s4 fun _ _ _ _ => ?_ | fail)
  refine w_loopUp (fun i sl o => i ≤ 64 ∧ (0 < i → a &&& c = 0) ∧ sl 0 = vp (.pref (rwP a)) ∧ sl 1 = vp (.pref (rwP c)) ∧ sl 6 = vn .i64 i) 0 64
    ⟨by omega, fun h => by omega, rfl, rfl, rfl⟩ (fun i sl o h => h.1) ?_
  rintro i sl o ⟨hi, hz, s0, s1, s6⟩
  rw [upd3 s0 s1 s6]
  clear s0 s1 s6
  by_cases hin : i < 64
  · cases i with
    | zero =>
      clear hz
      by_cases hac : a &&& c = 0
      · rw [decide_eq_false (fun h => h hac)]
        (repeat' first | refine st ?_ | refine s2 (fun _ => ?_) (fun _ => ?_) | refine s4 fun _ _ _ _ => ?_ | fail)
        refine r_nckP rfl ?_
        (repeat' first | refine st ?_ | refine s2 (fun _ => ?_) (fun _ => ?_) | refine s4 fun _ _ _ _ => ?_ | fail)
        refine r_iaAP (k := 0) rfl rfl (by first | with_reducible exact cself _ | exact nlit _) (by omega) rfl ?_
        rw [rwP_drop0]
        (repeat' first | refine st ?_ | refine s2 (fun _ => ?_) (fun _ => ?_) | refine s4 fun _ _ _ _ => ?_ | fail)
        refine r_nckP rfl ?_
        (repeat' first | refine st ?_ | refine s2 (fun _ => ?_) (fun _ => ?_) | refine s4 fun _ _ _ _ => ?_ | fail)
        refine r_iaAP (k := 0) rfl rfl (by first | with_reducible exact cself _ | exact nlit _) (by omega) rfl ?_
        rw [rwP_drop0]
        (repeat' first | refine st ?_ | refine s2 (fun _ => ?_) (fun _ => ?_) | refine s4 fun _ _ _ _ => ?_ | fail)
        exact ⟨⟨by omega, fun _ => hac, rfl, rfl, rfl⟩, rfl⟩
      · rw [decide_eq_true hac]
        (repeat' first | refine st ?_ | refine s2 (fun _ => ?_) (fun _ => ?_) | refine s4 fun _ _ _ _ => ?_ | fail)
        refine r_nckP rfl ?_
        (repeat' first | refine st ?_ | refine s2 (fun _ => ?_) (fun _ => ?_) | refine s4 fun _ _ _ _ => ?_ | fail)
        refine r_iaAP (k := 0) rfl rfl (by first | with_reducible exact cself _ | exact nlit _) (by omega) rfl ?_
        rw [rwP_drop0]
        (repeat' first | refine st ?_ | refine s2 (fun _ => ?_) (fun _ => ?_) | refine s4 fun _ _ _ _ => ?_ | fail)
        refine r_nckP rfl ?_
        (repeat' first | refine st ?_ | refine s2 (fun _ => ?_) (fun _ => ?_) | refine s4 fun _ _ _ _ => ?_ | fail)
        refine r_iaAP (k := 0) rfl rfl (by first | with_reducible exact cself _ | exact nlit _) (by omega) rfl ?_
        rw [rwP_drop0]
        (repeat' first | refine st ?_ | refine s2 (fun _ => ?_) (fun _ => ?_) | refine s4 fun _ _ _ _ => ?_ | fail)
        exact ends1 rfl rfl rfl
    | succ k =>
      have hac := hz (by omega)
      have h00 : (0 : Nat) &&& 0 = 0 := rfl
      clear hz
      (repeat' first | refine st ?_ | refine s2 (fun _ => ?_) (fun _ => ?_) | refine s4 fun _ _ _ _ => ?_ | fail)
      refine r_nckP rfl ?_
      (repeat' first | refine st ?_ | refine s2 (fun _ => ?_) (fun _ => ?_) | refine s4 fun _ _ _ _ => ?_ | fail)
      refine r_iaAP (k := k + 1) rfl rfl (by first | with_reducible exact cself _ | exact nlit _) (by omega) rfl ?_
      rw [rwP_dropS a k (by omega)]
      (repeat' first | refine st ?_ | refine s2 (fun _ => ?_) (fun _ => ?_) | refine s4 fun _ _ _ _ => ?_ | fail)
      refine r_nckP rfl ?_
      (repeat' first | refine st ?_ | refine s2 (fun _ => ?_) (fun _ => ?_) | refine s4 fun _ _ _ _ => ?_ | fail)
      refine r_iaAP (k := k + 1) rfl rfl (by first | with_reducible exact cself _ | exact nlit _) (by omega) rfl ?_
      rw [rwP_dropS c k (by omega)]
      (repeat' first | refine st ?_ | refine s2 (fun _ => ?_) (fun _ => ?_) | refine s4 fun _ _ _ _ => ?_ | fail)
      exact ⟨⟨by omega, fun _ => hac, rfl, rfl, rfl⟩, rfl⟩
  · have hi1 : i = 64 := by omega
    subst hi1
    rw [decide_eq_false (fun h => h (hz (by omega)))]
    (repeat' first | refine st ?_ | refine s2 (fun _ => ?_) (fun _ => ?_) | refine s4 fun _ _ _ _ => ?_ | fail)
    exact ends1 rfl rfl rfl

theorem radd_ok {a c : Nat} (ha : a < 18446744073709551616) (hc : c < 18446744073709551616) {o : Objs} {base oi ov i j : Nat} {rows : List (List C)} (hm : o.rws oi ov 64 rows) (hi : rows[i]? = some (rwC a)) (hj : rows[j]? = some (rwC c)) (hij : i ≠ j) :
    ∃ o' r, Call env ext 94 base o [.c (.ptr oi ov i 0), .c (.ptr oi ov j 0)] o' r ∧ o'.rws oi ov 64 (rows.set i (rwC (a ||| c))) ∧ (∀ o2 v2, ¬ (o2 = oi ∧ v2 = ov) → o'.m o2 v2 = o.m o2 v2) ∧ o'.nv = o.nv := by
  have hil : i < rows.length := (List.getElem?_eq_some_iff.1 hi).1
  refine Call.walk (env := env) (g := 94) rfl rfl ?_
  (repeat' first | refine st ?_ | refine s2 (fun _ => ?_) (fun _ => ?_) | refine s4 fun _ _ _ _ => ?_ | fail)
  refine w_loopUp (fun k sl o' => k ≤ 64 ∧ o'.rws oi ov 64 (rows.set i (if k = 0 then rwC a else rwC (a ||| c))) ∧ (∀ o2 v2, ¬ (o2 = oi ∧ v2 = ov) → o'.m o2 v2 = o.m o2 v2) ∧ o'.nv = o.nv ∧
    sl 0 = .s (.c (.ptr oi ov i 0)) ∧ sl 1 = .s (.c (.ptr oi ov j 0)) ∧ sl 5 = vn .i64 k) 0 64
    ⟨by omega, by
      rw [if_pos rfl]
      have e : rows.set i (rwC a) = rows := by
        apply List.ext_getElem?
        intro q
        rw [List.getElem?_set]
        split
        · rename_i hq; subst hq; rw [hi]
        · rfl
      rw [e]; exact hm, fun _ _ _ => rfl, rfl, rfl, rfl, rfl⟩ (fun i sl o h => h.1) ?_
  rintro k sl o' ⟨hk, hm', hk2, hk3, s0, s1, s5⟩
  rw [upd3 s0 s1 s5]
  clear s0 s1 s5 hm
  by_cases hin : k < 64
  · have hj' : ∀ v, (rows.set i v)[j]? = some (rwC c) := fun v => by rw [List.getElem?_set_ne hij]; exact hj
    have hi' : ∀ v, (rows.set i v)[i]? = some v := fun v => List.getElem?_set_self hil
    cases k with
    | zero =>
      rw [if_pos rfl] at hm'
      (repeat' first | refine st ?_ | refine s2 (fun _ => ?_) (fun _ => ?_) | refine s4 fun _ _ _ _ => ?_ | fail)
      refine r_nckR rfl ?_
      (repeat' first | refine st ?_ | refine s2 (fun _ => ?_) (fun _ => ?_) | refine s4 fun _ _ _ _ => ?_ | fail)
      refine r_iaAR (k := 0) rfl rfl (by first | with_reducible exact cself _ | exact nlit _) (by omega) ?_
      (repeat' first | refine st ?_ | refine s2 (fun _ => ?_) (fun _ => ?_) | refine s4 fun _ _ _ _ => ?_ | fail)
      refine gr_ldF rfl hm' (hi' _) (rwC_get0 a) ?_
      (repeat' first | refine st ?_ | refine s2 (fun _ => ?_) (fun _ => ?_) | refine s4 fun _ _ _ _ => ?_ | fail)
      refine r_nckR rfl ?_
      (repeat' first | refine st ?_ | refine s2 (fun _ => ?_) (fun _ => ?_) | refine s4 fun _ _ _ _ => ?_ | fail)
      refine r_iaAR (k := 0) rfl rfl (by first | with_reducible exact cself _ | exact nlit _) (by omega) ?_
      (repeat' first | refine st ?_ | refine s2 (fun _ => ?_) (fun _ => ?_) | refine s4 fun _ _ _ _ => ?_ | fail)
      refine gr_ldF rfl hm' (hj' _) (rwC_get0 c) ?_
      (repeat' first | refine st ?_ | refine s2 (fun _ => ?_) (fun _ => ?_) | refine s4 fun _ _ _ _ => ?_ | fail)
      refine r_nckR rfl ?_
      (repeat' first | refine st ?_ | refine s2 (fun _ => ?_) (fun _ => ?_) | refine s4 fun _ _ _ _ => ?_ | fail)
      refine r_iaAR (k := 0) rfl rfl (by first | with_reducible exact cself _ | exact nlit _) (by omega) ?_
      (repeat' first | refine st ?_ | refine s2 (fun _ => ?_) (fun _ => ?_) | refine s4 fun _ _ _ _ => ?_ | fail)
      refine gr_stF rfl rfl hm' (hi' _) (by rw [rwC_len]; omega) ?_
      intro oC g1 g2 g3
      rw [rwC_set0, List.set_set] at g1
      (repeat' first | refine st ?_ | refine s2 (fun _ => ?_) (fun _ => ?_) | refine s4 fun _ _ _ _ => ?_ | fail)
      refine ⟨⟨by omega, ?_, fun o2 v2 h => by rw [g2 _ _ h]; exact hk2 _ _ h, by rw [g3]; exact hk3, rfl, rfl, rfl⟩, rfl⟩
      rw [if_neg (by omega)]; exact g1
    | succ k =>
      rw [if_neg (by omega)] at hm'
      have h00 : (0 : Nat) ||| 0 = 0 := rfl
      (repeat' first | refine st ?_ | refine s2 (fun _ => ?_) (fun _ => ?_) | refine s4 fun _ _ _ _ => ?_ | fail)
      refine r_nckR rfl ?_
      (repeat' first | refine st ?_ | refine s2 (fun _ => ?_) (fun _ => ?_) | refine s4 fun _ _ _ _ => ?_ | fail)
      refine r_iaAR (k := k + 1) rfl rfl (by first | with_reducible exact cself _ | exact nlit _) (by omega) ?_
      rw [show 0 + (k + 1) * 1 = k + 1 by omega]
      (repeat' first | refine st ?_ | refine s2 (fun _ => ?_) (fun _ => ?_) | refine s4 fun _ _ _ _ => ?_ | fail)
      refine gr_ldF rfl hm' (hi' _) (rwC_getS _ k (by omega)) ?_
      (repeat' first | refine st ?_ | refine s2 (fun _ => ?_) (fun _ => ?_) | refine s4 fun _ _ _ _ => ?_ | fail)
      refine r_nckR rfl ?_
      (repeat' first | refine st ?_ | refine s2 (fun _ => ?_) (fun _ => ?_) | refine s4 fun _ _ _ _ => ?_ | fail)
      refine r_iaAR (k := k + 1) rfl rfl (by first | with_reducible exact cself _ | exact nlit _) (by omega) ?_
      rw [show 0 + (k + 1) * 1 = k + 1 by omega]
      (repeat' first | refine st ?_ | refine s2 (fun _ => ?_) (fun _ => ?_) | refine s4 fun _ _ _ _ => ?_ | fail)
      refine gr_ldF rfl hm' (hj' _) (rwC_getS c k (by omega)) ?_
      (repeat' first | refine st ?_ | refine s2 (fun _ => ?_) (fun _ => ?_) | refine s4 fun _ _ _ _ => ?_ | fail)
      refine r_nckR rfl ?_
      (repeat' first | refine st ?_ | refine s2 (fun _ => ?_) (fun _ => ?_) | refine s4 fun _ _ _ _ => ?_ | fail)
      refine r_iaAR (k := k + 1) rfl rfl (by first | with_reducible exact cself _ | exact nlit _) (by omega) ?_
      rw [show 0 + (k + 1) * 1 = k + 1 by omega]
      (repeat' first | refine st ?_ | refine s2 (fun _ => ?_) (fun _ => ?_) | refine s4 fun _ _ _ _ => ?_ | fail)
      refine gr_stF rfl rfl hm' (hi' _) (by rw [rwC_len]; omega) ?_
      intro oC g1 g2 g3
      have e0 : (((0 ||| 0 : Nat)) : Int) = 0 := rfl
      rw [e0, rwC_setS _ k (by omega), List.set_set] at g1
      (repeat' first | refine st ?_ | refine s2 (fun _ => ?_) (fun _ => ?_) | refine s4 fun _ _ _ _ => ?_ | fail)
      refine ⟨⟨by omega, ?_, fun o2 v2 h => by rw [g2 _ _ h]; exact hk2 _ _ h, by rw [g3]; exact hk3, rfl, rfl, rfl⟩, rfl⟩
      rw [if_neg (by omega)]; exact g1
  · have hi1 : k = 64 := by omega
    subst hi1
    rw [if_neg (by omega)] at hm'
    (repeat' first | refine st ?_ | refine s2 (fun _ => ?_) (fun _ => ?_) | refine s4 fun _ _ _ _ => ?_ | fail)
    exact endsR0 ⟨hm', hk2, hk3⟩
end Go.Av
