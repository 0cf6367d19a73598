/- A part of the proof (own method: an abstract machine). No condition. -/
import Derived.Test.YtncdbpobpkmliaaGreatRaE
import Derived.Test.YtncdbpobpkmliaaGreatBsA
namespace Go.Av
open Go
variable {ext : Calls0}

/-- Few fractions, of at most four digits above and below. -/
structure Sml (rs : List Rat) : Prop where
  n : rs.length ≤ 20
  h : ∀ i, (rs.getD i 0).num.natAbs < 4294967296 ^ 4 ∧ (rs.getD i 0).den < 4294967296 ^ 4
/-- The least common denominator of the first i. -/
def lc (rs : List Rat) : Nat → Nat
  | 0 => 1
  | i + 1 => lcmN (lc rs i) (rs.getD i 0).den
/-- A weight as an integer, over the denominator D. -/
def uN (rs : List Rat) (D i : Nat) : Nat := (rs.getD i 0).num.natAbs * (D / (rs.getD i 0).den)
def sN (rs : List Rat) (D : Nat) : Nat → Nat
  | 0 => 0
  | i + 1 => sN rs D i + uN rs D i
theorem lc_pos (rs : List Rat) : ∀ i, 0 < lc rs i
  | 0 => by simp [lc]
  | i + 1 => lcmN_pos (lc_pos rs i) (Rat.den_pos _)
theorem lc_lt {rs : List Rat} (h : Sml rs) : ∀ i, lc rs i < 4294967296 ^ (4 * i + 1)
  | 0 => by simp [lc]
  | i + 1 => by
    have h1 := lc_lt h i
    have h2 := (h.h i).2
    have h3 := lcmN_le (lc rs i) (rs.getD i 0).den
    have h4 : lc rs i * (rs.getD i 0).den < 4294967296 ^ (4 * i + 1) * 4294967296 ^ 4 := Nat.mul_lt_mul'' h1 h2
    rw [← Nat.pow_add] at h4
    show lcmN _ _ < _
    rw [show 4 * (i + 1) + 1 = 4 * i + 1 + 4 by omega]
    omega
theorem lc_len {rs : List Rat} (h : Sml rs) {i : Nat} (hi : i ≤ 20) : (ofN (lc rs i)).length ≤ 81 := by
  apply ofN_len_le
  have h1 := lc_lt h i
  have h2 : 4294967296 ^ (4 * i + 1) ≤ 4294967296 ^ 81 := Nat.pow_le_pow_right (by omega) (by omega)
  exact Nat.lt_of_lt_of_le h1 h2
theorem uN_lt {rs : List Rat} (h : Sml rs) {D i : Nat} (hD : D < 4294967296 ^ 81) : uN rs D i < 4294967296 ^ 85 := by
  have h1 := (h.h i).1
  have h2 := Nat.div_le_self D (rs.getD i 0).den
  have h3 : (rs.getD i 0).num.natAbs * (D / (rs.getD i 0).den) < 4294967296 ^ 4 * 4294967296 ^ 81 := Nat.mul_lt_mul'' h1 (Nat.lt_of_le_of_lt h2 hD)
  rw [← Nat.pow_add] at h3
  exact h3
theorem sN_lt {rs : List Rat} (h : Sml rs) {D : Nat} (hD : D < 4294967296 ^ 81) : ∀ i, sN rs D i ≤ i * 4294967296 ^ 85
  | 0 => by simp [sN]
  | i + 1 => by
    have h1 := sN_lt h hD i
    have h2 := uN_lt h (i := i) hD
    generalize 4294967296 ^ 85 = B at *
    simp only [sN, Nat.add_mul, Nat.one_mul]
    omega
theorem sN_len {rs : List Rat} (h : Sml rs) {i : Nat} (hi : i ≤ 20) : (ofN (sN rs (lc rs rs.length) i)).length ≤ 86 := by
  apply ofN_len_le
  have h0 := lc_lt h rs.length
  have hn := h.n
  have h2 : 4294967296 ^ (4 * rs.length + 1) ≤ 4294967296 ^ 81 := Nat.pow_le_pow_right (by omega) (by omega)
  have h1 := sN_lt h (Nat.lt_of_lt_of_le h0 h2) i
  have h3 : i * 4294967296 ^ 85 ≤ 20 * 4294967296 ^ 85 := Nat.mul_le_mul_right _ hi
  have h4 : 20 * 4294967296 ^ 85 < 4294967296 ^ 86 := by
    have hB : 0 < 4294967296 ^ 85 := Nat.pow_pos (by decide)
    have e : 4294967296 ^ 86 = 4294967296 ^ 85 * 4294967296 := Nat.pow_succ ..
    rw [e, Nat.mul_comm (4294967296 ^ 85)]
    exact Nat.mul_lt_mul_of_pos_right (by decide) hB
  exact Nat.lt_of_le_of_lt (Nat.le_trans h1 h3) h4
theorem uN_len {rs : List Rat} (h : Sml rs) {i : Nat} : (ofN (uN rs (lc rs rs.length) i)).length ≤ 85 := by
  apply ofN_len_le
  have h0 := lc_lt h rs.length
  have hn := h.n
  have h2 : 4294967296 ^ (4 * rs.length + 1) ≤ 4294967296 ^ 81 := Nat.pow_le_pow_right (by omega) (by omega)
  exact uN_lt h (Nat.lt_of_lt_of_le h0 h2)
theorem num_len {rs : List Rat} (h : Sml rs) (i : Nat) : (ofN (rs.getD i 0).num.natAbs).length ≤ 4 := ofN_len_le (h.h i).1
theorem den_len {rs : List Rat} (h : Sml rs) (i : Nat) : (ofN (rs.getD i 0).den).length ≤ 4 := ofN_len_le (h.h i).2
theorem sgn_neg {r : Rat} (h : r.num < 0) : sgn r = -1 := by unfold sgn; rw [if_neg (by omega), if_pos h]
theorem sgn_nn {r : Rat} (h : 0 ≤ r.num) : 0 ≤ sgn r := by
  unfold sgn; split
  · omega
  · rw [if_neg (by omega)]; omega

/-- The first index whose partial sum is above v. -/
def idx (s : Nat → Nat) (v : Nat) : Nat → Nat → Nat
  | 0, i => i
  | f + 1, i => if v < s (i + 1) then i else idx s v f (i + 1)
def cbad : PAV := .tup [pI 0, pI 0, pI 1]
/-- What a choice by weights gives. -/
def cres (s : Nat → Nat) (n : Nat) : Option (Nat × Nat) → PAV
  | none => .tup [pI 0, pI 0, pI 3]
  | some (v, u) => .tup [pI (idx s v n 0 : Nat), pI (u : Nat), pI 0]
abbrev bdraw (S : Nat) (bs : List Nat) : Option (Nat × Nat) := bspec S (256 ^ bk S / S * S) (bk S) bs (bs.length + 1) 0
def cspec (rs : List Rat) (bs : List Nat) : PAV :=
  if sN rs (lc rs rs.length) rs.length = 0 then cbad else cres (sN rs (lc rs rs.length)) rs.length (bdraw (sN rs (lc rs rs.length) rs.length) bs)
theorem bspec_lt {V L k : Nat} {bs : List Nat} (hV : 0 < V) : ∀ {f u0 r u}, bspec V L k bs f u0 = some (r, u) → r < V := by
  intro f
  induction f with
  | zero => intro u0 r u h; cases h
  | succ f ih =>
    intro u0 r u h
    simp only [bspec] at h
    split at h
    · cases h
    · split at h
      · cases h; exact Nat.mod_lt _ (by omega)
      · exact ih h

theorem below0_ok {nl bs : List Nat} (hn : Dg nl) (ln : nl.length ≤ 100) (h0 : val nl = 0) : PCall env ext 115 [pN nl, pB bs] (.tup [pN [], pI 0, pI 1]) := by
  have hb0 : bl 0 = 0 := rfl
  refine PCall.walk (env := env) (g := 115) rfl rfl ?_
  (repeat' first | refine st ?_ | refine s2 (fun _ => ?_) (fun _ => ?_) | refine s4 fun _ _ _ _ => ?_ | fail)
  refine r_call1 (bitLen_ok hn (by omega)) rfl rfl ?_
  rw [h0, hb0]
  (repeat' first | refine st ?_ | refine s2 (fun _ => ?_) (fun _ => ?_) | refine s4 fun _ _ _ _ => ?_ | fail)
  exact ends3 rfl rfl rfl rfl rfl rfl rfl
end Go.Av
namespace Go.Av
open Go
variable {ext : Calls0}

abbrev zrow : List C := [.p (.bool false), .e0, .e0]
abbrev frow (r : Rat) : List C := (encR r).map C.p
abbrev nrow (n : Nat) : List C := [.p (.sl (encK .u32 (ofN n)))]
abbrev srows (s : Nat → Nat) (n : Nat) : List (List C) := (List.range n).map fun j => nrow (s (j + 1))
theorem srows_succ (s : Nat → Nat) (n : Nat) : srows s n ++ [[PC.sl (encK .u32 (ofN (s (n + 1))))]].map (List.map C.p) = srows s (n + 1) := by
  unfold srows; rw [List.range_succ, List.map_append]; rfl
theorem srows_get {s : Nat → Nat} {n i : Nat} (h : i < n) : (srows s n)[i]? = some (nrow (s (i + 1))) := by simp [h]
theorem rws_keep {o o' : Objs} {id ver sz : Nat} {rows : List (List C)} (h : o.rws id ver sz rows) (e : o'.m id ver = o.m id ver) : o'.rws id ver sz rows := by
  unfold Objs.rws at *; rw [e]; exact h

set_option maxHeartbeats 4000000 in
theorem choose_ok {xs : List (List PC)} {rs : List Rat} {bs : List Nat} {R : PAV} (hl : xs.length = rs.length) (hx : ∀ i row, xs[i]? = some row → IsF (.agg row) (rs.getD i 0)) (hs : Sml rs) (hb : Db bs) (lb : bs.length ≤ 4096)
    (h1 : ∀ i, i < rs.length → (rs.getD i 0).num < 0 → R = cbad) (h2 : (∀ i, i < rs.length → 0 ≤ (rs.getD i 0).num) → R = cspec rs bs) :
    PCall env ext 119 [.c (.sl xs), pB bs] R := by
  have hn20 := hs.n
  have hf1 := fromUint64_ok (ext := ext) (n := 1) (by omega)
  have hf0 := fromUint64_ok (ext := ext) (n := 0) (by omega)
  generalize hn : rs.length = n at *
  refine PCall.walk (env := env) (g := 119) rfl rfl ?_
  (repeat' first | refine st ?_ | refine s2 (fun _ => ?_) (fun _ => ?_) | refine s4 fun _ _ _ _ => ?_ | fail)
  refine r_call1 hf1 rfl rfl ?_
  (repeat' first | refine st ?_ | refine s2 (fun _ => ?_) (fun _ => ?_) | refine s4 fun _ _ _ _ => ?_ | fail)
  rw [hl]
  refine gr_mk rfl (by first | with_reducible exact cself _ | exact nlit _) (by omega) (by omega) rfl ?_
  intro o1 g1 g2 g3
  (repeat' first | refine st ?_ | refine s2 (fun _ => ?_) (fun _ => ?_) | refine s4 fun _ _ _ _ => ?_ | fail)
  rw [hl]
  generalize hw : Objs.nv _ _ = w at *
  refine w_loopUp (fun i sl o => i ≤ n ∧ Hd (∀ j, j < i → 0 ≤ (rs.getD j 0).num) ∧ (∃ X, Hd (X.length = n ∧ (∀ j, j < i → X[j]? = some (frow (rs.getD j 0))) ∧ (∀ j, i ≤ j → j < n → X[j]? = some zrow)) ∧ o.rws 0 w 3 X) ∧
    sl 1 = vk .u8 bs ∧ sl 7 = vk .u32 (ofN (lc rs i)) ∧ sl 8 = .s (.c (.rs 0 w 3 0 n)) ∧ sl 27 = vs xs ∧ sl 28 = vn .i64 n ∧ sl 29 = vn .i64 i) 0 n
    ⟨by omega, ⟨fun j h => absurd h (by omega)⟩, ⟨_, ⟨by simp, fun j h => absurd h (by omega), fun j _ h => by simp [h]⟩, g1⟩, rfl, rfl, rfl, rfl, rfl, rfl⟩ (fun i sl o h => h.1) ?_
  clear g1 g2 g3
  rintro i sl o ⟨hi, hnn, ⟨X, hX, hrw⟩, s1, s7, s8, s27, s28, s29⟩
  rw [upd6 s1 s7 s8 s27 s28 s29]
  clear s1 s7 s8 s27 s28 s29
  by_cases hin : i < n
  · obtain ⟨row, hrow⟩ : ∃ row, xs[i]? = some row := ⟨_, List.getElem?_eq_getElem (by omega)⟩
    have hF := hx i row hrow
    have hsg := sign_F (ext := ext) hF
    have hnm := norm_F (ext := ext) hF
    have hlc := lcm_ok (ext := ext) (Dg.ofN (lc rs i)) (Dg.ofN (rs.getD i 0).den) (by have := lc_len hs (show i ≤ 20 by omega); omega) (by have := den_len hs i; omega) (by rw [val_ofN]; exact lc_pos rs i)
    rw [val_ofN, val_ofN] at hlc
    have hbad := h1 i hin
    have e1 : (rs.getD i 0).num < 0 → sgn (rs.getD i 0) = -1 := sgn_neg
    have e2 : 0 ≤ (rs.getD i 0).num → 0 ≤ sgn (rs.getD i 0) := sgn_nn
    obtain ⟨neg, a, b, he, _⟩ := hF.h
    cases he
    have hX1 := hX.h.1
    have hX3 := hX.h.2.2 i (Nat.le_refl _) hin
    by_cases hneg : (rs.getD i 0).num < 0
    · have e1 := e1 hneg
      rw [hbad hneg]
      (repeat' first | refine st ?_ | refine s2 (fun _ => ?_) (fun _ => ?_) | refine s4 fun _ _ _ _ => ?_ | fail)
      refine r_iaS rfl rfl (by first | with_reducible exact cself _ | exact nlit _) hrow rfl ?_
      (repeat' first | refine st ?_ | refine s2 (fun _ => ?_) (fun _ => ?_) | refine s4 fun _ _ _ _ => ?_ | fail)
      refine r_call1 hsg rfl rfl ?_
      (repeat' first | refine st ?_ | refine s2 (fun _ => ?_) (fun _ => ?_) | refine s4 fun _ _ _ _ => ?_ | fail)
      exact ends3 rfl rfl rfl rfl rfl rfl rfl
    · have e2 := e2 (by omega)
      (repeat' first | refine st ?_ | refine s2 (fun _ => ?_) (fun _ => ?_) | refine s4 fun _ _ _ _ => ?_ | fail)
      refine r_iaS rfl rfl (by first | with_reducible exact cself _ | exact nlit _) hrow rfl ?_
      (repeat' first | refine st ?_ | refine s2 (fun _ => ?_) (fun _ => ?_) | refine s4 fun _ _ _ _ => ?_ | fail)
      rename_i oA g1 g2 g3 oB g4 g5 g6
      refine r_call1 hsg rfl rfl ?_
      (repeat' first | refine st ?_ | refine s2 (fun _ => ?_) (fun _ => ?_) | refine s4 fun _ _ _ _ => ?_ | fail)
      have k0 : oB.m 0 w = o.m 0 w := by rw [g5 _ _ (by omega), g2 _ _ (by omega)]
      have hrw' := rws_keep hrw k0
      refine r_callA hnm rfl rfl ?_
      (repeat' first | refine st ?_ | refine s2 (fun _ => ?_) (fun _ => ?_) | refine s4 fun _ _ _ _ => ?_ | fail)
      refine gr_stA rfl rfl hrw' hX3 rfl rfl ?_
      intro oC g7 g8 g9
      (repeat' first | refine st ?_ | refine s2 (fun _ => ?_) (fun _ => ?_) | refine s4 fun _ _ _ _ => ?_ | fail)
      have hgi : (X.set i (frow (rs.getD i 0)))[i]? = some (frow (rs.getD i 0)) := by rw [List.getElem?_set_self (by omega)]
      refine gr_ldF rfl g7 hgi rfl ?_
      (repeat' first | refine st ?_ | refine s2 (fun _ => ?_) (fun _ => ?_) | refine s4 fun _ _ _ _ => ?_ | fail)
      refine r_call1 hlc rfl rfl ?_
      (repeat' first | refine st ?_ | refine s2 (fun _ => ?_) (fun _ => ?_) | refine s4 fun _ _ _ _ => ?_ | fail)
      refine ⟨⟨by omega, ⟨fun j hj => ?_⟩, ⟨_, ⟨by rw [List.length_set]; exact hX1, fun j hj => ?_, fun j hj hj2 => ?_⟩, g7⟩, rfl, rfl, rfl, rfl, rfl, rfl⟩, rfl⟩
      · by_cases hji : j < i
        · exact hnn.h j hji
        · have : j = i := by omega
          subst this; omega
      · by_cases hji : j < i
        · rw [List.getElem?_set_ne (by omega)]; exact hX.h.2.1 j hji
        · have : j = i := by omega
          subst this; exact hgi
      · rw [List.getElem?_set_ne (by omega)]; exact hX.h.2.2 j (by omega) hj2
  · have hie : i = n := by omega
    subst hie
    clear hi hin
    have hR := h2 hnn.h
    clear h1 h2 hnn
    have hXg := hX.h.2.1
    clear hX hx
    unfold cspec at hR
    rw [hn] at hR
    have sl86 : ∀ j, j ≤ i → (ofN (sN rs (lc rs i) j)).length ≤ 86 := fun j hj => by have := sN_len hs (show j ≤ 20 by omega); rw [hn] at this; exact this
    have ul86 : ∀ j, (ofN (uN rs (lc rs i) j)).length ≤ 85 := fun j => by have := uN_len hs (i := j); rw [hn] at this; exact this
    have hDl := lc_len hs (show i ≤ 20 by omega)
    have dD := Dg.ofN (lc rs i)
    have vD := val_ofN (lc rs i)
    generalize hD : lc rs i = D at *
    (repeat' first | refine st ?_ | refine s2 (fun _ => ?_) (fun _ => ?_) | refine s4 fun _ _ _ _ => ?_ | fail)
    refine r_call1 hf0 rfl rfl ?_
    (repeat' first | refine st ?_ | refine s2 (fun _ => ?_) (fun _ => ?_) | refine s4 fun _ _ _ _ => ?_ | fail)
    refine w_loopUp (fun j sl o => j ≤ i ∧ ((j = 0 ∧ sl 11 = .s (.c .e0)) ∨ (0 < j ∧ ∃ w', sl 11 = .s (.c (.rs 3 w' 1 0 j)) ∧ o.rws 3 w' 1 (srows (sN rs D) j))) ∧ o.rws 0 w 3 X ∧
      sl 1 = vk .u8 bs ∧ sl 7 = vk .u32 (ofN D) ∧ sl 12 = vk .u32 (ofN (sN rs D j)) ∧ sl 51 = .s (.c (.rs 0 w 3 0 i)) ∧ sl 52 = vn .i64 i ∧ sl 53 = vn .i64 j) 0 i
      ⟨by omega, .inl ⟨rfl, rfl⟩, hrw, rfl, rfl, rfl, rfl, rfl, rfl⟩ (fun i sl o h => h.1) ?_
    clear hrw
    rintro j sl o ⟨hj, hs11, hrw, s1, s7, s12, s51, s52, s53⟩
    rw [upd6 s1 s7 s12 s51 s52 s53]
    clear s1 s7 s12 s51 s52 s53
    by_cases hjn : j < i
    · have hXj := hXg j hjn
      have hdl := den_len hs j
      have hnl := num_len hs j
      have hql := ofN_len_mono (Nat.div_le_self D (rs.getD j 0).den)
      have hdm := divMod_ok (ext := ext) dD (Dg.ofN (rs.getD j 0).den) (by omega) (by omega) (by rw [val_ofN]; exact Rat.den_pos _)
      rw [vD, val_ofN] at hdm
      have hmu := mul_ok (ext := ext) (Dg.ofN (rs.getD j 0).num.natAbs) (Dg.ofN (D / (rs.getD j 0).den)) (by omega) (by omega)
      rw [val_ofN, val_ofN] at hmu
      have hul := ul86 j
      have hsl := sl86 j (by omega)
      have had := add_ok (ext := ext) (Dg.ofN (sN rs D j)) (Dg.ofN (uN rs D j)) (by omega) (by omega)
      rw [val_ofN, val_ofN] at had
      rcases hs11 with ⟨hj0, s11⟩ | ⟨hj0, w', s11, hr3⟩
      · rw [upd1 s11]
        clear s11
        (repeat' first | refine st ?_ | refine s2 (fun _ => ?_) (fun _ => ?_) | refine s4 fun _ _ _ _ => ?_ | fail)
        refine gr_ldA rfl hrw hXj rfl ?_
        (repeat' first | refine st ?_ | refine s2 (fun _ => ?_) (fun _ => ?_) | refine s4 fun _ _ _ _ => ?_ | fail)
        rename_i oA g1 g2 g3 oB g4 g5 g6
        have hrw' := rws_keep hrw (show oB.m 0 w = o.m 0 w by rw [g5 _ _ (by omega), g2 _ _ (by omega)])
        refine r_call3 hdm rfl rfl ?_
        (repeat' first | refine st ?_ | refine s2 (fun _ => ?_) (fun _ => ?_) | refine s4 fun _ _ _ _ => ?_ | fail)
        refine r_call1 hmu rfl rfl ?_
        (repeat' first | refine st ?_ | refine s2 (fun _ => ?_) (fun _ => ?_) | refine s4 fun _ _ _ _ => ?_ | fail)
        refine r_call1 had rfl rfl ?_
        (repeat' first | refine st ?_ | refine s2 (fun _ => ?_) (fun _ => ?_) | refine s4 fun _ _ _ _ => ?_ | fail)
        refine gr_slP1 rfl ?_
        (repeat' first | refine st ?_ | refine s2 (fun _ => ?_) (fun _ => ?_) | refine s4 fun _ _ _ _ => ?_ | fail)
        refine gr_app0 (ys := [[PC.sl (encK .u32 (ofN (sN rs D (j + 1))))]]) rfl rfl (by simp) (by simp) (by simp) (by simp) ?_
        intro oC g7 g8 g9
        (repeat' first | refine st ?_ | refine s2 (fun _ => ?_) (fun _ => ?_) | refine s4 fun _ _ _ _ => ?_ | fail)
        subst hj0
        refine ⟨⟨by omega, .inr ⟨by omega, _, rfl, g7⟩, rws_keep hrw' (g8 _ _ (by omega)), rfl, rfl, rfl, rfl, rfl, rfl⟩, rfl⟩
      · rw [upd1 s11]
        clear s11
        (repeat' first | refine st ?_ | refine s2 (fun _ => ?_) (fun _ => ?_) | refine s4 fun _ _ _ _ => ?_ | fail)
        refine gr_ldA rfl hrw hXj rfl ?_
        (repeat' first | refine st ?_ | refine s2 (fun _ => ?_) (fun _ => ?_) | refine s4 fun _ _ _ _ => ?_ | fail)
        rename_i oA g1 g2 g3 oB g4 g5 g6
        have hrw' := rws_keep hrw (show oB.m 0 w = o.m 0 w by rw [g5 _ _ (by omega), g2 _ _ (by omega)])
        have hr3' := rws_keep hr3 (show oB.m 3 w' = o.m 3 w' by rw [g5 _ _ (by omega), g2 _ _ (by omega)])
        refine r_call3 hdm rfl rfl ?_
        (repeat' first | refine st ?_ | refine s2 (fun _ => ?_) (fun _ => ?_) | refine s4 fun _ _ _ _ => ?_ | fail)
        refine r_call1 hmu rfl rfl ?_
        (repeat' first | refine st ?_ | refine s2 (fun _ => ?_) (fun _ => ?_) | refine s4 fun _ _ _ _ => ?_ | fail)
        refine r_call1 had rfl rfl ?_
        (repeat' first | refine st ?_ | refine s2 (fun _ => ?_) (fun _ => ?_) | refine s4 fun _ _ _ _ => ?_ | fail)
        refine gr_slP1 rfl ?_
        (repeat' first | refine st ?_ | refine s2 (fun _ => ?_) (fun _ => ?_) | refine s4 fun _ _ _ _ => ?_ | fail)
        refine gr_app (ys := [[PC.sl (encK .u32 (ofN (sN rs D (j + 1))))]]) rfl rfl (by simp) hr3' (by simp) (by simp; omega) (by simp; omega) ?_
        intro oC g7 g8 g9
        rw [srows_succ] at g7
        (repeat' first | refine st ?_ | refine s2 (fun _ => ?_) (fun _ => ?_) | refine s4 fun _ _ _ _ => ?_ | fail)
        refine ⟨⟨by omega, .inr ⟨by omega, _, rfl, g7⟩, rws_keep hrw' (g8 _ _ (by omega)), rfl, rfl, rfl, rfl, rfl, rfl⟩, rfl⟩
    · have hje : j = i := by omega
      subst hje
      have hsl := sl86 j (by omega)
      have dS := Dg.ofN (sN rs D j)
      have vS := val_ofN (sN rs D j)
      by_cases hS0 : sN rs D j = 0
      · rw [if_pos hS0] at hR
        rw [hR]
        have hbl := below0_ok (ext := ext) (bs := bs) dS (by omega) (by rw [vS]; exact hS0)
        (repeat' first | refine st ?_ | refine s2 (fun _ => ?_) (fun _ => ?_) | refine s4 fun _ _ _ _ => ?_ | fail)
        refine r_call3 hbl rfl rfl ?_
        (repeat' first | refine st ?_ | refine s2 (fun _ => ?_) (fun _ => ?_) | refine s4 fun _ _ _ _ => ?_ | fail)
        exact ends3 rfl rfl rfl rfl rfl rfl rfl
      · rw [if_neg hS0] at hR
        have hbl := below_ok (ext := ext) dS (by omega) hb lb (by omega)
        rw [vS] at hbl
        have hlt := fun v u => bspec_lt (V := sN rs D j) (L := 256 ^ bk (sN rs D j) / sN rs D j * sN rs D j) (k := bk (sN rs D j)) (bs := bs) (f := bs.length + 1) (u0 := 0) (r := v) (u := u) (by omega)
        generalize hBB : bspec (sN rs D j) (256 ^ bk (sN rs D j) / sN rs D j * sN rs D j) (bk (sN rs D j)) bs (bs.length + 1) 0 = B at *
        have hR : R = cres (sN rs D) j B := by rw [hR, ← hBB]
        rw [hR]
        have hj0 : j ≠ 0 := by intro h; subst h; exact hS0 rfl
        rcases hs11 with ⟨h0, s11⟩ | ⟨hj0, w', s11, hr3⟩
        · exact absurd h0 hj0
        · rw [upd1 s11]
          clear s11
          cases B with
          | none =>
            (repeat' first | refine st ?_ | refine s2 (fun _ => ?_) (fun _ => ?_) | refine s4 fun _ _ _ _ => ?_ | fail)
            refine r_call3 hbl rfl rfl ?_
            (repeat' first | refine st ?_ | refine s2 (fun _ => ?_) (fun _ => ?_) | refine s4 fun _ _ _ _ => ?_ | fail)
            exact ends3 rfl rfl rfl rfl rfl rfl rfl
          | some q =>
            obtain ⟨v, u⟩ := q
            have hv := hlt v u rfl
            have lv := ofN_len_mono (Nat.le_of_lt hv)
            (repeat' first | refine st ?_ | refine s2 (fun _ => ?_) (fun _ => ?_) | refine s4 fun _ _ _ _ => ?_ | fail)
            refine r_call3 hbl rfl rfl ?_
            (repeat' first | refine st ?_ | refine s2 (fun _ => ?_) (fun _ => ?_) | refine s4 fun _ _ _ _ => ?_ | fail)
            clear hR hlt hBB hbl
            refine w_loopUp (fun i sl o => i ≤ j ∧ Hd (sN rs D i ≤ v ∧ idx (sN rs D) v j 0 = idx (sN rs D) v (j - i) i) ∧ o.rws 3 w' 1 (srows (sN rs D) j) ∧
              sl 18 = vk .u32 (ofN v) ∧ sl 19 = vn .i64 u ∧ sl 86 = .s (.c (.rs 3 w' 1 0 j)) ∧ sl 87 = vn .i64 j ∧ sl 88 = vn .i64 i) 0 j
              ⟨by omega, ⟨by simp [sN], rfl⟩, hr3, rfl, rfl, rfl, rfl, rfl⟩ (fun i sl o h => h.1) ?_
            clear hr3
            rintro i sl o ⟨hi, he, hr3, s18, s19, s86, s87, s88⟩
            rw [upd5 s18 s19 s86 s87 s88]
            clear s18 s19 s86 s87 s88
            by_cases hin : i < j
            · have hgi := srows_get (s := sN rs D) hin
              have hsl2 := sl86 (i + 1) (by omega)
              have hcm := cmp_ok (ext := ext) (Dg.ofN v) (Dg.ofN (sN rs D (i + 1))) (by omega) (by omega)
              rw [val_ofN, val_ofN] at hcm
              have hid := he.h.2
              rw [show j - i = (j - (i + 1)) + 1 by omega] at hid
              simp only [idx] at hid
              by_cases hc : v < sN rs D (i + 1)
              · rw [if_pos hc] at hid
                have hci : cmpI v (sN rs D (i + 1)) < 0 := by unfold cmpI; rw [if_pos hc]; omega
                have hcr : cres (sN rs D) j (some (v, u)) = .tup [pI (i : Nat), pI (u : Nat), pI 0] := by
                  show PAV.tup [pI (idx (sN rs D) v j 0 : Nat), _, _] = _
                  rw [hid]
                rw [hcr]
                (repeat' first | refine st ?_ | refine s2 (fun _ => ?_) (fun _ => ?_) | refine s4 fun _ _ _ _ => ?_ | fail)
                refine gr_ldF rfl hr3 hgi rfl ?_
                (repeat' first | refine st ?_ | refine s2 (fun _ => ?_) (fun _ => ?_) | refine s4 fun _ _ _ _ => ?_ | fail)
                refine r_call1 hcm rfl rfl ?_
                (repeat' first | refine st ?_ | refine s2 (fun _ => ?_) (fun _ => ?_) | refine s4 fun _ _ _ _ => ?_ | fail)
                exact ends3 rfl rfl rfl rfl rfl rfl rfl
              · rw [if_neg hc] at hid
                have hci : 0 ≤ cmpI v (sN rs D (i + 1)) := by unfold cmpI; rw [if_neg hc]; split <;> omega
                (repeat' first | refine st ?_ | refine s2 (fun _ => ?_) (fun _ => ?_) | refine s4 fun _ _ _ _ => ?_ | fail)
                refine gr_ldF rfl hr3 hgi rfl ?_
                (repeat' first | refine st ?_ | refine s2 (fun _ => ?_) (fun _ => ?_) | refine s4 fun _ _ _ _ => ?_ | fail)
                refine r_call1 hcm rfl rfl ?_
                (repeat' first | refine st ?_ | refine s2 (fun _ => ?_) (fun _ => ?_) | refine s4 fun _ _ _ _ => ?_ | fail)
                exact ⟨⟨by omega, ⟨by omega, hid⟩, hr3, rfl, rfl, rfl, rfl, rfl⟩, rfl⟩
            · exfalso
              have hie : i = j := by omega
              subst hie
              have := he.h.1
              omega
end Go.Av
