/- A part of the proof (own method: an abstract machine). No condition. -/
import Derived.Test.YtncdbpobpkmliaaGreatRhA
namespace Go.Av
open Go
variable {ext : Calls0}

abbrev urow (n : Nat) : List PC := [.sl (encK .u32 (ofN n))]
abbrev urows (s : Nat → Nat) (n : Nat) : List (List PC) := (List.range n).map fun j => urow (s j)
theorem urows_succ (s : Nat → Nat) (n : Nat) : (urows s n).map (List.map C.p) ++ [[PC.sl (encK .u32 (ofN (s n)))]].map (List.map C.p) = (urows s (n + 1)).map (List.map C.p) := by
  unfold urows; rw [List.range_succ, List.map_append, List.map_append]; rfl
theorem urows_get {s : Nat → Nat} {n i : Nat} (h : i < n) : (urows s n)[i]? = some (urow (s i)) := by simp [h]
theorem purS {o : Objs} {oi ver sz len : Nat} {xs : List (List PC)} (hm : o.rws oi ver sz (xs.map (List.map C.p))) (hl : len = xs.length) : purSV o (.c (.rs oi ver sz 0 len)) = some (.c (.sl xs)) := by
  have := purRows hm (Nat.le_of_eq hl)
  rw [hl, List.take_length] at this
  subst hl
  simp only [purSV, this, Option.map_some]

set_option maxHeartbeats 4000000 in
theorem integers_ok {xs : List (List PC)} {rs : List Rat} (hl : xs.length = rs.length) (hx : ∀ i row, xs[i]? = some row → IsF (.agg row) (rs.getD i 0)) (hs : Sml rs) :
    PCall env ext 163 [.c (.sl xs)] (.tup [.c (.sl (urows (uN rs (lc rs rs.length)) rs.length)), pN (ofN (sN rs (lc rs rs.length) rs.length))]) := by
  have hn20 := hs.n
  have hf1 := natOf_ok (ext := ext) (n := 1) (by omega)
  generalize hn : rs.length = n at *
  refine PCall.walk (env := env) (g := 163) rfl rfl ?_
  (repeat' first | refine st ?_ | refine s2 (fun _ => ?_) (fun _ => ?_) | refine s4 fun _ _ _ _ => ?_ | fail)
  refine r_call1 hf1 rfl rfl ?_
  (repeat' first | refine st ?_ | refine s2 (fun _ => ?_) (fun _ => ?_) | refine s4 fun _ _ _ _ => ?_ | fail)
  rw [hl]
  refine w_loopUp (fun i sl o => i ≤ n ∧ sl 0 = vs xs ∧ sl 4 = vk .u32 (ofN (lc rs i)) ∧ sl 21 = vs xs ∧ sl 22 = vn .i64 n ∧ sl 23 = vn .i64 i) 0 n
    ⟨by omega, rfl, rfl, rfl, rfl, rfl⟩ (fun i sl o h => h.1) ?_
  rintro i sl o ⟨hi, s0, s4, s21, s22, s23⟩
  rw [upd5 s0 s4 s21 s22 s23]
  clear s0 s4 s21 s22 s23
  by_cases hin : i < n
  · obtain ⟨row, hrow⟩ : ∃ row, xs[i]? = some row := ⟨_, List.getElem?_eq_getElem (by omega)⟩
    have hF := hx i row hrow
    have hnm := rnorm_F (ext := ext) hF
    have ll := lc_len hs (show i ≤ 20 by omega)
    have dl := den_len hs i
    have dL := Dg.ofN (lc rs i)
    have vL := val_ofN (lc rs i)
    have dd := Dg.ofN (rs.getD i 0).den
    have vd := val_ofN (rs.getD i 0).den
    have hp := Rat.den_pos (rs.getD i 0)
    have hg := natGCD_ok (ext := ext) dL dd (by omega) (by omega)
    rw [vL, vd] at hg
    have hgp : 0 < Nat.gcd (lc rs i) (rs.getD i 0).den := Nat.gcd_pos_of_pos_right _ hp
    have lg := ofN_len_mono (Nat.gcd_le_right (lc rs i) hp)
    have hdm := natDivMod_ok (ext := ext) dd (Dg.ofN (Nat.gcd (lc rs i) (rs.getD i 0).den)) (by omega) (by omega) (by rw [val_ofN]; exact hgp)
    rw [vd, val_ofN] at hdm
    have lq := ofN_len_mono (Nat.div_le_self (rs.getD i 0).den (Nat.gcd (lc rs i) (rs.getD i 0).den))
    have hmu := natMul_ok (ext := ext) dL (Dg.ofN ((rs.getD i 0).den / Nat.gcd (lc rs i) (rs.getD i 0).den)) (by omega) (by omega)
    rw [vL, val_ofN, ← lcmN_eq] at hmu
    obtain ⟨neg, a, b, he, _⟩ := hF.h
    cases he
    (repeat' first | refine st ?_ | refine s2 (fun _ => ?_) (fun _ => ?_) | refine s4 fun _ _ _ _ => ?_ | fail)
    refine r_iaS rfl rfl (by first | with_reducible exact cself _ | exact nlit _) hrow rfl ?_
    (repeat' first | refine st ?_ | refine s2 (fun _ => ?_) (fun _ => ?_) | refine s4 fun _ _ _ _ => ?_ | fail)
    refine r_callA hnm rfl rfl ?_
    (repeat' first | refine st ?_ | refine s2 (fun _ => ?_) (fun _ => ?_) | refine s4 fun _ _ _ _ => ?_ | fail)
    refine r_call1 hg rfl rfl ?_
    (repeat' first | refine st ?_ | refine s2 (fun _ => ?_) (fun _ => ?_) | refine s4 fun _ _ _ _ => ?_ | fail)
    refine r_call3 hdm rfl rfl ?_
    (repeat' first | refine st ?_ | refine s2 (fun _ => ?_) (fun _ => ?_) | refine s4 fun _ _ _ _ => ?_ | fail)
    refine r_call1 hmu rfl rfl ?_
    (repeat' first | refine st ?_ | refine s2 (fun _ => ?_) (fun _ => ?_) | refine s4 fun _ _ _ _ => ?_ | fail)
    exact ⟨⟨by omega, rfl, rfl, rfl, rfl, rfl⟩, rfl⟩
  · have hie : i = n := by omega
    subst hie
    clear hi hin
    have sl86 : ∀ j, j ≤ i → (ofN (sN rs (lc rs i) j)).length ≤ 86 := fun j hj => by have := sN_len hs (show j ≤ 20 by omega); rw [hn] at this; exact this
    have ul86 : ∀ j, (ofN (uN rs (lc rs i) j)).length ≤ 85 := fun j => by have := uN_len hs (i := j); rw [hn] at this; exact this
    have hDl := lc_len hs (show i ≤ 20 by omega)
    have dD := Dg.ofN (lc rs i)
    have vD := val_ofN (lc rs i)
    generalize hD : lc rs i = D at *
    (repeat' first | refine st ?_ | refine s2 (fun _ => ?_) (fun _ => ?_) | refine s4 fun _ _ _ _ => ?_ | fail)
    rw [hl]
    refine w_loopUp (fun j sl o => j ≤ i ∧ ((j = 0 ∧ sl 11 = .s (.c .e0) ∧ sl 12 = .s (.c .e0)) ∨ (0 < j ∧ ∃ w', sl 11 = .s (.c (.rs 3 w' 1 0 j)) ∧ sl 12 = vk .u32 (ofN (sN rs D j)) ∧ o.rws 3 w' 1 ((urows (uN rs D) j).map (List.map C.p)))) ∧
      sl 4 = vk .u32 (ofN D) ∧ sl 43 = vs xs ∧ sl 44 = vn .i64 i ∧ sl 45 = vn .i64 j) 0 i
      ⟨by omega, .inl ⟨rfl, rfl, rfl⟩, rfl, rfl, rfl, rfl⟩ (fun i sl o h => h.1) ?_
    rintro j sl o ⟨hj, hs11, s4, s43, s44, s45⟩
    rw [upd4 s4 s43 s44 s45]
    clear s4 s43 s44 s45
    by_cases hjn : j < i
    · obtain ⟨row, hrow⟩ : ∃ row, xs[j]? = some row := ⟨_, List.getElem?_eq_getElem (by omega)⟩
      have hF := hx j row hrow
      have hnm := rnorm_F (ext := ext) hF
      have hdl := den_len hs j
      have hnl := num_len hs j
      have hql := ofN_len_mono (Nat.div_le_self D (rs.getD j 0).den)
      have hdm := natDivMod_ok (ext := ext) dD (Dg.ofN (rs.getD j 0).den) (by omega) (by omega) (by rw [val_ofN]; exact Rat.den_pos _)
      rw [vD, val_ofN] at hdm
      have hmu := natMul_ok (ext := ext) (Dg.ofN (D / (rs.getD j 0).den)) (Dg.ofN (rs.getD j 0).num.natAbs) (by omega) (by omega)
      rw [val_ofN, val_ofN, Nat.mul_comm] at hmu
      have hul := ul86 j
      have hsl := sl86 j (by omega)
      have had := natAdd_ok (ext := ext) (Dg.ofN (sN rs D j)) (Dg.ofN (uN rs D j)) (by omega) (by omega)
      rw [val_ofN, val_ofN] at had
      obtain ⟨neg, a, b, he, _⟩ := hF.h
      cases he
      rcases hs11 with ⟨hj0, s11, s12⟩ | ⟨hj0, w', s11, s12, hr3⟩
      · rw [upd2 s11 s12]
        clear s11 s12
        subst hj0
        have e : ofN (sN rs D 0) = [] := ofN_zero
        rw [e] at had
        (repeat' first | refine st ?_ | refine s2 (fun _ => ?_) (fun _ => ?_) | refine s4 fun _ _ _ _ => ?_ | fail)
        refine r_iaS rfl rfl (by first | with_reducible exact cself _ | exact nlit _) hrow rfl ?_
        (repeat' first | refine st ?_ | refine s2 (fun _ => ?_) (fun _ => ?_) | refine s4 fun _ _ _ _ => ?_ | fail)
        refine r_callA hnm rfl rfl ?_
        (repeat' first | refine st ?_ | refine s2 (fun _ => ?_) (fun _ => ?_) | refine s4 fun _ _ _ _ => ?_ | fail)
        refine r_call3 hdm rfl rfl ?_
        (repeat' first | refine st ?_ | refine s2 (fun _ => ?_) (fun _ => ?_) | refine s4 fun _ _ _ _ => ?_ | fail)
        refine r_call1 hmu rfl rfl ?_
        (repeat' first | refine st ?_ | refine s2 (fun _ => ?_) (fun _ => ?_) | refine s4 fun _ _ _ _ => ?_ | fail)
        refine gr_slP1 rfl ?_
        (repeat' first | refine st ?_ | refine s2 (fun _ => ?_) (fun _ => ?_) | refine s4 fun _ _ _ _ => ?_ | fail)
        refine gr_app0 (ys := [[PC.sl (encK .u32 (ofN (uN rs D 0)))]]) rfl rfl (by simp) (by simp) (by simp) (by simp) ?_
        intro oC g7 g8 g9
        (repeat' first | refine st ?_ | refine s2 (fun _ => ?_) (fun _ => ?_) | refine s4 fun _ _ _ _ => ?_ | fail)
        refine r_call1 had rfl rfl ?_
        (repeat' first | refine st ?_ | refine s2 (fun _ => ?_) (fun _ => ?_) | refine s4 fun _ _ _ _ => ?_ | fail)
        refine ⟨⟨by omega, .inr ⟨by omega, _, rfl, rfl, g7⟩, rfl, rfl, rfl, rfl⟩, rfl⟩
      · rw [upd2 s11 s12]
        clear s11 s12
        (repeat' first | refine st ?_ | refine s2 (fun _ => ?_) (fun _ => ?_) | refine s4 fun _ _ _ _ => ?_ | fail)
        refine r_iaS rfl rfl (by first | with_reducible exact cself _ | exact nlit _) hrow rfl ?_
        (repeat' first | refine st ?_ | refine s2 (fun _ => ?_) (fun _ => ?_) | refine s4 fun _ _ _ _ => ?_ | fail)
        rename_i oA g1 g2 g3 oB g4 g5 g6
        have hr3' := rws_keep hr3 (show oB.m 3 w' = o.m 3 w' by rw [g5 _ _ (by omega), g2 _ _ (by omega)])
        refine r_callA hnm rfl rfl ?_
        (repeat' first | refine st ?_ | refine s2 (fun _ => ?_) (fun _ => ?_) | refine s4 fun _ _ _ _ => ?_ | fail)
        rename_i oC g7 g8 g9 oD g10 g11 g12
        have hr3'' := rws_keep hr3' (show oD.m 3 w' = oB.m 3 w' by rw [g11 _ _ (by omega), g8 _ _ (by omega)])
        refine r_call3 hdm rfl rfl ?_
        (repeat' first | refine st ?_ | refine s2 (fun _ => ?_) (fun _ => ?_) | refine s4 fun _ _ _ _ => ?_ | fail)
        refine r_call1 hmu rfl rfl ?_
        (repeat' first | refine st ?_ | refine s2 (fun _ => ?_) (fun _ => ?_) | refine s4 fun _ _ _ _ => ?_ | fail)
        refine gr_slP1 rfl ?_
        (repeat' first | refine st ?_ | refine s2 (fun _ => ?_) (fun _ => ?_) | refine s4 fun _ _ _ _ => ?_ | fail)
        refine gr_app (ys := [[PC.sl (encK .u32 (ofN (uN rs D j)))]]) rfl rfl (by simp) hr3'' (by simp) (by simp; omega) (by simp; omega) ?_
        intro oE g13 g14 g15
        rw [urows_succ] at g13
        (repeat' first | refine st ?_ | refine s2 (fun _ => ?_) (fun _ => ?_) | refine s4 fun _ _ _ _ => ?_ | fail)
        refine r_call1 had rfl rfl ?_
        (repeat' first | refine st ?_ | refine s2 (fun _ => ?_) (fun _ => ?_) | refine s4 fun _ _ _ _ => ?_ | fail)
        refine ⟨⟨by omega, .inr ⟨by omega, _, rfl, rfl, g13⟩, rfl, rfl, rfl, rfl⟩, rfl⟩
    · have hje : j = i := by omega
      subst hje
      rcases hs11 with ⟨hj0, s11, s12⟩ | ⟨hj0, w', s11, s12, hr3⟩
      · rw [upd2 s11 s12]
        subst hj0
        have e : ofN (sN rs D 0) = [] := ofN_zero
        rw [e]
        (repeat' first | refine st ?_ | refine s2 (fun _ => ?_) (fun _ => ?_) | refine s4 fun _ _ _ _ => ?_ | fail)
        exact ends2 rfl rfl rfl rfl rfl
      · rw [upd2 s11 s12]
        (repeat' first | refine st ?_ | refine s2 (fun _ => ?_) (fun _ => ?_) | refine s4 fun _ _ _ _ => ?_ | fail)
        exact ends2 rfl rfl (purS hr3 (by simp)) rfl rfl
end Go.Av
namespace Go.Av
open Go
variable {ext : Calls0}

theorem cres_shape (s : Nat → Nat) (n : Nat) (q : Option (Nat × Nat)) : ∃ a b c : Int, cres s n q = .tup [pI a, pI b, pI c] := by
  cases q with
  | none => exact ⟨_, _, _, rfl⟩
  | some q => exact ⟨_, _, _, rfl⟩
theorem cspec_shape (rs : List Rat) (bs : List Nat) : ∃ a b c : Int, cspec rs bs = .tup [pI a, pI b, pI c] := by
  unfold cspec; split
  · exact ⟨_, _, _, rfl⟩
  · exact cres_shape _ _ _
open Classical in
/-- What a choice by weights gives, negative weights too. -/
noncomputable def cfull (rs : List Rat) (bs : List Nat) : PAV := if ∃ i, i < rs.length ∧ (rs.getD i 0).num < 0 then cbad else cspec rs bs
theorem cfull_neg {rs : List Rat} {bs : List Nat} {i : Nat} (h : i < rs.length) (hn : (rs.getD i 0).num < 0) : cfull rs bs = cbad := by
  unfold cfull; rw [if_pos ⟨i, h, hn⟩]
theorem cfull_nn {rs : List Rat} {bs : List Nat} (h : ∀ i, i < rs.length → 0 ≤ (rs.getD i 0).num) : cfull rs bs = cspec rs bs := by
  unfold cfull; rw [if_neg]
  rintro ⟨i, h1, h2⟩
  have := h i h1
  omega
theorem cfull_shape (rs : List Rat) (bs : List Nat) : ∃ a b c : Int, cfull rs bs = .tup [pI a, pI b, pI c] := by
  unfold cfull; split
  · exact ⟨_, _, _, rfl⟩
  · exact cspec_shape _ _

theorem Choose_ok {xs : List (List PC)} {rs : List Rat} {bs : List Nat} (hl : xs.length = rs.length) (hx : ∀ i row, xs[i]? = some row → IsF (.agg row) (rs.getD i 0)) (hs : Sml rs) (hb : Db bs) (lb : bs.length ≤ 4096) :
    PCall env ext 120 [.c (.sl xs), pB bs] (cfull rs bs) := by
  have h := choose_ok (ext := ext) (R := cfull rs bs) hl hx hs hb lb (fun i h hn => cfull_neg h hn) (fun h => cfull_nn h)
  obtain ⟨a, b, c, e⟩ := cfull_shape rs bs
  rw [e] at h ⊢
  refine PCall.walk (env := env) (g := 120) rfl rfl ?_
  (repeat' first | refine st ?_ | refine s2 (fun _ => ?_) (fun _ => ?_) | refine s4 fun _ _ _ _ => ?_ | fail)
  refine r_call1 (limited_ok (bs := bs) (by omega)) rfl rfl ?_
  (repeat' first | refine st ?_ | refine s2 (fun _ => ?_) (fun _ => ?_) | refine s4 fun _ _ _ _ => ?_ | fail)
  refine r_call3 h rfl rfl ?_
  (repeat' first | refine st ?_ | refine s2 (fun _ => ?_) (fun _ => ?_) | refine s4 fun _ _ _ _ => ?_ | fail)
  exact ends3 rfl rfl rfl rfl rfl rfl rfl

set_option maxHeartbeats 4000000 in
theorem refChoose_ok {xs : List (List PC)} {rs : List Rat} {bs : List Nat} (hl : xs.length = rs.length) (hx : ∀ i row, xs[i]? = some row → IsF (.agg row) (rs.getD i 0)) (hs : Sml rs) (hb : Db bs) (lb : bs.length ≤ 4096) :
    PCall env ext 164 [.c (.sl xs), pB bs] (cfull rs bs) := by
  have h1 := fun i (h : i < rs.length) (hn : (rs.getD i 0).num < 0) => cfull_neg (bs := bs) h hn
  have h2 := fun (h : ∀ i, i < rs.length → 0 ≤ (rs.getD i 0).num) => cfull_nn (bs := bs) h
  have hint := integers_ok (ext := ext) hl hx hs
  generalize cfull rs bs = R at *
  have hn20 := hs.n
  generalize hn : rs.length = n at *
  refine PCall.walk (env := env) (g := 164) rfl rfl ?_
  (repeat' first | refine st ?_ | refine s2 (fun _ => ?_) (fun _ => ?_) | refine s4 fun _ _ _ _ => ?_ | fail)
  rw [hl]
  refine w_loopUp (fun i sl o => i ≤ n ∧ Hd (∀ j, j < i → 0 ≤ (rs.getD j 0).num) ∧ sl 0 = vs xs ∧ sl 1 = vk .u8 bs ∧ sl 17 = vs xs ∧ sl 18 = vn .i64 n ∧ sl 19 = vn .i64 i) 0 n
    ⟨by omega, ⟨fun j h => absurd h (by omega)⟩, rfl, rfl, rfl, rfl, rfl⟩ (fun i sl o h => h.1) ?_
  rintro i sl o ⟨hi, hnn, s0, s1, s17, s18, s19⟩
  rw [upd5 s0 s1 s17 s18 s19]
  clear s0 s1 s17 s18 s19
  by_cases hin : i < n
  · clear hint
    obtain ⟨row, hrow⟩ : ∃ row, xs[i]? = some row := ⟨_, List.getElem?_eq_getElem (by omega)⟩
    have hF := hx i row hrow
    have hsg := rsign_F (ext := ext) hF
    have hbad := h1 i hin
    have e1 : (rs.getD i 0).num < 0 → sgn (rs.getD i 0) = -1 := sgn_neg
    have e2 : 0 ≤ (rs.getD i 0).num → 0 ≤ sgn (rs.getD i 0) := sgn_nn
    obtain ⟨neg, a, b, he, _⟩ := hF.h
    cases he
    by_cases hneg : (rs.getD i 0).num < 0
    · have e1 := e1 hneg
      rw [hbad hneg]
      (repeat' first | refine st ?_ | refine s2 (fun _ => ?_) (fun _ => ?_) | refine s4 fun _ _ _ _ => ?_ | fail)
      refine r_iaS rfl rfl (by first | with_reducible exact cself _ | exact nlit _) hrow rfl ?_
      (repeat' first | refine st ?_ | refine s2 (fun _ => ?_) (fun _ => ?_) | refine s4 fun _ _ _ _ => ?_ | fail)
      refine r_call1 hsg rfl rfl ?_
      (repeat' first | refine st ?_ | refine s2 (fun _ => ?_) (fun _ => ?_) | refine s4 fun _ _ _ _ => ?_ | fail)
      exact ends3 rfl rfl rfl rfl rfl rfl rfl
    · have e2 := e2 (by omega)
      (repeat' first | refine st ?_ | refine s2 (fun _ => ?_) (fun _ => ?_) | refine s4 fun _ _ _ _ => ?_ | fail)
      refine r_iaS rfl rfl (by first | with_reducible exact cself _ | exact nlit _) hrow rfl ?_
      (repeat' first | refine st ?_ | refine s2 (fun _ => ?_) (fun _ => ?_) | refine s4 fun _ _ _ _ => ?_ | fail)
      refine r_call1 hsg rfl rfl ?_
      (repeat' first | refine st ?_ | refine s2 (fun _ => ?_) (fun _ => ?_) | refine s4 fun _ _ _ _ => ?_ | fail)
      refine ⟨⟨by omega, ⟨fun j hj => ?_⟩, rfl, rfl, rfl, rfl, rfl⟩, rfl⟩
      by_cases hji : j < i
      · exact hnn.h j hji
      · have : j = i := by omega
        subst this; omega
  · have hie : i = n := by omega
    subst hie
    clear hi hin
    have hR := h2 hnn.h
    clear h1 h2 hnn hx
    unfold cspec at hR
    rw [hn] at hR
    have sl86 : ∀ j, j ≤ i → (ofN (sN rs (lc rs i) j)).length ≤ 86 := fun j hj => by have := sN_len hs (show j ≤ 20 by omega); rw [hn] at this; exact this
    have ul86 : ∀ j, (ofN (uN rs (lc rs i) j)).length ≤ 85 := fun j => by have := uN_len hs (i := j); rw [hn] at this; exact this
    generalize hD : lc rs i = D at *
    have hsl := sl86 i (by omega)
    have dS := Dg.ofN (sN rs D i)
    have vS := val_ofN (sN rs D i)
    have hnn2 := natNorm_ok (ext := ext) dS (by omega)
    rw [vS] at hnn2
    (repeat' first | refine st ?_ | refine s2 (fun _ => ?_) (fun _ => ?_) | refine s4 fun _ _ _ _ => ?_ | fail)
    refine r_call2 hint rfl rfl ?_
    (repeat' first | refine st ?_ | refine s2 (fun _ => ?_) (fun _ => ?_) | refine s4 fun _ _ _ _ => ?_ | fail)
    refine r_call1 hnn2 rfl rfl ?_
    by_cases hS0 : sN rs D i = 0
    · rw [if_pos hS0] at hR
      rw [hR, hS0, ofN_zero]
      (repeat' first | refine st ?_ | refine s2 (fun _ => ?_) (fun _ => ?_) | refine s4 fun _ _ _ _ => ?_ | fail)
      exact ends3 rfl rfl rfl rfl rfl rfl rfl
    · rw [if_neg hS0] at hR
      have hpS := len_pos (show 0 < sN rs D i by omega)
      have hbl := refBelow_ok (ext := ext) dS (by omega) hb lb (by omega)
      rw [vS] at hbl
      have hlt := fun v u => bspec_lt (V := sN rs D i) (L := 256 ^ bk (sN rs D i) / sN rs D i * sN rs D i) (k := bk (sN rs D i)) (bs := bs) (f := bs.length + 1) (u0 := 0) (r := v) (u := u) (by omega)
      generalize hBB : bspec (sN rs D i) (256 ^ bk (sN rs D i) / sN rs D i * sN rs D i) (bk (sN rs D i)) bs (bs.length + 1) 0 = B at *
      have hR : R = cres (sN rs D) i B := by rw [hR, ← hBB]
      rw [hR]
      (repeat' first | refine st ?_ | refine s2 (fun _ => ?_) (fun _ => ?_) | refine s4 fun _ _ _ _ => ?_ | fail)
      cases B with
      | none =>
        refine r_call3 hbl rfl rfl ?_
        (repeat' first | refine st ?_ | refine s2 (fun _ => ?_) (fun _ => ?_) | refine s4 fun _ _ _ _ => ?_ | fail)
        exact ends3 rfl rfl rfl rfl rfl rfl rfl
      | some q =>
        obtain ⟨v, u⟩ := q
        have hv := hlt v u rfl
        have lv := ofN_len_mono (Nat.le_of_lt hv)
        refine r_call3 hbl rfl rfl ?_
        (repeat' first | refine st ?_ | refine s2 (fun _ => ?_) (fun _ => ?_) | refine s4 fun _ _ _ _ => ?_ | fail)
        clear hR hlt hBB hbl hint hnn2
        have hul : (urows (uN rs D) i).length = i := by simp
        rw [hul]
        refine w_loopUp (fun k sl o => k ≤ i ∧ Hd (sN rs D k ≤ v ∧ idx (sN rs D) v i 0 = idx (sN rs D) v (i - k) k) ∧ ((k = 0 ∧ sl 14 = .s (.c .e0)) ∨ (0 < k ∧ sl 14 = vk .u32 (ofN (sN rs D k)))) ∧
          sl 11 = vk .u32 (ofN v) ∧ sl 12 = vn .i64 u ∧ sl 46 = vs (urows (uN rs D) i) ∧ sl 47 = vn .i64 i ∧ sl 48 = vn .i64 k) 0 i
          ⟨by omega, ⟨by simp [sN], rfl⟩, .inl ⟨rfl, rfl⟩, rfl, rfl, rfl, rfl, rfl⟩ (fun i sl o h => h.1) ?_
        rintro k sl o ⟨hk, he, hs14, s11, s12, s46, s47, s48⟩
        rw [upd5 s11 s12 s46 s47 s48]
        clear s11 s12 s46 s47 s48
        by_cases hkn : k < i
        · have hgi := urows_get (s := uN rs D) hkn
          have hsl1 := sl86 k (by omega)
          have hsl2 := sl86 (k + 1) (by omega)
          have hul2 := ul86 k
          have had := natAdd_ok (ext := ext) (Dg.ofN (sN rs D k)) (Dg.ofN (uN rs D k)) (by omega) (by omega)
          rw [val_ofN, val_ofN, show sN rs D k + uN rs D k = sN rs D (k + 1) from rfl] at had
          have hcm := natCmp_ok (ext := ext) (Dg.ofN v) (Dg.ofN (sN rs D (k + 1))) (by omega) (by omega)
          rw [val_ofN, val_ofN] at hcm
          have hid := he.h.2
          rw [show i - k = (i - (k + 1)) + 1 by omega] at hid
          simp only [idx] at hid
          by_cases hc : v < sN rs D (k + 1)
          · rw [if_pos hc] at hid
            have hci : cmpI v (sN rs D (k + 1)) < 0 := by unfold cmpI; rw [if_pos hc]; omega
            have hcr : cres (sN rs D) i (some (v, u)) = .tup [pI (k : Nat), pI (u : Nat), pI 0] := by
              show PAV.tup [pI (idx (sN rs D) v i 0 : Nat), _, _] = _
              rw [hid]
            rw [hcr]
            rcases hs14 with ⟨hk0, s14⟩ | ⟨hk0, s14⟩
            · rw [upd1 s14]
              subst hk0
              have e : ofN (sN rs D 0) = [] := ofN_zero
              rw [e] at had
              (repeat' first | refine st ?_ | refine s2 (fun _ => ?_) (fun _ => ?_) | refine s4 fun _ _ _ _ => ?_ | fail)
              refine r_iaS rfl rfl (by first | with_reducible exact cself _ | exact nlit _) hgi rfl ?_
              (repeat' first | refine st ?_ | refine s2 (fun _ => ?_) (fun _ => ?_) | refine s4 fun _ _ _ _ => ?_ | fail)
              refine r_call1 had rfl rfl ?_
              (repeat' first | refine st ?_ | refine s2 (fun _ => ?_) (fun _ => ?_) | refine s4 fun _ _ _ _ => ?_ | fail)
              refine r_call1 hcm rfl rfl ?_
              (repeat' first | refine st ?_ | refine s2 (fun _ => ?_) (fun _ => ?_) | refine s4 fun _ _ _ _ => ?_ | fail)
              exact ends3 rfl rfl rfl rfl rfl rfl rfl
            · rw [upd1 s14]
              (repeat' first | refine st ?_ | refine s2 (fun _ => ?_) (fun _ => ?_) | refine s4 fun _ _ _ _ => ?_ | fail)
              refine r_iaS rfl rfl (by first | with_reducible exact cself _ | exact nlit _) hgi rfl ?_
              (repeat' first | refine st ?_ | refine s2 (fun _ => ?_) (fun _ => ?_) | refine s4 fun _ _ _ _ => ?_ | fail)
              refine r_call1 had rfl rfl ?_
              (repeat' first | refine st ?_ | refine s2 (fun _ => ?_) (fun _ => ?_) | refine s4 fun _ _ _ _ => ?_ | fail)
              refine r_call1 hcm rfl rfl ?_
              (repeat' first | refine st ?_ | refine s2 (fun _ => ?_) (fun _ => ?_) | refine s4 fun _ _ _ _ => ?_ | fail)
              exact ends3 rfl rfl rfl rfl rfl rfl rfl
          · rw [if_neg hc] at hid
            have hci : 0 ≤ cmpI v (sN rs D (k + 1)) := by unfold cmpI; rw [if_neg hc]; split <;> omega
            rcases hs14 with ⟨hk0, s14⟩ | ⟨hk0, s14⟩
            · rw [upd1 s14]
              subst hk0
              have e : ofN (sN rs D 0) = [] := ofN_zero
              rw [e] at had
              (repeat' first | refine st ?_ | refine s2 (fun _ => ?_) (fun _ => ?_) | refine s4 fun _ _ _ _ => ?_ | fail)
              refine r_iaS rfl rfl (by first | with_reducible exact cself _ | exact nlit _) hgi rfl ?_
              (repeat' first | refine st ?_ | refine s2 (fun _ => ?_) (fun _ => ?_) | refine s4 fun _ _ _ _ => ?_ | fail)
              refine r_call1 had rfl rfl ?_
              (repeat' first | refine st ?_ | refine s2 (fun _ => ?_) (fun _ => ?_) | refine s4 fun _ _ _ _ => ?_ | fail)
              refine r_call1 hcm rfl rfl ?_
              (repeat' first | refine st ?_ | refine s2 (fun _ => ?_) (fun _ => ?_) | refine s4 fun _ _ _ _ => ?_ | fail)
              exact ⟨⟨by omega, ⟨by omega, hid⟩, .inr ⟨by omega, rfl⟩, rfl, rfl, rfl, rfl, rfl⟩, rfl⟩
            · rw [upd1 s14]
              (repeat' first | refine st ?_ | refine s2 (fun _ => ?_) (fun _ => ?_) | refine s4 fun _ _ _ _ => ?_ | fail)
              refine r_iaS rfl rfl (by first | with_reducible exact cself _ | exact nlit _) hgi rfl ?_
              (repeat' first | refine st ?_ | refine s2 (fun _ => ?_) (fun _ => ?_) | refine s4 fun _ _ _ _ => ?_ | fail)
              refine r_call1 had rfl rfl ?_
              (repeat' first | refine st ?_ | refine s2 (fun _ => ?_) (fun _ => ?_) | refine s4 fun _ _ _ _ => ?_ | fail)
              refine r_call1 hcm rfl rfl ?_
              (repeat' first | refine st ?_ | refine s2 (fun _ => ?_) (fun _ => ?_) | refine s4 fun _ _ _ _ => ?_ | fail)
              exact ⟨⟨by omega, ⟨by omega, hid⟩, .inr ⟨by omega, rfl⟩, rfl, rfl, rfl, rfl, rfl⟩, rfl⟩
        · exfalso
          have hie : k = i := by omega
          subst hie
          have := he.h.1
          omega
end Go.Av
