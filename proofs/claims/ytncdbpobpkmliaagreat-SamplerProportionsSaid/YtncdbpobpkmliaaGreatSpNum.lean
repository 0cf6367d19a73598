/- A part of the proof (own method: an abstract machine). No condition. -/
import Derived.Test.YtncdbpobpkmliaaGreatRhC
import Derived.Test.YtncdbpobpkmliaaGreatAvRul
namespace Go.Av
open Go
variable {ext : Calls0}

/-- The integer weights of a string of bytes, their partial sums. -/
def wB (bs : List Nat) (i : Nat) : Nat := bs.getD i 0 % 16
def wS (bs : List Nat) : Nat → Nat
  | 0 => 0
  | i + 1 => wS bs i + wB bs i
def wR (bs : List Nat) : List Rat := bs.map fun x => ((x % 16 : Nat) : Rat)
theorem wB_lt (bs : List Nat) (i : Nat) : wB bs i < 16 := Nat.mod_lt _ (by omega)
theorem wS_le (bs : List Nat) : ∀ i, wS bs i ≤ 15 * i
  | 0 => by simp [wS]
  | i + 1 => by have := wS_le bs i; have := wB_lt bs i; simp only [wS]; omega
theorem wR_get (bs : List Nat) (i : Nat) : (wR bs).getD i 0 = ((wB bs i : Nat) : Rat) := by
  unfold wR wB
  rw [List.getD_eq_getElem?_getD, List.getElem?_map, List.getD_eq_getElem?_getD]
  cases bs[i]? with
  | none => rfl
  | some x => rfl
theorem wR_len (bs : List Nat) : (wR bs).length = bs.length := by simp [wR]
theorem wR_num (bs : List Nat) (i : Nat) : ((wR bs).getD i 0).num = (wB bs i : Nat) := by rw [wR_get]; exact Rat.num_natCast _
theorem wR_den (bs : List Nat) (i : Nat) : ((wR bs).getD i 0).den = 1 := by rw [wR_get]; exact Rat.den_natCast _
theorem wR_sml {bs : List Nat} (h : bs.length ≤ 20) : Sml (wR bs) := by
  refine ⟨by rw [wR_len]; exact h, fun i => ?_⟩
  rw [wR_num, wR_den]
  have := wB_lt bs i
  have h6 : (16 : Nat) < 4294967296 ^ 4 := by decide
  generalize 4294967296 ^ 4 = B at *
  omega
theorem wR_lc (bs : List Nat) : ∀ i, lc (wR bs) i = 1
  | 0 => rfl
  | i + 1 => by
    show lcmN _ _ = 1
    rw [wR_lc bs i, wR_den]; rfl
theorem wR_sN (bs : List Nat) : sN (wR bs) 1 = wS bs := by
  funext i
  induction i with
  | zero => rfl
  | succ i ih =>
    simp only [sN, wS, uN]
    rw [ih, wR_num, wR_den]
    simp
theorem wS_mono {bs : List Nat} {i j : Nat} (h : i ≤ j) : wS bs i ≤ wS bs j := by
  induction h with
  | refl => exact Nat.le_refl _
  | step _ ih => exact Nat.le_trans ih (Nat.le_add_right _ _)
theorem idx_spec {s : Nat → Nat} {v : Nat} : ∀ {f i : Nat}, s i ≤ v → v < s (i + f) → idx s v f i < i + f ∧ s (idx s v f i) ≤ v ∧ v < s (idx s v f i + 1)
  | 0, i, h1, h2 => by rw [Nat.add_zero] at h2; omega
  | f + 1, i, h1, h2 => by
    simp only [idx]
    split
    · exact ⟨by omega, h1, by assumption⟩
    · have := idx_spec (s := s) (v := v) (f := f) (i := i + 1) (by omega) (by rw [show i + 1 + f = i + (f + 1) by omega]; exact h2)
      exact ⟨by omega, this.2⟩
/-- The draw from one byte. -/
theorem bdraw1 {S v : Nat} (h0 : 0 < S) (h1 : S ≤ 256) (hv : v < 256) : bdraw S [v] = if v < 256 / S * S then some (v % S, bk S) else none := by
  have hb : bk S ≤ 1 ∧ (bk S = 0 → S = 1) := by
    have h2 : bk S ≤ 1 := by
      by_cases h : 1 < bk S
      · have := bk_lt h0 h
        omega
      · omega
    refine ⟨h2, fun h => ?_⟩
    have := bk_ge S
    rw [h] at this
    omega
  have h3 : bspec S (256 ^ bk S / S * S) (bk S) [v] 2 0 = if v < 256 / S * S then some (v % S, bk S) else none := by
    by_cases hk : bk S = 0
    · have := hb.2 hk
      subst this
      rw [hk]
      have e : v < 256 / 1 * 1 := by omega
      rw [if_pos e]
      show (if [v].length < 0 + 0 then none else if bev ([v].drop 0) 0 < 256 ^ 0 / 1 * 1 then some (bev ([v].drop 0) 0 % 1, 0 + 0) else bspec 1 (256 ^ 0 / 1 * 1) 0 [v] 1 (0 + 0)) = _
      rw [if_neg (by simp), if_pos (by show 0 < 1; decide)]
      simp [bev, Nat.mod_one]
    · have hk1 : bk S = 1 := by omega
      rw [hk1]
      simp only [bspec, bev, List.length_singleton, List.drop_zero, Nat.zero_mul, Nat.zero_add, List.getD_cons_zero, Nat.pow_one]
      rw [if_neg (by omega)]
      split
      · rfl
      · rw [if_pos (by omega)]
  exact h3
/-- How many of the first V draws gave i. -/
def cF (bs : List Nat) (S V i : Nat) : Nat := V / S * wB bs i + (min (V % S) (wS bs (i + 1)) - min (V % S) (wS bs i))
theorem cF_step {bs : List Nat} {n S V i : Nat} (hS : S = wS bs n) (h0 : 0 < S) (hi : i < n) :
    cF bs S (V + 1) i = cF bs S V i + (if idx (wS bs) (V % S) n 0 = i then 1 else 0) := by
  have hr := Nat.mod_lt V h0
  have hj := idx_spec (s := wS bs) (v := V % S) (f := n) (i := 0) (by simp [wS]) (by rw [Nat.zero_add, ← hS]; exact hr)
  rw [Nat.zero_add] at hj
  have e1 : wS bs (i + 1) = wS bs i + wB bs i := rfl
  have e2 : wS bs (i + 1) ≤ S := by rw [hS]; exact wS_mono (by omega)
  have hiff : (idx (wS bs) (V % S) n 0 = i) ↔ (wS bs i ≤ V % S ∧ V % S < wS bs (i + 1)) := by
    constructor
    · intro h; rw [h] at hj; exact hj.2
    · intro ⟨h1, h2⟩
      apply Nat.le_antisymm
      · by_cases hlt : i < idx (wS bs) (V % S) n 0
        · have := wS_mono (bs := bs) (show i + 1 ≤ idx (wS bs) (V % S) n 0 by omega)
          omega
        · omega
      · by_cases hlt : idx (wS bs) (V % S) n 0 < i
        · have := wS_mono (bs := bs) (show idx (wS bs) (V % S) n 0 + 1 ≤ i by omega)
          omega
        · omega
  have hd := Nat.div_add_mod V S
  unfold cF
  generalize idx (wS bs) (V % S) n 0 = J at *
  by_cases hr1 : V % S + 1 < S
  · have a1 : (V + 1) / S = V / S := by
      rw [← hd, Nat.add_assoc, Nat.mul_add_div h0, Nat.mul_add_div h0, Nat.div_eq_of_lt hr, Nat.div_eq_of_lt hr1]
    have a2 : (V + 1) % S = V % S + 1 := by
      conv => lhs; rw [← hd]
      rw [Nat.add_assoc, Nat.mul_add_mod, Nat.mod_eq_of_lt hr1]
    rw [a1, a2]
    generalize V / S * wB bs i = A at *
    by_cases hJ : J = i
    · rw [if_pos hJ]; have := hiff.1 hJ; omega
    · rw [if_neg hJ]
      have : ¬ (wS bs i ≤ V % S ∧ V % S < wS bs (i + 1)) := fun h => hJ (hiff.2 h)
      omega
  · have hr2 : V % S + 1 = S := by omega
    have a1 : (V + 1) / S = V / S + 1 := by
      conv => lhs; rw [← hd]
      rw [Nat.add_assoc, hr2, Nat.mul_add_div h0, Nat.div_self h0]
    have a2 : (V + 1) % S = 0 := by
      conv => lhs; rw [← hd]
      rw [Nat.add_assoc, hr2, Nat.mul_add_mod, Nat.mod_self]
    rw [a1, a2, Nat.add_mul, Nat.one_mul]
    generalize V / S * wB bs i = A at *
    by_cases hJ : J = i
    · rw [if_pos hJ]; have := hiff.1 hJ; omega
    · rw [if_neg hJ]
      have : ¬ (wS bs i ≤ V % S ∧ V % S < wS bs (i + 1)) := fun h => hJ (hiff.2 h)
      omega
theorem cF_end {bs : List Nat} {q S i : Nat} (h0 : 0 < S) : cF bs S (q * S) i = q * wB bs i := by
  unfold cF
  rw [Nat.mul_div_cancel _ h0, Nat.mul_mod_left]
  simp
end Go.Av
namespace Go.Av
open Go
variable {ext : Calls0}

def tot (X : List Nat) : Nat → Nat
  | 0 => 0
  | i + 1 => tot X i + X.getD i 0
theorem tot_mono {X : List Nat} {i j : Nat} (h : i ≤ j) : tot X i ≤ tot X j := by
  induction h with
  | refl => exact Nat.le_refl _
  | step _ ih => exact Nat.le_trans ih (Nat.le_add_right _ _)
theorem total_ok {X : List Nat} (hl : X.length < 4294967296) (h : tot X X.length < 9223372036854775808) :
    PCall env ext 166 [.c (.sl (encK .i64 X))] (.s (.c (.int .i64 (tot X X.length : Nat)))) := by
  refine PCall.walk (env := env) (g := 166) rfl rfl ?_
  (repeat' first | refine st ?_ | refine s2 (fun _ => ?_) (fun _ => ?_) | refine s4 fun _ _ _ _ => ?_ | fail)
  refine w_loopUp (fun i sl o => i ≤ X.length ∧ sl 3 = vn .i64 (tot X i) ∧ sl 6 = vk .i64 X ∧ sl 7 = vn .i64 X.length ∧ sl 8 = vn .i64 i) 0 X.length
    ⟨by omega, rfl, rfl, rfl, rfl⟩ (fun i sl o h => h.1) ?_
  rintro i sl o ⟨hi, s3, s6, s7, s8⟩
  rw [upd4 s3 s6 s7 s8]
  clear s3 s6 s7 s8
  by_cases hin : i < X.length
  · have h1 := tot_mono (X := X) (show i + 1 ≤ X.length by omega)
    have e : tot X (i + 1) = tot X i + X.getD i 0 := rfl
    rw [e] at h1
    (repeat' first | refine st ?_ | refine s2 (fun _ => ?_) (fun _ => ?_) | refine s4 fun _ _ _ _ => ?_ | fail)
    exact ⟨⟨by omega, rfl, rfl, rfl, rfl⟩, rfl⟩
  · have hie : i = X.length := by omega
    subst hie
    (repeat' first | refine st ?_ | refine s2 (fun _ => ?_) (fun _ => ?_) | refine s4 fun _ _ _ _ => ?_ | fail)
    exact ends1 rfl rfl rfl

/-- The weights as rows. -/
def wl (bs : List Nat) (i : Nat) : List (List PC) := (List.range i).map fun j => encR ((wB bs j : Nat) : Rat)
abbrev wrows (bs : List Nat) (i : Nat) : List (List C) := (wl bs i).map (List.map C.p)
theorem wl_len (bs : List Nat) (i : Nat) : (wl bs i).length = i := by simp [wl]
theorem wl_succ (bs : List Nat) (i : Nat) : wl bs (i + 1) = wl bs i ++ [encR ((wB bs i : Nat) : Rat)] := by
  unfold wl; rw [List.range_succ, List.map_append]; rfl
theorem wrows_succ (bs : List Nat) (i : Nat) : wrows bs i ++ [encR ((wB bs i : Nat) : Rat)].map (List.map C.p) = wrows bs (i + 1) := by
  unfold wrows; rw [wl_succ, List.map_append]
theorem wl_F {bs : List Nat} (hs : Sml (wR bs)) (i : Nat) (row : List PC) (h : (wl bs bs.length)[i]? = some row) : IsF (.agg row) ((wR bs).getD i 0) := by
  have hi : i < bs.length := by have := (List.getElem?_eq_some_iff.1 h).1; rw [wl_len] at this; exact this
  have e : row = encR ((wR bs).getD i 0) := by
    rw [wR_get]
    unfold wl at h
    rw [List.getElem?_map, List.getElem?_range hi] at h
    injection h with h
    exact h.symm
  rw [e]
  refine IsF.enc ?_
  have := num_len hs i
  have := den_len hs i
  unfold sz
  omega
theorem encR_len (r : Rat) : (encR r).length = 3 := rfl
theorem Db.one {v : Nat} (h : v < 256) : Db [v] := by
  intro i
  cases i with
  | zero => exact h
  | succ i => show ([] : List Nat).getD i 0 < 256; simp
theorem purA2 {o : Objs} {c : C} {p q : PC} (h : purC o purDepth c = some p) : allSome ([SV.c c, SV.c (.p q)].map (purSV o)) = some [.c p, .c q] := by
  have e : purSV o (.c c) = some (.c p) := by show (purC o purDepth c).map PSV.c = _; rw [h]; rfl
  show allSome [purSV o (.c c), some (.c q)] = _
  rw [e]; rfl
theorem wl_pur {o : Objs} {bs : List Nat} {w n : Nat} (h : o.rws 0 w 3 (wrows bs n)) : purC o purDepth (.rs 0 w 3 0 n) = some (.sl (wl bs n)) := by
  have := purRows h (len := n) (by rw [wl_len]; omega)
  rw [List.take_of_length_le (by rw [wl_len]; omega)] at this
  exact this
theorem purA1 {o : Objs} {k : IntKind} {oi ver n : Nat} {xs : List Nat} (hm : o.is oi ver k xs) (hl : xs.length = n) : allSome ([SV.c (.rs oi ver 1 0 n)].map (purSV o)) = some [.c (.sl (encK k xs))] := by
  have := purK hm (n := n) (by omega)
  rw [List.take_of_length_le (by omega)] at this
  show allSome [purSV o (.c (.rs oi ver 1 0 n))] = _
  rw [this]; rfl
theorem tot_eq {X bs : List Nat} {q : Nat} : ∀ {i : Nat}, (∀ j, j < i → X.getD j 0 = q * wB bs j) → tot X i = q * wS bs i
  | 0, _ => by simp [tot, wS]
  | i + 1, h => by
    simp only [tot, wS]
    rw [tot_eq (i := i) (fun j hj => h j (by omega)), h i (by omega), Nat.mul_add]
/-- The answer for a draw of one byte. -/
theorem choose1 {bs : List Nat} (hn : bs.length ≤ 12) {v : Nat} (hv : v < 256) :
    PCall env ext 120 [.c (.sl (wl bs bs.length)), pB [v]] (if wS bs bs.length = 0 then cbad else
      if v < 256 / wS bs bs.length * wS bs bs.length then .tup [pI (idx (wS bs) (v % wS bs bs.length) bs.length 0 : Nat), pI (bk (wS bs bs.length) : Nat), pI 0] else .tup [pI 0, pI 0, pI 3]) := by
  have hs := wR_sml (bs := bs) (by omega)
  have hc := Choose_ok (ext := ext) (xs := wl bs bs.length) (rs := wR bs) (bs := [v]) (by rw [wl_len, wR_len]) (wl_F hs) hs (Db.one hv) (by simp)
  rw [cfull_nn (fun i hi => by rw [wR_num]; omega)] at hc
  unfold cspec at hc
  rw [wR_lc, wR_len, wR_sN] at hc
  by_cases h0 : wS bs bs.length = 0
  · rw [if_pos h0] at hc ⊢; exact hc
  · rw [if_neg h0] at hc ⊢
    have := wS_le bs bs.length
    have hd := bdraw1 (S := wS bs bs.length) (v := v) (by omega) (by omega) hv
    rw [hd] at hc
    split at hc
    · rw [if_pos (by assumption)]; exact hc
    · rw [if_neg (by assumption)]; exact hc

set_option maxHeartbeats 4000000 in
theorem sp_pure (hA : PCall env ext 159 [] (.s (.c (.bool true)))) {bs : List Nat} (hb : Db bs) : PCall env ext 167 [pB bs] (.s (.c (.bool true))) := by
  by_cases hn : bs.length ≤ 12
  · have hch := fun v (hv : v < 256) => choose1 (ext := ext) hn hv
    have hle := wS_le bs
    have hbs := fun i => hb i
    generalize hN : bs.length = n at *
    refine PCall.walk (env := env) (g := 167) rfl rfl ?_
    (repeat' first | refine st ?_ | refine s2 (fun _ => ?_) (fun _ => ?_) | refine s4 fun _ _ _ _ => ?_ | fail)
    rw [hN]
    (repeat' first | refine st ?_ | refine s2 (fun _ => ?_) (fun _ => ?_) | refine s4 fun _ _ _ _ => ?_ | fail)
    refine w_loopUp (fun i sl o => i ≤ n ∧ ((i = 0 ∧ sl 3 = .s (.c .e0)) ∨ (0 < i ∧ ∃ w, sl 3 = .s (.c (.rs 0 w 3 0 i)) ∧ o.rws 0 w 3 (wrows bs i))) ∧
      sl 0 = vk .u8 bs ∧ sl 4 = vn .i64 (wS bs i) ∧ sl 21 = vk .u8 bs ∧ sl 22 = vn .i64 n ∧ sl 23 = vn .i64 i) 0 n
      ⟨by omega, .inl ⟨rfl, rfl⟩, rfl, rfl, rfl, rfl, rfl⟩ (fun i sl o h => h.1) ?_
    rintro i sl o ⟨hi, hs3, s0, s4, s21, s22, s23⟩
    rw [upd5 s0 s4 s21 s22 s23]
    clear s0 s4 s21 s22 s23
    by_cases hin : i < n
    · have hwb := wB_lt bs i
      have hx : bs.getD i 0 < 256 := hbs i
      have hwS := hle i
      have e : wS bs (i + 1) = wS bs i + wB bs i := rfl
      have hfi := fracInt_ok (ext := ext) (n := wB bs i) (by omega)
      have ewb : bs.getD i 0 % 16 = wB bs i := rfl
      rcases hs3 with ⟨hi0, s3⟩ | ⟨hi0, w, s3, hrw⟩
      · rw [upd1 s3]
        clear s3
        (repeat' first | refine st ?_ | refine s2 (fun _ => ?_) (fun _ => ?_) | refine s4 fun _ _ _ _ => ?_ | fail)
        refine r_binN rfl rfl (by first | with_reducible exact cself _ | exact nlit _) (by first | with_reducible exact cself _ | exact nlit _) rfl (b_and15 hx) ?_
        rw [ewb]
        (repeat' first | refine st ?_ | refine s2 (fun _ => ?_) (fun _ => ?_) | refine s4 fun _ _ _ _ => ?_ | fail)
        refine r_callA hfi rfl rfl ?_
        (repeat' first | refine st ?_ | refine s2 (fun _ => ?_) (fun _ => ?_) | refine s4 fun _ _ _ _ => ?_ | fail)
        refine gr_slPA rfl rfl rfl rfl (by decide) ?_
        (repeat' first | refine st ?_ | refine s2 (fun _ => ?_) (fun _ => ?_) | refine s4 fun _ _ _ _ => ?_ | fail)
        refine gr_app0 (ys := [encR ((wB bs i : Nat) : Rat)]) rfl rfl (by simp [encR_len]) (by simp) (by simp) (by simp) ?_
        intro oC g7 g8 g9
        (repeat' first | refine st ?_ | refine s2 (fun _ => ?_) (fun _ => ?_) | refine s4 fun _ _ _ _ => ?_ | fail)
        refine r_binN rfl rfl (by first | with_reducible exact cself _ | exact nlit _) (by first | with_reducible exact cself _ | exact nlit _) rfl (b_and15 hx) ?_
        rw [ewb]
        (repeat' first | refine st ?_ | refine s2 (fun _ => ?_) (fun _ => ?_) | refine s4 fun _ _ _ _ => ?_ | fail)
        subst hi0
        refine ⟨⟨by omega, .inr ⟨by omega, _, rfl, g7⟩, rfl, rfl, rfl, rfl, rfl⟩, rfl⟩
      · rw [upd1 s3]
        clear s3
        (repeat' first | refine st ?_ | refine s2 (fun _ => ?_) (fun _ => ?_) | refine s4 fun _ _ _ _ => ?_ | fail)
        refine r_binN rfl rfl (by first | with_reducible exact cself _ | exact nlit _) (by first | with_reducible exact cself _ | exact nlit _) rfl (b_and15 hx) ?_
        rw [ewb]
        (repeat' first | refine st ?_ | refine s2 (fun _ => ?_) (fun _ => ?_) | refine s4 fun _ _ _ _ => ?_ | fail)
        refine r_callA hfi rfl rfl ?_
        (repeat' first | refine st ?_ | refine s2 (fun _ => ?_) (fun _ => ?_) | refine s4 fun _ _ _ _ => ?_ | fail)
        refine gr_slPA rfl rfl rfl rfl (by decide) ?_
        (repeat' first | refine st ?_ | refine s2 (fun _ => ?_) (fun _ => ?_) | refine s4 fun _ _ _ _ => ?_ | fail)
        refine gr_app (ys := [encR ((wB bs i : Nat) : Rat)]) rfl rfl (by simp [encR_len]) hrw (by simp [wl_len]) (by simp; omega) (by simp; omega) ?_
        intro oC g7 g8 g9
        rw [wrows_succ] at g7
        (repeat' first | refine st ?_ | refine s2 (fun _ => ?_) (fun _ => ?_) | refine s4 fun _ _ _ _ => ?_ | fail)
        refine r_binN rfl rfl (by first | with_reducible exact cself _ | exact nlit _) (by first | with_reducible exact cself _ | exact nlit _) rfl (b_and15 hx) ?_
        rw [ewb]
        (repeat' first | refine st ?_ | refine s2 (fun _ => ?_) (fun _ => ?_) | refine s4 fun _ _ _ _ => ?_ | fail)
        refine ⟨⟨by omega, .inr ⟨by omega, _, rfl, g7⟩, rfl, rfl, rfl, rfl, rfl⟩, rfl⟩
    · have hie : i = n := by omega
      subst hie
      clear hi hin
      have hSle := hle i
      by_cases hS0 : wS bs i = 0
      · have hc0 := hch 0 (by omega)
        rw [if_pos hS0] at hc0
        rw [hS0]
        rcases hs3 with ⟨hi0, s3⟩ | ⟨hi0, w, s3, hrw⟩
        · rw [upd1 s3]
          subst hi0
          (repeat' first | refine st ?_ | refine s2 (fun _ => ?_) (fun _ => ?_) | refine s4 fun _ _ _ _ => ?_ | fail)
          refine r_callS hc0 rfl rfl rfl ?_
          (repeat' first | refine st ?_ | refine s2 (fun _ => ?_) (fun _ => ?_) | refine s4 fun _ _ _ _ => ?_ | fail)
          refine r_call1 hA rfl rfl ?_
          (repeat' first | refine st ?_ | refine s2 (fun _ => ?_) (fun _ => ?_) | refine s4 fun _ _ _ _ => ?_ | fail)
          exact ends1 rfl rfl rfl
        · rw [upd1 s3]
          (repeat' first | refine st ?_ | refine s2 (fun _ => ?_) (fun _ => ?_) | refine s4 fun _ _ _ _ => ?_ | fail)
          refine r_callS hc0 rfl rfl (purA2 (wl_pur hrw)) ?_
          (repeat' first | refine st ?_ | refine s2 (fun _ => ?_) (fun _ => ?_) | refine s4 fun _ _ _ _ => ?_ | fail)
          refine r_call1 hA rfl rfl ?_
          (repeat' first | refine st ?_ | refine s2 (fun _ => ?_) (fun _ => ?_) | refine s4 fun _ _ _ _ => ?_ | fail)
          exact ends1 rfl rfl rfl
      · rcases hs3 with ⟨hi0, s3⟩ | ⟨hi0, w, s3, hrw⟩
        · subst hi0; exact absurd rfl hS0
        · rw [upd1 s3]
          clear s3
          have hS := wS_le bs i
          have hidx := fun v => idx_spec (s := wS bs) (v := v % wS bs i) (f := i) (i := 0) (Nat.zero_le _) (by rw [Nat.zero_add]; exact Nat.mod_lt _ (by omega))
          have hstep := fun V k (hk : k < i) => cF_step (bs := bs) (n := i) (V := V) (i := k) rfl (by omega) hk
          have hend := fun q k => cF_end (bs := bs) (q := q) (i := k) (S := wS bs i) (by omega)
          have hz := fun k => show cF bs (wS bs i) 0 k = 0 by unfold cF; simp
          have hwl := hle i
          have hqS : 256 / wS bs i * wS bs i ≤ 256 := Nat.div_mul_le_self _ _
          have hq0 : 0 < 256 / wS bs i := Nat.div_pos (by omega) (by omega)
          have hqle : 256 / wS bs i ≤ 256 := Nat.div_le_self _ _
          have hwS := hle
          generalize hSS : wS bs i = S at *
          generalize 256 / S = q at *
          (repeat' first | refine st ?_ | refine s2 (fun _ => ?_) (fun _ => ?_) | refine s4 fun _ _ _ _ => ?_ | fail)
          rename_i o1 g1 g2 g3
          generalize Objs.nv _ _ = w1 at *
          have hrw1 := rws_keep hrw (g2 0 w (by omega))
          refine w_loopUp (fun v sl o => v ≤ 256 ∧ (∃ X, Hd (X.length = i ∧ ∀ k, k < i → X.getD k 0 = cF bs S (min v (q * S)) k ∧ X.getD k 0 ≤ v) ∧ o.is 1 w1 .i64 X) ∧ o.rws 0 w 3 (wrows bs i) ∧
            sl 0 = vk .u8 bs ∧ sl 3 = .s (.c (.rs 0 w 3 0 i)) ∧ sl 4 = vn .i64 S ∧ sl 10 = .s (.c (.rs 1 w1 1 0 i)) ∧ sl 11 = vn .i64 v) 0 256
            ⟨by omega, ⟨_, ⟨by simp, fun k hk => ⟨by rw [Nat.zero_min, hz]; simp [hk], by simp [hk]⟩⟩, g1⟩, hrw1, rfl, rfl, rfl, rfl, rfl⟩ (fun i sl o h => h.1) ?_
          clear g1 g2 g3 hrw hrw1
          rintro v sl o ⟨hv, ⟨X, hX, hm⟩, hrw, s0, s3, s4, s10, s11⟩
          rw [upd5 s0 s3 s4 s10 s11]
          clear s0 s3 s4 s10 s11
          by_cases hv2 : v < 256
          · have hcv := hch v hv2
            rw [if_neg (by omega)] at hcv
            have hmod : v % 256 = v := Nat.mod_eq_of_lt hv2
            by_cases ha : v < q * S
            · rw [if_pos ha] at hcv
              have hid := (hidx v).1
              rw [Nat.zero_add] at hid
              have hstv := hstep v
              rw [show min v (q * S) = v by omega] at hX
              generalize idx (wS bs) (v % S) i 0 = J at *
              have hXl := hX.h.1
              have hXJ := (hX.h.2 J hid).2
              (repeat' first | refine st ?_ | refine s2 (fun _ => ?_) (fun _ => ?_) | refine s4 fun _ _ _ _ => ?_ | fail)
              rw [hmod]
              refine r_callS hcv rfl rfl (purA2 (wl_pur hrw)) ?_
              (repeat' first | refine st ?_ | refine s2 (fun _ => ?_) (fun _ => ?_) | refine s4 fun _ _ _ _ => ?_ | fail)
              rename_i o2 g1 g2 g3
              refine ⟨⟨by omega, ⟨_, ⟨by rw [List.length_set]; exact hXl, fun k hk => ?_⟩, g1⟩, rws_keep hrw (g2 0 w (by omega)), rfl, rfl, rfl, rfl, rfl⟩, rfl⟩
              rw [show min (v + 1) (q * S) = v + 1 by omega, hstv k hk]
              have := hX.h.2 k hk
              by_cases hJk : J = k
              · subst hJk
                rw [if_pos rfl]
                simp [List.getD_eq_getElem?_getD, hXl, hk] at this ⊢
                omega
              · rw [if_neg hJk, List.getD_eq_getElem?_getD, List.getElem?_set_ne hJk, ← List.getD_eq_getElem?_getD]
                omega
            · rw [if_neg ha] at hcv
              have hXl := hX.h.1
              (repeat' first | refine st ?_ | refine s2 (fun _ => ?_) (fun _ => ?_) | refine s4 fun _ _ _ _ => ?_ | fail)
              rw [hmod]
              refine r_callS hcv rfl rfl (purA2 (wl_pur hrw)) ?_
              (repeat' first | refine st ?_ | refine s2 (fun _ => ?_) (fun _ => ?_) | refine s4 fun _ _ _ _ => ?_ | fail)
              refine ⟨⟨by omega, ⟨_, ⟨hXl, fun k hk => ?_⟩, hm⟩, hrw, rfl, rfl, rfl, rfl, rfl⟩, rfl⟩
              have := hX.h.2 k hk
              rw [show min (v + 1) (q * S) = min v (q * S) by omega]
              omega
          · have hve : v = 256 := by omega
            subst hve
            rw [show min 256 (q * S) = q * S by omega] at hX
            have hXl := hX.h.1
            have hXg : ∀ k, k < i → X.getD k 0 = q * wB bs k := fun k hk => by rw [(hX.h.2 k hk).1, hend]
            have htot := tot_eq (X := X) (bs := bs) (q := q) (i := i) hXg
            rw [hSS] at htot
            have hto := total_ok (ext := ext) (X := X) (by omega) (by rw [hXl, htot]; omega)
            rw [hXl, htot] at hto
            clear hX hch hidx hstep hend hz htot
            (repeat' first | refine st ?_ | refine s2 (fun _ => ?_) (fun _ => ?_) | refine s4 fun _ _ _ _ => ?_ | fail)
            rw [hN]
            refine w_loopUp (fun k sl o => k ≤ i ∧ o.is 1 w1 .i64 X ∧ sl 4 = vn .i64 S ∧ sl 10 = .s (.c (.rs 1 w1 1 0 i)) ∧ sl 86 = vk .u8 bs ∧ sl 87 = vn .i64 i ∧ sl 88 = vn .i64 k) 0 i
              ⟨by omega, hm, rfl, rfl, rfl, rfl, rfl⟩ (fun i sl o h => h.1) ?_
            clear hm hrw
            rintro k sl o ⟨hk, hm, s4, s10, s86, s87, s88⟩
            rw [upd5 s4 s10 s86 s87 s88]
            clear s4 s10 s86 s87 s88
            by_cases hki : k < i
            · have hx : bs.getD k 0 < 256 := hbs k
              have hXk := hXg k hki
              have hwb := wB_lt bs k
              have ewb : bs.getD k 0 % 16 = wB bs k := rfl
              have epr : X.getD k 0 * S = wB bs k * (q * S) := by rw [hXk, Nat.mul_comm q, Nat.mul_assoc]
              have hb2 : wB bs k * (q * S) ≤ 15 * 256 := Nat.mul_le_mul (by omega) hqS
              have hb3 : wB bs k * (q * S) < 9223372036854775808 := by omega
              have hb4 : X.getD k 0 * S < 9223372036854775808 := by omega
              have hpos : wB bs k = 0 ∧ X.getD k 0 = 0 ∨ 0 < wB bs k ∧ 0 < X.getD k 0 := by
                rw [hXk]
                rcases Nat.eq_zero_or_pos (wB bs k) with h | h
                · exact .inl ⟨h, by rw [h, Nat.mul_zero]⟩
                · exact .inr ⟨h, Nat.mul_pos hq0 h⟩
              clear hXg hXk hbs
              generalize q * S = T at *
              rcases hpos with ⟨hp1, hp2⟩ | ⟨hp1, hp2⟩
              · (repeat' first | refine st ?_ | refine s2 (fun _ => ?_) (fun _ => ?_) | refine s4 fun _ _ _ _ => ?_ | fail)
                refine r_binN rfl rfl (by first | with_reducible exact cself _ | exact nlit _) (by first | with_reducible exact cself _ | exact nlit _) rfl (b_and15 hx) ?_
                rw [ewb]
                (repeat' first | refine st ?_ | refine s2 (fun _ => ?_) (fun _ => ?_) | refine s4 fun _ _ _ _ => ?_ | fail)
                refine r_callS hto rfl rfl (purA1 hm hXl) ?_
                (repeat' first | refine st ?_ | refine s2 (fun _ => ?_) (fun _ => ?_) | refine s4 fun _ _ _ _ => ?_ | fail)
                refine r_binN rfl rfl (by first | with_reducible exact cself _ | exact nlit _) (by first | with_reducible exact cself _ | exact nlit _) rfl (b_and15 hx) ?_
                rw [ewb]
                (repeat' first | refine st ?_ | refine s2 (fun _ => ?_) (fun _ => ?_) | refine s4 fun _ _ _ _ => ?_ | fail)
                exact ⟨⟨by omega, hm, rfl, rfl, rfl, rfl, rfl⟩, rfl⟩
              · (repeat' first | refine st ?_ | refine s2 (fun _ => ?_) (fun _ => ?_) | refine s4 fun _ _ _ _ => ?_ | fail)
                refine r_binN rfl rfl (by first | with_reducible exact cself _ | exact nlit _) (by first | with_reducible exact cself _ | exact nlit _) rfl (b_and15 hx) ?_
                rw [ewb]
                (repeat' first | refine st ?_ | refine s2 (fun _ => ?_) (fun _ => ?_) | refine s4 fun _ _ _ _ => ?_ | fail)
                refine r_callS hto rfl rfl (purA1 hm hXl) ?_
                (repeat' first | refine st ?_ | refine s2 (fun _ => ?_) (fun _ => ?_) | refine s4 fun _ _ _ _ => ?_ | fail)
                refine r_binN rfl rfl (by first | with_reducible exact cself _ | exact nlit _) (by first | with_reducible exact cself _ | exact nlit _) rfl (b_and15 hx) ?_
                rw [ewb]
                (repeat' first | refine st ?_ | refine s2 (fun _ => ?_) (fun _ => ?_) | refine s4 fun _ _ _ _ => ?_ | fail)
                exact ⟨⟨by omega, hm, rfl, rfl, rfl, rfl, rfl⟩, rfl⟩
            · have hke : k = i := by omega
              subst hke
              (repeat' first | refine st ?_ | refine s2 (fun _ => ?_) (fun _ => ?_) | refine s4 fun _ _ _ _ => ?_ | fail)
              refine r_call1 hA rfl rfl ?_
              (repeat' first | refine st ?_ | refine s2 (fun _ => ?_) (fun _ => ?_) | refine s4 fun _ _ _ _ => ?_ | fail)
              exact ends1 rfl rfl rfl
  · refine PCall.walk (env := env) (g := 167) rfl rfl ?_
    (repeat' first | refine st ?_ | refine s2 (fun _ => ?_) (fun _ => ?_) | refine s4 fun _ _ _ _ => ?_ | fail)
    refine r_call1 hA rfl rfl ?_
    (repeat' first | refine st ?_ | refine s2 (fun _ => ?_) (fun _ => ?_) | refine s4 fun _ _ _ _ => ?_ | fail)
    exact ends1 rfl rfl rfl
end Go.Av
