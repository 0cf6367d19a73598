/- A part of the proof (own method: an abstract machine). No condition. -/
import Derived.Test.YthdilnjdkniofaaGreatBrA
namespace Go.Av
open Go
variable {ext : Calls0}

set_option maxHeartbeats 1000000 in
theorem natMul_ok {A B : List Nat} (d1 : Dg A) (d2 : Dg B) (la : Sh A) (lb : Sh B) : PCall env ext 85 [pN A, pN B] (.s (pN (ofN (val A * val B)))) := by
  refine PCall.walk (env := env) (g := 85) rfl rfl ?_
  (repeat' first | refine st ?_ | refine s2 (fun _ => ?_) (fun _ => ?_) | refine s4 fun _ _ _ _ => ?_ | fail)
  rename_i o1 hm _ _
  refine w_loopUp (fun i sl o => i ≤ A.length ∧ ∃ xs, xs.length = A.length + B.length ∧ Dg xs ∧ Hd (vt xs (i + B.length) = vt A i * val B) ∧ o.is 0 0 .u32 xs ∧
    sl 0 = vk .u32 A ∧ sl 1 = vk .u32 B ∧ sl 5 = .s (.c (.rs 0 0 1 0 (A.length + B.length))) ∧ sl 6 = vn .i64 i) 0 A.length
    ⟨by omega, _, List.length_replicate, Dg.replicate _, ⟨by rw [vt_zero, Nat.zero_mul, vt_replicate]⟩, hm, rfl, rfl, rfl, rfl⟩ (fun i sl o h => h.1) ?_
  clear hm
  rintro i sl o ⟨hi, xs, hx, hd, he, hm, s0, s1, s5, s6⟩
  rw [upd4 s0 s1 s5 s6]
  clear s0 s1 s5 s6
  have a1 := d1 i
  by_cases hin : i < A.length
  · (repeat' first | refine st ?_ | refine s2 (fun _ => ?_) (fun _ => ?_) | refine s4 fun _ _ _ _ => ?_ | fail)
    refine w_loopUp (fun k sl o => k ≤ B.length ∧ ∃ ys c, ys.length = A.length + B.length ∧ Dg ys ∧ c < 4294967296 ∧
      Hd (vt ys (i + B.length) + 4294967296 ^ (i + k) * c = vt A i * val B + 4294967296 ^ i * A.getD i 0 * vt B k) ∧ o.is 0 0 .u32 ys ∧
      sl 0 = vk .u32 A ∧ sl 1 = vk .u32 B ∧ sl 5 = .s (.c (.rs 0 0 1 0 (A.length + B.length))) ∧ sl 6 = vn .i64 i ∧ sl 7 = vn .u64 c ∧ sl 8 = vn .i64 k) 0 B.length
      ⟨by omega, xs, 0, hx, hd, by omega, ⟨by rw [vt_zero]; simpa using he.h⟩, hm, rfl, rfl, rfl, rfl, rfl, rfl⟩ (fun i sl o h => h.1) ?_
    clear hm he hd hx
    rintro k sl o ⟨hk, ys, c, hy, hd, hc, he, hm, s0, s1, s5, s6, s7, s8⟩
    rw [upd6 s0 s1 s5 s6 s7 s8]
    clear s0 s1 s5 s6 s7 s8
    have a2 := d2 k
    have a3 := hd (i + k)
    have a4 := (mul_step a1 a2 hc a3).1
    by_cases hkn : k < B.length
    · (repeat' first | refine st ?_ | refine s2 (fun _ => ?_) (fun _ => ?_) | refine s4 fun _ _ _ _ => ?_ | fail)
      rename_i o' hm' _ _
      refine ⟨⟨by omega, _, _, ?_, hd.set (by omega), ?_, ⟨?_⟩, hm', rfl, rfl, rfl, rfl, rfl, rfl⟩, rfl⟩
      · rw [List.length_set, hy]
      · have := (mul_step a1 a2 hc a3).2.1
        rw [show c + ys.getD (i + k) 0 + A.getD i 0 * B.getD k 0 = c + (A.getD i 0 * B.getD k 0 + ys.getD (i + k) 0) by omega]; exact this
      · have he := he.h
        have e0 := vt_set_in (l := ys) (k := i + k) (v := (c + ys.getD (i + k) 0 + A.getD i 0 * B.getD k 0) % 4294967296) (n := i + B.length) (by omega) (by omega)
        have e1 : 4294967296 ^ (i + k) = 4294967296 ^ i * 4294967296 ^ k := Nat.pow_add _ _ _
        have e2 : 4294967296 ^ (i + (k + 1)) = 4294967296 ^ i * 4294967296 ^ k * 4294967296 := by rw [← Nat.add_assoc, Nat.pow_succ, e1]
        have e3 := Nat.mod_add_div (c + ys.getD (i + k) 0 + A.getD i 0 * B.getD k 0) 4294967296
        rw [vt_succ B, e2]
        rw [e1] at he e0
        generalize (c + ys.getD (i + k) 0 + A.getD i 0 * B.getD k 0) % 4294967296 = r at *
        generalize (c + ys.getD (i + k) 0 + A.getD i 0 * B.getD k 0) / 4294967296 = q at *
        generalize vt (ys.set (i + k) r) (i + B.length) = V at *
        generalize 4294967296 ^ i = P at *
        generalize 4294967296 ^ k = R at *
        clear a4
        grind
    · (repeat' first | refine st ?_ | refine s2 (fun _ => ?_) (fun _ => ?_) | refine s4 fun _ _ _ _ => ?_ | fail)
      rename_i o' hm' _ _
      have : k = B.length := by omega
      subst this
      refine ⟨⟨by omega, _, ?_, hd.set (by omega), ⟨?_⟩, hm', rfl, rfl, rfl, rfl⟩, rfl⟩
      · rw [List.length_set, hy]
      · have he := he.h
        rw [show i + 1 + B.length = (i + B.length) + 1 by omega, vt_set_succ (by omega), vt_succ A, Nat.mod_eq_of_lt hc, he, vt_len]
        grind
  · have : i = A.length := by omega
    subst this
    have he := he.h
    rw [← hx, vt_len, vt_len] at he
    have f4 := ofN_len_le_of hd
    replace he : Hd _ := ⟨he⟩
    rw [← hx]
    (repeat' first | refine st ?_ | refine s2 (fun _ => ?_) (fun _ => ?_) | refine s4 fun _ _ _ _ => ?_ | fail)
    refine r_callR (natNormR hd (by omega) hm (by omega) (by omega)) rfl ?_
    rintro o' r ⟨w', rfl, hm', _, _⟩
    (repeat' first | refine st ?_ | refine s2 (fun _ => ?_) (fun _ => ?_) | refine s4 fun _ _ _ _ => ?_ | fail)
    refine ends1 rfl (purK hm' (Nat.le_refl _)) ?_
    rw [List.take_length, he.h]

theorem natAdd_ok {A B : List Nat} (d1 : Dg A) (d2 : Dg B) (la : Sh A) (lb : Sh B) : PCall env ext 86 [pN A, pN B] (.s (pN (ofN (val A + val B)))) := by
  obtain ⟨m, hmA, hmB, hm2⟩ : ∃ m, A.length ≤ m ∧ B.length ≤ m ∧ (m = A.length ∨ m = B.length) := by
    by_cases h : A.length ≤ B.length
    · exact ⟨B.length, h, Nat.le_refl _, .inr rfl⟩
    · exact ⟨A.length, Nat.le_refl _, by omega, .inl rfl⟩
  refine PCall.walk (env := env) (g := 86) rfl rfl ?_
  (repeat' first | refine st ?_ | refine s2 (fun _ => ?_) (fun _ => ?_) | refine s4 fun _ _ _ _ => ?_ | fail)
  refine w_loopUp (fun i sl o => i ≤ m ∧ ∃ X c, X.length = i ∧ Dg X ∧ c ≤ 1 ∧ Hd (val X + 4294967296 ^ i * c = vt A i + vt B i) ∧ sl 0 = vk .u32 A ∧ sl 1 = vk .u32 B ∧ sl 6 = vn .u64 c ∧ sl 7 = vn .i64 i ∧
    ((i = 0 ∧ sl 5 = .s (.c .e0)) ∨ (0 < i ∧ ∃ w, sl 5 = .s (.c (.rs 0 w 1 0 i)) ∧ o.is 0 w .u32 X))) 0 m
    ⟨by omega, [], 0, rfl, Dg.nil, by omega, ⟨by simp [vt_zero, val]⟩, rfl, rfl, rfl, rfl, .inl ⟨rfl, rfl⟩⟩ (fun i sl o h => h.1) ?_
  rintro i sl o ⟨hi, X, c, hX, hd, hc, he, s0, s1, s6, s7, hs⟩
  have a1 := d1 i
  have a2 := d2 i
  have stp : ∀ t, t = c + A.getD i 0 + B.getD i 0 → Dg (X ++ [t % 4294967296]) ∧ val (X ++ [t % 4294967296]) + 4294967296 ^ (i + 1) * (t / 4294967296) = vt A (i + 1) + vt B (i + 1) := by
    intro t ht
    refine ⟨hd.append (Dg.cons (by omega) Dg.nil), ?_⟩
    have he := he.h
    rw [val_snoc, hX, vt_succ, vt_succ]
    have h1 := Nat.mod_add_div t 4294967296
    generalize t % 4294967296 = p at *
    generalize t / 4294967296 = q at *
    clear hs
    grind
  have tail : i = m → Dg (X ++ [c % 4294967296]) ∧ val (X ++ [c % 4294967296]) = val A + val B ∧ (X ++ [c % 4294967296]).length = m + 1 := by
    intro hia
    refine ⟨hd.append (Dg.cons (by omega) Dg.nil), ?_, by rw [List.length_append, hX, hia]; rfl⟩
    have he := he.h
    rw [val_snoc, hX, Nat.mod_eq_of_lt (by omega), he, hia, vt_ge hmA, vt_ge hmB]
  have z1 : A.length ≤ i → A.getD i 0 = 0 := fun h => getD_lt (by omega)
  have z2 : B.length ≤ i → B.getD i 0 = 0 := fun h => getD_lt (by omega)
  replace he : Hd True := ⟨trivial⟩
  rcases hs with ⟨h0, s5⟩ | ⟨h0, w, s5, hm⟩
  · subst h0
    have hX0 : X = [] := List.eq_nil_of_length_eq_zero hX
    subst hX0
    rw [upd5 s0 s1 s6 s7 s5]
    clear s0 s1 s6 s7 s5
    by_cases hA : 0 < A.length
    · by_cases hB : 0 < B.length
      · (repeat' first | refine st ?_ | refine s2 (fun _ => ?_) (fun _ => ?_) | refine s4 fun _ _ _ _ => ?_ | fail)
        rename_i o' hm' _ _
        obtain ⟨f1, f2⟩ := stp _ rfl
        exact ⟨⟨by omega, _, _, by simp, f1, by omega, ⟨f2⟩, rfl, rfl, rfl, rfl, .inr ⟨by omega, _, rfl, hm'⟩⟩, rfl⟩
      · have zz := z2 (by omega)
        (repeat' first | refine st ?_ | refine s2 (fun _ => ?_) (fun _ => ?_) | refine s4 fun _ _ _ _ => ?_ | fail)
        rename_i o' hm' _ _
        obtain ⟨f1, f2⟩ := stp (c + A.getD 0 0) (by omega)
        exact ⟨⟨by omega, _, _, by simp, f1, by omega, ⟨f2⟩, rfl, rfl, rfl, rfl, .inr ⟨by omega, _, rfl, hm'⟩⟩, rfl⟩
    · have zz := z1 (by omega)
      by_cases hB : 0 < B.length
      · (repeat' first | refine st ?_ | refine s2 (fun _ => ?_) (fun _ => ?_) | refine s4 fun _ _ _ _ => ?_ | fail)
        rename_i o' hm' _ _
        obtain ⟨f1, f2⟩ := stp (c + B.getD 0 0) (by omega)
        exact ⟨⟨by omega, _, _, by simp, f1, by omega, ⟨f2⟩, rfl, rfl, rfl, rfl, .inr ⟨by omega, _, rfl, hm'⟩⟩, rfl⟩
      · (repeat' first | refine st ?_ | refine s2 (fun _ => ?_) (fun _ => ?_) | refine s4 fun _ _ _ _ => ?_ | fail)
        rename_i o' hm' _ _
        obtain ⟨f1, f2, f3⟩ := tail (by omega)
        have f4 := ofN_len_le_of f1
        refine r_callR (natNormR f1 (by omega) hm' (by omega) (by omega)) rfl ?_
        rintro o'' r ⟨w', rfl, hm'', _, _⟩
        (repeat' first | refine st ?_ | refine s2 (fun _ => ?_) (fun _ => ?_) | refine s4 fun _ _ _ _ => ?_ | fail)
        refine ends1 rfl (purK hm'' (Nat.le_refl _)) ?_
        rw [List.take_length, f2]
  · rw [upd5 s0 s1 s6 s7 s5]
    clear s0 s1 s6 s7 s5
    by_cases hA : i < A.length
    · by_cases hB : i < B.length
      · (repeat' first | refine st ?_ | refine s2 (fun _ => ?_) (fun _ => ?_) | refine s4 fun _ _ _ _ => ?_ | fail)
        rename_i o' hm' _ _
        obtain ⟨f1, f2⟩ := stp _ rfl
        rw [List.drop_zero] at hm'
        exact ⟨⟨by omega, _, _, by simp [hX], f1, by omega, ⟨f2⟩, rfl, rfl, rfl, rfl, .inr ⟨by omega, _, rfl, hm'⟩⟩, rfl⟩
      · have zz := z2 (by omega)
        (repeat' first | refine st ?_ | refine s2 (fun _ => ?_) (fun _ => ?_) | refine s4 fun _ _ _ _ => ?_ | fail)
        rename_i o' hm' _ _
        obtain ⟨f1, f2⟩ := stp (c + A.getD i 0) (by omega)
        rw [List.drop_zero] at hm'
        exact ⟨⟨by omega, _, _, by simp [hX], f1, by omega, ⟨f2⟩, rfl, rfl, rfl, rfl, .inr ⟨by omega, _, rfl, hm'⟩⟩, rfl⟩
    · have zz := z1 (by omega)
      by_cases hB : i < B.length
      · (repeat' first | refine st ?_ | refine s2 (fun _ => ?_) (fun _ => ?_) | refine s4 fun _ _ _ _ => ?_ | fail)
        rename_i o' hm' _ _
        obtain ⟨f1, f2⟩ := stp (c + B.getD i 0) (by omega)
        rw [List.drop_zero] at hm'
        exact ⟨⟨by omega, _, _, by simp [hX], f1, by omega, ⟨f2⟩, rfl, rfl, rfl, rfl, .inr ⟨by omega, _, rfl, hm'⟩⟩, rfl⟩
      · (repeat' first | refine st ?_ | refine s2 (fun _ => ?_) (fun _ => ?_) | refine s4 fun _ _ _ _ => ?_ | fail)
        rename_i o' hm' _ _
        rw [List.drop_zero] at hm'
        obtain ⟨f1, f2, f3⟩ := tail (by omega)
        have f4 := ofN_len_le_of f1
        rw [show i + [c % 4294967296].length = (X ++ [c % 4294967296]).length by simp [hX]]
        refine r_callR (natNormR f1 (by omega) hm' (by omega) (by omega)) rfl ?_
        rintro o'' r ⟨w', rfl, hm'', _, _⟩
        (repeat' first | refine st ?_ | refine s2 (fun _ => ?_) (fun _ => ?_) | refine s4 fun _ _ _ _ => ?_ | fail)
        refine ends1 rfl (purK hm'' (Nat.le_refl _)) ?_
        rw [List.take_length, f2]

theorem natSame_ok {A B : List Nat} (la : Sh A) (lb : Sh B) : PCall env ext 79 [pN A, pN B] (.s (.c (.bool (decide (A = B))))) := by
  refine PCall.walk (env := env) (g := 79) rfl rfl ?_
  by_cases hl : A.length = B.length
  · (repeat' first | refine st ?_ | refine s2 (fun _ => ?_) (fun _ => ?_) | refine s4 fun _ _ _ _ => ?_ | fail)
    refine w_loopUp (fun i sl o => i ≤ A.length ∧ (∀ t, t < i → A.getD t 0 = B.getD t 0) ∧ sl 0 = vk .u32 A ∧ sl 1 = vk .u32 B ∧ sl 5 = vn .i64 i) 0 A.length ⟨by omega, fun t ht => by omega, rfl, rfl, rfl⟩ (fun i sl o h => h.1) ?_
    rintro i sl o ⟨hi, hz, s0, s1, s5⟩
    rw [upd3 s0 s1 s5]
    (repeat' first | refine st ?_ | refine s2 (fun _ => ?_) (fun _ => ?_) | refine s4 fun _ _ _ _ => ?_ | fail)
    · rename_i h4 h5
      refine ends1 rfl rfl ?_
      have : A ≠ B := fun h => h5 (by rw [h])
      rw [decide_eq_false this]
    · rename_i h4 h5
      refine ⟨⟨by omega, fun t ht => ?_, rfl, rfl, rfl⟩, rfl⟩
      by_cases h : t = i
      · subst h; omega
      · exact hz t (by omega)
    · rename_i h4
      refine ends1 rfl rfl ?_
      have : A = B := by
        apply List.ext_getElem hl
        intro t h1 h2
        have := hz t (by omega)
        simpa [List.getD, List.getElem?_eq_getElem h1, List.getElem?_eq_getElem h2] using this
      rw [decide_eq_true this]
  · (repeat' first | refine st ?_ | refine s2 (fun _ => ?_) (fun _ => ?_) | refine s4 fun _ _ _ _ => ?_ | fail)
    refine ends1 rfl rfl ?_
    have : A ≠ B := fun h => hl (by rw [h])
    rw [decide_eq_false this]
end Go.Av
namespace Go.Av
open Go
variable {ext : Calls0}

theorem digit_split (l : List Nat) (d : Nat) : val l = vt l d + 4294967296 ^ d * (l.getD d 0 + 4294967296 * vd l (d + 1) l.length) := by
  have h := vt_vd l (d + 1) l.length
  rw [vt_ge (by omega), vt_succ, Nat.pow_succ] at h
  rw [h]; grind
theorem W_pow (d : Nat) : 4294967296 ^ d = 2 ^ (32 * d) := by rw [show (4294967296 : Nat) = 2 ^ 32 from rfl, ← Nat.pow_mul]
theorem bit_of {x : List Nat} (hx : Dg x) (i : Nat) : x.getD (i / 32) 0 / 2 ^ (i % 32) % 2 = val x / 2 ^ i % 2 := by
  have h1 := digit_split x (i / 32)
  have h2 := vt_lt hx (i / 32)
  have h3 : val x / 4294967296 ^ (i / 32) = x.getD (i / 32) 0 + 4294967296 * vd x (i / 32 + 1) x.length := by
    rw [h1, Nat.add_comm, Nat.mul_add_div (Nat.pow_pos (by omega)), Nat.div_eq_of_lt h2, Nat.add_zero]
  have h4 : 2 ^ i = 4294967296 ^ (i / 32) * 2 ^ (i % 32) := by rw [W_pow, ← Nat.pow_add, Nat.div_add_mod]
  have h5 : 4294967296 = 2 ^ (i % 32) * (2 ^ (31 - i % 32) * 2) := by
    rw [← Nat.pow_succ, ← Nat.pow_add, show i % 32 + (31 - i % 32 + 1) = 32 by omega]
  rw [h4, ← Nat.div_div_eq_div_mul, h3, h5, Nat.mul_assoc, Nat.add_mul_div_left _ _ (Nat.pow_pos (by omega))]
  generalize x.getD (i / 32) 0 / 2 ^ (i % 32) = z
  rw [show 2 ^ (31 - i % 32) * 2 * vd x (i / 32 + 1) x.length = 2 * (2 ^ (31 - i % 32) * vd x (i / 32 + 1) x.length) by grind, Nat.add_mul_mod_self_left]
theorem bit_set {Q : List Nat} (hQ : Dg Q) {i m : Nat} (hm : val Q = m * 2 ^ (i + 1)) (hi : i / 32 < Q.length) :
    (Q.getD (i / 32) 0 ||| 2 ^ (i % 32)) = Q.getD (i / 32) 0 + 2 ^ (i % 32) ∧ Q.getD (i / 32) 0 + 2 ^ (i % 32) < 4294967296 ∧ val (Q.set (i / 32) (Q.getD (i / 32) 0 + 2 ^ (i % 32))) = val Q + 2 ^ i := by
  have h1 := digit_split Q (i / 32)
  have h2 := vt_lt hQ (i / 32)
  have h4 : 2 ^ (i + 1) = 4294967296 ^ (i / 32) * 2 ^ (i % 32 + 1) := by rw [W_pow, ← Nat.pow_add]; congr 1; omega
  have h40 : 2 ^ i = 4294967296 ^ (i / 32) * 2 ^ (i % 32) := by rw [W_pow, ← Nat.pow_add, Nat.div_add_mod]
  have h3 : val Q / 4294967296 ^ (i / 32) = Q.getD (i / 32) 0 + 4294967296 * vd Q (i / 32 + 1) Q.length := by
    rw [h1, Nat.add_comm, Nat.mul_add_div (Nat.pow_pos (by omega)), Nat.div_eq_of_lt h2, Nat.add_zero]
  have h5 : Q.getD (i / 32) 0 + 4294967296 * vd Q (i / 32 + 1) Q.length = m * 2 ^ (i % 32 + 1) := by
    rw [← h3, hm, h4, Nat.mul_left_comm, Nat.mul_div_cancel_left _ (Nat.pow_pos (by omega))]
  have h6 : 4294967296 = 2 ^ (31 - i % 32) * 2 ^ (i % 32 + 1) := by rw [← Nat.pow_add, show 31 - i % 32 + (i % 32 + 1) = 32 by omega]
  have h7 : ∃ t, Q.getD (i / 32) 0 = t * 2 ^ (i % 32 + 1) := by
    have h8 : Q.getD (i / 32) 0 % 2 ^ (i % 32 + 1) = 0 := by
      have h9 : (Q.getD (i / 32) 0 + 2 ^ (i % 32 + 1) * (2 ^ (31 - i % 32) * vd Q (i / 32 + 1) Q.length)) % 2 ^ (i % 32 + 1) = 0 := by
        have : 2 ^ (i % 32 + 1) * (2 ^ (31 - i % 32) * vd Q (i / 32 + 1) Q.length) = 4294967296 * vd Q (i / 32 + 1) Q.length := by
          conv => rhs; rw [h6]
          grind
        rw [this, h5, Nat.mul_mod_left]
      rwa [Nat.add_mul_mod_self_left] at h9
    exact ⟨Q.getD (i / 32) 0 / 2 ^ (i % 32 + 1), (Nat.div_mul_cancel (Nat.dvd_of_mod_eq_zero h8)).symm⟩
  obtain ⟨t, ht⟩ := h7
  have hp : 2 ^ (i % 32) < 2 ^ (i % 32 + 1) := Nat.pow_lt_pow_right (by omega) (by omega)
  refine ⟨?_, ?_, ?_⟩
  · rw [ht, or_lo hp]
  · have h8 := hQ (i / 32)
    rw [ht] at h8 ⊢
    have h9 : t < 2 ^ (31 - i % 32) := by
      rw [h6] at h8
      exact Nat.lt_of_mul_lt_mul_right h8
    have h10 := Nat.mul_le_mul_right (2 ^ (i % 32 + 1)) h9
    rw [← h6, Nat.succ_mul] at h10
    omega
  · have h8 := vt_set_in (l := Q) (k := i / 32) (v := Q.getD (i / 32) 0 + 2 ^ (i % 32)) (n := Q.length) hi hi
    rw [vt_len] at h8
    have e : vt (Q.set (i / 32) (Q.getD (i / 32) 0 + 2 ^ (i % 32))) Q.length = val (Q.set (i / 32) (Q.getD (i / 32) 0 + 2 ^ (i % 32))) := by rw [← vt_len, List.length_set]
    rw [e, Nat.mul_add] at h8
    rw [h40]; omega

set_option maxHeartbeats 1000000 in
theorem natDivMod_ok {a b : List Nat} (ha : Dg a) (hb : Dg b) (la : Sh a) (lb : b.length < 1000000000000) (hb0 : 0 < val b) :
    PCall env ext 66 [pN a, pN b] (.tup [pN (ofN (val a / val b)), pN (ofN (val a % val b)), .c (.bool true)]) := by
  have h2 := ofN_len_le_of ha
  have h3 := ofN_len_le_of hb
  have v1 := val_ofN (val a)
  have v2 := val_ofN (val b)
  have d1 := Dg.ofN (val a)
  have d2 := Dg.ofN (val b)
  have hbl : 0 < (ofN (val b)).length := by
    apply Nat.pos_of_ne_zero
    intro h; have := ofN_eq_nil.1 (List.eq_nil_of_length_eq_zero h); omega
  refine PCall.walk (env := env) (g := 66) rfl rfl ?_
  (repeat' first | refine st ?_ | refine s2 (fun _ => ?_) (fun _ => ?_) | refine s4 fun _ _ _ _ => ?_ | fail)
  refine r_call1 (natNorm_ok ha la) rfl rfl ?_
  (repeat' first | refine st ?_ | refine s2 (fun _ => ?_) (fun _ => ?_) | refine s4 fun _ _ _ _ => ?_ | fail)
  refine r_call1 (natNorm_ok hb (by omega)) rfl rfl ?_
  generalize hX : ofN (val a) = X at *
  generalize hY : ofN (val b) = Y at *
  (repeat' first | refine st ?_ | refine s2 (fun _ => ?_) (fun _ => ?_) | refine s4 fun _ _ _ _ => ?_ | fail)
  rename_i o1 hm _ _
  refine w_loopS (fun k sl o => k ≤ 32 * X.length ∧ ∃ Q R m, Q.length = X.length ∧ Dg Q ∧ Hd (val Q = m * 2 ^ k ∧ val a / 2 ^ k = m * val b + R ∧ R < val b) ∧ (ofN R).length ≤ Y.length ∧ o.is 0 0 .u32 Q ∧
      sl 7 = vk .u32 X ∧ sl 8 = vk .u32 Y ∧ sl 9 = .s (.c (.rs 0 0 1 0 X.length)) ∧ ((R = 0 ∧ sl 10 = .s (.c .e0)) ∨ sl 10 = vk .u32 (ofN R)) ∧ sl 11 = .s (.c (.p (.int .i64 ((k : Int) - 1))))) (32 * X.length)
      ⟨by omega, _, 0, 0, List.length_replicate, Dg.replicate _, ⟨?_, ?_, hb0⟩, by rw [ofN_zero]; simp, hm, rfl, rfl, rfl, .inl ⟨rfl, rfl⟩, rfl⟩ ?_
  · rw [← vt_len, vt_replicate]; omega
  · have := val_lt d1
    rw [v1, W_pow] at this
    rw [Nat.div_eq_of_lt this]; omega
  clear hm
  rintro k sl o ⟨hk, Q, R, m, hQl, hQd, hinv, hRl, hm, s7, s8, s9, s10, s11⟩
  rcases k with _ | i
  · obtain ⟨i1, i2, i3⟩ := hinv.h
    rw [Nat.pow_zero, Nat.mul_one] at i1
    rw [Nat.pow_zero, Nat.div_one] at i2
    have q1 : val a / val b = val Q := by rw [i2, i1, Nat.mul_comm, Nat.mul_add_div hb0, Nat.div_eq_of_lt i3, Nat.add_zero]
    have q2 : val a % val b = R := by rw [i2, Nat.mul_comm, Nat.mul_add_mod, Nat.mod_eq_of_lt i3]
    have f4 := ofN_len_le_of hQd
    rw [upd4 s7 s8 s9 s11]
    clear hinv i1 i2 i3
    rw [q1, q2]
    clear q1 q2
    rcases s10 with ⟨hR, s10⟩ | s10
    · subst hR
      rw [upd1 (sl := sl) s10]
      (repeat' first | refine st ?_ | refine s2 (fun _ => ?_) (fun _ => ?_) | refine s4 fun _ _ _ _ => ?_ | fail)
      rw [← hQl]
      refine r_callR (natNormR hQd (by omega) hm (by omega) (by omega)) rfl ?_
      rintro o' r ⟨w', rfl, hm', _, _⟩
      (repeat' first | refine st ?_ | refine s2 (fun _ => ?_) (fun _ => ?_) | refine s4 fun _ _ _ _ => ?_ | fail)
      refine r_call1 (natNorm_ok Dg.nil (by simp)) rfl rfl ?_
      (repeat' first | refine st ?_ | refine s2 (fun _ => ?_) (fun _ => ?_) | refine s4 fun _ _ _ _ => ?_ | fail)
      refine ends3 rfl rfl rfl (purK hm' (Nat.le_refl _)) rfl rfl ?_
      rw [List.take_length]; rfl
    · rw [upd1 (sl := sl) s10]
      (repeat' first | refine st ?_ | refine s2 (fun _ => ?_) (fun _ => ?_) | refine s4 fun _ _ _ _ => ?_ | fail)
      rw [← hQl]
      refine r_callR (natNormR hQd (by omega) hm (by omega) (by omega)) rfl ?_
      rintro o' r ⟨w', rfl, hm', _, _⟩
      (repeat' first | refine st ?_ | refine s2 (fun _ => ?_) (fun _ => ?_) | refine s4 fun _ _ _ _ => ?_ | fail)
      refine r_call1 (natNorm_ok (Dg.ofN R) (by omega)) rfl rfl ?_
      rw [val_ofN]
      (repeat' first | refine st ?_ | refine s2 (fun _ => ?_) (fun _ => ?_) | refine s4 fun _ _ _ _ => ?_ | fail)
      refine ends3 rfl rfl rfl (purK hm' (Nat.le_refl _)) rfl rfl ?_
      rw [List.take_length]
  · rw [show (((i + 1 : Nat) : Int) - 1) = (i : Int) by omega] at s11
    obtain ⟨i1, i2, i3⟩ := hinv.h
    have x1 := d1 (i / 32)
    have q1 := hQd (i / 32)
    obtain ⟨bb, hbb⟩ : ∃ bb, bb = val a / 2 ^ i % 2 := ⟨_, rfl⟩
    have hb1 : bb ≤ 1 := by omega
    have hms : min (i % 32) IntKind.u32.bits = i % 32 := by show min (i % 32) 32 = i % 32; omega
    have hms2 : min (i % 32) 32 = i % 32 := by omega
    have hsh : X.getD (i / 32) 0 / 2 ^ min (i % 32) IntKind.u32.bits < 4294967296 := Nat.lt_of_le_of_lt (Nat.div_le_self _ _) x1
    have hand : (X.getD (i / 32) 0 / 2 ^ min (i % 32) IntKind.u32.bits) &&& 1 = bb := by
      rw [Nat.and_one_is_mod, hms, bit_of d1, v1, hbb]
    obtain ⟨t1, t2, t3⟩ := bit_set hQd i1 (by omega)
    have hp2 : 2 ^ (i % 32) < 4294967296 := by
      have : 2 ^ (i % 32) < 2 ^ 32 := Nat.pow_lt_pow_right (by omega) (by omega)
      simpa using this
    have hshl : 1 * 2 ^ min (i % 32) 32 % 4294967296 = 2 ^ (i % 32) := by rw [hms2, Nat.one_mul, Nat.mod_eq_of_lt hp2]
    have hstep : val a / 2 ^ i = 2 * (m * val b + R) + bb := by
      rw [← i2, hbb, Nat.pow_succ, ← Nat.div_div_eq_div_mul]; omega
    have hdbl := double_ok (ext := ext) (Dg.ofN R) (show (ofN R).length < 1099511627776 by omega) hb1
    rw [val_ofN] at hdbl
    have hr2l : (ofN (2 * R + bb)).length < 1099511627776 := by
      have h5 : 2 * R + bb < 4294967296 ^ (Y.length + 1) := by
        have h6 := val_lt d2
        rw [v2] at h6
        rw [Nat.pow_succ]; omega
      have := ofN_len_le h5
      omega
    have hcmp := natCmp_ok (ext := ext) (Dg.ofN (2 * R + bb)) d2 hr2l (by omega)
    rw [val_ofN, v2] at hcmp
    have hsub := fun (h : val b ≤ 2 * R + bb) => natSub_ok (ext := ext) (Dg.ofN (2 * R + bb)) d2 hr2l (by omega) (show val Y ≤ val (ofN (2 * R + bb)) by rw [val_ofN, v2]; exact h)
    rw [val_ofN, v2] at hsub
    have hor : (Q.getD (i / 32) 0 ||| 1 * 2 ^ min (i % 32) 32 % 4294967296) = Q.getD (i / 32) 0 + 2 ^ (i % 32) := by rw [hshl, t1]
    have hshl2 : 1 * 2 ^ min (i % 32) 32 % 4294967296 < 4294967296 := Nat.mod_lt _ (by omega)
    have fin1 : val b ≤ 2 * R + bb → ∀ Q', Q' = Q.set (i / 32) (Q.getD (i / 32) 0 + 2 ^ (i % 32)) → Q'.length = X.length ∧ Dg Q' ∧ Hd (val Q' = (2 * m + 1) * 2 ^ i ∧ val a / 2 ^ i = (2 * m + 1) * val b + (2 * R + bb - val b) ∧ 2 * R + bb - val b < val b) ∧ (ofN (2 * R + bb - val b)).length ≤ Y.length := by
      intro h Q' hQ'
      subst hQ'
      have h7 : 2 * R + bb - val b < val b := by omega
      refine ⟨by rw [List.length_set, hQl], hQd.set t2, ⟨?_, ?_, h7⟩, ?_⟩
      · rw [t3, i1, Nat.pow_succ]; grind
      · rw [hstep]
        have : (2 * m + 1) * val b = 2 * (m * val b) + val b := by grind
        omega
      · rw [← hY]; exact ofN_len_mono (by omega)
    have fin0 : ¬ val b ≤ 2 * R + bb → Hd (val Q = (2 * m) * 2 ^ i ∧ val a / 2 ^ i = (2 * m) * val b + (2 * R + bb) ∧ 2 * R + bb < val b) ∧ (ofN (2 * R + bb)).length ≤ Y.length := by
      intro h
      refine ⟨⟨?_, ?_, by omega⟩, ?_⟩
      · rw [i1, Nat.pow_succ]; grind
      · rw [hstep]
        have : 2 * m * val b = 2 * (m * val b) := by grind
        omega
      · rw [← hY]; exact ofN_len_mono (by omega)
    have hc1 : val b ≤ 2 * R + bb → 0 ≤ cmpI (2 * R + bb) (val b) := fun h => by unfold cmpI; omega
    have hc0 : ¬ val b ≤ 2 * R + bb → cmpI (2 * R + bb) (val b) < 0 := fun h => by unfold cmpI; omega
    clear hinv i1 i2 i3 hstep t1 t3 hms hms2
    replace hbb : Hd True := ⟨trivial⟩
    replace t2 : Hd _ := ⟨t2⟩
    replace hor : Hd _ := ⟨hor⟩
    replace hshl : Hd _ := ⟨hshl⟩
    rw [upd4 s7 s8 s9 s11]
    rcases s10 with ⟨hR, s10⟩ | s10
    · subst hR
      rw [upd1 (sl := sl) s10]
      (repeat' first | refine st ?_ | refine s2 (fun _ => ?_) (fun _ => ?_) | refine s4 fun _ _ _ _ => ?_ | fail)
      rw [hand]
      refine r_call1 hdbl rfl rfl ?_
      (repeat' first | refine st ?_ | refine s2 (fun _ => ?_) (fun _ => ?_) | refine s4 fun _ _ _ _ => ?_ | fail)
      refine r_call1 hcmp rfl rfl ?_
      by_cases hge : val b ≤ 2 * 0 + bb
      · have hcc := hc1 hge
        (repeat' first | refine st ?_ | refine s2 (fun _ => ?_) (fun _ => ?_) | refine s4 fun _ _ _ _ => ?_ | fail)
        refine r_call2 (hsub hge) rfl rfl ?_
        (repeat' first | refine st ?_ | refine s2 (fun _ => ?_) (fun _ => ?_) | refine s4 fun _ _ _ _ => ?_ | fail)
        rename_i o' hm' _ _
        rw [hor.h] at hm'
        obtain ⟨f1, f2, f3, f4⟩ := fin1 hge _ rfl
        exact ⟨i, by omega, ⟨by omega, _, _, _, f1, f2, f3, f4, hm', rfl, rfl, rfl, .inr rfl, rfl⟩, rfl⟩
      · have hcc := hc0 hge
        obtain ⟨f3, f4⟩ := fin0 hge
        (repeat' first | refine st ?_ | refine s2 (fun _ => ?_) (fun _ => ?_) | refine s4 fun _ _ _ _ => ?_ | fail)
        exact ⟨i, by omega, ⟨by omega, _, _, _, hQl, hQd, f3, f4, hm, rfl, rfl, rfl, .inr rfl, rfl⟩, rfl⟩
    · rw [upd1 (sl := sl) s10]
      (repeat' first | refine st ?_ | refine s2 (fun _ => ?_) (fun _ => ?_) | refine s4 fun _ _ _ _ => ?_ | fail)
      rw [hand]
      refine r_call1 hdbl rfl rfl ?_
      (repeat' first | refine st ?_ | refine s2 (fun _ => ?_) (fun _ => ?_) | refine s4 fun _ _ _ _ => ?_ | fail)
      refine r_call1 hcmp rfl rfl ?_
      by_cases hge : val b ≤ 2 * R + bb
      · have hcc := hc1 hge
        (repeat' first | refine st ?_ | refine s2 (fun _ => ?_) (fun _ => ?_) | refine s4 fun _ _ _ _ => ?_ | fail)
        refine r_call2 (hsub hge) rfl rfl ?_
        (repeat' first | refine st ?_ | refine s2 (fun _ => ?_) (fun _ => ?_) | refine s4 fun _ _ _ _ => ?_ | fail)
        rename_i o' hm' _ _
        rw [hor.h] at hm'
        obtain ⟨f1, f2, f3, f4⟩ := fin1 hge _ rfl
        exact ⟨i, by omega, ⟨by omega, _, _, _, f1, f2, f3, f4, hm', rfl, rfl, rfl, .inr rfl, rfl⟩, rfl⟩
      · have hcc := hc0 hge
        obtain ⟨f3, f4⟩ := fin0 hge
        (repeat' first | refine st ?_ | refine s2 (fun _ => ?_) (fun _ => ?_) | refine s4 fun _ _ _ _ => ?_ | fail)
        exact ⟨i, by omega, ⟨by omega, _, _, _, hQl, hQd, f3, f4, hm, rfl, rfl, rfl, .inr rfl, rfl⟩, rfl⟩
end Go.Av
