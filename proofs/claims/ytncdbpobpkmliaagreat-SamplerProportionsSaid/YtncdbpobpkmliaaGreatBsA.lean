/- A part of the proof (own method: an abstract machine). No condition. -/
import Derived.Test.YtncdbpobpkmliaaGreatBrC
namespace Go.Av
open Go
variable {ext : Calls0}

/-- Bytes as a number, the highest first. -/
def bev (l : List Nat) : Nat → Nat
  | 0 => 0
  | i + 1 => bev l i * 256 + l.getD i 0
def Db (l : List Nat) : Prop := ∀ i, l.getD i 0 < 256
theorem bev_congr {l r : List Nat} : ∀ {i : Nat}, (∀ j, j < i → l.getD j 0 = r.getD j 0) → bev l i = bev r i
  | 0, _ => rfl
  | i + 1, h => by simp only [bev]; rw [bev_congr (fun j hj => h j (by omega)), h i (by omega)]
theorem bev_lt {l : List Nat} (h : Db l) : ∀ i, bev l i < 256 ^ i
  | 0 => by simp [bev]
  | i + 1 => by
    have h1 := bev_lt h i
    have h2 := h i
    simp only [bev, Nat.pow_succ]; omega

theorem field_set {Q : List Nat} (hQ : Dg Q) {i m w c : Nat} (hm : val Q = m * 2 ^ (i + w)) (hw : i % 32 + w ≤ 32) (hc : c < 2 ^ w) (hi : i / 32 < Q.length) :
    (Q.getD (i / 32) 0 ||| c * 2 ^ (i % 32)) = Q.getD (i / 32) 0 + c * 2 ^ (i % 32) ∧ Q.getD (i / 32) 0 + c * 2 ^ (i % 32) < 4294967296 ∧ val (Q.set (i / 32) (Q.getD (i / 32) 0 + c * 2 ^ (i % 32))) = val Q + c * 2 ^ i := by
  have h1 := digit_split Q (i / 32)
  have h2 := vt_lt hQ (i / 32)
  have h4 : 2 ^ (i + w) = 4294967296 ^ (i / 32) * 2 ^ (i % 32 + w) := by rw [W_pow, ← Nat.pow_add]; congr 1; omega
  have h40 : 2 ^ i = 4294967296 ^ (i / 32) * 2 ^ (i % 32) := by rw [W_pow, ← Nat.pow_add, Nat.div_add_mod]
  have h3 : val Q / 4294967296 ^ (i / 32) = Q.getD (i / 32) 0 + 4294967296 * vd Q (i / 32 + 1) Q.length := by
    rw [h1, Nat.add_comm, Nat.mul_add_div (Nat.pow_pos (by omega)), Nat.div_eq_of_lt h2, Nat.add_zero]
  have h5 : Q.getD (i / 32) 0 + 4294967296 * vd Q (i / 32 + 1) Q.length = m * 2 ^ (i % 32 + w) := by
    rw [← h3, hm, h4, Nat.mul_left_comm, Nat.mul_div_cancel_left _ (Nat.pow_pos (by omega))]
  have h6 : 4294967296 = 2 ^ (32 - (i % 32 + w)) * 2 ^ (i % 32 + w) := by rw [← Nat.pow_add, show 32 - (i % 32 + w) + (i % 32 + w) = 32 by omega]
  have h7 : ∃ t, Q.getD (i / 32) 0 = t * 2 ^ (i % 32 + w) := by
    have h8 : Q.getD (i / 32) 0 % 2 ^ (i % 32 + w) = 0 := by
      have h9 : (Q.getD (i / 32) 0 + 2 ^ (i % 32 + w) * (2 ^ (32 - (i % 32 + w)) * vd Q (i / 32 + 1) Q.length)) % 2 ^ (i % 32 + w) = 0 := by
        have : 2 ^ (i % 32 + w) * (2 ^ (32 - (i % 32 + w)) * vd Q (i / 32 + 1) Q.length) = 4294967296 * vd Q (i / 32 + 1) Q.length := by
          conv => rhs; rw [h6]
          grind
        rw [this, h5, Nat.mul_mod_left]
      rwa [Nat.add_mul_mod_self_left] at h9
    exact ⟨Q.getD (i / 32) 0 / 2 ^ (i % 32 + w), (Nat.div_mul_cancel (Nat.dvd_of_mod_eq_zero h8)).symm⟩
  obtain ⟨t, ht⟩ := h7
  have hp : c * 2 ^ (i % 32) < 2 ^ (i % 32 + w) := by
    rw [Nat.pow_add, Nat.mul_comm (2 ^ (i % 32))]
    exact Nat.mul_lt_mul_of_pos_right hc (Nat.pow_pos (by omega))
  refine ⟨?_, ?_, ?_⟩
  · rw [ht, or_lo hp]
  · have h8 := hQ (i / 32)
    rw [ht] at h8 ⊢
    have h9 : t < 2 ^ (32 - (i % 32 + w)) := by
      rw [h6] at h8
      exact Nat.lt_of_mul_lt_mul_right h8
    have h10 := Nat.mul_le_mul_right (2 ^ (i % 32 + w)) h9
    rw [← h6, Nat.succ_mul] at h10
    omega
  · have h8 := vt_set_in (l := Q) (k := i / 32) (v := Q.getD (i / 32) 0 + c * 2 ^ (i % 32)) (n := Q.length) hi hi
    rw [vt_len] at h8
    have e : vt (Q.set (i / 32) (Q.getD (i / 32) 0 + c * 2 ^ (i % 32))) Q.length = val (Q.set (i / 32) (Q.getD (i / 32) 0 + c * 2 ^ (i % 32))) := by rw [← vt_len, List.length_set]
    rw [e, Nat.mul_add] at h8
    rw [h40, Nat.mul_left_comm c]; omega

set_option maxHeartbeats 1000000 in
theorem number_ok {bs : List Nat} (hb : Db bs) (hl : bs.length ≤ 5000) : PCall env ext 114 [.c (.sl (encK .u8 bs))] (.s (pN (ofN (bev bs bs.length)))) := by
  refine PCall.walk (env := env) (g := 114) rfl rfl ?_
  (repeat' first | refine st ?_ | refine s2 (fun _ => ?_) (fun _ => ?_) | refine s4 fun _ _ _ _ => ?_ | fail)
  rename_i o1 hm _ _
  refine w_loopUp (fun i sl o => i ≤ bs.length ∧ ∃ X, X.length = (bs.length + 3) / 4 ∧ Dg X ∧ Hd (val X = bev bs i * 2 ^ (8 * (bs.length - i))) ∧ o.is 0 0 .u32 X ∧
    sl 0 = vk .u8 bs ∧ sl 3 = .s (.c (.rs 0 0 1 0 ((bs.length + 3) / 4))) ∧ sl 12 = vk .u8 bs ∧ sl 13 = vn .i64 bs.length ∧ sl 14 = vn .i64 i) 0 bs.length
    ⟨by omega, _, List.length_replicate, Dg.replicate _, ⟨by rw [← vt_len, vt_replicate]; simp [bev]⟩, hm, rfl, rfl, rfl, rfl, rfl⟩ (fun i sl o h => h.1) ?_
  clear hm
  rintro i sl o ⟨hi, X, hX, hXd, he, hm, s0, s3, s12, s13, s14⟩
  rw [upd5 s0 s3 s12 s13 s14]
  clear s0 s3 s12 s13 s14
  by_cases hin : i < bs.length
  · have b1 := hb i
    have x1 := hXd ((bs.length - 1 - i) / 4)
    have hms : min (8 * ((bs.length - 1 - i) % 4)) 32 = 8 * ((bs.length - 1 - i) % 4) := by omega
    have hp : bs.getD i 0 * 2 ^ (8 * ((bs.length - 1 - i) % 4)) < 4294967296 := by
      have h1 : 2 ^ (8 * ((bs.length - 1 - i) % 4)) ≤ 2 ^ 24 := Nat.pow_le_pow_right (by omega) (by omega)
      have h2 : bs.getD i 0 * 2 ^ (8 * ((bs.length - 1 - i) % 4)) ≤ 255 * 2 ^ 24 := Nat.mul_le_mul (by omega) h1
      have h3 : 255 * 2 ^ 24 = 4278190080 := by decide
      omega
    have e1 : 8 * (bs.length - 1 - i) / 32 = (bs.length - 1 - i) / 4 := by omega
    have e2 : 8 * (bs.length - 1 - i) % 32 = 8 * ((bs.length - 1 - i) % 4) := by omega
    have fs := field_set (Q := X) hXd (i := 8 * (bs.length - 1 - i)) (m := bev bs i) (w := 8) (c := bs.getD i 0) (by rw [he.h]; congr 2; omega) (by omega) (by simpa using b1) (by omega)
    rw [e1, e2] at fs
    obtain ⟨t1, t2, t3⟩ := fs
    have hval : bs.getD i 0 % 4294967296 * 2 ^ min (8 * ((bs.length - 1 - i) % 4)) 32 % 4294967296 = bs.getD i 0 * 2 ^ (8 * ((bs.length - 1 - i) % 4)) := by
      rw [hms, Nat.mod_eq_of_lt (show bs.getD i 0 < 4294967296 by omega), Nat.mod_eq_of_lt hp]
    have hfin : val X + bs.getD i 0 * 2 ^ (8 * (bs.length - 1 - i)) = bev bs (i + 1) * 2 ^ (8 * (bs.length - (i + 1))) := by
      rw [he.h]
      simp only [bev]
      rw [show bs.length - (i + 1) = bs.length - 1 - i by omega, show 8 * (bs.length - i) = 8 * (bs.length - 1 - i) + 8 by omega, Nat.pow_add]
      grind
    have hval2 : bs.getD i 0 % 4294967296 * 2 ^ min (8 * ((bs.length - 1 - i) % 4)) 32 % 4294967296 < 4294967296 := Nat.mod_lt _ (by omega)
    replace t1 : Hd _ := ⟨t1⟩
    replace t2 : Hd _ := ⟨t2⟩
    replace t3 : Hd _ := ⟨t3⟩
    replace hval : Hd _ := ⟨hval⟩
    replace hfin : Hd _ := ⟨hfin⟩
    clear hms hp e1 e2
    (repeat' first | refine st ?_ | refine s2 (fun _ => ?_) (fun _ => ?_) | refine s4 fun _ _ _ _ => ?_ | fail)
    rename_i o' hm' _ _
    rw [hval.h, t1.h] at hm'
    exact ⟨⟨by omega, _, by rw [List.length_set, hX], hXd.set t2.h, ⟨by rw [t3.h, hfin.h]⟩, hm', rfl, rfl, rfl, rfl, rfl⟩, rfl⟩
  · have : i = bs.length := by omega
    subst this
    have he := he.h
    rw [Nat.sub_self, Nat.mul_zero, Nat.pow_zero, Nat.mul_one] at he
    replace he : Hd _ := ⟨he⟩
    rw [← hX]
    (repeat' first | refine st ?_ | refine s2 (fun _ => ?_) (fun _ => ?_) | refine s4 fun _ _ _ _ => ?_ | fail)
    refine r_callR (normalizeR_ok hXd (by omega) hm) rfl ?_
    rintro o' r rfl
    (repeat' first | refine st ?_ | refine s2 (fun _ => ?_) (fun _ => ?_) | refine s4 fun _ _ _ _ => ?_ | fail)
    refine ends1 rfl rfl ?_
    rw [he.h]
end Go.Av
namespace Go.Av
open Go
variable {ext : Calls0}

/-- The draw below V: k bytes at a time, those from L on rejected. -/
def bspec (V L k : Nat) (e : List Nat) : Nat → Nat → Option (Nat × Nat)
  | 0, _ => none
  | f + 1, u => if e.length < u + k then none else if bev (e.drop u) k < L then some (bev (e.drop u) k % V, u + k) else bspec V L k e f (u + k)
def bres : Option (Nat × Nat) → PAV
  | none => .tup [pN [], pI 0, pI 3]
  | some (r, u) => .tup [pN (ofN r), pI (u : Nat), pI 0]
/-- How many bytes a draw below V takes. -/
def bk (V : Nat) : Nat := (bl (V - 1) + 7) / 8

theorem p256 (k : Nat) : 256 ^ k = 2 ^ (8 * k) := by rw [show (256 : Nat) = 2 ^ 8 from rfl, ← Nat.pow_mul]
theorem bk_ge (V : Nat) : V ≤ 256 ^ bk V := by
  have h := bl_lt (V - 1)
  have : 2 ^ bl (V - 1) ≤ 2 ^ (8 * bk V) := Nat.pow_le_pow_right (by omega) (by unfold bk; omega)
  rw [p256]; omega
theorem bk_lt {V j : Nat} (hV : 0 < V) (h : j < bk V) : 256 ^ j < V := by
  have h0 : V - 1 ≠ 0 := by
    intro e
    unfold bk at h; rw [e] at h
    have : bl 0 = 0 := rfl
    omega
  have h1 := bl_le h0
  have : 2 ^ (8 * j) ≤ 2 ^ (bl (V - 1) - 1) := Nat.pow_le_pow_right (by omega) (by unfold bk at h; omega)
  rw [p256]; omega
theorem bk_le {V n : Nat} (h : V < 4294967296 ^ n) : bk V ≤ 4 * n := by
  by_cases h0 : V - 1 = 0
  · unfold bk; rw [h0]; have : bl 0 = 0 := rfl
    omega
  · have h1 := bl_le h0
    rw [W_pow] at h
    have h2 : 2 ^ (bl (V - 1) - 1) < 2 ^ (32 * n) := by omega
    have := (Nat.pow_lt_pow_iff_right (by omega : 1 < 2)).1 h2
    unfold bk; omega
theorem p256_len (k : Nat) : (ofN (256 ^ k)).length ≤ k + 1 := by
  apply ofN_len_le
  have h1 : 256 ^ k ≤ 4294967296 ^ k := Nat.pow_le_pow_left (by omega) k
  rw [Nat.pow_succ]
  have : 0 < 4294967296 ^ k := Nat.pow_pos (by omega)
  omega
theorem sl_len {bs : List Nat} {u k : Nat} (h : u + k ≤ bs.length) : ((bs.take (u + k)).drop u).length = k := by rw [List.length_drop, List.length_take]; omega
theorem sl_get {bs : List Nat} {u k i : Nat} (hi : i < k) : ((bs.take (u + k)).drop u).getD i 0 = bs.getD (u + i) 0 := by rw [getD_drop, getD_take, if_pos (by omega)]
theorem sl_Db {bs : List Nat} (h : Db bs) (u k : Nat) : Db ((bs.take (u + k)).drop u) := fun i => by
  rw [getD_drop, getD_take]; split
  · exact h _
  · omega
theorem sl_bev {bs : List Nat} {u k i : Nat} (hi : i ≤ k) : bev ((bs.take (u + k)).drop u) i = bev (bs.drop u) i := bev_congr fun j hj => by rw [sl_get (by omega), getD_drop]

set_option maxHeartbeats 1000000 in
theorem below_ok {nl bs : List Nat} (hn : Dg nl) (ln : nl.length ≤ 100) (hb : Db bs) (lb : bs.length ≤ 4096) (h0 : 0 < val nl) :
    PCall env ext 115 [pN nl, pB bs] (bres (bspec (val nl) (256 ^ bk (val nl) / val nl * val nl) (bk (val nl)) bs (bs.length + 1) 0)) := by
  have hVlt := val_lt hn
  have hkb := bk_le hVlt
  have hpl := p256_len (bk (val nl))
  have l1 := ofN_len_le_of hn
  have d2 := Dg.ofN 1
  have l2 := ofN_len_small (n := 1) (by omega)
  have v2 := val_ofN 1
  have hVle := ofN_len_mono (show val nl - 1 ≤ val nl by omega)
  have d3 := Dg.ofN (val nl - 1)
  have v3 := val_ofN (val nl - 1)
  have d4 := Dg.ofN (256 ^ bk (val nl))
  have v4 := val_ofN (256 ^ bk (val nl))
  have hbn : bl (val nl) ≠ 0 := by unfold bl; rw [if_neg (by omega)]; omega
  have hq := ofN_len_mono (Nat.div_le_self (256 ^ bk (val nl)) (val nl))
  have hql := ofN_len_mono (Nat.div_mul_le_self (256 ^ bk (val nl)) (val nl))
  have d5 := Dg.ofN (256 ^ bk (val nl) / val nl)
  have v5 := val_ofN (256 ^ bk (val nl) / val nl)
  have d6 := Dg.ofN (256 ^ bk (val nl) / val nl * val nl)
  have v6 := val_ofN (256 ^ bk (val nl) / val nl * val nl)
  have hLp : 0 < 256 ^ bk (val nl) / val nl * val nl := by
    have := Nat.div_pos (bk_ge (val nl)) h0
    exact Nat.mul_pos this h0
  have hbl : bl (val nl - 1) ≤ 8 * bk (val nl) := by unfold bk; omega
  have hbl2 : bl (val nl - 1) < 5000 := by
    by_cases hz : val nl - 1 = 0
    · rw [hz]; decide
    · have h5 := bl_le hz
      rw [W_pow] at hVlt
      have h6 : 2 ^ (bl (val nl - 1) - 1) < 2 ^ (32 * nl.length) := by omega
      have := (Nat.pow_lt_pow_iff_right (by omega : 1 < 2)).1 h6
      omega
  have hbl3 : bl (val nl) < 5000 := by
    have h5 := bl_le (n := val nl) (by omega)
    rw [W_pow] at hVlt
    have h6 : 2 ^ (bl (val nl) - 1) < 2 ^ (32 * nl.length) := by omega
    have := (Nat.pow_lt_pow_iff_right (by omega : 1 < 2)).1 h6
    omega
  replace hVlt : Hd _ := ⟨hVlt⟩
  refine PCall.walk (env := env) (g := 115) rfl rfl ?_
  (repeat' first | refine st ?_ | refine s2 (fun _ => ?_) (fun _ => ?_) | refine s4 fun _ _ _ _ => ?_ | fail)
  refine r_call1 (bitLen_ok hn (by omega)) rfl rfl ?_
  (repeat' first | refine st ?_ | refine s2 (fun _ => ?_) (fun _ => ?_) | refine s4 fun _ _ _ _ => ?_ | fail)
  refine r_call1 (fromUint64_ok (n := 1) (by omega)) rfl rfl ?_
  (repeat' first | refine st ?_ | refine s2 (fun _ => ?_) (fun _ => ?_) | refine s4 fun _ _ _ _ => ?_ | fail)
  refine r_call2 (sub_ok hn d2 (by omega) (by omega) (by omega)) rfl rfl ?_
  rw [v2]
  (repeat' first | refine st ?_ | refine s2 (fun _ => ?_) (fun _ => ?_) | refine s4 fun _ _ _ _ => ?_ | fail)
  refine r_call1 (bitLen_ok d3 (by omega)) rfl rfl ?_
  rw [v3]
  (repeat' first | refine st ?_ | refine s2 (fun _ => ?_) (fun _ => ?_) | refine s4 fun _ _ _ _ => ?_ | fail)
  rw [show (bl (val nl - 1) + 7) / 8 = bk (val nl) from rfl]
  generalize hK : bk (val nl) = K at *
  generalize hV : val nl = V at *
  refine r_call1 (power_ok (k := K) (by omega)) rfl rfl ?_
  (repeat' first | refine st ?_ | refine s2 (fun _ => ?_) (fun _ => ?_) | refine s4 fun _ _ _ _ => ?_ | fail)
  refine r_call3 (divMod_ok d4 hn (by omega) (by omega) (by omega)) rfl rfl ?_
  rw [v4, hV]
  (repeat' first | refine st ?_ | refine s2 (fun _ => ?_) (fun _ => ?_) | refine s4 fun _ _ _ _ => ?_ | fail)
  refine r_call1 (mul_ok d5 hn (by omega) (by omega)) rfl rfl ?_
  rw [v5, hV]
  (repeat' first | refine st ?_ | refine s2 (fun _ => ?_) (fun _ => ?_) | refine s4 fun _ _ _ _ => ?_ | fail)
  generalize 256 ^ K / V * V = L at *
  generalize hR0 : bspec V L K bs (bs.length + 1) 0 = R0
  refine w_loopS (fun f sl o => ∃ u, u ≤ bs.length ∧ bs.length + 1 ≤ u + f ∧ Hd (R0 = bspec V L K bs f u) ∧ sl 0 = vk .u32 nl ∧ sl 1 = vk .u8 bs ∧ sl 11 = vn .i64 K ∧ sl 15 = vk .u32 (ofN L) ∧ sl 16 = vn .i64 u) (bs.length + 1)
    ⟨0, by omega, by omega, ⟨hR0.symm⟩, rfl, rfl, rfl, rfl, rfl⟩ ?_
  rintro f sl o ⟨u, hu, huf, he, s0, s1, s11, s15, s16⟩
  rw [upd5 s0 s1 s11 s15 s16]
  clear s0 s1 s11 s15 s16
  obtain ⟨f, rfl⟩ : ∃ g, f = g + 1 := ⟨f - 1, by omega⟩
  have he := he.h
  simp only [bspec] at he
  by_cases hlen : bs.length < u + K
  · rw [if_pos hlen] at he
    rw [he]
    (repeat' first | refine st ?_ | refine s2 (fun _ => ?_) (fun _ => ?_) | refine s4 fun _ _ _ _ => ?_ | fail)
    exact ends3 rfl rfl rfl rfl rfl rfl rfl
  · rw [if_neg hlen] at he
    have ls := sl_len (bs := bs) (u := u) (k := K) (by omega)
    have hbv := sl_bev (bs := bs) (u := u) (k := K) (i := K) (Nat.le_refl _)
    have hnum := number_ok (ext := ext) (sl_Db hb u K) (by rw [ls]; omega)
    rw [ls, hbv] at hnum
    have hvl : (ofN (bev (bs.drop u) K)).length ≤ K := by
      apply ofN_len_le
      have h1 := bev_lt (sl_Db hb u K) K
      rw [hbv] at h1
      have h2 : 256 ^ K ≤ 4294967296 ^ K := Nat.pow_le_pow_left (by omega) K
      omega
    have d7 := Dg.ofN (bev (bs.drop u) K)
    have v7 := val_ofN (bev (bs.drop u) K)
    have hK0 : K = 0 → bev (bs.drop u) K < L := by intro h; subst h; exact hLp
    generalize bev (bs.drop u) K = B at *
    replace hR0 : Hd _ := ⟨hR0⟩
    (repeat' first | refine st ?_ | refine s2 (fun _ => ?_) (fun _ => ?_) | refine s4 fun _ _ _ _ => ?_ | fail)
    refine r_call1 hnum rfl rfl ?_
    (repeat' first | refine st ?_ | refine s2 (fun _ => ?_) (fun _ => ?_) | refine s4 fun _ _ _ _ => ?_ | fail)
    refine r_call1 (cmp_ok d7 d6 (by omega) (by omega)) rfl rfl ?_
    rw [v6, v7]
    by_cases hlt : B < L
    · rw [if_pos hlt] at he
      rw [he]
      have hc : cmpI B L < 0 := by unfold cmpI; omega
      (repeat' first | refine st ?_ | refine s2 (fun _ => ?_) (fun _ => ?_) | refine s4 fun _ _ _ _ => ?_ | fail)
      refine r_call3 (divMod_ok d7 hn (by omega) (by omega) (by omega)) rfl rfl ?_
      rw [v7, hV]
      (repeat' first | refine st ?_ | refine s2 (fun _ => ?_) (fun _ => ?_) | refine s4 fun _ _ _ _ => ?_ | fail)
      exact ends3 rfl rfl rfl rfl rfl rfl rfl
    · rw [if_neg hlt] at he
      have hc : 0 ≤ cmpI B L := by unfold cmpI; omega
      have hK1 : K ≠ 0 := fun h => hlt (hK0 h)
      (repeat' first | refine st ?_ | refine s2 (fun _ => ?_) (fun _ => ?_) | refine s4 fun _ _ _ _ => ?_ | fail)
      refine ⟨f, by omega, ⟨u + K, by omega, by omega, ⟨he⟩, rfl, rfl, rfl, rfl, rfl⟩, rfl⟩

theorem Below_ok {nl bs : List Nat} (hn : Dg nl) (ln : nl.length ≤ 100) (hb : Db bs) (lb : bs.length ≤ 4096) (h0 : 0 < val nl) :
    PCall env ext 116 [pN nl, pB bs] (bres (bspec (val nl) (256 ^ bk (val nl) / val nl * val nl) (bk (val nl)) bs (bs.length + 1) 0)) := by
  have h := below_ok (ext := ext) hn ln hb lb h0
  generalize bspec (val nl) (256 ^ bk (val nl) / val nl * val nl) (bk (val nl)) bs (bs.length + 1) 0 = R at *
  refine PCall.walk (env := env) (g := 116) rfl rfl ?_
  (repeat' first | refine st ?_ | refine s2 (fun _ => ?_) (fun _ => ?_) | refine s4 fun _ _ _ _ => ?_ | fail)
  refine r_call1 (limited_ok (bs := bs) (by omega)) rfl rfl ?_
  (repeat' first | refine st ?_ | refine s2 (fun _ => ?_) (fun _ => ?_) | refine s4 fun _ _ _ _ => ?_ | fail)
  cases R with
  | none =>
    refine r_call3 h rfl rfl ?_
    (repeat' first | refine st ?_ | refine s2 (fun _ => ?_) (fun _ => ?_) | refine s4 fun _ _ _ _ => ?_ | fail)
    exact ends3 rfl rfl rfl rfl rfl rfl rfl
  | some q =>
    obtain ⟨r, u⟩ := q
    refine r_call3 h rfl rfl ?_
    (repeat' first | refine st ?_ | refine s2 (fun _ => ?_) (fun _ => ?_) | refine s4 fun _ _ _ _ => ?_ | fail)
    exact ends3 rfl rfl rfl rfl rfl rfl rfl
/-- At the number 0: an error. -/
theorem Below0_ok {nl bs : List Nat} (hn : Dg nl) (ln : nl.length ≤ 100) (lb : bs.length ≤ 4096) (h0 : val nl = 0) :
    PCall env ext 116 [pN nl, pB bs] (.tup [pN [], pI 0, pI 1]) := by
  have h : PCall env ext 115 [pN nl, pB bs] (.tup [pN [], pI 0, pI 1]) := by
    have hb0 : bl 0 = 0 := rfl
    refine PCall.walk (env := env) (g := 115) rfl rfl ?_
    (repeat' first | refine st ?_ | refine s2 (fun _ => ?_) (fun _ => ?_) | refine s4 fun _ _ _ _ => ?_ | fail)
    refine r_call1 (bitLen_ok hn (by omega)) rfl rfl ?_
    rw [h0, hb0]
    (repeat' first | refine st ?_ | refine s2 (fun _ => ?_) (fun _ => ?_) | refine s4 fun _ _ _ _ => ?_ | fail)
    exact ends3 rfl rfl rfl rfl rfl rfl rfl
  refine PCall.walk (env := env) (g := 116) rfl rfl ?_
  (repeat' first | refine st ?_ | refine s2 (fun _ => ?_) (fun _ => ?_) | refine s4 fun _ _ _ _ => ?_ | fail)
  refine r_call1 (limited_ok (bs := bs) (by omega)) rfl rfl ?_
  (repeat' first | refine st ?_ | refine s2 (fun _ => ?_) (fun _ => ?_) | refine s4 fun _ _ _ _ => ?_ | fail)
  refine r_call3 h rfl rfl ?_
  (repeat' first | refine st ?_ | refine s2 (fun _ => ?_) (fun _ => ?_) | refine s4 fun _ _ _ _ => ?_ | fail)
  exact ends3 rfl rfl rfl rfl rfl rfl rfl
end Go.Av
namespace Go.Av
open Go
variable {ext : Calls0}

set_option maxHeartbeats 2000000 in
theorem refBelow_ok {nl bs : List Nat} (hn : Dg nl) (ln : nl.length ≤ 100) (hb : Db bs) (lb : bs.length ≤ 4096) (h0 : 0 < val nl) :
    PCall env ext 161 [pN nl, pB bs] (bres (bspec (val nl) (256 ^ bk (val nl) / val nl * val nl) (bk (val nl)) bs (bs.length + 1) 0)) := by
  have hVlt := val_lt hn
  have hkb := bk_le hVlt
  have hpl := p256_len (bk (val nl))
  have l2 := ofN_len_small (n := 1) (by omega)
  have l3 := ofN_len_small (n := 256) (by omega)
  have d4 := Dg.ofN (256 ^ bk (val nl))
  have v4 := val_ofN (256 ^ bk (val nl))
  have hq := ofN_len_mono (Nat.div_le_self (256 ^ bk (val nl)) (val nl))
  have hql := ofN_len_mono (Nat.div_mul_le_self (256 ^ bk (val nl)) (val nl))
  have d5 := Dg.ofN (256 ^ bk (val nl) / val nl)
  have v5 := val_ofN (256 ^ bk (val nl) / val nl)
  have d6 := Dg.ofN (256 ^ bk (val nl) / val nl * val nl)
  have v6 := val_ofN (256 ^ bk (val nl) / val nl * val nl)
  have hLp : 0 < 256 ^ bk (val nl) / val nl * val nl := by
    have := Nat.div_pos (bk_ge (val nl)) h0
    exact Nat.mul_pos this h0
  have hlt : ∀ j, j < bk (val nl) → 256 ^ j < val nl := fun j hj => bk_lt h0 hj
  have hge := bk_ge (val nl)
  have d256 := Dg.ofN 256
  have v256 := val_ofN 256
  refine PCall.walk (env := env) (g := 161) rfl rfl ?_
  (repeat' first | refine st ?_ | refine s2 (fun _ => ?_) (fun _ => ?_) | refine s4 fun _ _ _ _ => ?_ | fail)
  refine r_call1 (natOf_ok (n := 1) (by omega)) rfl rfl ?_
  (repeat' first | refine st ?_ | refine s2 (fun _ => ?_) (fun _ => ?_) | refine s4 fun _ _ _ _ => ?_ | fail)
  generalize hK : bk (val nl) = K at *
  generalize hV : val nl = V at *
  replace hVlt : Hd True := ⟨trivial⟩
  refine w_cut (fun sl _ b => b = 0 ∧ sl 0 = vk .u32 nl ∧ sl 1 = vk .u8 bs ∧ sl 7 = vn .i64 K ∧ sl 8 = vk .u32 (ofN (256 ^ K))) ?_ ?_
  · refine w_loopUp (fun j sl _ => j ≤ K ∧ sl 0 = vk .u32 nl ∧ sl 1 = vk .u8 bs ∧ sl 7 = vn .i64 j ∧ sl 8 = vk .u32 (ofN (256 ^ j))) 0 K ⟨by omega, rfl, rfl, rfl, rfl⟩ (fun i sl o h => h.1) ?_
    rintro j sl o ⟨hj, s0, s1, s7, s8⟩
    rw [upd4 s0 s1 s7 s8]
    clear s0 s1 s7 s8
    have dj := Dg.ofN (256 ^ j)
    have vj := val_ofN (256 ^ j)
    have lj := p256_len j
    have hcmp := natCmp_ok (ext := ext) dj hn (by omega) (by omega)
    rw [vj, hV] at hcmp
    have hmul := natMul_ok (ext := ext) dj d256 (by omega) (by omega)
    rw [vj, v256, ← Nat.pow_succ] at hmul
    (repeat' first | refine st ?_ | refine s2 (fun _ => ?_) (fun _ => ?_) | refine s4 fun _ _ _ _ => ?_ | fail)
    refine r_call1 hcmp rfl rfl ?_
    by_cases hjK : j < K
    · have hl := hlt j hjK
      have hc : cmpI (256 ^ j) V < 0 := by unfold cmpI; rw [if_pos hl]; omega
      clear hl
      (repeat' first | refine st ?_ | refine s2 (fun _ => ?_) (fun _ => ?_) | refine s4 fun _ _ _ _ => ?_ | fail)
      refine r_call1 (natOf_ok (n := 256) (by omega)) rfl rfl ?_
      (repeat' first | refine st ?_ | refine s2 (fun _ => ?_) (fun _ => ?_) | refine s4 fun _ _ _ _ => ?_ | fail)
      refine r_call1 hmul rfl rfl ?_
      (repeat' first | refine st ?_ | refine s2 (fun _ => ?_) (fun _ => ?_) | refine s4 fun _ _ _ _ => ?_ | fail)
      exact ⟨⟨by omega, rfl, rfl, rfl, rfl⟩, rfl⟩
    · have hjK2 : j = K := by omega
      subst hjK2
      have hc : 0 ≤ cmpI (256 ^ j) V := by unfold cmpI; rw [if_neg (by omega)]; split <;> omega
      (repeat' first | refine st ?_ | refine s2 (fun _ => ?_) (fun _ => ?_) | refine s4 fun _ _ _ _ => ?_ | fail)
      exact ⟨rfl, rfl, rfl, rfl, rfl⟩
  · rintro sl o b ⟨rfl, s0, s1, s7, s8⟩
    rw [upd4 s0 s1 s7 s8]
    clear s0 s1 s7 s8 hlt
    have hdm := natDivMod_ok (ext := ext) d4 hn (by omega) (by omega) (by omega)
    rw [v4, hV] at hdm
    (repeat' first | refine st ?_ | refine s2 (fun _ => ?_) (fun _ => ?_) | refine s4 fun _ _ _ _ => ?_ | fail)
    refine r_call3 hdm rfl rfl ?_
    (repeat' first | refine st ?_ | refine s2 (fun _ => ?_) (fun _ => ?_) | refine s4 fun _ _ _ _ => ?_ | fail)
    refine r_call1 (natMul_ok d5 hn (by omega) (by omega)) rfl rfl ?_
    rw [v5, hV]
    (repeat' first | refine st ?_ | refine s2 (fun _ => ?_) (fun _ => ?_) | refine s4 fun _ _ _ _ => ?_ | fail)
    generalize 256 ^ K / V * V = L at *
    generalize hR0 : bspec V L K bs (bs.length + 1) 0 = R0
    refine w_loopS (fun f sl o => ∃ u, u ≤ bs.length ∧ bs.length + 1 ≤ u + f ∧ Hd (R0 = bspec V L K bs f u) ∧ sl 0 = vk .u32 nl ∧ sl 1 = vk .u8 bs ∧ sl 7 = vn .i64 K ∧ sl 12 = vk .u32 (ofN L) ∧ sl 13 = vn .i64 u) (bs.length + 1)
      ⟨0, by omega, by omega, ⟨hR0.symm⟩, rfl, rfl, rfl, rfl, rfl⟩ ?_
    replace hR0 : Hd _ := ⟨hR0⟩
    clear hdm
    rintro f sl o ⟨u, hu, huf, he, s0, s1, s7, s12, s13⟩
    rw [upd5 s0 s1 s7 s12 s13]
    clear s0 s1 s7 s12 s13
    obtain ⟨f, rfl⟩ : ∃ g, f = g + 1 := ⟨f - 1, by omega⟩
    have he := he.h
    simp only [bspec] at he
    by_cases hlen : bs.length < u + K
    · rw [if_pos hlen] at he
      rw [he]
      (repeat' first | refine st ?_ | refine s2 (fun _ => ?_) (fun _ => ?_) | refine s4 fun _ _ _ _ => ?_ | fail)
      exact ends3 rfl rfl rfl rfl rfl rfl rfl
    · rw [if_neg hlen] at he
      have ls := sl_len (bs := bs) (u := u) (k := K) (by omega)
      have hSb := sl_Db hb u K
      have hbv := fun i (h : i ≤ K) => sl_bev (bs := bs) (u := u) (k := K) (i := i) h
      have hvl : (ofN (bev (bs.drop u) K)).length ≤ K := by
        apply ofN_len_le
        have h1 := bev_lt hSb K
        rw [hbv K (Nat.le_refl _)] at h1
        have h2 : 256 ^ K ≤ 4294967296 ^ K := Nat.pow_le_pow_left (by omega) K
        omega
      have d7 := Dg.ofN (bev (bs.drop u) K)
      have v7 := val_ofN (bev (bs.drop u) K)
      have hK0 : K = 0 → bev (bs.drop u) K < L := by intro h; subst h; exact hLp
      have hmono : ∀ i, i ≤ K → (ofN (bev (bs.drop u) i)).length ≤ 1000 := by
        intro i hi
        have h1 := bev_lt hSb i
        rw [hbv i hi] at h1
        have h2 : 256 ^ i ≤ 4294967296 ^ i := Nat.pow_le_pow_left (by omega) i
        have := ofN_len_le (show bev (bs.drop u) i < 4294967296 ^ i by omega)
        omega
      generalize hS : (bs.take (u + K)).drop u = S at *
      (repeat' first | refine st ?_ | refine s2 (fun _ => ?_) (fun _ => ?_) | refine s4 fun _ _ _ _ => ?_ | fail)
      rw [hS, ls]
      refine w_cut (fun sl _ b => b = 0 ∧ sl 0 = vk .u32 nl ∧ sl 1 = vk .u8 bs ∧ sl 7 = vn .i64 K ∧ sl 12 = vk .u32 (ofN L) ∧ sl 13 = vn .i64 u ∧ ((bev (bs.drop u) K = 0 ∧ sl 14 = .s (.c .e0)) ∨ sl 14 = vk .u32 (ofN (bev (bs.drop u) K)))) ?_ ?_
      · clear he
        refine w_loopUp (fun i sl _ => i ≤ K ∧ sl 0 = vk .u32 nl ∧ sl 1 = vk .u8 bs ∧ sl 7 = vn .i64 K ∧ sl 12 = vk .u32 (ofN L) ∧ sl 13 = vn .i64 u ∧ sl 56 = vk .u8 S ∧ sl 57 = vn .i64 K ∧ sl 58 = vn .i64 i ∧
            ((bev (bs.drop u) i = 0 ∧ sl 14 = .s (.c .e0)) ∨ sl 14 = vk .u32 (ofN (bev (bs.drop u) i)))) 0 K
            ⟨by omega, rfl, rfl, rfl, rfl, rfl, rfl, rfl, rfl, .inl ⟨rfl, rfl⟩⟩ (fun i sl o h => h.1) ?_
        rintro i sl o ⟨hi, s0, s1, s7, s12, s13, s56, s57, s58, s14⟩
        rw [upd8 s0 s1 s7 s12 s13 s56 s57 s58]
        by_cases hin : i < K
        · have hsi := hSb i
          have hget : S.getD i 0 = (bs.drop u).getD i 0 := by rw [← hS, sl_get hin, getD_drop]
          have di := Dg.ofN (bev (bs.drop u) i)
          have vi := val_ofN (bev (bs.drop u) i)
          have li := hmono i hi
          have dm := Dg.ofN (bev (bs.drop u) i * 256)
          have vm := val_ofN (bev (bs.drop u) i * 256)
          have lm : (ofN (bev (bs.drop u) i * 256)).length ≤ 1001 := by
            apply ofN_len_le
            have h1 := ofN_len_lt (bev (bs.drop u) i)
            obtain ⟨M, hM⟩ : ∃ M, M = 1000 := ⟨_, rfl⟩
            rw [← hM] at li
            have h2 : 4294967296 ^ (ofN (bev (bs.drop u) i)).length ≤ 4294967296 ^ M := Nat.pow_le_pow_right (by omega) li
            rw [show 1001 = M + 1 by omega, Nat.pow_succ]
            omega
          have ds := Dg.ofN (S.getD i 0)
          have vs := val_ofN (S.getD i 0)
          have lss := ofN_len_small (n := S.getD i 0) (by omega)
          have hmul := natMul_ok (ext := ext) di d256 (by omega) (by omega)
          rw [vi, v256] at hmul
          have hadd := natAdd_ok (ext := ext) dm ds (by omega) (by omega)
          rw [vm, vs] at hadd
          have hnext : bev (bs.drop u) i * 256 + S.getD i 0 = bev (bs.drop u) (i + 1) := by rw [hget]; rfl
          rw [hnext] at hadd
          clear hnext lm li hmono hK0
          rcases s14 with ⟨hz, s14⟩ | s14
          · rw [upd1 (sl := sl) s14]
            rw [hz] at hmul
            (repeat' first | refine st ?_ | refine s2 (fun _ => ?_) (fun _ => ?_) | refine s4 fun _ _ _ _ => ?_ | fail)
            refine r_call1 (natOf_ok (n := 256) (by omega)) rfl rfl ?_
            (repeat' first | refine st ?_ | refine s2 (fun _ => ?_) (fun _ => ?_) | refine s4 fun _ _ _ _ => ?_ | fail)
            refine r_call1 hmul rfl rfl ?_
            (repeat' first | refine st ?_ | refine s2 (fun _ => ?_) (fun _ => ?_) | refine s4 fun _ _ _ _ => ?_ | fail)
            refine r_call1 (natOf_ok (n := S.getD i 0) (by omega)) rfl rfl ?_
            (repeat' first | refine st ?_ | refine s2 (fun _ => ?_) (fun _ => ?_) | refine s4 fun _ _ _ _ => ?_ | fail)
            rw [hz] at hadd
            refine r_call1 hadd rfl rfl ?_
            (repeat' first | refine st ?_ | refine s2 (fun _ => ?_) (fun _ => ?_) | refine s4 fun _ _ _ _ => ?_ | fail)
            exact ⟨⟨by omega, rfl, rfl, rfl, rfl, rfl, rfl, rfl, rfl, .inr rfl⟩, rfl⟩
          · rw [upd1 (sl := sl) s14]
            (repeat' first | refine st ?_ | refine s2 (fun _ => ?_) (fun _ => ?_) | refine s4 fun _ _ _ _ => ?_ | fail)
            refine r_call1 (natOf_ok (n := 256) (by omega)) rfl rfl ?_
            (repeat' first | refine st ?_ | refine s2 (fun _ => ?_) (fun _ => ?_) | refine s4 fun _ _ _ _ => ?_ | fail)
            refine r_call1 hmul rfl rfl ?_
            (repeat' first | refine st ?_ | refine s2 (fun _ => ?_) (fun _ => ?_) | refine s4 fun _ _ _ _ => ?_ | fail)
            refine r_call1 (natOf_ok (n := S.getD i 0) (by omega)) rfl rfl ?_
            (repeat' first | refine st ?_ | refine s2 (fun _ => ?_) (fun _ => ?_) | refine s4 fun _ _ _ _ => ?_ | fail)
            refine r_call1 hadd rfl rfl ?_
            (repeat' first | refine st ?_ | refine s2 (fun _ => ?_) (fun _ => ?_) | refine s4 fun _ _ _ _ => ?_ | fail)
            exact ⟨⟨by omega, rfl, rfl, rfl, rfl, rfl, rfl, rfl, rfl, .inr rfl⟩, rfl⟩
        · have : i = K := by omega
          subst this
          rcases s14 with ⟨hz, s14⟩ | s14
          · rw [upd1 (sl := sl) s14]
            (repeat' first | refine st ?_ | refine s2 (fun _ => ?_) (fun _ => ?_) | refine s4 fun _ _ _ _ => ?_ | fail)
            exact ⟨rfl, rfl, rfl, rfl, rfl, rfl, .inl ⟨hz, rfl⟩⟩
          · rw [upd1 (sl := sl) s14]
            (repeat' first | refine st ?_ | refine s2 (fun _ => ?_) (fun _ => ?_) | refine s4 fun _ _ _ _ => ?_ | fail)
            exact ⟨rfl, rfl, rfl, rfl, rfl, rfl, .inr rfl⟩
      · clear hmono hbv hS
        generalize bev (bs.drop u) K = B at *
        rintro sl o b ⟨rfl, s0, s1, s7, s12, s13, s14⟩
        rw [upd5 s0 s1 s7 s12 s13]
        have hcmp := natCmp_ok (ext := ext) d7 d6 (by omega) (by omega)
        rw [v6, v7] at hcmp
        have hdm := natDivMod_ok (ext := ext) d7 hn (by omega) (by omega) (by omega)
        rw [v7, hV] at hdm
        have lr := ofN_len_mono (Nat.mod_le B V)
        have hnn := natNorm_ok (ext := ext) (Dg.ofN (B % V)) (by omega)
        rw [val_ofN] at hnn
        have hK1 : ¬ B < L → K ≠ 0 := fun h e => h (hK0 e)
        rcases s14 with ⟨hz, s14⟩ | s14
        · rw [upd1 (sl := sl) s14]
          subst hz
          (repeat' first | refine st ?_ | refine s2 (fun _ => ?_) (fun _ => ?_) | refine s4 fun _ _ _ _ => ?_ | fail)
          refine r_call1 hcmp rfl rfl ?_
          by_cases hlt : 0 < L
          · rw [if_pos hlt] at he
            rw [he]
            have hc : cmpI 0 L < 0 := by unfold cmpI; omega
            (repeat' first | refine st ?_ | refine s2 (fun _ => ?_) (fun _ => ?_) | refine s4 fun _ _ _ _ => ?_ | fail)
            refine r_call3 hdm rfl rfl ?_
            (repeat' first | refine st ?_ | refine s2 (fun _ => ?_) (fun _ => ?_) | refine s4 fun _ _ _ _ => ?_ | fail)
            refine r_call1 hnn rfl rfl ?_
            (repeat' first | refine st ?_ | refine s2 (fun _ => ?_) (fun _ => ?_) | refine s4 fun _ _ _ _ => ?_ | fail)
            exact ends3 rfl rfl rfl rfl rfl rfl rfl
          · exact absurd hLp hlt
        · rw [upd1 (sl := sl) s14]
          (repeat' first | refine st ?_ | refine s2 (fun _ => ?_) (fun _ => ?_) | refine s4 fun _ _ _ _ => ?_ | fail)
          refine r_call1 hcmp rfl rfl ?_
          by_cases hlt : B < L
          · rw [if_pos hlt] at he
            rw [he]
            have hc : cmpI B L < 0 := by unfold cmpI; omega
            (repeat' first | refine st ?_ | refine s2 (fun _ => ?_) (fun _ => ?_) | refine s4 fun _ _ _ _ => ?_ | fail)
            refine r_call3 hdm rfl rfl ?_
            (repeat' first | refine st ?_ | refine s2 (fun _ => ?_) (fun _ => ?_) | refine s4 fun _ _ _ _ => ?_ | fail)
            refine r_call1 hnn rfl rfl ?_
            (repeat' first | refine st ?_ | refine s2 (fun _ => ?_) (fun _ => ?_) | refine s4 fun _ _ _ _ => ?_ | fail)
            exact ends3 rfl rfl rfl rfl rfl rfl rfl
          · rw [if_neg hlt] at he
            have hc : 0 ≤ cmpI B L := by unfold cmpI; omega
            have hK2 := hK1 hlt
            (repeat' first | refine st ?_ | refine s2 (fun _ => ?_) (fun _ => ?_) | refine s4 fun _ _ _ _ => ?_ | fail)
            exact ⟨f, by omega, ⟨u + K, by omega, by omega, ⟨he⟩, rfl, rfl, rfl, rfl, rfl⟩, rfl⟩
end Go.Av
