/- A part of the proof (own method: an abstract machine). No condition. -/
import Derived.Test.YtpdobdimlbhaoaaGreatBnG
namespace Go.Av
open Go
variable {ext : Calls0}

theorem and255 (a : Int) : ∃ m : Nat, m ≤ 255 ∧ binI .and .i64 a 255 = some (.int .i64 (m : Int)) := by
  have h : (BitVec.ofInt IntKind.i64.bits a &&& BitVec.ofInt IntKind.i64.bits 255).toNat ≤ 255 := by
    rw [BitVec.toNat_and]
    have : (BitVec.ofInt IntKind.i64.bits 255).toNat = 255 := by decide
    rw [this]
    exact Nat.and_le_right
  refine ⟨_, h, ?_⟩
  generalize hm : (BitVec.ofInt IntKind.i64.bits a &&& BitVec.ofInt IntKind.i64.bits 255).toNat = m at h
  simp only [binI, bits2, hm, Option.map_some]
  rw [wrap_i (by omega) (by omega)]

theorem cnt_step {n v y : Nat} (hn : 0 < n) (hy : y < n) : (v + 1 + n - 1 - y) / n = (v + n - 1 - y) / n + (if y = v % n then 1 else 0) := by
  have h1 := Nat.div_add_mod v n
  have h2 := Nat.mod_lt v hn
  generalize v / n = a at *
  generalize v % n = b at *
  subst h1
  have e1 : n * a + b + 1 + n - 1 - y = n * a + (b + n - y) := by omega
  have e2 : n * a + b + n - 1 - y = n * a + (b + n - 1 - y) := by omega
  rw [e1, e2, Nat.mul_add_div hn, Nat.mul_add_div hn]
  by_cases h : y = b
  · subst h
    rw [if_pos rfl, Nat.div_eq_of_lt (show y + n - 1 - y < n by omega), show y + n - y = n by omega, Nat.div_self hn]
  · rw [if_neg h]
    by_cases h3 : y < b
    · have e3 : (b + n - y) / n = 1 := by rw [show b + n - y = (b - y) + n by omega, Nat.add_div_right _ hn, Nat.div_eq_of_lt (by omega)]
      have e4 : (b + n - 1 - y) / n = 1 := by rw [show b + n - 1 - y = (b - 1 - y) + n by omega, Nat.add_div_right _ hn, Nat.div_eq_of_lt (by omega)]
      rw [e3, e4]
    · rw [Nat.div_eq_of_lt (show b + n - y < n by omega), Nat.div_eq_of_lt (show b + n - 1 - y < n by omega)]
theorem cnt_all {n q y : Nat} (hn : 0 < n) (hy : y < n) : (q * n + n - 1 - y) / n = q := by
  rw [show q * n + n - 1 - y = n * q + (n - 1 - y) by rw [Nat.mul_comm]; omega, Nat.mul_add_div hn, Nat.div_eq_of_lt (by omega)]; rfl

set_option maxHeartbeats 1000000 in
theorem su_pure (hA : PCall env ext 159 [] (.s (.c (.bool true)))) (a0 : Int) : PCall env ext 160 [.c (.int .i64 a0)] (.s (.c (.bool true))) := by
  obtain ⟨m, hm, he⟩ := and255 a0
  refine PCall.walk (env := env) (g := 160) rfl rfl ?_
  (repeat' first
    | (refine g_WO ?_; first | (refine g_N ?_; first | (refine g_mv ?_; first | refine zA ?_ | refine zB ?_) | (refine g_bin ?_; first | (refine g_lss ?_; first | refine zC ?_ | refine zD ?_ | refine zE (fun _ => ?_) (fun _ => ?_)) | (refine g_gtr ?_; first | refine zF ?_ | refine zG ?_ | refine zH (fun _ => ?_) (fun _ => ?_)) | (refine g_leq ?_; first | refine zI ?_ | refine zJ ?_ | refine zK (fun _ => ?_) (fun _ => ?_)) | (refine g_geq ?_; first | refine zL ?_ | refine zM ?_ | refine zN (fun _ => ?_) (fun _ => ?_)) | (refine g_eql ?_; first | refine zO ?_ | refine zP ?_ | refine zQ (fun _ => ?_) (fun _ => ?_)) | (refine g_neq ?_; first | refine zR ?_ | refine zS ?_ | refine zT (fun _ => ?_) (fun _ => ?_)) | (refine g_shr ?_; refine zW ?_) | (refine g_shl ?_; refine zW ?_) | refine zU ?_ | refine zV ?_) | (refine g_len ?_; first | refine zX ?_ | refine zY ?_ | refine zZ ?_ | refine ya ?_) | (refine g_ia ?_; first | refine yb ?_ | refine yc ?_ | refine yd ?_) | (refine g_load ?_; first | refine ye ?_ | refine yf ?_) | (refine g_conv ?_; first | refine yg ?_ | refine yh ?_ | refine yi ?_ | refine yj ?_ | refine yk ?_) | refine yl ?_ | refine ym ?_ | refine yn fun _ _ _ _ => ?_ | refine yo ?_ | refine yp ?_ | refine yq ?_ | refine yr fun _ _ _ _ => ?_ | refine ys ?_ | refine yt ?_ | refine yu ?_ | refine yv ?_ | refine yw fun _ _ _ _ => ?_ | refine yx ?_ | refine yy ?_ | refine yz fun _ _ _ _ => ?_ | refine xa ?_ | refine xb fun _ _ _ _ => ?_) | refine xc ?_ | refine xd ?_ | refine xe ?_ | refine xf ?_ | refine xg ?_ | refine r_nil ?_)
    | (refine g_WC ?_; first | refine w_seq ?_ | refine w_region ?_ | refine w_block ?_ | refine w_skip ?_ | refine w_ret ?_ | refine w_exit ?_ | refine xh ?_ | refine xi ?_ | refine xj (fun _ => ?_) (fun _ => ?_))
    | (refine g_CC ?_; first | refine c_seqN ?_ | refine c_seqE ?_ | refine c_seqR ?_ | refine c_blkN ?_ | refine c_blkS ?_ | refine xk ?_ | refine c_blkR ?_ | refine c_invN ?_ | refine c_invE ?_ | refine c_invR ?_ | refine c_nil ?_))
  refine r_binZ rfl rfl rfl he ?_
  (repeat' first
    | (refine g_WO ?_; first | (refine g_N ?_; first | (refine g_mv ?_; first | refine zA ?_ | refine zB ?_) | (refine g_bin ?_; first | (refine g_lss ?_; first | refine zC ?_ | refine zD ?_ | refine zE (fun _ => ?_) (fun _ => ?_)) | (refine g_gtr ?_; first | refine zF ?_ | refine zG ?_ | refine zH (fun _ => ?_) (fun _ => ?_)) | (refine g_leq ?_; first | refine zI ?_ | refine zJ ?_ | refine zK (fun _ => ?_) (fun _ => ?_)) | (refine g_geq ?_; first | refine zL ?_ | refine zM ?_ | refine zN (fun _ => ?_) (fun _ => ?_)) | (refine g_eql ?_; first | refine zO ?_ | refine zP ?_ | refine zQ (fun _ => ?_) (fun _ => ?_)) | (refine g_neq ?_; first | refine zR ?_ | refine zS ?_ | refine zT (fun _ => ?_) (fun _ => ?_)) | (refine g_shr ?_; refine zW ?_) | (refine g_shl ?_; refine zW ?_) | refine zU ?_ | refine zV ?_) | (refine g_len ?_; first | refine zX ?_ | refine zY ?_ | refine zZ ?_ | refine ya ?_) | (refine g_ia ?_; first | refine yb ?_ | refine yc ?_ | refine yd ?_) | (refine g_load ?_; first | refine ye ?_ | refine yf ?_) | (refine g_conv ?_; first | refine yg ?_ | refine yh ?_ | refine yi ?_ | refine yj ?_ | refine yk ?_) | refine yl ?_ | refine ym ?_ | refine yn fun _ _ _ _ => ?_ | refine yo ?_ | refine yp ?_ | refine yq ?_ | refine yr fun _ _ _ _ => ?_ | refine ys ?_ | refine yt ?_ | refine yu ?_ | refine yv ?_ | refine yw fun _ _ _ _ => ?_ | refine yx ?_ | refine yy ?_ | refine yz fun _ _ _ _ => ?_ | refine xa ?_ | refine xb fun _ _ _ _ => ?_) | refine xc ?_ | refine xd ?_ | refine xe ?_ | refine xf ?_ | refine xg ?_ | refine r_nil ?_)
    | (refine g_WC ?_; first | refine w_seq ?_ | refine w_region ?_ | refine w_block ?_ | refine w_skip ?_ | refine w_ret ?_ | refine w_exit ?_ | refine xh ?_ | refine xi ?_ | refine xj (fun _ => ?_) (fun _ => ?_))
    | (refine g_CC ?_; first | refine c_seqN ?_ | refine c_seqE ?_ | refine c_seqR ?_ | refine c_blkN ?_ | refine c_blkS ?_ | refine xk ?_ | refine c_blkR ?_ | refine c_invN ?_ | refine c_invE ?_ | refine c_invR ?_ | refine c_nil ?_))
  obtain ⟨n, hn⟩ : ∃ n, n = m + 1 := ⟨_, rfl⟩
  rw [← hn]
  rename_i o1 ho _ _
  rw [← hn] at ho
  obtain ⟨q, hq⟩ : ∃ q, q = 256 / n := ⟨_, rfl⟩
  obtain ⟨L, hL⟩ : ∃ L, L = q * n := ⟨_, rfl⟩
  have hq1 : 1 ≤ q := by rw [hq]; exact Nat.div_pos (by omega) (by omega)
  have hL1 : L ≤ 256 := by rw [hL, hq]; exact Nat.div_mul_le_self _ _
  have hL2 : 256 < L + n := by
    have := Nat.lt_mul_div_succ 256 (show 0 < n by omega)
    rw [← hq, Nat.mul_add, Nat.mul_comm, ← hL] at this; omega
  refine w_loopUp (fun v sl o => v ≤ 256 ∧ ∃ xs, xs.length = n ∧ Hd (∀ y, y < n → xs.getD y 0 = (min v L + n - 1 - y) / n) ∧ o.is 0 0 .i64 xs ∧
      sl 0 = vn .i64 n ∧ sl 3 = .s (.c (.rs 0 0 1 0 n)) ∧ sl 4 = vn .i64 (v - L) ∧ sl 5 = vn .i64 v) 0 256
      ⟨by omega, _, List.length_replicate, ⟨?_⟩, ho, rfl, rfl, ?_, rfl⟩ (fun i sl o h => h.1) ?_
  · intro y hy
    rw [Nat.zero_min]
    have : (List.replicate n 0).getD y 0 = 0 := by simp only [List.getD, List.getElem?_replicate]; split <;> simp
    rw [this, Nat.div_eq_of_lt (by omega)]
  · show vn .i64 0 = _
    rw [show 0 - L = 0 by omega]
  clear ho he
  rintro v sl o ⟨hv, xs, hx, hc, ho, s0, s3, s4, s5⟩
  rw [upd4 s0 s3 s4 s5]
  clear s0 s3 s4 s5
  (repeat' first
    | (refine g_WO ?_; first | (refine g_N ?_; first | (refine g_mv ?_; first | refine zA ?_ | refine zB ?_) | (refine g_bin ?_; first | (refine g_lss ?_; first | refine zC ?_ | refine zD ?_ | refine zE (fun _ => ?_) (fun _ => ?_)) | (refine g_gtr ?_; first | refine zF ?_ | refine zG ?_ | refine zH (fun _ => ?_) (fun _ => ?_)) | (refine g_leq ?_; first | refine zI ?_ | refine zJ ?_ | refine zK (fun _ => ?_) (fun _ => ?_)) | (refine g_geq ?_; first | refine zL ?_ | refine zM ?_ | refine zN (fun _ => ?_) (fun _ => ?_)) | (refine g_eql ?_; first | refine zO ?_ | refine zP ?_ | refine zQ (fun _ => ?_) (fun _ => ?_)) | (refine g_neq ?_; first | refine zR ?_ | refine zS ?_ | refine zT (fun _ => ?_) (fun _ => ?_)) | (refine g_shr ?_; refine zW ?_) | (refine g_shl ?_; refine zW ?_) | refine zU ?_ | refine zV ?_) | (refine g_len ?_; first | refine zX ?_ | refine zY ?_ | refine zZ ?_ | refine ya ?_) | (refine g_ia ?_; first | refine yb ?_ | refine yc ?_ | refine yd ?_) | (refine g_load ?_; first | refine ye ?_ | refine yf ?_) | (refine g_conv ?_; first | refine yg ?_ | refine yh ?_ | refine yi ?_ | refine yj ?_ | refine yk ?_) | refine yl ?_ | refine ym ?_ | refine yn fun _ _ _ _ => ?_ | refine yo ?_ | refine yp ?_ | refine yq ?_ | refine yr fun _ _ _ _ => ?_ | refine ys ?_ | refine yt ?_ | refine yu ?_ | refine yv ?_ | refine yw fun _ _ _ _ => ?_ | refine yx ?_ | refine yy ?_ | refine yz fun _ _ _ _ => ?_ | refine xa ?_ | refine xb fun _ _ _ _ => ?_) | refine xc ?_ | refine xd ?_ | refine xe ?_ | refine xf ?_ | refine xg ?_ | refine r_nil ?_)
    | (refine g_WC ?_; first | refine w_seq ?_ | refine w_region ?_ | refine w_block ?_ | refine w_skip ?_ | refine w_ret ?_ | refine w_exit ?_ | refine xh ?_ | refine xi ?_ | refine xj (fun _ => ?_) (fun _ => ?_))
    | (refine g_CC ?_; first | refine c_seqN ?_ | refine c_seqE ?_ | refine c_seqR ?_ | refine c_blkN ?_ | refine c_blkS ?_ | refine xk ?_ | refine c_blkR ?_ | refine c_invN ?_ | refine c_invE ?_ | refine c_invR ?_ | refine c_nil ?_))
  · rename_i hv2
    refine r_call1 (natOf_ok (n := n) (by omega)) rfl rfl ?_
    (repeat' first
    | (refine g_WO ?_; first | (refine g_N ?_; first | (refine g_mv ?_; first | refine zA ?_ | refine zB ?_) | (refine g_bin ?_; first | (refine g_lss ?_; first | refine zC ?_ | refine zD ?_ | refine zE (fun _ => ?_) (fun _ => ?_)) | (refine g_gtr ?_; first | refine zF ?_ | refine zG ?_ | refine zH (fun _ => ?_) (fun _ => ?_)) | (refine g_leq ?_; first | refine zI ?_ | refine zJ ?_ | refine zK (fun _ => ?_) (fun _ => ?_)) | (refine g_geq ?_; first | refine zL ?_ | refine zM ?_ | refine zN (fun _ => ?_) (fun _ => ?_)) | (refine g_eql ?_; first | refine zO ?_ | refine zP ?_ | refine zQ (fun _ => ?_) (fun _ => ?_)) | (refine g_neq ?_; first | refine zR ?_ | refine zS ?_ | refine zT (fun _ => ?_) (fun _ => ?_)) | (refine g_shr ?_; refine zW ?_) | (refine g_shl ?_; refine zW ?_) | refine zU ?_ | refine zV ?_) | (refine g_len ?_; first | refine zX ?_ | refine zY ?_ | refine zZ ?_ | refine ya ?_) | (refine g_ia ?_; first | refine yb ?_ | refine yc ?_ | refine yd ?_) | (refine g_load ?_; first | refine ye ?_ | refine yf ?_) | (refine g_conv ?_; first | refine yg ?_ | refine yh ?_ | refine yi ?_ | refine yj ?_ | refine yk ?_) | refine yl ?_ | refine ym ?_ | refine yn fun _ _ _ _ => ?_ | refine yo ?_ | refine yp ?_ | refine yq ?_ | refine yr fun _ _ _ _ => ?_ | refine ys ?_ | refine yt ?_ | refine yu ?_ | refine yv ?_ | refine yw fun _ _ _ _ => ?_ | refine yx ?_ | refine yy ?_ | refine yz fun _ _ _ _ => ?_ | refine xa ?_ | refine xb fun _ _ _ _ => ?_) | refine xc ?_ | refine xd ?_ | refine xe ?_ | refine xf ?_ | refine xg ?_ | refine r_nil ?_)
    | (refine g_WC ?_; first | refine w_seq ?_ | refine w_region ?_ | refine w_block ?_ | refine w_skip ?_ | refine w_ret ?_ | refine w_exit ?_ | refine xh ?_ | refine xi ?_ | refine xj (fun _ => ?_) (fun _ => ?_))
    | (refine g_CC ?_; first | refine c_seqN ?_ | refine c_seqE ?_ | refine c_seqR ?_ | refine c_blkN ?_ | refine c_blkS ?_ | refine xk ?_ | refine c_blkR ?_ | refine c_invN ?_ | refine c_invE ?_ | refine c_invR ?_ | refine c_nil ?_))
    rw [show v % 256 = v by omega]
    have hres : (v < L → PCall env ext 116 [pN (ofN n), pB [v]] (.tup [pN (ofN (v % n)), pI (if n = 1 then 0 else 1), pI 0])) ∧ (L ≤ v → PCall env ext 116 [pN (ofN n), pB [v]] (.tup [pN [], pI 0, pI 3])) := by
      by_cases h1 : n = 1
      · subst h1
        have hq : q = 256 := by rw [hq]
        refine ⟨fun _ => ?_, fun h => by omega⟩
        rw [if_pos rfl, Nat.mod_one]
        exact Below1 below_one ⟨_, rfl⟩
      · have hb := below1 (ext := ext) (n := n) (v := v) (by omega) (by omega) (by omega)
        rw [← hq, ← hL] at hb
        refine ⟨fun h => ?_, fun h => ?_⟩
        · rw [if_pos h] at hb
          rw [if_neg h1]
          exact Below1 hb ⟨_, rfl⟩
        · rw [if_neg (by omega)] at hb
          exact Below1 hb ⟨_, rfl⟩
    by_cases hlt : v < L
    · refine r_call3 (hres.1 hlt) rfl rfl ?_
      have hx1 : v % n < n := Nat.mod_lt _ (by omega)
      have hx2 : xs.getD (v % n) 0 ≤ 1000 := by
        rw [hc.h _ hx1]
        refine Nat.le_trans (Nat.div_le_self _ _) ?_
        omega
      have hk1 : n > 1 → (if n = 1 then (0 : Int) else 1) = 1 := fun h => if_neg (by omega)
      (repeat' first
    | (refine g_WO ?_; first | (refine g_N ?_; first | (refine g_mv ?_; first | refine zA ?_ | refine zB ?_) | (refine g_bin ?_; first | (refine g_lss ?_; first | refine zC ?_ | refine zD ?_ | refine zE (fun _ => ?_) (fun _ => ?_)) | (refine g_gtr ?_; first | refine zF ?_ | refine zG ?_ | refine zH (fun _ => ?_) (fun _ => ?_)) | (refine g_leq ?_; first | refine zI ?_ | refine zJ ?_ | refine zK (fun _ => ?_) (fun _ => ?_)) | (refine g_geq ?_; first | refine zL ?_ | refine zM ?_ | refine zN (fun _ => ?_) (fun _ => ?_)) | (refine g_eql ?_; first | refine zO ?_ | refine zP ?_ | refine zQ (fun _ => ?_) (fun _ => ?_)) | (refine g_neq ?_; first | refine zR ?_ | refine zS ?_ | refine zT (fun _ => ?_) (fun _ => ?_)) | (refine g_shr ?_; refine zW ?_) | (refine g_shl ?_; refine zW ?_) | refine zU ?_ | refine zV ?_) | (refine g_len ?_; first | refine zX ?_ | refine zY ?_ | refine zZ ?_ | refine ya ?_) | (refine g_ia ?_; first | refine yb ?_ | refine yc ?_ | refine yd ?_) | (refine g_load ?_; first | refine ye ?_ | refine yf ?_) | (refine g_conv ?_; first | refine yg ?_ | refine yh ?_ | refine yi ?_ | refine yj ?_ | refine yk ?_) | refine yl ?_ | refine ym ?_ | refine yn fun _ _ _ _ => ?_ | refine yo ?_ | refine yp ?_ | refine yq ?_ | refine yr fun _ _ _ _ => ?_ | refine ys ?_ | refine yt ?_ | refine yu ?_ | refine yv ?_ | refine yw fun _ _ _ _ => ?_ | refine yx ?_ | refine yy ?_ | refine yz fun _ _ _ _ => ?_ | refine xa ?_ | refine xb fun _ _ _ _ => ?_) | refine xc ?_ | refine xd ?_ | refine xe ?_ | refine xf ?_ | refine xg ?_ | refine r_nil ?_)
    | (refine g_WC ?_; first | refine w_seq ?_ | refine w_region ?_ | refine w_block ?_ | refine w_skip ?_ | refine w_ret ?_ | refine w_exit ?_ | refine xh ?_ | refine xi ?_ | refine xj (fun _ => ?_) (fun _ => ?_))
    | (refine g_CC ?_; first | refine c_seqN ?_ | refine c_seqE ?_ | refine c_seqR ?_ | refine c_blkN ?_ | refine c_blkS ?_ | refine xk ?_ | refine c_blkR ?_ | refine c_invN ?_ | refine c_invE ?_ | refine c_invR ?_ | refine c_nil ?_))
      refine r_call2 (natUint64_ok (n := v % n) (by omega)) rfl rfl ?_
      have fin : ∀ o' : Objs, o'.is 0 0 .i64 (xs.set (v % n) (xs.getD (v % n) 0 + 1)) → v + 1 ≤ 256 ∧ ∃ ys, ys.length = n ∧ Hd (∀ y, y < n → ys.getD y 0 = (min (v + 1) L + n - 1 - y) / n) ∧ o'.is 0 0 .i64 ys := by
        intro o' hm'
        refine ⟨by omega, _, by rw [List.length_set, hx], ⟨fun y hy => ?_⟩, hm'⟩
        rw [getD_set (by omega), Nat.min_eq_left (show v + 1 ≤ L by omega), cnt_step (by omega) hy, hc.h _ hx1, ]
        have := hc.h y hy
        rw [Nat.min_eq_left (show v ≤ L by omega)] at this ⊢
        by_cases e : y = v % n
        · rw [if_pos e, if_pos e, e]
        · rw [if_neg e, if_neg e, this]; rfl
      generalize hX : v % n = X at *
      have hs4 : vn .i64 (v - L) = vn .i64 (v + 1 - L) := by rw [show v - L = v + 1 - L by omega]
      by_cases h1 : n = 1
      · (repeat' first
    | (refine g_WO ?_; first | (refine g_N ?_; first | (refine g_mv ?_; first | refine zA ?_ | refine zB ?_) | (refine g_bin ?_; first | (refine g_lss ?_; first | refine zC ?_ | refine zD ?_ | refine zE (fun _ => ?_) (fun _ => ?_)) | (refine g_gtr ?_; first | refine zF ?_ | refine zG ?_ | refine zH (fun _ => ?_) (fun _ => ?_)) | (refine g_leq ?_; first | refine zI ?_ | refine zJ ?_ | refine zK (fun _ => ?_) (fun _ => ?_)) | (refine g_geq ?_; first | refine zL ?_ | refine zM ?_ | refine zN (fun _ => ?_) (fun _ => ?_)) | (refine g_eql ?_; first | refine zO ?_ | refine zP ?_ | refine zQ (fun _ => ?_) (fun _ => ?_)) | (refine g_neq ?_; first | refine zR ?_ | refine zS ?_ | refine zT (fun _ => ?_) (fun _ => ?_)) | (refine g_shr ?_; refine zW ?_) | (refine g_shl ?_; refine zW ?_) | refine zU ?_ | refine zV ?_) | (refine g_len ?_; first | refine zX ?_ | refine zY ?_ | refine zZ ?_ | refine ya ?_) | (refine g_ia ?_; first | refine yb ?_ | refine yc ?_ | refine yd ?_) | (refine g_load ?_; first | refine ye ?_ | refine yf ?_) | (refine g_conv ?_; first | refine yg ?_ | refine yh ?_ | refine yi ?_ | refine yj ?_ | refine yk ?_) | refine yl ?_ | refine ym ?_ | refine yn fun _ _ _ _ => ?_ | refine yo ?_ | refine yp ?_ | refine yq ?_ | refine yr fun _ _ _ _ => ?_ | refine ys ?_ | refine yt ?_ | refine yu ?_ | refine yv ?_ | refine yw fun _ _ _ _ => ?_ | refine yx ?_ | refine yy ?_ | refine yz fun _ _ _ _ => ?_ | refine xa ?_ | refine xb fun _ _ _ _ => ?_) | refine xc ?_ | refine xd ?_ | refine xe ?_ | refine xf ?_ | refine xg ?_ | refine r_nil ?_)
    | (refine g_WC ?_; first | refine w_seq ?_ | refine w_region ?_ | refine w_block ?_ | refine w_skip ?_ | refine w_ret ?_ | refine w_exit ?_ | refine xh ?_ | refine xi ?_ | refine xj (fun _ => ?_) (fun _ => ?_))
    | (refine g_CC ?_; first | refine c_seqN ?_ | refine c_seqE ?_ | refine c_seqR ?_ | refine c_blkN ?_ | refine c_blkS ?_ | refine xk ?_ | refine c_blkR ?_ | refine c_invN ?_ | refine c_invE ?_ | refine c_invR ?_ | refine c_nil ?_))
        rename_i o' hm' _ _
        obtain ⟨f1, ys, f2, f3, f4⟩ := fin o' hm'
        exact ⟨⟨f1, ys, f2, f3, f4, rfl, rfl, hs4, rfl⟩, rfl⟩
      · (repeat' first
    | (refine g_WO ?_; first | (refine g_N ?_; first | (refine g_mv ?_; first | refine zA ?_ | refine zB ?_) | (refine g_bin ?_; first | (refine g_lss ?_; first | refine zC ?_ | refine zD ?_ | refine zE (fun _ => ?_) (fun _ => ?_)) | (refine g_gtr ?_; first | refine zF ?_ | refine zG ?_ | refine zH (fun _ => ?_) (fun _ => ?_)) | (refine g_leq ?_; first | refine zI ?_ | refine zJ ?_ | refine zK (fun _ => ?_) (fun _ => ?_)) | (refine g_geq ?_; first | refine zL ?_ | refine zM ?_ | refine zN (fun _ => ?_) (fun _ => ?_)) | (refine g_eql ?_; first | refine zO ?_ | refine zP ?_ | refine zQ (fun _ => ?_) (fun _ => ?_)) | (refine g_neq ?_; first | refine zR ?_ | refine zS ?_ | refine zT (fun _ => ?_) (fun _ => ?_)) | (refine g_shr ?_; refine zW ?_) | (refine g_shl ?_; refine zW ?_) | refine zU ?_ | refine zV ?_) | (refine g_len ?_; first | refine zX ?_ | refine zY ?_ | refine zZ ?_ | refine ya ?_) | (refine g_ia ?_; first | refine yb ?_ | refine yc ?_ | refine yd ?_) | (refine g_load ?_; first | refine ye ?_ | refine yf ?_) | (refine g_conv ?_; first | refine yg ?_ | refine yh ?_ | refine yi ?_ | refine yj ?_ | refine yk ?_) | refine yl ?_ | refine ym ?_ | refine yn fun _ _ _ _ => ?_ | refine yo ?_ | refine yp ?_ | refine yq ?_ | refine yr fun _ _ _ _ => ?_ | refine ys ?_ | refine yt ?_ | refine yu ?_ | refine yv ?_ | refine yw fun _ _ _ _ => ?_ | refine yx ?_ | refine yy ?_ | refine yz fun _ _ _ _ => ?_ | refine xa ?_ | refine xb fun _ _ _ _ => ?_) | refine xc ?_ | refine xd ?_ | refine xe ?_ | refine xf ?_ | refine xg ?_ | refine r_nil ?_)
    | (refine g_WC ?_; first | refine w_seq ?_ | refine w_region ?_ | refine w_block ?_ | refine w_skip ?_ | refine w_ret ?_ | refine w_exit ?_ | refine xh ?_ | refine xi ?_ | refine xj (fun _ => ?_) (fun _ => ?_))
    | (refine g_CC ?_; first | refine c_seqN ?_ | refine c_seqE ?_ | refine c_seqR ?_ | refine c_blkN ?_ | refine c_blkS ?_ | refine xk ?_ | refine c_blkR ?_ | refine c_invN ?_ | refine c_invE ?_ | refine c_invR ?_ | refine c_nil ?_))
        rename_i o' hm' _ _
        obtain ⟨f1, ys, f2, f3, f4⟩ := fin o' hm'
        exact ⟨⟨f1, ys, f2, f3, f4, rfl, rfl, hs4, rfl⟩, rfl⟩
    · refine r_call3 (hres.2 (by omega)) rfl rfl ?_
      (repeat' first
    | (refine g_WO ?_; first | (refine g_N ?_; first | (refine g_mv ?_; first | refine zA ?_ | refine zB ?_) | (refine g_bin ?_; first | (refine g_lss ?_; first | refine zC ?_ | refine zD ?_ | refine zE (fun _ => ?_) (fun _ => ?_)) | (refine g_gtr ?_; first | refine zF ?_ | refine zG ?_ | refine zH (fun _ => ?_) (fun _ => ?_)) | (refine g_leq ?_; first | refine zI ?_ | refine zJ ?_ | refine zK (fun _ => ?_) (fun _ => ?_)) | (refine g_geq ?_; first | refine zL ?_ | refine zM ?_ | refine zN (fun _ => ?_) (fun _ => ?_)) | (refine g_eql ?_; first | refine zO ?_ | refine zP ?_ | refine zQ (fun _ => ?_) (fun _ => ?_)) | (refine g_neq ?_; first | refine zR ?_ | refine zS ?_ | refine zT (fun _ => ?_) (fun _ => ?_)) | (refine g_shr ?_; refine zW ?_) | (refine g_shl ?_; refine zW ?_) | refine zU ?_ | refine zV ?_) | (refine g_len ?_; first | refine zX ?_ | refine zY ?_ | refine zZ ?_ | refine ya ?_) | (refine g_ia ?_; first | refine yb ?_ | refine yc ?_ | refine yd ?_) | (refine g_load ?_; first | refine ye ?_ | refine yf ?_) | (refine g_conv ?_; first | refine yg ?_ | refine yh ?_ | refine yi ?_ | refine yj ?_ | refine yk ?_) | refine yl ?_ | refine ym ?_ | refine yn fun _ _ _ _ => ?_ | refine yo ?_ | refine yp ?_ | refine yq ?_ | refine yr fun _ _ _ _ => ?_ | refine ys ?_ | refine yt ?_ | refine yu ?_ | refine yv ?_ | refine yw fun _ _ _ _ => ?_ | refine yx ?_ | refine yy ?_ | refine yz fun _ _ _ _ => ?_ | refine xa ?_ | refine xb fun _ _ _ _ => ?_) | refine xc ?_ | refine xd ?_ | refine xe ?_ | refine xf ?_ | refine xg ?_ | refine r_nil ?_)
    | (refine g_WC ?_; first | refine w_seq ?_ | refine w_region ?_ | refine w_block ?_ | refine w_skip ?_ | refine w_ret ?_ | refine w_exit ?_ | refine xh ?_ | refine xi ?_ | refine xj (fun _ => ?_) (fun _ => ?_))
    | (refine g_CC ?_; first | refine c_seqN ?_ | refine c_seqE ?_ | refine c_seqR ?_ | refine c_blkN ?_ | refine c_blkS ?_ | refine xk ?_ | refine c_blkR ?_ | refine c_invN ?_ | refine c_invE ?_ | refine c_invR ?_ | refine c_nil ?_))
      refine ⟨⟨by omega, xs, hx, ⟨fun y hy => ?_⟩, ho, rfl, rfl, ?_, rfl⟩, rfl⟩
      · rw [hc.h y hy, Nat.min_eq_right (show L ≤ v by omega), Nat.min_eq_right (show L ≤ v + 1 by omega)]
      · show vn .i64 (v - L + 1) = vn .i64 (v + 1 - L)
        rw [show v - L + 1 = v + 1 - L by omega]
  · rename_i hv2
    have hv256 : v = 256 := by omega
    subst hv256
    have hall : ∀ y, y < n → xs.getD y 0 = q := by
      intro y hy
      rw [hc.h y hy, Nat.min_eq_right hL1, hL]
      exact cnt_all (by omega) hy
    have h00 := hall 0 (by omega)
    clear hc hv2 hv hL
    refine w_loopUp (fun i sl o => i ≤ n ∧ o.is 0 0 .i64 xs ∧ sl 0 = vn .i64 n ∧ sl 3 = .s (.c (.rs 0 0 1 0 n)) ∧ sl 4 = vn .i64 (256 - L) ∧ sl 72 = .s (.c (.rs 0 0 1 0 n)) ∧ sl 73 = vn .i64 n ∧ sl 74 = vn .i64 i) 0 n
      ⟨by omega, ho, rfl, rfl, rfl, rfl, rfl, rfl⟩ (fun i sl o h => h.1) ?_
    clear ho
    rintro i sl o ⟨hi, ho, s0, s3, s4, s72, s73, s74⟩
    rw [upd6 s0 s3 s4 s72 s73 s74]
    clear s0 s3 s4 s72 s73 s74
    by_cases hin : i < n
    · have hi2 := hall i hin
      (repeat' first
    | (refine g_WO ?_; first | (refine g_N ?_; first | (refine g_mv ?_; first | refine zA ?_ | refine zB ?_) | (refine g_bin ?_; first | (refine g_lss ?_; first | refine zC ?_ | refine zD ?_ | refine zE (fun _ => ?_) (fun _ => ?_)) | (refine g_gtr ?_; first | refine zF ?_ | refine zG ?_ | refine zH (fun _ => ?_) (fun _ => ?_)) | (refine g_leq ?_; first | refine zI ?_ | refine zJ ?_ | refine zK (fun _ => ?_) (fun _ => ?_)) | (refine g_geq ?_; first | refine zL ?_ | refine zM ?_ | refine zN (fun _ => ?_) (fun _ => ?_)) | (refine g_eql ?_; first | refine zO ?_ | refine zP ?_ | refine zQ (fun _ => ?_) (fun _ => ?_)) | (refine g_neq ?_; first | refine zR ?_ | refine zS ?_ | refine zT (fun _ => ?_) (fun _ => ?_)) | (refine g_shr ?_; refine zW ?_) | (refine g_shl ?_; refine zW ?_) | refine zU ?_ | refine zV ?_) | (refine g_len ?_; first | refine zX ?_ | refine zY ?_ | refine zZ ?_ | refine ya ?_) | (refine g_ia ?_; first | refine yb ?_ | refine yc ?_ | refine yd ?_) | (refine g_load ?_; first | refine ye ?_ | refine yf ?_) | (refine g_conv ?_; first | refine yg ?_ | refine yh ?_ | refine yi ?_ | refine yj ?_ | refine yk ?_) | refine yl ?_ | refine ym ?_ | refine yn fun _ _ _ _ => ?_ | refine yo ?_ | refine yp ?_ | refine yq ?_ | refine yr fun _ _ _ _ => ?_ | refine ys ?_ | refine yt ?_ | refine yu ?_ | refine yv ?_ | refine yw fun _ _ _ _ => ?_ | refine yx ?_ | refine yy ?_ | refine yz fun _ _ _ _ => ?_ | refine xa ?_ | refine xb fun _ _ _ _ => ?_) | refine xc ?_ | refine xd ?_ | refine xe ?_ | refine xf ?_ | refine xg ?_ | refine r_nil ?_)
    | (refine g_WC ?_; first | refine w_seq ?_ | refine w_region ?_ | refine w_block ?_ | refine w_skip ?_ | refine w_ret ?_ | refine w_exit ?_ | refine xh ?_ | refine xi ?_ | refine xj (fun _ => ?_) (fun _ => ?_))
    | (refine g_CC ?_; first | refine c_seqN ?_ | refine c_seqE ?_ | refine c_seqR ?_ | refine c_blkN ?_ | refine c_blkS ?_ | refine xk ?_ | refine c_blkR ?_ | refine c_invN ?_ | refine c_invE ?_ | refine c_invR ?_ | refine c_nil ?_))
      exact ⟨⟨by omega, ho, rfl, rfl, rfl, rfl, rfl, rfl⟩, rfl⟩
    · (repeat' first
    | (refine g_WO ?_; first | (refine g_N ?_; first | (refine g_mv ?_; first | refine zA ?_ | refine zB ?_) | (refine g_bin ?_; first | (refine g_lss ?_; first | refine zC ?_ | refine zD ?_ | refine zE (fun _ => ?_) (fun _ => ?_)) | (refine g_gtr ?_; first | refine zF ?_ | refine zG ?_ | refine zH (fun _ => ?_) (fun _ => ?_)) | (refine g_leq ?_; first | refine zI ?_ | refine zJ ?_ | refine zK (fun _ => ?_) (fun _ => ?_)) | (refine g_geq ?_; first | refine zL ?_ | refine zM ?_ | refine zN (fun _ => ?_) (fun _ => ?_)) | (refine g_eql ?_; first | refine zO ?_ | refine zP ?_ | refine zQ (fun _ => ?_) (fun _ => ?_)) | (refine g_neq ?_; first | refine zR ?_ | refine zS ?_ | refine zT (fun _ => ?_) (fun _ => ?_)) | (refine g_shr ?_; refine zW ?_) | (refine g_shl ?_; refine zW ?_) | refine zU ?_ | refine zV ?_) | (refine g_len ?_; first | refine zX ?_ | refine zY ?_ | refine zZ ?_ | refine ya ?_) | (refine g_ia ?_; first | refine yb ?_ | refine yc ?_ | refine yd ?_) | (refine g_load ?_; first | refine ye ?_ | refine yf ?_) | (refine g_conv ?_; first | refine yg ?_ | refine yh ?_ | refine yi ?_ | refine yj ?_ | refine yk ?_) | refine yl ?_ | refine ym ?_ | refine yn fun _ _ _ _ => ?_ | refine yo ?_ | refine yp ?_ | refine yq ?_ | refine yr fun _ _ _ _ => ?_ | refine ys ?_ | refine yt ?_ | refine yu ?_ | refine yv ?_ | refine yw fun _ _ _ _ => ?_ | refine yx ?_ | refine yy ?_ | refine yz fun _ _ _ _ => ?_ | refine xa ?_ | refine xb fun _ _ _ _ => ?_) | refine xc ?_ | refine xd ?_ | refine xe ?_ | refine xf ?_ | refine xg ?_ | refine r_nil ?_)
    | (refine g_WC ?_; first | refine w_seq ?_ | refine w_region ?_ | refine w_block ?_ | refine w_skip ?_ | refine w_ret ?_ | refine w_exit ?_ | refine xh ?_ | refine xi ?_ | refine xj (fun _ => ?_) (fun _ => ?_))
    | (refine g_CC ?_; first | refine c_seqN ?_ | refine c_seqE ?_ | refine c_seqR ?_ | refine c_blkN ?_ | refine c_blkS ?_ | refine xk ?_ | refine c_blkR ?_ | refine c_invN ?_ | refine c_invE ?_ | refine c_invR ?_ | refine c_nil ?_))
      refine r_call1 hA rfl rfl ?_
      (repeat' first
    | (refine g_WO ?_; first | (refine g_N ?_; first | (refine g_mv ?_; first | refine zA ?_ | refine zB ?_) | (refine g_bin ?_; first | (refine g_lss ?_; first | refine zC ?_ | refine zD ?_ | refine zE (fun _ => ?_) (fun _ => ?_)) | (refine g_gtr ?_; first | refine zF ?_ | refine zG ?_ | refine zH (fun _ => ?_) (fun _ => ?_)) | (refine g_leq ?_; first | refine zI ?_ | refine zJ ?_ | refine zK (fun _ => ?_) (fun _ => ?_)) | (refine g_geq ?_; first | refine zL ?_ | refine zM ?_ | refine zN (fun _ => ?_) (fun _ => ?_)) | (refine g_eql ?_; first | refine zO ?_ | refine zP ?_ | refine zQ (fun _ => ?_) (fun _ => ?_)) | (refine g_neq ?_; first | refine zR ?_ | refine zS ?_ | refine zT (fun _ => ?_) (fun _ => ?_)) | (refine g_shr ?_; refine zW ?_) | (refine g_shl ?_; refine zW ?_) | refine zU ?_ | refine zV ?_) | (refine g_len ?_; first | refine zX ?_ | refine zY ?_ | refine zZ ?_ | refine ya ?_) | (refine g_ia ?_; first | refine yb ?_ | refine yc ?_ | refine yd ?_) | (refine g_load ?_; first | refine ye ?_ | refine yf ?_) | (refine g_conv ?_; first | refine yg ?_ | refine yh ?_ | refine yi ?_ | refine yj ?_ | refine yk ?_) | refine yl ?_ | refine ym ?_ | refine yn fun _ _ _ _ => ?_ | refine yo ?_ | refine yp ?_ | refine yq ?_ | refine yr fun _ _ _ _ => ?_ | refine ys ?_ | refine yt ?_ | refine yu ?_ | refine yv ?_ | refine yw fun _ _ _ _ => ?_ | refine yx ?_ | refine yy ?_ | refine yz fun _ _ _ _ => ?_ | refine xa ?_ | refine xb fun _ _ _ _ => ?_) | refine xc ?_ | refine xd ?_ | refine xe ?_ | refine xf ?_ | refine xg ?_ | refine r_nil ?_)
    | (refine g_WC ?_; first | refine w_seq ?_ | refine w_region ?_ | refine w_block ?_ | refine w_skip ?_ | refine w_ret ?_ | refine w_exit ?_ | refine xh ?_ | refine xi ?_ | refine xj (fun _ => ?_) (fun _ => ?_))
    | (refine g_CC ?_; first | refine c_seqN ?_ | refine c_seqE ?_ | refine c_seqR ?_ | refine c_blkN ?_ | refine c_blkS ?_ | refine xk ?_ | refine c_blkR ?_ | refine c_invN ?_ | refine c_invE ?_ | refine c_invR ?_ | refine c_nil ?_))
      exact ends1 rfl rfl rfl
end Go.Av
