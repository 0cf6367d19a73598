/- A part of the proof (own method: an abstract machine). No condition. -/
import Derived.Test.YtpdobdimlbhaoaaGreatBnB
namespace Go.Av
open Go
variable {ext : Calls0}

theorem mul_step {x y c t : Nat} (hx : x < 4294967296) (hy : y < 4294967296) (hc : c < 4294967296) (ht : t < 4294967296) : x * y + t + c < 18446744073709551616 ∧ (c + (x * y + t)) / 4294967296 < 4294967296 ∧ x * y < 18446744073709551616 := by
  have : x * y ≤ 4294967295 * 4294967295 := Nat.mul_le_mul (by omega) (by omega)
  omega

set_option maxHeartbeats 800000 in
theorem mul_ok {a b : List Nat} (ha : Dg a) (hb : Dg b) (la : Sh a) (lb : Sh b) : PCall env ext 14 [pN a, pN b] (.s (pN (ofN (val a * val b)))) := by
  have h2 := ofN_len_le_of ha
  have h3 := ofN_len_le_of hb
  have v1 := val_ofN (val a)
  have v2 := val_ofN (val b)
  have d1 := Dg.ofN (val a)
  have d2 := Dg.ofN (val b)
  refine PCall.walk (env := env) (g := 14) rfl rfl ?_
  (repeat' first
    | (refine g_WO ?_; first | (refine g_N ?_; first | (refine g_mv ?_; first | refine zA ?_ | refine zB ?_) | (refine g_bin ?_; first | (refine g_lss ?_; first | refine zC ?_ | refine zD ?_ | refine zE (fun _ => ?_) (fun _ => ?_)) | (refine g_gtr ?_; first | refine zF ?_ | refine zG ?_ | refine zH (fun _ => ?_) (fun _ => ?_)) | (refine g_leq ?_; first | refine zI ?_ | refine zJ ?_ | refine zK (fun _ => ?_) (fun _ => ?_)) | (refine g_geq ?_; first | refine zL ?_ | refine zM ?_ | refine zN (fun _ => ?_) (fun _ => ?_)) | (refine g_eql ?_; first | refine zO ?_ | refine zP ?_ | refine zQ (fun _ => ?_) (fun _ => ?_)) | (refine g_neq ?_; first | refine zR ?_ | refine zS ?_ | refine zT (fun _ => ?_) (fun _ => ?_)) | (refine g_shr ?_; refine zW ?_) | (refine g_shl ?_; refine zW ?_) | refine zU ?_ | refine zV ?_) | (refine g_len ?_; first | refine zX ?_ | refine zY ?_ | refine zZ ?_ | refine ya ?_) | (refine g_ia ?_; first | refine yb ?_ | refine yc ?_ | refine yd ?_) | (refine g_load ?_; first | refine ye ?_ | refine yf ?_) | (refine g_conv ?_; first | refine yg ?_ | refine yh ?_ | refine yi ?_ | refine yj ?_ | refine yk ?_) | refine yl ?_ | refine ym ?_ | refine yn fun _ _ _ _ => ?_ | refine yo ?_ | refine yp ?_ | refine yq ?_ | refine yr fun _ _ _ _ => ?_ | refine ys ?_ | refine yt ?_ | refine yu ?_ | refine yv ?_ | refine yw fun _ _ _ _ => ?_ | refine yx ?_ | refine yy ?_ | refine yz fun _ _ _ _ => ?_ | refine xa ?_ | refine xb fun _ _ _ _ => ?_) | refine xc ?_ | refine xd ?_ | refine xe ?_ | refine xf ?_ | refine xg ?_ | refine r_nil ?_)
    | (refine g_WC ?_; first | refine w_seq ?_ | refine w_region ?_ | refine w_block ?_ | refine w_skip ?_ | refine w_ret ?_ | refine w_exit ?_ | refine xh ?_ | refine xi ?_ | refine xj (fun _ => ?_) (fun _ => ?_))
    | (refine g_CC ?_; first | refine c_seqN ?_ | refine c_seqE ?_ | refine c_seqR ?_ | refine c_blkN ?_ | refine c_blkS ?_ | refine xk ?_ | refine c_blkR ?_ | refine c_invN ?_ | refine c_invE ?_ | refine c_invR ?_ | refine c_nil ?_))
  refine r_call1 (trim_ok ha la) rfl rfl ?_
  (repeat' first
    | (refine g_WO ?_; first | (refine g_N ?_; first | (refine g_mv ?_; first | refine zA ?_ | refine zB ?_) | (refine g_bin ?_; first | (refine g_lss ?_; first | refine zC ?_ | refine zD ?_ | refine zE (fun _ => ?_) (fun _ => ?_)) | (refine g_gtr ?_; first | refine zF ?_ | refine zG ?_ | refine zH (fun _ => ?_) (fun _ => ?_)) | (refine g_leq ?_; first | refine zI ?_ | refine zJ ?_ | refine zK (fun _ => ?_) (fun _ => ?_)) | (refine g_geq ?_; first | refine zL ?_ | refine zM ?_ | refine zN (fun _ => ?_) (fun _ => ?_)) | (refine g_eql ?_; first | refine zO ?_ | refine zP ?_ | refine zQ (fun _ => ?_) (fun _ => ?_)) | (refine g_neq ?_; first | refine zR ?_ | refine zS ?_ | refine zT (fun _ => ?_) (fun _ => ?_)) | (refine g_shr ?_; refine zW ?_) | (refine g_shl ?_; refine zW ?_) | refine zU ?_ | refine zV ?_) | (refine g_len ?_; first | refine zX ?_ | refine zY ?_ | refine zZ ?_ | refine ya ?_) | (refine g_ia ?_; first | refine yb ?_ | refine yc ?_ | refine yd ?_) | (refine g_load ?_; first | refine ye ?_ | refine yf ?_) | (refine g_conv ?_; first | refine yg ?_ | refine yh ?_ | refine yi ?_ | refine yj ?_ | refine yk ?_) | refine yl ?_ | refine ym ?_ | refine yn fun _ _ _ _ => ?_ | refine yo ?_ | refine yp ?_ | refine yq ?_ | refine yr fun _ _ _ _ => ?_ | refine ys ?_ | refine yt ?_ | refine yu ?_ | refine yv ?_ | refine yw fun _ _ _ _ => ?_ | refine yx ?_ | refine yy ?_ | refine yz fun _ _ _ _ => ?_ | refine xa ?_ | refine xb fun _ _ _ _ => ?_) | refine xc ?_ | refine xd ?_ | refine xe ?_ | refine xf ?_ | refine xg ?_ | refine r_nil ?_)
    | (refine g_WC ?_; first | refine w_seq ?_ | refine w_region ?_ | refine w_block ?_ | refine w_skip ?_ | refine w_ret ?_ | refine w_exit ?_ | refine xh ?_ | refine xi ?_ | refine xj (fun _ => ?_) (fun _ => ?_))
    | (refine g_CC ?_; first | refine c_seqN ?_ | refine c_seqE ?_ | refine c_seqR ?_ | refine c_blkN ?_ | refine c_blkS ?_ | refine xk ?_ | refine c_blkR ?_ | refine c_invN ?_ | refine c_invE ?_ | refine c_invR ?_ | refine c_nil ?_))
  refine r_call1 (trim_ok hb lb) rfl rfl ?_
  generalize ofN (val a) = A at *
  generalize ofN (val b) = B at *
  rw [← v1, ← v2]
  clear v1 v2
  (repeat' first
    | (refine g_WO ?_; first | (refine g_N ?_; first | (refine g_mv ?_; first | refine zA ?_ | refine zB ?_) | (refine g_bin ?_; first | (refine g_lss ?_; first | refine zC ?_ | refine zD ?_ | refine zE (fun _ => ?_) (fun _ => ?_)) | (refine g_gtr ?_; first | refine zF ?_ | refine zG ?_ | refine zH (fun _ => ?_) (fun _ => ?_)) | (refine g_leq ?_; first | refine zI ?_ | refine zJ ?_ | refine zK (fun _ => ?_) (fun _ => ?_)) | (refine g_geq ?_; first | refine zL ?_ | refine zM ?_ | refine zN (fun _ => ?_) (fun _ => ?_)) | (refine g_eql ?_; first | refine zO ?_ | refine zP ?_ | refine zQ (fun _ => ?_) (fun _ => ?_)) | (refine g_neq ?_; first | refine zR ?_ | refine zS ?_ | refine zT (fun _ => ?_) (fun _ => ?_)) | (refine g_shr ?_; refine zW ?_) | (refine g_shl ?_; refine zW ?_) | refine zU ?_ | refine zV ?_) | (refine g_len ?_; first | refine zX ?_ | refine zY ?_ | refine zZ ?_ | refine ya ?_) | (refine g_ia ?_; first | refine yb ?_ | refine yc ?_ | refine yd ?_) | (refine g_load ?_; first | refine ye ?_ | refine yf ?_) | (refine g_conv ?_; first | refine yg ?_ | refine yh ?_ | refine yi ?_ | refine yj ?_ | refine yk ?_) | refine yl ?_ | refine ym ?_ | refine yn fun _ _ _ _ => ?_ | refine yo ?_ | refine yp ?_ | refine yq ?_ | refine yr fun _ _ _ _ => ?_ | refine ys ?_ | refine yt ?_ | refine yu ?_ | refine yv ?_ | refine yw fun _ _ _ _ => ?_ | refine yx ?_ | refine yy ?_ | refine yz fun _ _ _ _ => ?_ | refine xa ?_ | refine xb fun _ _ _ _ => ?_) | refine xc ?_ | refine xd ?_ | refine xe ?_ | refine xf ?_ | refine xg ?_ | refine r_nil ?_)
    | (refine g_WC ?_; first | refine w_seq ?_ | refine w_region ?_ | refine w_block ?_ | refine w_skip ?_ | refine w_ret ?_ | refine w_exit ?_ | refine xh ?_ | refine xi ?_ | refine xj (fun _ => ?_) (fun _ => ?_))
    | (refine g_CC ?_; first | refine c_seqN ?_ | refine c_seqE ?_ | refine c_seqR ?_ | refine c_blkN ?_ | refine c_blkS ?_ | refine xk ?_ | refine c_blkR ?_ | refine c_invN ?_ | refine c_invE ?_ | refine c_invR ?_ | refine c_nil ?_))
  · rename_i h4
    refine ends1 rfl rfl ?_
    rw [List.eq_nil_of_length_eq_zero (l := A) (by omega)]; simp [val]; rfl
  · rename_i h4 h5
    refine ends1 rfl rfl ?_
    rw [List.eq_nil_of_length_eq_zero (l := B) (by omega)]; simp [val]; rfl
  · rename_i h4 h5 o1 hm _ _
    refine w_loopUp (fun i sl o => i ≤ A.length ∧ ∃ xs, xs.length = A.length + B.length ∧ Dg xs ∧ Hd (vt xs (i + B.length) = vt A i * val B) ∧ o.is 0 0 .u32 xs ∧
      sl 29 = vk .u32 A ∧ sl 1 = vk .u32 B ∧ sl 5 = .s (.c (.rs 0 0 1 0 (A.length + B.length))) ∧ sl 30 = vn .i64 A.length ∧ sl 31 = vn .i64 i) 0 A.length
      ⟨by omega, _, List.length_replicate, Dg.replicate _, ?_, hm, rfl, rfl, rfl, rfl, rfl⟩ (fun i sl o h => h.1) ?_
    · constructor; rw [vt_zero, Nat.zero_mul, vt_zeros (k := 0) (fun i _ _ => ?_) (by omega), vt_zero]
      simp only [List.getD, List.getElem?_replicate]; split <;> simp
    rintro i sl o ⟨hi, xs, hx, hd, he, hm, s29, s1, s5, s30, s31⟩
    rw [upd5 s29 s1 s5 s30 s31]
    clear s29 s1 s5 s30 s31 h4 h5
    have a1 := d1 i
    (repeat' first
    | (refine g_WO ?_; first | (refine g_N ?_; first | (refine g_mv ?_; first | refine zA ?_ | refine zB ?_) | (refine g_bin ?_; first | (refine g_lss ?_; first | refine zC ?_ | refine zD ?_ | refine zE (fun _ => ?_) (fun _ => ?_)) | (refine g_gtr ?_; first | refine zF ?_ | refine zG ?_ | refine zH (fun _ => ?_) (fun _ => ?_)) | (refine g_leq ?_; first | refine zI ?_ | refine zJ ?_ | refine zK (fun _ => ?_) (fun _ => ?_)) | (refine g_geq ?_; first | refine zL ?_ | refine zM ?_ | refine zN (fun _ => ?_) (fun _ => ?_)) | (refine g_eql ?_; first | refine zO ?_ | refine zP ?_ | refine zQ (fun _ => ?_) (fun _ => ?_)) | (refine g_neq ?_; first | refine zR ?_ | refine zS ?_ | refine zT (fun _ => ?_) (fun _ => ?_)) | (refine g_shr ?_; refine zW ?_) | (refine g_shl ?_; refine zW ?_) | refine zU ?_ | refine zV ?_) | (refine g_len ?_; first | refine zX ?_ | refine zY ?_ | refine zZ ?_ | refine ya ?_) | (refine g_ia ?_; first | refine yb ?_ | refine yc ?_ | refine yd ?_) | (refine g_load ?_; first | refine ye ?_ | refine yf ?_) | (refine g_conv ?_; first | refine yg ?_ | refine yh ?_ | refine yi ?_ | refine yj ?_ | refine yk ?_) | refine yl ?_ | refine ym ?_ | refine yn fun _ _ _ _ => ?_ | refine yo ?_ | refine yp ?_ | refine yq ?_ | refine yr fun _ _ _ _ => ?_ | refine ys ?_ | refine yt ?_ | refine yu ?_ | refine yv ?_ | refine yw fun _ _ _ _ => ?_ | refine yx ?_ | refine yy ?_ | refine yz fun _ _ _ _ => ?_ | refine xa ?_ | refine xb fun _ _ _ _ => ?_) | refine xc ?_ | refine xd ?_ | refine xe ?_ | refine xf ?_ | refine xg ?_ | refine r_nil ?_)
    | (refine g_WC ?_; first | refine w_seq ?_ | refine w_region ?_ | refine w_block ?_ | refine w_skip ?_ | refine w_ret ?_ | refine w_exit ?_ | refine xh ?_ | refine xi ?_ | refine xj (fun _ => ?_) (fun _ => ?_))
    | (refine g_CC ?_; first | refine c_seqN ?_ | refine c_seqE ?_ | refine c_seqR ?_ | refine c_blkN ?_ | refine c_blkS ?_ | refine xk ?_ | refine c_blkR ?_ | refine c_invN ?_ | refine c_invE ?_ | refine c_invR ?_ | refine c_nil ?_))
    · rename_i h4
      refine w_loopUp (fun k sl o => k ≤ B.length ∧ ∃ ys c, ys.length = A.length + B.length ∧ Dg ys ∧ c < 4294967296 ∧
        Hd (vt ys (i + B.length) + 4294967296 ^ (i + k) * c = vt A i * val B + 4294967296 ^ i * A.getD i 0 * vt B k) ∧ o.is 0 0 .u32 ys ∧
        sl 36 = vk .u32 B ∧ sl 5 = .s (.c (.rs 0 0 1 0 (A.length + B.length))) ∧ sl 37 = vn .i64 B.length ∧ sl 38 = vn .i64 k ∧ sl 6 = vn .i64 i ∧ sl 7 = vn .u32 (A.getD i 0) ∧ sl 8 = vn .u64 c ∧
        sl 29 = vk .u32 A ∧ sl 30 = vn .i64 A.length ∧ sl 31 = vn .i64 i ∧ sl 1 = vk .u32 B) 0 B.length
        ⟨by omega, xs, 0, hx, hd, by omega, ⟨by rw [vt_zero]; simpa using he.h⟩, hm, rfl, rfl, rfl, rfl, rfl, rfl, rfl, rfl, rfl, rfl, rfl⟩ (fun i sl o h => h.1) ?_
      rintro k sl o ⟨hk, ys, c, hy, hd, hc, he, hm, s36, s5, s37, s38, s6, s7, s8, s29, s30, s31, s1⟩
      rw [upd7 s36 s5 s37 s38 s6 s7 s8]
      rw [upd4 s29 s30 s31 s1]
      clear s36 s5 s37 s38 s6 s7 s8 s29 s30 s31 s1
      have a2 := d2 k
      have a3 := hd (i + k)
      have a4 := (mul_step a1 a2 hc a3).1
      (repeat' first
    | (refine g_WO ?_; first | (refine g_N ?_; first | (refine g_mv ?_; first | refine zA ?_ | refine zB ?_) | (refine g_bin ?_; first | (refine g_lss ?_; first | refine zC ?_ | refine zD ?_ | refine zE (fun _ => ?_) (fun _ => ?_)) | (refine g_gtr ?_; first | refine zF ?_ | refine zG ?_ | refine zH (fun _ => ?_) (fun _ => ?_)) | (refine g_leq ?_; first | refine zI ?_ | refine zJ ?_ | refine zK (fun _ => ?_) (fun _ => ?_)) | (refine g_geq ?_; first | refine zL ?_ | refine zM ?_ | refine zN (fun _ => ?_) (fun _ => ?_)) | (refine g_eql ?_; first | refine zO ?_ | refine zP ?_ | refine zQ (fun _ => ?_) (fun _ => ?_)) | (refine g_neq ?_; first | refine zR ?_ | refine zS ?_ | refine zT (fun _ => ?_) (fun _ => ?_)) | (refine g_shr ?_; refine zW ?_) | (refine g_shl ?_; refine zW ?_) | refine zU ?_ | refine zV ?_) | (refine g_len ?_; first | refine zX ?_ | refine zY ?_ | refine zZ ?_ | refine ya ?_) | (refine g_ia ?_; first | refine yb ?_ | refine yc ?_ | refine yd ?_) | (refine g_load ?_; first | refine ye ?_ | refine yf ?_) | (refine g_conv ?_; first | refine yg ?_ | refine yh ?_ | refine yi ?_ | refine yj ?_ | refine yk ?_) | refine yl ?_ | refine ym ?_ | refine yn fun _ _ _ _ => ?_ | refine yo ?_ | refine yp ?_ | refine yq ?_ | refine yr fun _ _ _ _ => ?_ | refine ys ?_ | refine yt ?_ | refine yu ?_ | refine yv ?_ | refine yw fun _ _ _ _ => ?_ | refine yx ?_ | refine yy ?_ | refine yz fun _ _ _ _ => ?_ | refine xa ?_ | refine xb fun _ _ _ _ => ?_) | refine xc ?_ | refine xd ?_ | refine xe ?_ | refine xf ?_ | refine xg ?_ | refine r_nil ?_)
    | (refine g_WC ?_; first | refine w_seq ?_ | refine w_region ?_ | refine w_block ?_ | refine w_skip ?_ | refine w_ret ?_ | refine w_exit ?_ | refine xh ?_ | refine xi ?_ | refine xj (fun _ => ?_) (fun _ => ?_))
    | (refine g_CC ?_; first | refine c_seqN ?_ | refine c_seqE ?_ | refine c_seqR ?_ | refine c_blkN ?_ | refine c_blkS ?_ | refine xk ?_ | refine c_blkR ?_ | refine c_invN ?_ | refine c_invE ?_ | refine c_invR ?_ | refine c_nil ?_))
      · rename_i h4 o' hm' _ _
        refine ⟨⟨by omega, _, _, ?_, hd.set (by omega), (mul_step a1 a2 hc a3).2.1, ⟨?_⟩, hm', rfl, rfl, rfl, rfl, rfl, rfl, rfl, rfl, rfl, rfl, rfl⟩, rfl⟩
        · rw [List.length_set, hy]
        · have he := he.h
          have e0 := vt_set_in (l := ys) (k := i + k) (v := (c + (A.getD i 0 * B.getD k 0 + ys.getD (i + k) 0)) % 4294967296) (n := i + B.length) (by omega) (by omega)
          have e1 : 4294967296 ^ (i + k) = 4294967296 ^ i * 4294967296 ^ k := Nat.pow_add _ _ _
          have e2 : 4294967296 ^ (i + (k + 1)) = 4294967296 ^ i * 4294967296 ^ k * 4294967296 := by rw [← Nat.add_assoc, Nat.pow_succ, e1]
          have e3 := Nat.mod_add_div (c + (A.getD i 0 * B.getD k 0 + ys.getD (i + k) 0)) 4294967296
          rw [vt_succ B, e2]
          rw [e1] at he e0
          generalize (c + (A.getD i 0 * B.getD k 0 + ys.getD (i + k) 0)) % 4294967296 = r at *
          generalize (c + (A.getD i 0 * B.getD k 0 + ys.getD (i + k) 0)) / 4294967296 = q at *
          generalize vt (ys.set (i + k) r) (i + B.length) = V at *
          generalize 4294967296 ^ i = P at *
          generalize 4294967296 ^ k = R at *
          clear a4
          grind
      · rename_i h4 o' hm' _ _
        have : k = B.length := by omega
        subst this
        refine ⟨⟨by omega, _, ?_, hd.set (by omega), ⟨?_⟩, hm', rfl, rfl, rfl, rfl, rfl⟩, rfl⟩
        · rw [List.length_set, hy]
        · have he := he.h
          rw [show i + 1 + B.length = (i + B.length) + 1 by omega, vt_set_succ (by omega), vt_succ A, Nat.mod_eq_of_lt hc, he, vt_len]
          grind
    · rename_i h4
      have : i = A.length := by omega
      subst this
      have he := he.h
      rw [← hx, vt_len, vt_len] at he
      rw [← hx]
      refine r_callR (trimR_ok hd (by omega) hm) rfl ?_
      rintro o' r ⟨rfl, n, hn, rfl, ht⟩
      (repeat' first
    | (refine g_WO ?_; first | (refine g_N ?_; first | (refine g_mv ?_; first | refine zA ?_ | refine zB ?_) | (refine g_bin ?_; first | (refine g_lss ?_; first | refine zC ?_ | refine zD ?_ | refine zE (fun _ => ?_) (fun _ => ?_)) | (refine g_gtr ?_; first | refine zF ?_ | refine zG ?_ | refine zH (fun _ => ?_) (fun _ => ?_)) | (refine g_leq ?_; first | refine zI ?_ | refine zJ ?_ | refine zK (fun _ => ?_) (fun _ => ?_)) | (refine g_geq ?_; first | refine zL ?_ | refine zM ?_ | refine zN (fun _ => ?_) (fun _ => ?_)) | (refine g_eql ?_; first | refine zO ?_ | refine zP ?_ | refine zQ (fun _ => ?_) (fun _ => ?_)) | (refine g_neq ?_; first | refine zR ?_ | refine zS ?_ | refine zT (fun _ => ?_) (fun _ => ?_)) | (refine g_shr ?_; refine zW ?_) | (refine g_shl ?_; refine zW ?_) | refine zU ?_ | refine zV ?_) | (refine g_len ?_; first | refine zX ?_ | refine zY ?_ | refine zZ ?_ | refine ya ?_) | (refine g_ia ?_; first | refine yb ?_ | refine yc ?_ | refine yd ?_) | (refine g_load ?_; first | refine ye ?_ | refine yf ?_) | (refine g_conv ?_; first | refine yg ?_ | refine yh ?_ | refine yi ?_ | refine yj ?_ | refine yk ?_) | refine yl ?_ | refine ym ?_ | refine yn fun _ _ _ _ => ?_ | refine yo ?_ | refine yp ?_ | refine yq ?_ | refine yr fun _ _ _ _ => ?_ | refine ys ?_ | refine yt ?_ | refine yu ?_ | refine yv ?_ | refine yw fun _ _ _ _ => ?_ | refine yx ?_ | refine yy ?_ | refine yz fun _ _ _ _ => ?_ | refine xa ?_ | refine xb fun _ _ _ _ => ?_) | refine xc ?_ | refine xd ?_ | refine xe ?_ | refine xf ?_ | refine xg ?_ | refine r_nil ?_)
    | (refine g_WC ?_; first | refine w_seq ?_ | refine w_region ?_ | refine w_block ?_ | refine w_skip ?_ | refine w_ret ?_ | refine w_exit ?_ | refine xh ?_ | refine xi ?_ | refine xj (fun _ => ?_) (fun _ => ?_))
    | (refine g_CC ?_; first | refine c_seqN ?_ | refine c_seqE ?_ | refine c_seqR ?_ | refine c_blkN ?_ | refine c_blkS ?_ | refine xk ?_ | refine c_blkR ?_ | refine c_invN ?_ | refine c_invE ?_ | refine c_invR ?_ | refine c_nil ?_))
      refine ends1 rfl (purK hm hn) ?_
      rw [ht, he]
end Go.Av
