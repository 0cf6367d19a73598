/- A part of the proof (own method: an abstract machine). No condition. -/
import Derived.Test.YtpdobdimlbhaoaaGreatBnA
namespace Go.Av
open Go
variable {ext : Calls0}

theorem sub_step {a b bo : Nat} (ha : a < 4294967296) (hb : b < 4294967296) (hbo : bo ≤ 1) :
    a + 4294967296 * ((((a + 18446744073709551616 - bo) % 18446744073709551616 + 18446744073709551616 - b) % 18446744073709551616) / 9223372036854775808) =
      b + bo + (((a + 18446744073709551616 - bo) % 18446744073709551616 + 18446744073709551616 - b) % 18446744073709551616) % 4294967296 := by omega
theorem sub_step0 {a bo : Nat} (ha : a < 4294967296) (hbo : bo ≤ 1) :
    a + 4294967296 * (((a + 18446744073709551616 - bo) % 18446744073709551616) / 9223372036854775808) = bo + ((a + 18446744073709551616 - bo) % 18446744073709551616) % 4294967296 := by omega
theorem sub_ok {a b : List Nat} (ha : Dg a) (hb : Dg b) (la : Sh a) (lb : Sh b) (hle : val b ≤ val a) : PCall env ext 30 [pN a, pN b] (.tup [pN (ofN (val a - val b)), .c (.bool true)]) := by
  have h2 := ofN_len_le_of ha
  have h3 := ofN_len_le_of hb
  have v1 := val_ofN (val a)
  have v2 := val_ofN (val b)
  have d1 := Dg.ofN (val a)
  have d2 := Dg.ofN (val b)
  have hl := ofN_len_mono hle
  have hc : cmpI (val (ofN (val a))) (val (ofN (val b))) ≥ 0 := by rw [v1, v2]; unfold cmpI; omega
  refine PCall.walk (env := env) (g := 30) rfl rfl ?_
  (repeat' first
    | (refine g_WO ?_; first | (refine g_N ?_; first | (refine g_mv ?_; first | refine zA ?_ | refine zB ?_) | (refine g_bin ?_; first | (refine g_lss ?_; first | refine zC ?_ | refine zD ?_ | refine zE (fun _ => ?_) (fun _ => ?_)) | (refine g_gtr ?_; first | refine zF ?_ | refine zG ?_ | refine zH (fun _ => ?_) (fun _ => ?_)) | (refine g_leq ?_; first | refine zI ?_ | refine zJ ?_ | refine zK (fun _ => ?_) (fun _ => ?_)) | (refine g_geq ?_; first | refine zL ?_ | refine zM ?_ | refine zN (fun _ => ?_) (fun _ => ?_)) | (refine g_eql ?_; first | refine zO ?_ | refine zP ?_ | refine zQ (fun _ => ?_) (fun _ => ?_)) | (refine g_neq ?_; first | refine zR ?_ | refine zS ?_ | refine zT (fun _ => ?_) (fun _ => ?_)) | (refine g_shr ?_; refine zW ?_) | (refine g_shl ?_; refine zW ?_) | refine zU ?_ | refine zV ?_) | (refine g_len ?_; first | refine zX ?_ | refine zY ?_ | refine zZ ?_ | refine ya ?_) | (refine g_ia ?_; first | refine yb ?_ | refine yc ?_ | refine yd ?_) | (refine g_load ?_; first | refine ye ?_ | refine yf ?_) | (refine g_conv ?_; first | refine yg ?_ | refine yh ?_ | refine yi ?_ | refine yj ?_ | refine yk ?_) | refine yl ?_ | refine ym ?_ | refine yn fun _ _ _ _ => ?_ | refine yo ?_ | refine yp ?_ | refine yq ?_ | refine yr fun _ _ _ _ => ?_ | refine ys ?_ | refine yt ?_ | refine yu ?_ | refine yv ?_ | refine yw fun _ _ _ _ => ?_ | refine yx ?_ | refine yy ?_ | refine yz fun _ _ _ _ => ?_ | refine xa ?_ | refine xb fun _ _ _ _ => ?_) | refine xc ?_ | refine xd ?_ | refine xe ?_ | refine xf ?_ | refine xg ?_ | refine r_nil ?_)
    | (refine g_WC ?_; first | refine w_seq ?_ | refine w_region ?_ | refine w_block ?_ | refine w_skip ?_ | refine w_ret ?_ | refine w_exit ?_ | refine xh ?_ | refine xi ?_ | refine xj (fun _ => ?_) (fun _ => ?_))
    | (refine g_CC ?_; first | refine c_seqN ?_ | refine c_seqE ?_ | refine c_seqR ?_ | refine c_blkN ?_ | refine c_blkS ?_ | refine xk ?_ | refine c_blkR ?_ | refine c_invN ?_ | refine c_invE ?_ | refine c_invR ?_ | refine c_nil ?_))
  refine r_call1 (trim_ok ha la) rfl rfl ?_
  (repeat' first
    | (refine g_WO ?_; first | (refine g_N ?_; first | (refine g_mv ?_; first | refine zA ?_ | refine zB ?_) | (refine g_bin ?_; first | (refine g_lss ?_; first | refine zC ?_ | refine zD ?_ | refine zE (fun _ => ?_) (fun _ => ?_)) | (refine g_gtr ?_; first | refine zF ?_ | refine zG ?_ | refine zH (fun _ => ?_) (fun _ => ?_)) | (refine g_leq ?_; first | refine zI ?_ | refine zJ ?_ | refine zK (fun _ => ?_) (fun _ => ?_)) | (refine g_geq ?_; first | refine zL ?_ | refine zM ?_ | refine zN (fun _ => ?_) (fun _ => ?_)) | (refine g_eql ?_; first | refine zO ?_ | refine zP ?_ | refine zQ (fun _ => ?_) (fun _ => ?_)) | (refine g_neq ?_; first | refine zR ?_ | refine zS ?_ | refine zT (fun _ => ?_) (fun _ => ?_)) | (refine g_shr ?_; refine zW ?_) | (refine g_shl ?_; refine zW ?_) | refine zU ?_ | refine zV ?_) | (refine g_len ?_; first | refine zX ?_ | refine zY ?_ | refine zZ ?_ | refine ya ?_) | (refine g_ia ?_; first | refine yb ?_ | refine yc ?_ | refine yd ?_) | (refine g_load ?_; first | refine ye ?_ | refine yf ?_) | (refine g_conv ?_; first | refine yg ?_ | refine yh ?_ | refine yi ?_ | refine yj ?_ | refine yk ?_) | refine yl ?_ | refine ym ?_ | refine yn fun _ _ _ _ => ?_ | refine yo ?_ | refine yp ?_ | refine yq ?_ | refine yr fun _ _ _ _ => ?_ | refine ys ?_ | refine yt ?_ | refine yu ?_ | refine yv ?_ | refine yw fun _ _ _ _ => ?_ | refine yx ?_ | refine yy ?_ | refine yz fun _ _ _ _ => ?_ | refine xa ?_ | refine xb fun _ _ _ _ => ?_) | refine xc ?_ | refine xd ?_ | refine xe ?_ | refine xf ?_ | refine xg ?_ | refine r_nil ?_)
    | (refine g_WC ?_; first | refine w_seq ?_ | refine w_region ?_ | refine w_block ?_ | refine w_skip ?_ | refine w_ret ?_ | refine w_exit ?_ | refine xh ?_ | refine xi ?_ | refine xj (fun _ => ?_) (fun _ => ?_))
    | (refine g_CC ?_; first | refine c_seqN ?_ | refine c_seqE ?_ | refine c_seqR ?_ | refine c_blkN ?_ | refine c_blkS ?_ | refine xk ?_ | refine c_blkR ?_ | refine c_invN ?_ | refine c_invE ?_ | refine c_invR ?_ | refine c_nil ?_))
  refine r_call1 (trim_ok hb lb) rfl rfl ?_
  (repeat' first
    | (refine g_WO ?_; first | (refine g_N ?_; first | (refine g_mv ?_; first | refine zA ?_ | refine zB ?_) | (refine g_bin ?_; first | (refine g_lss ?_; first | refine zC ?_ | refine zD ?_ | refine zE (fun _ => ?_) (fun _ => ?_)) | (refine g_gtr ?_; first | refine zF ?_ | refine zG ?_ | refine zH (fun _ => ?_) (fun _ => ?_)) | (refine g_leq ?_; first | refine zI ?_ | refine zJ ?_ | refine zK (fun _ => ?_) (fun _ => ?_)) | (refine g_geq ?_; first | refine zL ?_ | refine zM ?_ | refine zN (fun _ => ?_) (fun _ => ?_)) | (refine g_eql ?_; first | refine zO ?_ | refine zP ?_ | refine zQ (fun _ => ?_) (fun _ => ?_)) | (refine g_neq ?_; first | refine zR ?_ | refine zS ?_ | refine zT (fun _ => ?_) (fun _ => ?_)) | (refine g_shr ?_; refine zW ?_) | (refine g_shl ?_; refine zW ?_) | refine zU ?_ | refine zV ?_) | (refine g_len ?_; first | refine zX ?_ | refine zY ?_ | refine zZ ?_ | refine ya ?_) | (refine g_ia ?_; first | refine yb ?_ | refine yc ?_ | refine yd ?_) | (refine g_load ?_; first | refine ye ?_ | refine yf ?_) | (refine g_conv ?_; first | refine yg ?_ | refine yh ?_ | refine yi ?_ | refine yj ?_ | refine yk ?_) | refine yl ?_ | refine ym ?_ | refine yn fun _ _ _ _ => ?_ | refine yo ?_ | refine yp ?_ | refine yq ?_ | refine yr fun _ _ _ _ => ?_ | refine ys ?_ | refine yt ?_ | refine yu ?_ | refine yv ?_ | refine yw fun _ _ _ _ => ?_ | refine yx ?_ | refine yy ?_ | refine yz fun _ _ _ _ => ?_ | refine xa ?_ | refine xb fun _ _ _ _ => ?_) | refine xc ?_ | refine xd ?_ | refine xe ?_ | refine xf ?_ | refine xg ?_ | refine r_nil ?_)
    | (refine g_WC ?_; first | refine w_seq ?_ | refine w_region ?_ | refine w_block ?_ | refine w_skip ?_ | refine w_ret ?_ | refine w_exit ?_ | refine xh ?_ | refine xi ?_ | refine xj (fun _ => ?_) (fun _ => ?_))
    | (refine g_CC ?_; first | refine c_seqN ?_ | refine c_seqE ?_ | refine c_seqR ?_ | refine c_blkN ?_ | refine c_blkS ?_ | refine xk ?_ | refine c_blkR ?_ | refine c_invN ?_ | refine c_invE ?_ | refine c_invR ?_ | refine c_nil ?_))
  refine r_call1 (cmp_ok d1 d2 (by omega) (by omega)) rfl rfl ?_
  (repeat' first
    | (refine g_WO ?_; first | (refine g_N ?_; first | (refine g_mv ?_; first | refine zA ?_ | refine zB ?_) | (refine g_bin ?_; first | (refine g_lss ?_; first | refine zC ?_ | refine zD ?_ | refine zE (fun _ => ?_) (fun _ => ?_)) | (refine g_gtr ?_; first | refine zF ?_ | refine zG ?_ | refine zH (fun _ => ?_) (fun _ => ?_)) | (refine g_leq ?_; first | refine zI ?_ | refine zJ ?_ | refine zK (fun _ => ?_) (fun _ => ?_)) | (refine g_geq ?_; first | refine zL ?_ | refine zM ?_ | refine zN (fun _ => ?_) (fun _ => ?_)) | (refine g_eql ?_; first | refine zO ?_ | refine zP ?_ | refine zQ (fun _ => ?_) (fun _ => ?_)) | (refine g_neq ?_; first | refine zR ?_ | refine zS ?_ | refine zT (fun _ => ?_) (fun _ => ?_)) | (refine g_shr ?_; refine zW ?_) | (refine g_shl ?_; refine zW ?_) | refine zU ?_ | refine zV ?_) | (refine g_len ?_; first | refine zX ?_ | refine zY ?_ | refine zZ ?_ | refine ya ?_) | (refine g_ia ?_; first | refine yb ?_ | refine yc ?_ | refine yd ?_) | (refine g_load ?_; first | refine ye ?_ | refine yf ?_) | (refine g_conv ?_; first | refine yg ?_ | refine yh ?_ | refine yi ?_ | refine yj ?_ | refine yk ?_) | refine yl ?_ | refine ym ?_ | refine yn fun _ _ _ _ => ?_ | refine yo ?_ | refine yp ?_ | refine yq ?_ | refine yr fun _ _ _ _ => ?_ | refine ys ?_ | refine yt ?_ | refine yu ?_ | refine yv ?_ | refine yw fun _ _ _ _ => ?_ | refine yx ?_ | refine yy ?_ | refine yz fun _ _ _ _ => ?_ | refine xa ?_ | refine xb fun _ _ _ _ => ?_) | refine xc ?_ | refine xd ?_ | refine xe ?_ | refine xf ?_ | refine xg ?_ | refine r_nil ?_)
    | (refine g_WC ?_; first | refine w_seq ?_ | refine w_region ?_ | refine w_block ?_ | refine w_skip ?_ | refine w_ret ?_ | refine w_exit ?_ | refine xh ?_ | refine xi ?_ | refine xj (fun _ => ?_) (fun _ => ?_))
    | (refine g_CC ?_; first | refine c_seqN ?_ | refine c_seqE ?_ | refine c_seqR ?_ | refine c_blkN ?_ | refine c_blkS ?_ | refine xk ?_ | refine c_blkR ?_ | refine c_invN ?_ | refine c_invE ?_ | refine c_invR ?_ | refine c_nil ?_))
  rename_i o1 hm _ _
  clear hc
  generalize ofN (val a) = A at *
  generalize ofN (val b) = B at *
  refine w_loopUp (fun i sl o => i ≤ A.length ∧ ∃ xs bo, xs.length = A.length ∧ Dg xs ∧ bo ≤ 1 ∧ vt A i + 4294967296 ^ i * bo = vt B i + vt xs i ∧ o.is 0 0 .u32 xs ∧
    sl 0 = vk .u32 A ∧ sl 1 = vk .u32 B ∧ sl 6 = .s (.c (.rs 0 0 1 0 A.length)) ∧ sl 7 = vn .u64 bo ∧ sl 22 = vn .i64 A.length ∧ sl 23 = vn .i64 i) 0 A.length
    ⟨by omega, _, 0, List.length_replicate, Dg.replicate _, by omega, by simp [vt_zero], hm, rfl, rfl, rfl, rfl, rfl, rfl⟩ (fun i sl o h => h.1) ?_
  rintro i sl o ⟨hi, xs, bo, hx, hd, hbo, he, hm, s0, s1, s6, s7, s22, s23⟩
  rw [upd6 s0 s1 s6 s7 s22 s23]
  have a1 := d1 i
  have a2 := d2 i
  (repeat' first
    | (refine g_WO ?_; first | (refine g_N ?_; first | (refine g_mv ?_; first | refine zA ?_ | refine zB ?_) | (refine g_bin ?_; first | (refine g_lss ?_; first | refine zC ?_ | refine zD ?_ | refine zE (fun _ => ?_) (fun _ => ?_)) | (refine g_gtr ?_; first | refine zF ?_ | refine zG ?_ | refine zH (fun _ => ?_) (fun _ => ?_)) | (refine g_leq ?_; first | refine zI ?_ | refine zJ ?_ | refine zK (fun _ => ?_) (fun _ => ?_)) | (refine g_geq ?_; first | refine zL ?_ | refine zM ?_ | refine zN (fun _ => ?_) (fun _ => ?_)) | (refine g_eql ?_; first | refine zO ?_ | refine zP ?_ | refine zQ (fun _ => ?_) (fun _ => ?_)) | (refine g_neq ?_; first | refine zR ?_ | refine zS ?_ | refine zT (fun _ => ?_) (fun _ => ?_)) | (refine g_shr ?_; refine zW ?_) | (refine g_shl ?_; refine zW ?_) | refine zU ?_ | refine zV ?_) | (refine g_len ?_; first | refine zX ?_ | refine zY ?_ | refine zZ ?_ | refine ya ?_) | (refine g_ia ?_; first | refine yb ?_ | refine yc ?_ | refine yd ?_) | (refine g_load ?_; first | refine ye ?_ | refine yf ?_) | (refine g_conv ?_; first | refine yg ?_ | refine yh ?_ | refine yi ?_ | refine yj ?_ | refine yk ?_) | refine yl ?_ | refine ym ?_ | refine yn fun _ _ _ _ => ?_ | refine yo ?_ | refine yp ?_ | refine yq ?_ | refine yr fun _ _ _ _ => ?_ | refine ys ?_ | refine yt ?_ | refine yu ?_ | refine yv ?_ | refine yw fun _ _ _ _ => ?_ | refine yx ?_ | refine yy ?_ | refine yz fun _ _ _ _ => ?_ | refine xa ?_ | refine xb fun _ _ _ _ => ?_) | refine xc ?_ | refine xd ?_ | refine xe ?_ | refine xf ?_ | refine xg ?_ | refine r_nil ?_)
    | (refine g_WC ?_; first | refine w_seq ?_ | refine w_region ?_ | refine w_block ?_ | refine w_skip ?_ | refine w_ret ?_ | refine w_exit ?_ | refine xh ?_ | refine xi ?_ | refine xj (fun _ => ?_) (fun _ => ?_))
    | (refine g_CC ?_; first | refine c_seqN ?_ | refine c_seqE ?_ | refine c_seqR ?_ | refine c_blkN ?_ | refine c_blkS ?_ | refine xk ?_ | refine c_blkR ?_ | refine c_invN ?_ | refine c_invE ?_ | refine c_invR ?_ | refine c_nil ?_))
  · rename_i h4 h5 o' hm' _ _
    refine ⟨⟨by omega, _, _, ?_, hd.set (by omega), ?_, ?_, hm', rfl, rfl, rfl, rfl, rfl, rfl⟩, rfl⟩
    · rw [List.length_set, hx]
    · omega
    · have key := sub_step a1 a2 hbo
      rw [vt_succ A, vt_succ B, vt_set_succ (by omega)]
      generalize (((A.getD i 0 + 18446744073709551616 - bo) % 18446744073709551616 + 18446744073709551616 - B.getD i 0) % 18446744073709551616) = D at *
      generalize D / 9223372036854775808 = q at *
      generalize D % 4294967296 = r at *
      grind
  · rename_i h4 h5 o' hm' _ _
    refine ⟨⟨by omega, _, _, ?_, hd.set (by omega), ?_, ?_, hm', rfl, rfl, rfl, rfl, rfl, rfl⟩, rfl⟩
    · rw [List.length_set, hx]
    · omega
    · have key := sub_step0 a1 hbo
      have hz : B.getD i 0 = 0 := getD_lt (by omega)
      rw [vt_succ A, vt_succ B, vt_set_succ (by omega), hz]
      generalize (A.getD i 0 + 18446744073709551616 - bo) % 18446744073709551616 = D at *
      generalize D / 9223372036854775808 = q at *
      generalize D % 4294967296 = r at *
      grind
  · rename_i h4
    have hiA : i = A.length := by omega
    subst hiA
    rw [vt_len, vt_ge (l := B) hl, v1, v2] at he
    have hlt := vt_lt hd A.length
    have hbo0 : bo = 0 := by
      rcases Nat.eq_zero_or_pos bo with h | h
      · exact h
      · have : bo = 1 := by omega
        subst this
        omega
    subst hbo0
    have hv : val xs = val a - val b := by rw [← vt_len xs, hx]; omega
    rw [← hx]
    refine r_callR (trimR_ok hd (by omega) hm) rfl ?_
    rintro o' r ⟨rfl, n, hn, rfl, ht⟩
    (repeat' first
    | (refine g_WO ?_; first | (refine g_N ?_; first | (refine g_mv ?_; first | refine zA ?_ | refine zB ?_) | (refine g_bin ?_; first | (refine g_lss ?_; first | refine zC ?_ | refine zD ?_ | refine zE (fun _ => ?_) (fun _ => ?_)) | (refine g_gtr ?_; first | refine zF ?_ | refine zG ?_ | refine zH (fun _ => ?_) (fun _ => ?_)) | (refine g_leq ?_; first | refine zI ?_ | refine zJ ?_ | refine zK (fun _ => ?_) (fun _ => ?_)) | (refine g_geq ?_; first | refine zL ?_ | refine zM ?_ | refine zN (fun _ => ?_) (fun _ => ?_)) | (refine g_eql ?_; first | refine zO ?_ | refine zP ?_ | refine zQ (fun _ => ?_) (fun _ => ?_)) | (refine g_neq ?_; first | refine zR ?_ | refine zS ?_ | refine zT (fun _ => ?_) (fun _ => ?_)) | (refine g_shr ?_; refine zW ?_) | (refine g_shl ?_; refine zW ?_) | refine zU ?_ | refine zV ?_) | (refine g_len ?_; first | refine zX ?_ | refine zY ?_ | refine zZ ?_ | refine ya ?_) | (refine g_ia ?_; first | refine yb ?_ | refine yc ?_ | refine yd ?_) | (refine g_load ?_; first | refine ye ?_ | refine yf ?_) | (refine g_conv ?_; first | refine yg ?_ | refine yh ?_ | refine yi ?_ | refine yj ?_ | refine yk ?_) | refine yl ?_ | refine ym ?_ | refine yn fun _ _ _ _ => ?_ | refine yo ?_ | refine yp ?_ | refine yq ?_ | refine yr fun _ _ _ _ => ?_ | refine ys ?_ | refine yt ?_ | refine yu ?_ | refine yv ?_ | refine yw fun _ _ _ _ => ?_ | refine yx ?_ | refine yy ?_ | refine yz fun _ _ _ _ => ?_ | refine xa ?_ | refine xb fun _ _ _ _ => ?_) | refine xc ?_ | refine xd ?_ | refine xe ?_ | refine xf ?_ | refine xg ?_ | refine r_nil ?_)
    | (refine g_WC ?_; first | refine w_seq ?_ | refine w_region ?_ | refine w_block ?_ | refine w_skip ?_ | refine w_ret ?_ | refine w_exit ?_ | refine xh ?_ | refine xi ?_ | refine xj (fun _ => ?_) (fun _ => ?_))
    | (refine g_CC ?_; first | refine c_seqN ?_ | refine c_seqE ?_ | refine c_seqR ?_ | refine c_blkN ?_ | refine c_blkS ?_ | refine xk ?_ | refine c_blkR ?_ | refine c_invN ?_ | refine c_invE ?_ | refine c_invR ?_ | refine c_nil ?_))
    refine ends2 rfl rfl (purK hm hn) rfl ?_
    rw [ht, hv]
end Go.Av
