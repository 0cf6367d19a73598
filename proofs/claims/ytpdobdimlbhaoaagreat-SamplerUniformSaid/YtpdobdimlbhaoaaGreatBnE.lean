/- A part of the proof (own method: an abstract machine). No condition. -/
import Derived.Test.YtpdobdimlbhaoaaGreatBnD
namespace Go.Av
open Go
variable {ext : Calls0}

/-- The table of the library's bit lengths, as the code holds it. -/
def len8 : ByteArray := match fn8r7 with
  | _ :: _ :: _ :: ⟨_, .sidx (.k (.p (.str t))) _, _⟩ :: _ => t
  | _ => .empty
theorem len8_all : (List.range 256).all (fun n => len8[n]? == some (UInt8.ofNat (bl n))) = true := by decide +kernel
theorem bl_byte {n : Nat} (h : n < 256) : bl n ≤ 8 := by
  by_cases h0 : n = 0
  · subst h0; decide
  · have h5 := bl_le h0
    have : 2 ^ (bl n - 1) < 2 ^ 8 := by omega
    have := (Nat.pow_lt_pow_iff_right (by omega : 1 < 2)).1 this
    omega
theorem len8_get {n : Nat} (h : n < 256) : len8[n]? = some (UInt8.ofNat (bl n)) ∧ (UInt8.ofNat (bl n)).toNat = bl n := by
  refine ⟨?_, ?_⟩
  · have := List.all_eq_true.1 len8_all n (List.mem_range.2 h)
    exact eq_of_beq this
  · have := bl_byte h
    simp; omega
theorem bl_div {n k : Nat} (h : 2 ^ k ≤ n) : bl n = bl (n / 2 ^ k) + k := by
  have h1 : n = n / 2 ^ k * 2 ^ k + n % 2 ^ k := by rw [Nat.mul_comm]; exact (Nat.div_add_mod n (2 ^ k)).symm
  have h2 : n / 2 ^ k ≠ 0 := by
    have := Nat.div_pos h (Nat.pow_pos (by omega))
    omega
  conv => lhs; rw [h1]
  exact bl_mul h2 (Nat.mod_lt _ (Nat.pow_pos (by omega)))
set_option maxRecDepth 20000 in
theorem len32_ok {n : Nat} (h : n < 4294967296) : PCall env ext 8 [.c (.int .u32 (n : Int))] (.s (.c (.int .i64 (bl n : Nat)))) := by
  refine PCall.walk (env := env) (g := 8) rfl rfl ?_
  have p16 : (2 : Nat) ^ min 16 IntKind.u32.bits = 65536 := rfl
  have p8 : (2 : Nat) ^ min 8 IntKind.u32.bits = 256 := rfl
  (repeat' first
    | (refine g_WO ?_; first | (refine g_N ?_; first | (refine g_mv ?_; first | refine zA ?_ | refine zB ?_) | (refine g_bin ?_; first | (refine g_lss ?_; first | refine zC ?_ | refine zD ?_ | refine zE (fun _ => ?_) (fun _ => ?_)) | (refine g_gtr ?_; first | refine zF ?_ | refine zG ?_ | refine zH (fun _ => ?_) (fun _ => ?_)) | (refine g_leq ?_; first | refine zI ?_ | refine zJ ?_ | refine zK (fun _ => ?_) (fun _ => ?_)) | (refine g_geq ?_; first | refine zL ?_ | refine zM ?_ | refine zN (fun _ => ?_) (fun _ => ?_)) | (refine g_eql ?_; first | refine zO ?_ | refine zP ?_ | refine zQ (fun _ => ?_) (fun _ => ?_)) | (refine g_neq ?_; first | refine zR ?_ | refine zS ?_ | refine zT (fun _ => ?_) (fun _ => ?_)) | (refine g_shr ?_; refine zW ?_) | (refine g_shl ?_; refine zW ?_) | refine zU ?_ | refine zV ?_) | (refine g_len ?_; first | refine zX ?_ | refine zY ?_ | refine zZ ?_ | refine ya ?_) | (refine g_ia ?_; first | refine yb ?_ | refine yc ?_ | refine yd ?_) | (refine g_load ?_; first | refine ye ?_ | refine yf ?_) | (refine g_conv ?_; first | refine yg ?_ | refine yh ?_ | refine yi ?_ | refine yj ?_ | refine yk ?_) | refine yl ?_ | refine ym ?_ | refine yn fun _ _ _ _ => ?_ | refine yo ?_ | refine yp ?_ | refine yq ?_ | refine yr fun _ _ _ _ => ?_ | refine ys ?_ | refine yt ?_ | refine yu ?_ | refine yv ?_ | refine yw fun _ _ _ _ => ?_ | refine yx ?_ | refine yy ?_ | refine yz fun _ _ _ _ => ?_ | refine xa ?_ | refine xb fun _ _ _ _ => ?_) | refine xc ?_ | refine xd ?_ | refine xe ?_ | refine xf ?_ | refine xg ?_ | refine r_nil ?_)
    | (refine g_WC ?_; first | refine w_seq ?_ | refine w_region ?_ | refine w_block ?_ | refine w_skip ?_ | refine w_ret ?_ | refine w_exit ?_ | refine xh ?_ | refine xi ?_ | refine xj (fun _ => ?_) (fun _ => ?_))
    | (refine g_CC ?_; first | refine c_seqN ?_ | refine c_seqE ?_ | refine c_seqR ?_ | refine c_blkN ?_ | refine c_blkS ?_ | refine xk ?_ | refine c_blkR ?_ | refine c_invN ?_ | refine c_invE ?_ | refine c_invR ?_ | refine c_nil ?_))
  · rename_i h1 h2
    rw [p16] at *
    rw [p8] at *
    obtain ⟨t1, t2⟩ := len8_get (n := n / 65536 / 256 % 256) (by omega)
    refine r_sidx (tb := len8) rfl rfl (by first | with_reducible exact cself _ | exact nlit _) t1 ?_
    have := bl_byte (n := n / 65536 / 256 % 256) (by omega)
    rw [t2]
    (repeat' first
    | (refine g_WO ?_; first | (refine g_N ?_; first | (refine g_mv ?_; first | refine zA ?_ | refine zB ?_) | (refine g_bin ?_; first | (refine g_lss ?_; first | refine zC ?_ | refine zD ?_ | refine zE (fun _ => ?_) (fun _ => ?_)) | (refine g_gtr ?_; first | refine zF ?_ | refine zG ?_ | refine zH (fun _ => ?_) (fun _ => ?_)) | (refine g_leq ?_; first | refine zI ?_ | refine zJ ?_ | refine zK (fun _ => ?_) (fun _ => ?_)) | (refine g_geq ?_; first | refine zL ?_ | refine zM ?_ | refine zN (fun _ => ?_) (fun _ => ?_)) | (refine g_eql ?_; first | refine zO ?_ | refine zP ?_ | refine zQ (fun _ => ?_) (fun _ => ?_)) | (refine g_neq ?_; first | refine zR ?_ | refine zS ?_ | refine zT (fun _ => ?_) (fun _ => ?_)) | (refine g_shr ?_; refine zW ?_) | (refine g_shl ?_; refine zW ?_) | refine zU ?_ | refine zV ?_) | (refine g_len ?_; first | refine zX ?_ | refine zY ?_ | refine zZ ?_ | refine ya ?_) | (refine g_ia ?_; first | refine yb ?_ | refine yc ?_ | refine yd ?_) | (refine g_load ?_; first | refine ye ?_ | refine yf ?_) | (refine g_conv ?_; first | refine yg ?_ | refine yh ?_ | refine yi ?_ | refine yj ?_ | refine yk ?_) | refine yl ?_ | refine ym ?_ | refine yn fun _ _ _ _ => ?_ | refine yo ?_ | refine yp ?_ | refine yq ?_ | refine yr fun _ _ _ _ => ?_ | refine ys ?_ | refine yt ?_ | refine yu ?_ | refine yv ?_ | refine yw fun _ _ _ _ => ?_ | refine yx ?_ | refine yy ?_ | refine yz fun _ _ _ _ => ?_ | refine xa ?_ | refine xb fun _ _ _ _ => ?_) | refine xc ?_ | refine xd ?_ | refine xe ?_ | refine xf ?_ | refine xg ?_ | refine r_nil ?_)
    | (refine g_WC ?_; first | refine w_seq ?_ | refine w_region ?_ | refine w_block ?_ | refine w_skip ?_ | refine w_ret ?_ | refine w_exit ?_ | refine xh ?_ | refine xi ?_ | refine xj (fun _ => ?_) (fun _ => ?_))
    | (refine g_CC ?_; first | refine c_seqN ?_ | refine c_seqE ?_ | refine c_seqR ?_ | refine c_blkN ?_ | refine c_blkS ?_ | refine xk ?_ | refine c_blkR ?_ | refine c_invN ?_ | refine c_invE ?_ | refine c_invR ?_ | refine c_nil ?_))
    refine ends1 rfl rfl ?_
    rw [bl_div (n := n) (k := 16) (by omega), bl_div (n := n / 2 ^ 16) (k := 8) (by omega), Nat.mod_eq_of_lt (show n / 65536 / 256 < 256 by omega)]
    simp only [Nat.reducePow]
    congr 3; omega
  · rename_i h1 h2
    rw [p16] at *
    obtain ⟨t1, t2⟩ := len8_get (n := n / 65536 % 256) (by omega)
    refine r_sidx (tb := len8) rfl rfl (by first | with_reducible exact cself _ | exact nlit _) t1 ?_
    have := bl_byte (n := n / 65536 % 256) (by omega)
    rw [t2]
    (repeat' first
    | (refine g_WO ?_; first | (refine g_N ?_; first | (refine g_mv ?_; first | refine zA ?_ | refine zB ?_) | (refine g_bin ?_; first | (refine g_lss ?_; first | refine zC ?_ | refine zD ?_ | refine zE (fun _ => ?_) (fun _ => ?_)) | (refine g_gtr ?_; first | refine zF ?_ | refine zG ?_ | refine zH (fun _ => ?_) (fun _ => ?_)) | (refine g_leq ?_; first | refine zI ?_ | refine zJ ?_ | refine zK (fun _ => ?_) (fun _ => ?_)) | (refine g_geq ?_; first | refine zL ?_ | refine zM ?_ | refine zN (fun _ => ?_) (fun _ => ?_)) | (refine g_eql ?_; first | refine zO ?_ | refine zP ?_ | refine zQ (fun _ => ?_) (fun _ => ?_)) | (refine g_neq ?_; first | refine zR ?_ | refine zS ?_ | refine zT (fun _ => ?_) (fun _ => ?_)) | (refine g_shr ?_; refine zW ?_) | (refine g_shl ?_; refine zW ?_) | refine zU ?_ | refine zV ?_) | (refine g_len ?_; first | refine zX ?_ | refine zY ?_ | refine zZ ?_ | refine ya ?_) | (refine g_ia ?_; first | refine yb ?_ | refine yc ?_ | refine yd ?_) | (refine g_load ?_; first | refine ye ?_ | refine yf ?_) | (refine g_conv ?_; first | refine yg ?_ | refine yh ?_ | refine yi ?_ | refine yj ?_ | refine yk ?_) | refine yl ?_ | refine ym ?_ | refine yn fun _ _ _ _ => ?_ | refine yo ?_ | refine yp ?_ | refine yq ?_ | refine yr fun _ _ _ _ => ?_ | refine ys ?_ | refine yt ?_ | refine yu ?_ | refine yv ?_ | refine yw fun _ _ _ _ => ?_ | refine yx ?_ | refine yy ?_ | refine yz fun _ _ _ _ => ?_ | refine xa ?_ | refine xb fun _ _ _ _ => ?_) | refine xc ?_ | refine xd ?_ | refine xe ?_ | refine xf ?_ | refine xg ?_ | refine r_nil ?_)
    | (refine g_WC ?_; first | refine w_seq ?_ | refine w_region ?_ | refine w_block ?_ | refine w_skip ?_ | refine w_ret ?_ | refine w_exit ?_ | refine xh ?_ | refine xi ?_ | refine xj (fun _ => ?_) (fun _ => ?_))
    | (refine g_CC ?_; first | refine c_seqN ?_ | refine c_seqE ?_ | refine c_seqR ?_ | refine c_blkN ?_ | refine c_blkS ?_ | refine xk ?_ | refine c_blkR ?_ | refine c_invN ?_ | refine c_invE ?_ | refine c_invR ?_ | refine c_nil ?_))
    refine ends1 rfl rfl ?_
    rw [bl_div (n := n) (k := 16) (by omega), Nat.mod_eq_of_lt (show n / 65536 < 256 by omega)]
    simp only [Nat.reducePow]
    congr 3; omega
  · rename_i h1 h2
    rw [p8] at *
    obtain ⟨t1, t2⟩ := len8_get (n := n / 256 % 256) (by omega)
    refine r_sidx (tb := len8) rfl rfl (by first | with_reducible exact cself _ | exact nlit _) t1 ?_
    have := bl_byte (n := n / 256 % 256) (by omega)
    rw [t2]
    (repeat' first
    | (refine g_WO ?_; first | (refine g_N ?_; first | (refine g_mv ?_; first | refine zA ?_ | refine zB ?_) | (refine g_bin ?_; first | (refine g_lss ?_; first | refine zC ?_ | refine zD ?_ | refine zE (fun _ => ?_) (fun _ => ?_)) | (refine g_gtr ?_; first | refine zF ?_ | refine zG ?_ | refine zH (fun _ => ?_) (fun _ => ?_)) | (refine g_leq ?_; first | refine zI ?_ | refine zJ ?_ | refine zK (fun _ => ?_) (fun _ => ?_)) | (refine g_geq ?_; first | refine zL ?_ | refine zM ?_ | refine zN (fun _ => ?_) (fun _ => ?_)) | (refine g_eql ?_; first | refine zO ?_ | refine zP ?_ | refine zQ (fun _ => ?_) (fun _ => ?_)) | (refine g_neq ?_; first | refine zR ?_ | refine zS ?_ | refine zT (fun _ => ?_) (fun _ => ?_)) | (refine g_shr ?_; refine zW ?_) | (refine g_shl ?_; refine zW ?_) | refine zU ?_ | refine zV ?_) | (refine g_len ?_; first | refine zX ?_ | refine zY ?_ | refine zZ ?_ | refine ya ?_) | (refine g_ia ?_; first | refine yb ?_ | refine yc ?_ | refine yd ?_) | (refine g_load ?_; first | refine ye ?_ | refine yf ?_) | (refine g_conv ?_; first | refine yg ?_ | refine yh ?_ | refine yi ?_ | refine yj ?_ | refine yk ?_) | refine yl ?_ | refine ym ?_ | refine yn fun _ _ _ _ => ?_ | refine yo ?_ | refine yp ?_ | refine yq ?_ | refine yr fun _ _ _ _ => ?_ | refine ys ?_ | refine yt ?_ | refine yu ?_ | refine yv ?_ | refine yw fun _ _ _ _ => ?_ | refine yx ?_ | refine yy ?_ | refine yz fun _ _ _ _ => ?_ | refine xa ?_ | refine xb fun _ _ _ _ => ?_) | refine xc ?_ | refine xd ?_ | refine xe ?_ | refine xf ?_ | refine xg ?_ | refine r_nil ?_)
    | (refine g_WC ?_; first | refine w_seq ?_ | refine w_region ?_ | refine w_block ?_ | refine w_skip ?_ | refine w_ret ?_ | refine w_exit ?_ | refine xh ?_ | refine xi ?_ | refine xj (fun _ => ?_) (fun _ => ?_))
    | (refine g_CC ?_; first | refine c_seqN ?_ | refine c_seqE ?_ | refine c_seqR ?_ | refine c_blkN ?_ | refine c_blkS ?_ | refine xk ?_ | refine c_blkR ?_ | refine c_invN ?_ | refine c_invE ?_ | refine c_invR ?_ | refine c_nil ?_))
    refine ends1 rfl rfl ?_
    rw [bl_div (n := n) (k := 8) (by omega), Nat.mod_eq_of_lt (show n / 256 < 256 by omega)]
    simp only [Nat.reducePow]
    congr 3; omega
  · rename_i h1 h2
    obtain ⟨t1, t2⟩ := len8_get (n := n % 256) (by omega)
    refine r_sidx (tb := len8) rfl rfl (by first | with_reducible exact cself _ | exact nlit _) t1 ?_
    have := bl_byte (n := n % 256) (by omega)
    rw [t2]
    (repeat' first
    | (refine g_WO ?_; first | (refine g_N ?_; first | (refine g_mv ?_; first | refine zA ?_ | refine zB ?_) | (refine g_bin ?_; first | (refine g_lss ?_; first | refine zC ?_ | refine zD ?_ | refine zE (fun _ => ?_) (fun _ => ?_)) | (refine g_gtr ?_; first | refine zF ?_ | refine zG ?_ | refine zH (fun _ => ?_) (fun _ => ?_)) | (refine g_leq ?_; first | refine zI ?_ | refine zJ ?_ | refine zK (fun _ => ?_) (fun _ => ?_)) | (refine g_geq ?_; first | refine zL ?_ | refine zM ?_ | refine zN (fun _ => ?_) (fun _ => ?_)) | (refine g_eql ?_; first | refine zO ?_ | refine zP ?_ | refine zQ (fun _ => ?_) (fun _ => ?_)) | (refine g_neq ?_; first | refine zR ?_ | refine zS ?_ | refine zT (fun _ => ?_) (fun _ => ?_)) | (refine g_shr ?_; refine zW ?_) | (refine g_shl ?_; refine zW ?_) | refine zU ?_ | refine zV ?_) | (refine g_len ?_; first | refine zX ?_ | refine zY ?_ | refine zZ ?_ | refine ya ?_) | (refine g_ia ?_; first | refine yb ?_ | refine yc ?_ | refine yd ?_) | (refine g_load ?_; first | refine ye ?_ | refine yf ?_) | (refine g_conv ?_; first | refine yg ?_ | refine yh ?_ | refine yi ?_ | refine yj ?_ | refine yk ?_) | refine yl ?_ | refine ym ?_ | refine yn fun _ _ _ _ => ?_ | refine yo ?_ | refine yp ?_ | refine yq ?_ | refine yr fun _ _ _ _ => ?_ | refine ys ?_ | refine yt ?_ | refine yu ?_ | refine yv ?_ | refine yw fun _ _ _ _ => ?_ | refine yx ?_ | refine yy ?_ | refine yz fun _ _ _ _ => ?_ | refine xa ?_ | refine xb fun _ _ _ _ => ?_) | refine xc ?_ | refine xd ?_ | refine xe ?_ | refine xf ?_ | refine xg ?_ | refine r_nil ?_)
    | (refine g_WC ?_; first | refine w_seq ?_ | refine w_region ?_ | refine w_block ?_ | refine w_skip ?_ | refine w_ret ?_ | refine w_exit ?_ | refine xh ?_ | refine xi ?_ | refine xj (fun _ => ?_) (fun _ => ?_))
    | (refine g_CC ?_; first | refine c_seqN ?_ | refine c_seqE ?_ | refine c_seqR ?_ | refine c_blkN ?_ | refine c_blkS ?_ | refine xk ?_ | refine c_blkR ?_ | refine c_invN ?_ | refine c_invE ?_ | refine c_invR ?_ | refine c_nil ?_))
    refine ends1 rfl rfl ?_
    rw [Nat.mod_eq_of_lt (show n < 256 by omega)]
    congr 3; omega

theorem bitLen_ok {l : List Nat} (hd : Dg l) (hl : Sh l) : PCall env ext 9 [pN l] (.s (.c (.int .i64 (bl (val l) : Nat)))) := by
  have h2 := ofN_len_le_of hd
  have v1 := val_ofN (val l)
  have d1 := Dg.ofN (val l)
  have c1 := Canon.ofN (val l)
  refine PCall.walk (env := env) (g := 9) rfl rfl ?_
  (repeat' first
    | (refine g_WO ?_; first | (refine g_N ?_; first | (refine g_mv ?_; first | refine zA ?_ | refine zB ?_) | (refine g_bin ?_; first | (refine g_lss ?_; first | refine zC ?_ | refine zD ?_ | refine zE (fun _ => ?_) (fun _ => ?_)) | (refine g_gtr ?_; first | refine zF ?_ | refine zG ?_ | refine zH (fun _ => ?_) (fun _ => ?_)) | (refine g_leq ?_; first | refine zI ?_ | refine zJ ?_ | refine zK (fun _ => ?_) (fun _ => ?_)) | (refine g_geq ?_; first | refine zL ?_ | refine zM ?_ | refine zN (fun _ => ?_) (fun _ => ?_)) | (refine g_eql ?_; first | refine zO ?_ | refine zP ?_ | refine zQ (fun _ => ?_) (fun _ => ?_)) | (refine g_neq ?_; first | refine zR ?_ | refine zS ?_ | refine zT (fun _ => ?_) (fun _ => ?_)) | (refine g_shr ?_; refine zW ?_) | (refine g_shl ?_; refine zW ?_) | refine zU ?_ | refine zV ?_) | (refine g_len ?_; first | refine zX ?_ | refine zY ?_ | refine zZ ?_ | refine ya ?_) | (refine g_ia ?_; first | refine yb ?_ | refine yc ?_ | refine yd ?_) | (refine g_load ?_; first | refine ye ?_ | refine yf ?_) | (refine g_conv ?_; first | refine yg ?_ | refine yh ?_ | refine yi ?_ | refine yj ?_ | refine yk ?_) | refine yl ?_ | refine ym ?_ | refine yn fun _ _ _ _ => ?_ | refine yo ?_ | refine yp ?_ | refine yq ?_ | refine yr fun _ _ _ _ => ?_ | refine ys ?_ | refine yt ?_ | refine yu ?_ | refine yv ?_ | refine yw fun _ _ _ _ => ?_ | refine yx ?_ | refine yy ?_ | refine yz fun _ _ _ _ => ?_ | refine xa ?_ | refine xb fun _ _ _ _ => ?_) | refine xc ?_ | refine xd ?_ | refine xe ?_ | refine xf ?_ | refine xg ?_ | refine r_nil ?_)
    | (refine g_WC ?_; first | refine w_seq ?_ | refine w_region ?_ | refine w_block ?_ | refine w_skip ?_ | refine w_ret ?_ | refine w_exit ?_ | refine xh ?_ | refine xi ?_ | refine xj (fun _ => ?_) (fun _ => ?_))
    | (refine g_CC ?_; first | refine c_seqN ?_ | refine c_seqE ?_ | refine c_seqR ?_ | refine c_blkN ?_ | refine c_blkS ?_ | refine xk ?_ | refine c_blkR ?_ | refine c_invN ?_ | refine c_invE ?_ | refine c_invR ?_ | refine c_nil ?_))
  refine r_call1 (trim_ok hd hl) rfl rfl ?_
  generalize ofN (val l) = A at *
  rw [← v1]
  (repeat' first
    | (refine g_WO ?_; first | (refine g_N ?_; first | (refine g_mv ?_; first | refine zA ?_ | refine zB ?_) | (refine g_bin ?_; first | (refine g_lss ?_; first | refine zC ?_ | refine zD ?_ | refine zE (fun _ => ?_) (fun _ => ?_)) | (refine g_gtr ?_; first | refine zF ?_ | refine zG ?_ | refine zH (fun _ => ?_) (fun _ => ?_)) | (refine g_leq ?_; first | refine zI ?_ | refine zJ ?_ | refine zK (fun _ => ?_) (fun _ => ?_)) | (refine g_geq ?_; first | refine zL ?_ | refine zM ?_ | refine zN (fun _ => ?_) (fun _ => ?_)) | (refine g_eql ?_; first | refine zO ?_ | refine zP ?_ | refine zQ (fun _ => ?_) (fun _ => ?_)) | (refine g_neq ?_; first | refine zR ?_ | refine zS ?_ | refine zT (fun _ => ?_) (fun _ => ?_)) | (refine g_shr ?_; refine zW ?_) | (refine g_shl ?_; refine zW ?_) | refine zU ?_ | refine zV ?_) | (refine g_len ?_; first | refine zX ?_ | refine zY ?_ | refine zZ ?_ | refine ya ?_) | (refine g_ia ?_; first | refine yb ?_ | refine yc ?_ | refine yd ?_) | (refine g_load ?_; first | refine ye ?_ | refine yf ?_) | (refine g_conv ?_; first | refine yg ?_ | refine yh ?_ | refine yi ?_ | refine yj ?_ | refine yk ?_) | refine yl ?_ | refine ym ?_ | refine yn fun _ _ _ _ => ?_ | refine yo ?_ | refine yp ?_ | refine yq ?_ | refine yr fun _ _ _ _ => ?_ | refine ys ?_ | refine yt ?_ | refine yu ?_ | refine yv ?_ | refine yw fun _ _ _ _ => ?_ | refine yx ?_ | refine yy ?_ | refine yz fun _ _ _ _ => ?_ | refine xa ?_ | refine xb fun _ _ _ _ => ?_) | refine xc ?_ | refine xd ?_ | refine xe ?_ | refine xf ?_ | refine xg ?_ | refine r_nil ?_)
    | (refine g_WC ?_; first | refine w_seq ?_ | refine w_region ?_ | refine w_block ?_ | refine w_skip ?_ | refine w_ret ?_ | refine w_exit ?_ | refine xh ?_ | refine xi ?_ | refine xj (fun _ => ?_) (fun _ => ?_))
    | (refine g_CC ?_; first | refine c_seqN ?_ | refine c_seqE ?_ | refine c_seqR ?_ | refine c_blkN ?_ | refine c_blkS ?_ | refine xk ?_ | refine c_blkR ?_ | refine c_invN ?_ | refine c_invE ?_ | refine c_invR ?_ | refine c_nil ?_))
  · rename_i h4
    refine ends1 rfl rfl ?_
    rw [List.eq_nil_of_length_eq_zero (l := A) (by omega)]; rfl
  · rename_i h4
    have a1 := d1 (A.length - 1)
    refine r_call1 (len32_ok a1) rfl rfl ?_
    have hA : A ≠ [] := by intro h; subst h; simp at h4
    have ht := c1.resolve_left hA
    have hbl : bl (A.getD (A.length - 1) 0) ≤ 32 := by
      have h5 := bl_le ht
      have : 2 ^ (bl (A.getD (A.length - 1) 0) - 1) < 2 ^ 32 := by omega
      have := (Nat.pow_lt_pow_iff_right (by omega : 1 < 2)).1 this
      omega
    (repeat' first
    | (refine g_WO ?_; first | (refine g_N ?_; first | (refine g_mv ?_; first | refine zA ?_ | refine zB ?_) | (refine g_bin ?_; first | (refine g_lss ?_; first | refine zC ?_ | refine zD ?_ | refine zE (fun _ => ?_) (fun _ => ?_)) | (refine g_gtr ?_; first | refine zF ?_ | refine zG ?_ | refine zH (fun _ => ?_) (fun _ => ?_)) | (refine g_leq ?_; first | refine zI ?_ | refine zJ ?_ | refine zK (fun _ => ?_) (fun _ => ?_)) | (refine g_geq ?_; first | refine zL ?_ | refine zM ?_ | refine zN (fun _ => ?_) (fun _ => ?_)) | (refine g_eql ?_; first | refine zO ?_ | refine zP ?_ | refine zQ (fun _ => ?_) (fun _ => ?_)) | (refine g_neq ?_; first | refine zR ?_ | refine zS ?_ | refine zT (fun _ => ?_) (fun _ => ?_)) | (refine g_shr ?_; refine zW ?_) | (refine g_shl ?_; refine zW ?_) | refine zU ?_ | refine zV ?_) | (refine g_len ?_; first | refine zX ?_ | refine zY ?_ | refine zZ ?_ | refine ya ?_) | (refine g_ia ?_; first | refine yb ?_ | refine yc ?_ | refine yd ?_) | (refine g_load ?_; first | refine ye ?_ | refine yf ?_) | (refine g_conv ?_; first | refine yg ?_ | refine yh ?_ | refine yi ?_ | refine yj ?_ | refine yk ?_) | refine yl ?_ | refine ym ?_ | refine yn fun _ _ _ _ => ?_ | refine yo ?_ | refine yp ?_ | refine yq ?_ | refine yr fun _ _ _ _ => ?_ | refine ys ?_ | refine yt ?_ | refine yu ?_ | refine yv ?_ | refine yw fun _ _ _ _ => ?_ | refine yx ?_ | refine yy ?_ | refine yz fun _ _ _ _ => ?_ | refine xa ?_ | refine xb fun _ _ _ _ => ?_) | refine xc ?_ | refine xd ?_ | refine xe ?_ | refine xf ?_ | refine xg ?_ | refine r_nil ?_)
    | (refine g_WC ?_; first | refine w_seq ?_ | refine w_region ?_ | refine w_block ?_ | refine w_skip ?_ | refine w_ret ?_ | refine w_exit ?_ | refine xh ?_ | refine xi ?_ | refine xj (fun _ => ?_) (fun _ => ?_))
    | (refine g_CC ?_; first | refine c_seqN ?_ | refine c_seqE ?_ | refine c_seqR ?_ | refine c_blkN ?_ | refine c_blkS ?_ | refine xk ?_ | refine c_blkR ?_ | refine c_invN ?_ | refine c_invE ?_ | refine c_invR ?_ | refine c_nil ?_))
    refine ends1 rfl rfl ?_
    have e : bl (val A) = bl (A.getD (A.length - 1) 0) + 32 * (A.length - 1) := by
      have e1 : val A = A.getD (A.length - 1) 0 * 2 ^ (32 * (A.length - 1)) + vt A (A.length - 1) := by
        rw [← vt_len A]
        conv => lhs; rw [show A.length = (A.length - 1) + 1 by omega]
        rw [vt_succ, Nat.pow_mul]; simp only [Nat.reducePow]; rw [Nat.mul_comm]; omega
      have e2 := vt_lt d1 (A.length - 1)
      rw [e1]
      refine bl_mul ht ?_
      rw [Nat.pow_mul]; exact e2
    rw [e, Nat.add_comm]
end Go.Av
