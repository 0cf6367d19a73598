/- A part of the proof (own method: an abstract machine). No condition. -/
import Derived.Test.YtpdobdimlbhaoaaGreatAvRul
import Derived.Test.YtpdobdimlbhaoaaGreatAvDig
import Derived.Test.YtpdobdimlbhaoaaGreatSuCode
namespace Go.Av
open Go
variable {ext : Calls0}

/-- How long a slice of digits may be here. -/
abbrev Sh (l : List Nat) : Prop := l.length < 1099511627776
abbrev pN (l : List Nat) : PSV := .c (.sl (encK .u32 l))

theorem trim_ok {l : List Nat} (hd : Dg l) (hl : Sh l) : PCall env ext 7 [pN l] (.s (pN (ofN (val l)))) := by
  refine PCall.walk (env := env) (g := 7) rfl rfl ?_
  (repeat' first
    | (refine g_WO ?_; first | (refine g_N ?_; first | (refine g_mv ?_; first | refine zA ?_ | refine zB ?_) | (refine g_bin ?_; first | (refine g_lss ?_; first | refine zC ?_ | refine zD ?_ | refine zE (fun _ => ?_) (fun _ => ?_)) | (refine g_gtr ?_; first | refine zF ?_ | refine zG ?_ | refine zH (fun _ => ?_) (fun _ => ?_)) | (refine g_leq ?_; first | refine zI ?_ | refine zJ ?_ | refine zK (fun _ => ?_) (fun _ => ?_)) | (refine g_geq ?_; first | refine zL ?_ | refine zM ?_ | refine zN (fun _ => ?_) (fun _ => ?_)) | (refine g_eql ?_; first | refine zO ?_ | refine zP ?_ | refine zQ (fun _ => ?_) (fun _ => ?_)) | (refine g_neq ?_; first | refine zR ?_ | refine zS ?_ | refine zT (fun _ => ?_) (fun _ => ?_)) | (refine g_shr ?_; refine zW ?_) | (refine g_shl ?_; refine zW ?_) | refine zU ?_ | refine zV ?_) | (refine g_len ?_; first | refine zX ?_ | refine zY ?_ | refine zZ ?_ | refine ya ?_) | (refine g_ia ?_; first | refine yb ?_ | refine yc ?_ | refine yd ?_) | (refine g_load ?_; first | refine ye ?_ | refine yf ?_) | (refine g_conv ?_; first | refine yg ?_ | refine yh ?_ | refine yi ?_ | refine yj ?_ | refine yk ?_) | refine yl ?_ | refine ym ?_ | refine yn fun _ _ _ _ => ?_ | refine yo ?_ | refine yp ?_ | refine yq ?_ | refine yr fun _ _ _ _ => ?_ | refine ys ?_ | refine yt ?_ | refine yu ?_ | refine yv ?_ | refine yw fun _ _ _ _ => ?_ | refine yx ?_ | refine yy ?_ | refine yz fun _ _ _ _ => ?_ | refine xa ?_ | refine xb fun _ _ _ _ => ?_) | refine xc ?_ | refine xd ?_ | refine xe ?_ | refine xf ?_ | refine xg ?_ | refine r_nil ?_)
    | (refine g_WC ?_; first | refine w_seq ?_ | refine w_region ?_ | refine w_block ?_ | refine w_skip ?_ | refine w_ret ?_ | refine w_exit ?_ | refine xh ?_ | refine xi ?_ | refine xj (fun _ => ?_) (fun _ => ?_))
    | (refine g_CC ?_; first | refine c_seqN ?_ | refine c_seqE ?_ | refine c_seqR ?_ | refine c_blkN ?_ | refine c_blkS ?_ | refine xk ?_ | refine c_blkR ?_ | refine c_invN ?_ | refine c_invE ?_ | refine c_invR ?_ | refine c_nil ?_))
  refine w_loopS (fun k sl o => k ≤ l.length ∧ (∀ i, k ≤ i → i < l.length → l.getD i 0 = 0) ∧ sl 0 = vk .u32 l ∧ sl 3 = vn .i64 k) l.length ⟨Nat.le_refl _, fun i h1 h2 => by omega, rfl, rfl⟩ ?_
  rintro k sl o ⟨hk, hz, h0, h3⟩
  rw [upd1 h0, upd1 (sl := upd sl 0 _) (a := 3) h3]
  (repeat' first
    | (refine g_WO ?_; first | (refine g_N ?_; first | (refine g_mv ?_; first | refine zA ?_ | refine zB ?_) | (refine g_bin ?_; first | (refine g_lss ?_; first | refine zC ?_ | refine zD ?_ | refine zE (fun _ => ?_) (fun _ => ?_)) | (refine g_gtr ?_; first | refine zF ?_ | refine zG ?_ | refine zH (fun _ => ?_) (fun _ => ?_)) | (refine g_leq ?_; first | refine zI ?_ | refine zJ ?_ | refine zK (fun _ => ?_) (fun _ => ?_)) | (refine g_geq ?_; first | refine zL ?_ | refine zM ?_ | refine zN (fun _ => ?_) (fun _ => ?_)) | (refine g_eql ?_; first | refine zO ?_ | refine zP ?_ | refine zQ (fun _ => ?_) (fun _ => ?_)) | (refine g_neq ?_; first | refine zR ?_ | refine zS ?_ | refine zT (fun _ => ?_) (fun _ => ?_)) | (refine g_shr ?_; refine zW ?_) | (refine g_shl ?_; refine zW ?_) | refine zU ?_ | refine zV ?_) | (refine g_len ?_; first | refine zX ?_ | refine zY ?_ | refine zZ ?_ | refine ya ?_) | (refine g_ia ?_; first | refine yb ?_ | refine yc ?_ | refine yd ?_) | (refine g_load ?_; first | refine ye ?_ | refine yf ?_) | (refine g_conv ?_; first | refine yg ?_ | refine yh ?_ | refine yi ?_ | refine yj ?_ | refine yk ?_) | refine yl ?_ | refine ym ?_ | refine yn fun _ _ _ _ => ?_ | refine yo ?_ | refine yp ?_ | refine yq ?_ | refine yr fun _ _ _ _ => ?_ | refine ys ?_ | refine yt ?_ | refine yu ?_ | refine yv ?_ | refine yw fun _ _ _ _ => ?_ | refine yx ?_ | refine yy ?_ | refine yz fun _ _ _ _ => ?_ | refine xa ?_ | refine xb fun _ _ _ _ => ?_) | refine xc ?_ | refine xd ?_ | refine xe ?_ | refine xf ?_ | refine xg ?_ | refine r_nil ?_)
    | (refine g_WC ?_; first | refine w_seq ?_ | refine w_region ?_ | refine w_block ?_ | refine w_skip ?_ | refine w_ret ?_ | refine w_exit ?_ | refine xh ?_ | refine xi ?_ | refine xj (fun _ => ?_) (fun _ => ?_))
    | (refine g_CC ?_; first | refine c_seqN ?_ | refine c_seqE ?_ | refine c_seqR ?_ | refine c_blkN ?_ | refine c_blkS ?_ | refine xk ?_ | refine c_blkR ?_ | refine c_invN ?_ | refine c_invE ?_ | refine c_invR ?_ | refine c_nil ?_))
  · rename_i h1 h2
    refine ⟨k - 1, by omega, ⟨by omega, fun i h3 h4 => ?_, rfl, rfl⟩, rfl⟩
    by_cases hi : i = k - 1
    · subst hi; omega
    · exact hz i (by omega) h4
  · rename_i h1 h2
    refine ends1 rfl rfl ?_
    rw [take_ofN hd hk hz (.inr (by omega))]
  · rename_i h1
    refine ends1 rfl rfl ?_
    rw [take_ofN hd hk hz (.inl (by omega))]

/-- The same for an object that the caller has made. -/
theorem trimR_ok {l : List Nat} {o : Objs} {id ver base : Nat} (hd : Dg l) (hl : l.length < 1125899906842624) (hm : o.is id ver .u32 l) :
    ∃ o' r, Call env ext 7 base o [.c (.rs id ver 1 0 l.length)] o' r ∧ o' = o ∧ ∃ n, n ≤ l.length ∧ r = .s (.c (.rs id ver 1 0 n)) ∧ l.take n = ofN (val l) := by
  refine Call.walk (env := env) (g := 7) rfl rfl ?_
  (repeat' first
    | (refine g_WO ?_; first | (refine g_N ?_; first | (refine g_mv ?_; first | refine zA ?_ | refine zB ?_) | (refine g_bin ?_; first | (refine g_lss ?_; first | refine zC ?_ | refine zD ?_ | refine zE (fun _ => ?_) (fun _ => ?_)) | (refine g_gtr ?_; first | refine zF ?_ | refine zG ?_ | refine zH (fun _ => ?_) (fun _ => ?_)) | (refine g_leq ?_; first | refine zI ?_ | refine zJ ?_ | refine zK (fun _ => ?_) (fun _ => ?_)) | (refine g_geq ?_; first | refine zL ?_ | refine zM ?_ | refine zN (fun _ => ?_) (fun _ => ?_)) | (refine g_eql ?_; first | refine zO ?_ | refine zP ?_ | refine zQ (fun _ => ?_) (fun _ => ?_)) | (refine g_neq ?_; first | refine zR ?_ | refine zS ?_ | refine zT (fun _ => ?_) (fun _ => ?_)) | (refine g_shr ?_; refine zW ?_) | (refine g_shl ?_; refine zW ?_) | refine zU ?_ | refine zV ?_) | (refine g_len ?_; first | refine zX ?_ | refine zY ?_ | refine zZ ?_ | refine ya ?_) | (refine g_ia ?_; first | refine yb ?_ | refine yc ?_ | refine yd ?_) | (refine g_load ?_; first | refine ye ?_ | refine yf ?_) | (refine g_conv ?_; first | refine yg ?_ | refine yh ?_ | refine yi ?_ | refine yj ?_ | refine yk ?_) | refine yl ?_ | refine ym ?_ | refine yn fun _ _ _ _ => ?_ | refine yo ?_ | refine yp ?_ | refine yq ?_ | refine yr fun _ _ _ _ => ?_ | refine ys ?_ | refine yt ?_ | refine yu ?_ | refine yv ?_ | refine yw fun _ _ _ _ => ?_ | refine yx ?_ | refine yy ?_ | refine yz fun _ _ _ _ => ?_ | refine xa ?_ | refine xb fun _ _ _ _ => ?_) | refine xc ?_ | refine xd ?_ | refine xe ?_ | refine xf ?_ | refine xg ?_ | refine r_nil ?_)
    | (refine g_WC ?_; first | refine w_seq ?_ | refine w_region ?_ | refine w_block ?_ | refine w_skip ?_ | refine w_ret ?_ | refine w_exit ?_ | refine xh ?_ | refine xi ?_ | refine xj (fun _ => ?_) (fun _ => ?_))
    | (refine g_CC ?_; first | refine c_seqN ?_ | refine c_seqE ?_ | refine c_seqR ?_ | refine c_blkN ?_ | refine c_blkS ?_ | refine xk ?_ | refine c_blkR ?_ | refine c_invN ?_ | refine c_invE ?_ | refine c_invR ?_ | refine c_nil ?_))
  refine w_loopS (fun k sl o' => k ≤ l.length ∧ (∀ i, k ≤ i → i < l.length → l.getD i 0 = 0) ∧ sl 0 = .s (.c (.rs id ver 1 0 l.length)) ∧ sl 3 = vn .i64 k ∧ o' = o) l.length ⟨Nat.le_refl _, fun i h1 h2 => by omega, rfl, rfl, rfl⟩ ?_
  rintro k sl o' ⟨hk, hz, h0, h3, rfl⟩
  rw [upd1 h0, upd1 (sl := upd sl 0 _) (a := 3) h3]
  (repeat' first
    | (refine g_WO ?_; first | (refine g_N ?_; first | (refine g_mv ?_; first | refine zA ?_ | refine zB ?_) | (refine g_bin ?_; first | (refine g_lss ?_; first | refine zC ?_ | refine zD ?_ | refine zE (fun _ => ?_) (fun _ => ?_)) | (refine g_gtr ?_; first | refine zF ?_ | refine zG ?_ | refine zH (fun _ => ?_) (fun _ => ?_)) | (refine g_leq ?_; first | refine zI ?_ | refine zJ ?_ | refine zK (fun _ => ?_) (fun _ => ?_)) | (refine g_geq ?_; first | refine zL ?_ | refine zM ?_ | refine zN (fun _ => ?_) (fun _ => ?_)) | (refine g_eql ?_; first | refine zO ?_ | refine zP ?_ | refine zQ (fun _ => ?_) (fun _ => ?_)) | (refine g_neq ?_; first | refine zR ?_ | refine zS ?_ | refine zT (fun _ => ?_) (fun _ => ?_)) | (refine g_shr ?_; refine zW ?_) | (refine g_shl ?_; refine zW ?_) | refine zU ?_ | refine zV ?_) | (refine g_len ?_; first | refine zX ?_ | refine zY ?_ | refine zZ ?_ | refine ya ?_) | (refine g_ia ?_; first | refine yb ?_ | refine yc ?_ | refine yd ?_) | (refine g_load ?_; first | refine ye ?_ | refine yf ?_) | (refine g_conv ?_; first | refine yg ?_ | refine yh ?_ | refine yi ?_ | refine yj ?_ | refine yk ?_) | refine yl ?_ | refine ym ?_ | refine yn fun _ _ _ _ => ?_ | refine yo ?_ | refine yp ?_ | refine yq ?_ | refine yr fun _ _ _ _ => ?_ | refine ys ?_ | refine yt ?_ | refine yu ?_ | refine yv ?_ | refine yw fun _ _ _ _ => ?_ | refine yx ?_ | refine yy ?_ | refine yz fun _ _ _ _ => ?_ | refine xa ?_ | refine xb fun _ _ _ _ => ?_) | refine xc ?_ | refine xd ?_ | refine xe ?_ | refine xf ?_ | refine xg ?_ | refine r_nil ?_)
    | (refine g_WC ?_; first | refine w_seq ?_ | refine w_region ?_ | refine w_block ?_ | refine w_skip ?_ | refine w_ret ?_ | refine w_exit ?_ | refine xh ?_ | refine xi ?_ | refine xj (fun _ => ?_) (fun _ => ?_))
    | (refine g_CC ?_; first | refine c_seqN ?_ | refine c_seqE ?_ | refine c_seqR ?_ | refine c_blkN ?_ | refine c_blkS ?_ | refine xk ?_ | refine c_blkR ?_ | refine c_invN ?_ | refine c_invE ?_ | refine c_invR ?_ | refine c_nil ?_))
  · rename_i h1 h2
    refine ⟨k - 1, by omega, ⟨by omega, fun i h3 h4 => ?_, rfl, rfl, rfl⟩, rfl⟩
    by_cases hi : i = k - 1
    · subst hi; simpa using h2
    · exact hz i (by omega) h4
  · rename_i h1 h2
    exact endsR1 rfl ⟨rfl, k, hk, rfl, take_ofN hd hk hz (.inr (by intro h; apply h2; simpa using h))⟩
  · rename_i h1
    exact endsR1 rfl ⟨rfl, k, hk, rfl, take_ofN hd hk hz (.inl (by omega))⟩

theorem clone_ok {l : List Nat} (hd : Dg l) (hl : Sh l) : PCall env ext 16 [pN l] (.s (pN (ofN (val l)))) := by
  have h2 := ofN_len_le_of hd
  refine PCall.walk (env := env) (g := 16) rfl rfl ?_
  (repeat' first
    | (refine g_WO ?_; first | (refine g_N ?_; first | (refine g_mv ?_; first | refine zA ?_ | refine zB ?_) | (refine g_bin ?_; first | (refine g_lss ?_; first | refine zC ?_ | refine zD ?_ | refine zE (fun _ => ?_) (fun _ => ?_)) | (refine g_gtr ?_; first | refine zF ?_ | refine zG ?_ | refine zH (fun _ => ?_) (fun _ => ?_)) | (refine g_leq ?_; first | refine zI ?_ | refine zJ ?_ | refine zK (fun _ => ?_) (fun _ => ?_)) | (refine g_geq ?_; first | refine zL ?_ | refine zM ?_ | refine zN (fun _ => ?_) (fun _ => ?_)) | (refine g_eql ?_; first | refine zO ?_ | refine zP ?_ | refine zQ (fun _ => ?_) (fun _ => ?_)) | (refine g_neq ?_; first | refine zR ?_ | refine zS ?_ | refine zT (fun _ => ?_) (fun _ => ?_)) | (refine g_shr ?_; refine zW ?_) | (refine g_shl ?_; refine zW ?_) | refine zU ?_ | refine zV ?_) | (refine g_len ?_; first | refine zX ?_ | refine zY ?_ | refine zZ ?_ | refine ya ?_) | (refine g_ia ?_; first | refine yb ?_ | refine yc ?_ | refine yd ?_) | (refine g_load ?_; first | refine ye ?_ | refine yf ?_) | (refine g_conv ?_; first | refine yg ?_ | refine yh ?_ | refine yi ?_ | refine yj ?_ | refine yk ?_) | refine yl ?_ | refine ym ?_ | refine yn fun _ _ _ _ => ?_ | refine yo ?_ | refine yp ?_ | refine yq ?_ | refine yr fun _ _ _ _ => ?_ | refine ys ?_ | refine yt ?_ | refine yu ?_ | refine yv ?_ | refine yw fun _ _ _ _ => ?_ | refine yx ?_ | refine yy ?_ | refine yz fun _ _ _ _ => ?_ | refine xa ?_ | refine xb fun _ _ _ _ => ?_) | refine xc ?_ | refine xd ?_ | refine xe ?_ | refine xf ?_ | refine xg ?_ | refine r_nil ?_)
    | (refine g_WC ?_; first | refine w_seq ?_ | refine w_region ?_ | refine w_block ?_ | refine w_skip ?_ | refine w_ret ?_ | refine w_exit ?_ | refine xh ?_ | refine xi ?_ | refine xj (fun _ => ?_) (fun _ => ?_))
    | (refine g_CC ?_; first | refine c_seqN ?_ | refine c_seqE ?_ | refine c_seqR ?_ | refine c_blkN ?_ | refine c_blkS ?_ | refine xk ?_ | refine c_blkR ?_ | refine c_invN ?_ | refine c_invE ?_ | refine c_invR ?_ | refine c_nil ?_))
  refine r_call1 (trim_ok hd hl) rfl rfl ?_
  (repeat' first
    | (refine g_WO ?_; first | (refine g_N ?_; first | (refine g_mv ?_; first | refine zA ?_ | refine zB ?_) | (refine g_bin ?_; first | (refine g_lss ?_; first | refine zC ?_ | refine zD ?_ | refine zE (fun _ => ?_) (fun _ => ?_)) | (refine g_gtr ?_; first | refine zF ?_ | refine zG ?_ | refine zH (fun _ => ?_) (fun _ => ?_)) | (refine g_leq ?_; first | refine zI ?_ | refine zJ ?_ | refine zK (fun _ => ?_) (fun _ => ?_)) | (refine g_geq ?_; first | refine zL ?_ | refine zM ?_ | refine zN (fun _ => ?_) (fun _ => ?_)) | (refine g_eql ?_; first | refine zO ?_ | refine zP ?_ | refine zQ (fun _ => ?_) (fun _ => ?_)) | (refine g_neq ?_; first | refine zR ?_ | refine zS ?_ | refine zT (fun _ => ?_) (fun _ => ?_)) | (refine g_shr ?_; refine zW ?_) | (refine g_shl ?_; refine zW ?_) | refine zU ?_ | refine zV ?_) | (refine g_len ?_; first | refine zX ?_ | refine zY ?_ | refine zZ ?_ | refine ya ?_) | (refine g_ia ?_; first | refine yb ?_ | refine yc ?_ | refine yd ?_) | (refine g_load ?_; first | refine ye ?_ | refine yf ?_) | (refine g_conv ?_; first | refine yg ?_ | refine yh ?_ | refine yi ?_ | refine yj ?_ | refine yk ?_) | refine yl ?_ | refine ym ?_ | refine yn fun _ _ _ _ => ?_ | refine yo ?_ | refine yp ?_ | refine yq ?_ | refine yr fun _ _ _ _ => ?_ | refine ys ?_ | refine yt ?_ | refine yu ?_ | refine yv ?_ | refine yw fun _ _ _ _ => ?_ | refine yx ?_ | refine yy ?_ | refine yz fun _ _ _ _ => ?_ | refine xa ?_ | refine xb fun _ _ _ _ => ?_) | refine xc ?_ | refine xd ?_ | refine xe ?_ | refine xf ?_ | refine xg ?_ | refine r_nil ?_)
    | (refine g_WC ?_; first | refine w_seq ?_ | refine w_region ?_ | refine w_block ?_ | refine w_skip ?_ | refine w_ret ?_ | refine w_exit ?_ | refine xh ?_ | refine xi ?_ | refine xj (fun _ => ?_) (fun _ => ?_))
    | (refine g_CC ?_; first | refine c_seqN ?_ | refine c_seqE ?_ | refine c_seqR ?_ | refine c_blkN ?_ | refine c_blkS ?_ | refine xk ?_ | refine c_blkR ?_ | refine c_invN ?_ | refine c_invE ?_ | refine c_invR ?_ | refine c_nil ?_))
  · rename_i h1
    refine ends1 rfl rfl ?_
    rw [List.eq_nil_of_length_eq_zero (l := ofN (val l)) (by omega)]; rfl
  · rename_i hm _ _
    refine ends1 rfl (purK hm (Nat.le_refl _)) ?_
    rw [List.take_length]
theorem normalize_ok {l : List Nat} (hd : Dg l) (hl : Sh l) : PCall env ext 17 [pN l] (.s (pN (ofN (val l)))) := by
  refine PCall.walk (env := env) (g := 17) rfl rfl ?_
  (repeat' first
    | (refine g_WO ?_; first | (refine g_N ?_; first | (refine g_mv ?_; first | refine zA ?_ | refine zB ?_) | (refine g_bin ?_; first | (refine g_lss ?_; first | refine zC ?_ | refine zD ?_ | refine zE (fun _ => ?_) (fun _ => ?_)) | (refine g_gtr ?_; first | refine zF ?_ | refine zG ?_ | refine zH (fun _ => ?_) (fun _ => ?_)) | (refine g_leq ?_; first | refine zI ?_ | refine zJ ?_ | refine zK (fun _ => ?_) (fun _ => ?_)) | (refine g_geq ?_; first | refine zL ?_ | refine zM ?_ | refine zN (fun _ => ?_) (fun _ => ?_)) | (refine g_eql ?_; first | refine zO ?_ | refine zP ?_ | refine zQ (fun _ => ?_) (fun _ => ?_)) | (refine g_neq ?_; first | refine zR ?_ | refine zS ?_ | refine zT (fun _ => ?_) (fun _ => ?_)) | (refine g_shr ?_; refine zW ?_) | (refine g_shl ?_; refine zW ?_) | refine zU ?_ | refine zV ?_) | (refine g_len ?_; first | refine zX ?_ | refine zY ?_ | refine zZ ?_ | refine ya ?_) | (refine g_ia ?_; first | refine yb ?_ | refine yc ?_ | refine yd ?_) | (refine g_load ?_; first | refine ye ?_ | refine yf ?_) | (refine g_conv ?_; first | refine yg ?_ | refine yh ?_ | refine yi ?_ | refine yj ?_ | refine yk ?_) | refine yl ?_ | refine ym ?_ | refine yn fun _ _ _ _ => ?_ | refine yo ?_ | refine yp ?_ | refine yq ?_ | refine yr fun _ _ _ _ => ?_ | refine ys ?_ | refine yt ?_ | refine yu ?_ | refine yv ?_ | refine yw fun _ _ _ _ => ?_ | refine yx ?_ | refine yy ?_ | refine yz fun _ _ _ _ => ?_ | refine xa ?_ | refine xb fun _ _ _ _ => ?_) | refine xc ?_ | refine xd ?_ | refine xe ?_ | refine xf ?_ | refine xg ?_ | refine r_nil ?_)
    | (refine g_WC ?_; first | refine w_seq ?_ | refine w_region ?_ | refine w_block ?_ | refine w_skip ?_ | refine w_ret ?_ | refine w_exit ?_ | refine xh ?_ | refine xi ?_ | refine xj (fun _ => ?_) (fun _ => ?_))
    | (refine g_CC ?_; first | refine c_seqN ?_ | refine c_seqE ?_ | refine c_seqR ?_ | refine c_blkN ?_ | refine c_blkS ?_ | refine xk ?_ | refine c_blkR ?_ | refine c_invN ?_ | refine c_invE ?_ | refine c_invR ?_ | refine c_nil ?_))
  refine r_call1 (clone_ok hd hl) rfl rfl ?_
  (repeat' first
    | (refine g_WO ?_; first | (refine g_N ?_; first | (refine g_mv ?_; first | refine zA ?_ | refine zB ?_) | (refine g_bin ?_; first | (refine g_lss ?_; first | refine zC ?_ | refine zD ?_ | refine zE (fun _ => ?_) (fun _ => ?_)) | (refine g_gtr ?_; first | refine zF ?_ | refine zG ?_ | refine zH (fun _ => ?_) (fun _ => ?_)) | (refine g_leq ?_; first | refine zI ?_ | refine zJ ?_ | refine zK (fun _ => ?_) (fun _ => ?_)) | (refine g_geq ?_; first | refine zL ?_ | refine zM ?_ | refine zN (fun _ => ?_) (fun _ => ?_)) | (refine g_eql ?_; first | refine zO ?_ | refine zP ?_ | refine zQ (fun _ => ?_) (fun _ => ?_)) | (refine g_neq ?_; first | refine zR ?_ | refine zS ?_ | refine zT (fun _ => ?_) (fun _ => ?_)) | (refine g_shr ?_; refine zW ?_) | (refine g_shl ?_; refine zW ?_) | refine zU ?_ | refine zV ?_) | (refine g_len ?_; first | refine zX ?_ | refine zY ?_ | refine zZ ?_ | refine ya ?_) | (refine g_ia ?_; first | refine yb ?_ | refine yc ?_ | refine yd ?_) | (refine g_load ?_; first | refine ye ?_ | refine yf ?_) | (refine g_conv ?_; first | refine yg ?_ | refine yh ?_ | refine yi ?_ | refine yj ?_ | refine yk ?_) | refine yl ?_ | refine ym ?_ | refine yn fun _ _ _ _ => ?_ | refine yo ?_ | refine yp ?_ | refine yq ?_ | refine yr fun _ _ _ _ => ?_ | refine ys ?_ | refine yt ?_ | refine yu ?_ | refine yv ?_ | refine yw fun _ _ _ _ => ?_ | refine yx ?_ | refine yy ?_ | refine yz fun _ _ _ _ => ?_ | refine xa ?_ | refine xb fun _ _ _ _ => ?_) | refine xc ?_ | refine xd ?_ | refine xe ?_ | refine xf ?_ | refine xg ?_ | refine r_nil ?_)
    | (refine g_WC ?_; first | refine w_seq ?_ | refine w_region ?_ | refine w_block ?_ | refine w_skip ?_ | refine w_ret ?_ | refine w_exit ?_ | refine xh ?_ | refine xi ?_ | refine xj (fun _ => ?_) (fun _ => ?_))
    | (refine g_CC ?_; first | refine c_seqN ?_ | refine c_seqE ?_ | refine c_seqR ?_ | refine c_blkN ?_ | refine c_blkS ?_ | refine xk ?_ | refine c_blkR ?_ | refine c_invN ?_ | refine c_invE ?_ | refine c_invR ?_ | refine c_nil ?_))
  exact ends1 rfl rfl rfl
theorem natNorm_ok {l : List Nat} (hd : Dg l) (hl : Sh l) : PCall env ext 58 [pN l] (.s (pN (ofN (val l)))) := by
  have h2 := ofN_len_le_of hd
  refine PCall.walk (env := env) (g := 58) rfl rfl ?_
  (repeat' first
    | (refine g_WO ?_; first | (refine g_N ?_; first | (refine g_mv ?_; first | refine zA ?_ | refine zB ?_) | (refine g_bin ?_; first | (refine g_lss ?_; first | refine zC ?_ | refine zD ?_ | refine zE (fun _ => ?_) (fun _ => ?_)) | (refine g_gtr ?_; first | refine zF ?_ | refine zG ?_ | refine zH (fun _ => ?_) (fun _ => ?_)) | (refine g_leq ?_; first | refine zI ?_ | refine zJ ?_ | refine zK (fun _ => ?_) (fun _ => ?_)) | (refine g_geq ?_; first | refine zL ?_ | refine zM ?_ | refine zN (fun _ => ?_) (fun _ => ?_)) | (refine g_eql ?_; first | refine zO ?_ | refine zP ?_ | refine zQ (fun _ => ?_) (fun _ => ?_)) | (refine g_neq ?_; first | refine zR ?_ | refine zS ?_ | refine zT (fun _ => ?_) (fun _ => ?_)) | (refine g_shr ?_; refine zW ?_) | (refine g_shl ?_; refine zW ?_) | refine zU ?_ | refine zV ?_) | (refine g_len ?_; first | refine zX ?_ | refine zY ?_ | refine zZ ?_ | refine ya ?_) | (refine g_ia ?_; first | refine yb ?_ | refine yc ?_ | refine yd ?_) | (refine g_load ?_; first | refine ye ?_ | refine yf ?_) | (refine g_conv ?_; first | refine yg ?_ | refine yh ?_ | refine yi ?_ | refine yj ?_ | refine yk ?_) | refine yl ?_ | refine ym ?_ | refine yn fun _ _ _ _ => ?_ | refine yo ?_ | refine yp ?_ | refine yq ?_ | refine yr fun _ _ _ _ => ?_ | refine ys ?_ | refine yt ?_ | refine yu ?_ | refine yv ?_ | refine yw fun _ _ _ _ => ?_ | refine yx ?_ | refine yy ?_ | refine yz fun _ _ _ _ => ?_ | refine xa ?_ | refine xb fun _ _ _ _ => ?_) | refine xc ?_ | refine xd ?_ | refine xe ?_ | refine xf ?_ | refine xg ?_ | refine r_nil ?_)
    | (refine g_WC ?_; first | refine w_seq ?_ | refine w_region ?_ | refine w_block ?_ | refine w_skip ?_ | refine w_ret ?_ | refine w_exit ?_ | refine xh ?_ | refine xi ?_ | refine xj (fun _ => ?_) (fun _ => ?_))
    | (refine g_CC ?_; first | refine c_seqN ?_ | refine c_seqE ?_ | refine c_seqR ?_ | refine c_blkN ?_ | refine c_blkS ?_ | refine xk ?_ | refine c_blkR ?_ | refine c_invN ?_ | refine c_invE ?_ | refine c_invR ?_ | refine c_nil ?_))
  refine w_loopS (fun k sl o => k ≤ l.length ∧ (∀ i, k ≤ i → i < l.length → l.getD i 0 = 0) ∧ sl 0 = vk .u32 l ∧ sl 3 = vn .i64 k ∧ o = Objs.empty) l.length ⟨Nat.le_refl _, fun i h1 h2 => by omega, rfl, rfl, rfl⟩ ?_
  rintro k sl o ⟨hk, hz, h0, h3, rfl⟩
  rw [upd1 h0, upd1 (sl := upd sl 0 _) (a := 3) h3]
  (repeat' first
    | (refine g_WO ?_; first | (refine g_N ?_; first | (refine g_mv ?_; first | refine zA ?_ | refine zB ?_) | (refine g_bin ?_; first | (refine g_lss ?_; first | refine zC ?_ | refine zD ?_ | refine zE (fun _ => ?_) (fun _ => ?_)) | (refine g_gtr ?_; first | refine zF ?_ | refine zG ?_ | refine zH (fun _ => ?_) (fun _ => ?_)) | (refine g_leq ?_; first | refine zI ?_ | refine zJ ?_ | refine zK (fun _ => ?_) (fun _ => ?_)) | (refine g_geq ?_; first | refine zL ?_ | refine zM ?_ | refine zN (fun _ => ?_) (fun _ => ?_)) | (refine g_eql ?_; first | refine zO ?_ | refine zP ?_ | refine zQ (fun _ => ?_) (fun _ => ?_)) | (refine g_neq ?_; first | refine zR ?_ | refine zS ?_ | refine zT (fun _ => ?_) (fun _ => ?_)) | (refine g_shr ?_; refine zW ?_) | (refine g_shl ?_; refine zW ?_) | refine zU ?_ | refine zV ?_) | (refine g_len ?_; first | refine zX ?_ | refine zY ?_ | refine zZ ?_ | refine ya ?_) | (refine g_ia ?_; first | refine yb ?_ | refine yc ?_ | refine yd ?_) | (refine g_load ?_; first | refine ye ?_ | refine yf ?_) | (refine g_conv ?_; first | refine yg ?_ | refine yh ?_ | refine yi ?_ | refine yj ?_ | refine yk ?_) | refine yl ?_ | refine ym ?_ | refine yn fun _ _ _ _ => ?_ | refine yo ?_ | refine yp ?_ | refine yq ?_ | refine yr fun _ _ _ _ => ?_ | refine ys ?_ | refine yt ?_ | refine yu ?_ | refine yv ?_ | refine yw fun _ _ _ _ => ?_ | refine yx ?_ | refine yy ?_ | refine yz fun _ _ _ _ => ?_ | refine xa ?_ | refine xb fun _ _ _ _ => ?_) | refine xc ?_ | refine xd ?_ | refine xe ?_ | refine xf ?_ | refine xg ?_ | refine r_nil ?_)
    | (refine g_WC ?_; first | refine w_seq ?_ | refine w_region ?_ | refine w_block ?_ | refine w_skip ?_ | refine w_ret ?_ | refine w_exit ?_ | refine xh ?_ | refine xi ?_ | refine xj (fun _ => ?_) (fun _ => ?_))
    | (refine g_CC ?_; first | refine c_seqN ?_ | refine c_seqE ?_ | refine c_seqR ?_ | refine c_blkN ?_ | refine c_blkS ?_ | refine xk ?_ | refine c_blkR ?_ | refine c_invN ?_ | refine c_invE ?_ | refine c_invR ?_ | refine c_nil ?_))
  · rename_i h1 h2
    refine ⟨k - 1, by omega, ⟨by omega, fun i h3 h4 => ?_, rfl, rfl, rfl⟩, rfl⟩
    by_cases hi : i = k - 1
    · subst hi; omega
    · exact hz i (by omega) h4
  · rename_i h1 h2 o1 h3 h4 h5 o2 hm h7 h8
    refine ends1 rfl (purK hm (by simp)) ?_
    simp only [List.length_nil, List.drop_zero, List.nil_append, Nat.zero_add, List.take_length]
    rw [take_ofN hd hk hz (.inr (by omega))]
  · rename_i h1 o1 h3 h4 h5 o2 hm h7 h8
    refine ends1 rfl (purK hm (by simp)) ?_
    simp only [List.length_nil, List.drop_zero, List.nil_append, Nat.zero_add, List.take_length]
    rw [take_ofN hd hk hz (.inl (by omega))]
theorem fromUint64_ok {n : Nat} (h : n < 18446744073709551616) : PCall env ext 19 [.c (.int .u64 (n : Int))] (.s (pN (ofN n))) := by
  refine PCall.walk (env := env) (g := 19) rfl rfl ?_
  (repeat' first
    | (refine g_WO ?_; first | (refine g_N ?_; first | (refine g_mv ?_; first | refine zA ?_ | refine zB ?_) | (refine g_bin ?_; first | (refine g_lss ?_; first | refine zC ?_ | refine zD ?_ | refine zE (fun _ => ?_) (fun _ => ?_)) | (refine g_gtr ?_; first | refine zF ?_ | refine zG ?_ | refine zH (fun _ => ?_) (fun _ => ?_)) | (refine g_leq ?_; first | refine zI ?_ | refine zJ ?_ | refine zK (fun _ => ?_) (fun _ => ?_)) | (refine g_geq ?_; first | refine zL ?_ | refine zM ?_ | refine zN (fun _ => ?_) (fun _ => ?_)) | (refine g_eql ?_; first | refine zO ?_ | refine zP ?_ | refine zQ (fun _ => ?_) (fun _ => ?_)) | (refine g_neq ?_; first | refine zR ?_ | refine zS ?_ | refine zT (fun _ => ?_) (fun _ => ?_)) | (refine g_shr ?_; refine zW ?_) | (refine g_shl ?_; refine zW ?_) | refine zU ?_ | refine zV ?_) | (refine g_len ?_; first | refine zX ?_ | refine zY ?_ | refine zZ ?_ | refine ya ?_) | (refine g_ia ?_; first | refine yb ?_ | refine yc ?_ | refine yd ?_) | (refine g_load ?_; first | refine ye ?_ | refine yf ?_) | (refine g_conv ?_; first | refine yg ?_ | refine yh ?_ | refine yi ?_ | refine yj ?_ | refine yk ?_) | refine yl ?_ | refine ym ?_ | refine yn fun _ _ _ _ => ?_ | refine yo ?_ | refine yp ?_ | refine yq ?_ | refine yr fun _ _ _ _ => ?_ | refine ys ?_ | refine yt ?_ | refine yu ?_ | refine yv ?_ | refine yw fun _ _ _ _ => ?_ | refine yx ?_ | refine yy ?_ | refine yz fun _ _ _ _ => ?_ | refine xa ?_ | refine xb fun _ _ _ _ => ?_) | refine xc ?_ | refine xd ?_ | refine xe ?_ | refine xf ?_ | refine xg ?_ | refine r_nil ?_)
    | (refine g_WC ?_; first | refine w_seq ?_ | refine w_region ?_ | refine w_block ?_ | refine w_skip ?_ | refine w_ret ?_ | refine w_exit ?_ | refine xh ?_ | refine xi ?_ | refine xj (fun _ => ?_) (fun _ => ?_))
    | (refine g_CC ?_; first | refine c_seqN ?_ | refine c_seqE ?_ | refine c_seqR ?_ | refine c_blkN ?_ | refine c_blkS ?_ | refine xk ?_ | refine c_blkR ?_ | refine c_invN ?_ | refine c_invE ?_ | refine c_invR ?_ | refine c_nil ?_))
  · rename_i h1
    refine ends1 rfl rfl ?_
    rw [show n = 0 by omega]; rfl
  · rename_i h1 h2
    refine ends1 rfl rfl ?_
    rw [ofN_pos (by omega), show n / 4294967296 = 0 by omega]; rfl
  · rename_i h1 h2
    refine ends1 rfl rfl ?_
    rw [ofN_pos (by omega), ofN_pos (n := n / 4294967296) (by omega), show n / 4294967296 / 4294967296 = 0 by omega]; rfl
theorem natOf_ok {n : Nat} (h : n < 18446744073709551616) : PCall env ext 59 [.c (.int .u64 (n : Int))] (.s (pN (ofN n))) := by
  have hd : Dg [n % 4294967296, n / 4294967296 % 4294967296] := Dg.cons (by omega) (Dg.cons (by omega) Dg.nil)
  have hv : val [n % 4294967296, n / 4294967296 % 4294967296] = n := by simp only [val]; omega
  refine PCall.walk (env := env) (g := 59) rfl rfl ?_
  (repeat' first
    | (refine g_WO ?_; first | (refine g_N ?_; first | (refine g_mv ?_; first | refine zA ?_ | refine zB ?_) | (refine g_bin ?_; first | (refine g_lss ?_; first | refine zC ?_ | refine zD ?_ | refine zE (fun _ => ?_) (fun _ => ?_)) | (refine g_gtr ?_; first | refine zF ?_ | refine zG ?_ | refine zH (fun _ => ?_) (fun _ => ?_)) | (refine g_leq ?_; first | refine zI ?_ | refine zJ ?_ | refine zK (fun _ => ?_) (fun _ => ?_)) | (refine g_geq ?_; first | refine zL ?_ | refine zM ?_ | refine zN (fun _ => ?_) (fun _ => ?_)) | (refine g_eql ?_; first | refine zO ?_ | refine zP ?_ | refine zQ (fun _ => ?_) (fun _ => ?_)) | (refine g_neq ?_; first | refine zR ?_ | refine zS ?_ | refine zT (fun _ => ?_) (fun _ => ?_)) | (refine g_shr ?_; refine zW ?_) | (refine g_shl ?_; refine zW ?_) | refine zU ?_ | refine zV ?_) | (refine g_len ?_; first | refine zX ?_ | refine zY ?_ | refine zZ ?_ | refine ya ?_) | (refine g_ia ?_; first | refine yb ?_ | refine yc ?_ | refine yd ?_) | (refine g_load ?_; first | refine ye ?_ | refine yf ?_) | (refine g_conv ?_; first | refine yg ?_ | refine yh ?_ | refine yi ?_ | refine yj ?_ | refine yk ?_) | refine yl ?_ | refine ym ?_ | refine yn fun _ _ _ _ => ?_ | refine yo ?_ | refine yp ?_ | refine yq ?_ | refine yr fun _ _ _ _ => ?_ | refine ys ?_ | refine yt ?_ | refine yu ?_ | refine yv ?_ | refine yw fun _ _ _ _ => ?_ | refine yx ?_ | refine yy ?_ | refine yz fun _ _ _ _ => ?_ | refine xa ?_ | refine xb fun _ _ _ _ => ?_) | refine xc ?_ | refine xd ?_ | refine xe ?_ | refine xf ?_ | refine xg ?_ | refine r_nil ?_)
    | (refine g_WC ?_; first | refine w_seq ?_ | refine w_region ?_ | refine w_block ?_ | refine w_skip ?_ | refine w_ret ?_ | refine w_exit ?_ | refine xh ?_ | refine xi ?_ | refine xj (fun _ => ?_) (fun _ => ?_))
    | (refine g_CC ?_; first | refine c_seqN ?_ | refine c_seqE ?_ | refine c_seqR ?_ | refine c_blkN ?_ | refine c_blkS ?_ | refine xk ?_ | refine c_blkR ?_ | refine c_invN ?_ | refine c_invE ?_ | refine c_invR ?_ | refine c_nil ?_))
  refine r_call1 (natNorm_ok hd (by simp)) rfl rfl ?_
  (repeat' first
    | (refine g_WO ?_; first | (refine g_N ?_; first | (refine g_mv ?_; first | refine zA ?_ | refine zB ?_) | (refine g_bin ?_; first | (refine g_lss ?_; first | refine zC ?_ | refine zD ?_ | refine zE (fun _ => ?_) (fun _ => ?_)) | (refine g_gtr ?_; first | refine zF ?_ | refine zG ?_ | refine zH (fun _ => ?_) (fun _ => ?_)) | (refine g_leq ?_; first | refine zI ?_ | refine zJ ?_ | refine zK (fun _ => ?_) (fun _ => ?_)) | (refine g_geq ?_; first | refine zL ?_ | refine zM ?_ | refine zN (fun _ => ?_) (fun _ => ?_)) | (refine g_eql ?_; first | refine zO ?_ | refine zP ?_ | refine zQ (fun _ => ?_) (fun _ => ?_)) | (refine g_neq ?_; first | refine zR ?_ | refine zS ?_ | refine zT (fun _ => ?_) (fun _ => ?_)) | (refine g_shr ?_; refine zW ?_) | (refine g_shl ?_; refine zW ?_) | refine zU ?_ | refine zV ?_) | (refine g_len ?_; first | refine zX ?_ | refine zY ?_ | refine zZ ?_ | refine ya ?_) | (refine g_ia ?_; first | refine yb ?_ | refine yc ?_ | refine yd ?_) | (refine g_load ?_; first | refine ye ?_ | refine yf ?_) | (refine g_conv ?_; first | refine yg ?_ | refine yh ?_ | refine yi ?_ | refine yj ?_ | refine yk ?_) | refine yl ?_ | refine ym ?_ | refine yn fun _ _ _ _ => ?_ | refine yo ?_ | refine yp ?_ | refine yq ?_ | refine yr fun _ _ _ _ => ?_ | refine ys ?_ | refine yt ?_ | refine yu ?_ | refine yv ?_ | refine yw fun _ _ _ _ => ?_ | refine yx ?_ | refine yy ?_ | refine yz fun _ _ _ _ => ?_ | refine xa ?_ | refine xb fun _ _ _ _ => ?_) | refine xc ?_ | refine xd ?_ | refine xe ?_ | refine xf ?_ | refine xg ?_ | refine r_nil ?_)
    | (refine g_WC ?_; first | refine w_seq ?_ | refine w_region ?_ | refine w_block ?_ | refine w_skip ?_ | refine w_ret ?_ | refine w_exit ?_ | refine xh ?_ | refine xi ?_ | refine xj (fun _ => ?_) (fun _ => ?_))
    | (refine g_CC ?_; first | refine c_seqN ?_ | refine c_seqE ?_ | refine c_seqR ?_ | refine c_blkN ?_ | refine c_blkS ?_ | refine xk ?_ | refine c_blkR ?_ | refine c_invN ?_ | refine c_invE ?_ | refine c_invR ?_ | refine c_nil ?_))
  refine ends1 rfl rfl ?_
  rw [hv]
/-- What a comparison gives. -/
def cmpI (x y : Nat) : Int := if x < y then -1 else if y < x then 1 else 0
theorem cmp_ok {a b : List Nat} (ha : Dg a) (hb : Dg b) (la : Sh a) (lb : Sh b) : PCall env ext 13 [pN a, pN b] (.s (.c (.int .i64 (cmpI (val a) (val b))))) := by
  have h2 := ofN_len_le_of ha
  have h3 := ofN_len_le_of hb
  have v1 := val_ofN (val a)
  have v2 := val_ofN (val b)
  have d1 := Dg.ofN (val a)
  have d2 := Dg.ofN (val b)
  refine PCall.walk (env := env) (g := 13) rfl rfl ?_
  (repeat' first
    | (refine g_WO ?_; first | (refine g_N ?_; first | (refine g_mv ?_; first | refine zA ?_ | refine zB ?_) | (refine g_bin ?_; first | (refine g_lss ?_; first | refine zC ?_ | refine zD ?_ | refine zE (fun _ => ?_) (fun _ => ?_)) | (refine g_gtr ?_; first | refine zF ?_ | refine zG ?_ | refine zH (fun _ => ?_) (fun _ => ?_)) | (refine g_leq ?_; first | refine zI ?_ | refine zJ ?_ | refine zK (fun _ => ?_) (fun _ => ?_)) | (refine g_geq ?_; first | refine zL ?_ | refine zM ?_ | refine zN (fun _ => ?_) (fun _ => ?_)) | (refine g_eql ?_; first | refine zO ?_ | refine zP ?_ | refine zQ (fun _ => ?_) (fun _ => ?_)) | (refine g_neq ?_; first | refine zR ?_ | refine zS ?_ | refine zT (fun _ => ?_) (fun _ => ?_)) | (refine g_shr ?_; refine zW ?_) | (refine g_shl ?_; refine zW ?_) | refine zU ?_ | refine zV ?_) | (refine g_len ?_; first | refine zX ?_ | refine zY ?_ | refine zZ ?_ | refine ya ?_) | (refine g_ia ?_; first | refine yb ?_ | refine yc ?_ | refine yd ?_) | (refine g_load ?_; first | refine ye ?_ | refine yf ?_) | (refine g_conv ?_; first | refine yg ?_ | refine yh ?_ | refine yi ?_ | refine yj ?_ | refine yk ?_) | refine yl ?_ | refine ym ?_ | refine yn fun _ _ _ _ => ?_ | refine yo ?_ | refine yp ?_ | refine yq ?_ | refine yr fun _ _ _ _ => ?_ | refine ys ?_ | refine yt ?_ | refine yu ?_ | refine yv ?_ | refine yw fun _ _ _ _ => ?_ | refine yx ?_ | refine yy ?_ | refine yz fun _ _ _ _ => ?_ | refine xa ?_ | refine xb fun _ _ _ _ => ?_) | refine xc ?_ | refine xd ?_ | refine xe ?_ | refine xf ?_ | refine xg ?_ | refine r_nil ?_)
    | (refine g_WC ?_; first | refine w_seq ?_ | refine w_region ?_ | refine w_block ?_ | refine w_skip ?_ | refine w_ret ?_ | refine w_exit ?_ | refine xh ?_ | refine xi ?_ | refine xj (fun _ => ?_) (fun _ => ?_))
    | (refine g_CC ?_; first | refine c_seqN ?_ | refine c_seqE ?_ | refine c_seqR ?_ | refine c_blkN ?_ | refine c_blkS ?_ | refine xk ?_ | refine c_blkR ?_ | refine c_invN ?_ | refine c_invE ?_ | refine c_invR ?_ | refine c_nil ?_))
  refine r_call1 (trim_ok ha la) rfl rfl ?_
  (repeat' first
    | (refine g_WO ?_; first | (refine g_N ?_; first | (refine g_mv ?_; first | refine zA ?_ | refine zB ?_) | (refine g_bin ?_; first | (refine g_lss ?_; first | refine zC ?_ | refine zD ?_ | refine zE (fun _ => ?_) (fun _ => ?_)) | (refine g_gtr ?_; first | refine zF ?_ | refine zG ?_ | refine zH (fun _ => ?_) (fun _ => ?_)) | (refine g_leq ?_; first | refine zI ?_ | refine zJ ?_ | refine zK (fun _ => ?_) (fun _ => ?_)) | (refine g_geq ?_; first | refine zL ?_ | refine zM ?_ | refine zN (fun _ => ?_) (fun _ => ?_)) | (refine g_eql ?_; first | refine zO ?_ | refine zP ?_ | refine zQ (fun _ => ?_) (fun _ => ?_)) | (refine g_neq ?_; first | refine zR ?_ | refine zS ?_ | refine zT (fun _ => ?_) (fun _ => ?_)) | (refine g_shr ?_; refine zW ?_) | (refine g_shl ?_; refine zW ?_) | refine zU ?_ | refine zV ?_) | (refine g_len ?_; first | refine zX ?_ | refine zY ?_ | refine zZ ?_ | refine ya ?_) | (refine g_ia ?_; first | refine yb ?_ | refine yc ?_ | refine yd ?_) | (refine g_load ?_; first | refine ye ?_ | refine yf ?_) | (refine g_conv ?_; first | refine yg ?_ | refine yh ?_ | refine yi ?_ | refine yj ?_ | refine yk ?_) | refine yl ?_ | refine ym ?_ | refine yn fun _ _ _ _ => ?_ | refine yo ?_ | refine yp ?_ | refine yq ?_ | refine yr fun _ _ _ _ => ?_ | refine ys ?_ | refine yt ?_ | refine yu ?_ | refine yv ?_ | refine yw fun _ _ _ _ => ?_ | refine yx ?_ | refine yy ?_ | refine yz fun _ _ _ _ => ?_ | refine xa ?_ | refine xb fun _ _ _ _ => ?_) | refine xc ?_ | refine xd ?_ | refine xe ?_ | refine xf ?_ | refine xg ?_ | refine r_nil ?_)
    | (refine g_WC ?_; first | refine w_seq ?_ | refine w_region ?_ | refine w_block ?_ | refine w_skip ?_ | refine w_ret ?_ | refine w_exit ?_ | refine xh ?_ | refine xi ?_ | refine xj (fun _ => ?_) (fun _ => ?_))
    | (refine g_CC ?_; first | refine c_seqN ?_ | refine c_seqE ?_ | refine c_seqR ?_ | refine c_blkN ?_ | refine c_blkS ?_ | refine xk ?_ | refine c_blkR ?_ | refine c_invN ?_ | refine c_invE ?_ | refine c_invR ?_ | refine c_nil ?_))
  refine r_call1 (trim_ok hb lb) rfl rfl ?_
  (repeat' first
    | (refine g_WO ?_; first | (refine g_N ?_; first | (refine g_mv ?_; first | refine zA ?_ | refine zB ?_) | (refine g_bin ?_; first | (refine g_lss ?_; first | refine zC ?_ | refine zD ?_ | refine zE (fun _ => ?_) (fun _ => ?_)) | (refine g_gtr ?_; first | refine zF ?_ | refine zG ?_ | refine zH (fun _ => ?_) (fun _ => ?_)) | (refine g_leq ?_; first | refine zI ?_ | refine zJ ?_ | refine zK (fun _ => ?_) (fun _ => ?_)) | (refine g_geq ?_; first | refine zL ?_ | refine zM ?_ | refine zN (fun _ => ?_) (fun _ => ?_)) | (refine g_eql ?_; first | refine zO ?_ | refine zP ?_ | refine zQ (fun _ => ?_) (fun _ => ?_)) | (refine g_neq ?_; first | refine zR ?_ | refine zS ?_ | refine zT (fun _ => ?_) (fun _ => ?_)) | (refine g_shr ?_; refine zW ?_) | (refine g_shl ?_; refine zW ?_) | refine zU ?_ | refine zV ?_) | (refine g_len ?_; first | refine zX ?_ | refine zY ?_ | refine zZ ?_ | refine ya ?_) | (refine g_ia ?_; first | refine yb ?_ | refine yc ?_ | refine yd ?_) | (refine g_load ?_; first | refine ye ?_ | refine yf ?_) | (refine g_conv ?_; first | refine yg ?_ | refine yh ?_ | refine yi ?_ | refine yj ?_ | refine yk ?_) | refine yl ?_ | refine ym ?_ | refine yn fun _ _ _ _ => ?_ | refine yo ?_ | refine yp ?_ | refine yq ?_ | refine yr fun _ _ _ _ => ?_ | refine ys ?_ | refine yt ?_ | refine yu ?_ | refine yv ?_ | refine yw fun _ _ _ _ => ?_ | refine yx ?_ | refine yy ?_ | refine yz fun _ _ _ _ => ?_ | refine xa ?_ | refine xb fun _ _ _ _ => ?_) | refine xc ?_ | refine xd ?_ | refine xe ?_ | refine xf ?_ | refine xg ?_ | refine r_nil ?_)
    | (refine g_WC ?_; first | refine w_seq ?_ | refine w_region ?_ | refine w_block ?_ | refine w_skip ?_ | refine w_ret ?_ | refine w_exit ?_ | refine xh ?_ | refine xi ?_ | refine xj (fun _ => ?_) (fun _ => ?_))
    | (refine g_CC ?_; first | refine c_seqN ?_ | refine c_seqE ?_ | refine c_seqR ?_ | refine c_blkN ?_ | refine c_blkS ?_ | refine xk ?_ | refine c_blkR ?_ | refine c_invN ?_ | refine c_invE ?_ | refine c_invR ?_ | refine c_nil ?_))
  · rename_i h4
    refine ends1 rfl rfl ?_
    have h5 : val a < val b := by
      apply Nat.lt_of_not_le
      intro h; have := ofN_len_mono h; omega
    simp only [cmpI, if_pos h5]
  · rename_i h4 h5
    refine ends1 rfl rfl ?_
    have h6 : val b < val a := by
      apply Nat.lt_of_not_le
      intro h; have := ofN_len_mono h; omega
    simp only [cmpI, if_pos h6, if_neg (show ¬ val a < val b by omega)]
  · rename_i h4 h5
    have hl : (ofN (val a)).length = (ofN (val b)).length := by omega
    generalize ofN (val a) = A at *
    generalize ofN (val b) = B at *
    refine w_loopS (fun k sl o => k ≤ A.length ∧ (∀ i, k ≤ i → A.getD i 0 = B.getD i 0) ∧ sl 0 = vk .u32 A ∧ sl 1 = vk .u32 B ∧ sl 5 = .s (.c (.p (.int .i64 ((k : Int) - 1))))) A.length
      ⟨Nat.le_refl _, fun i hi => by rw [getD_lt (by omega), getD_lt (by omega)], rfl, rfl, rfl⟩ ?_
    rintro k sl o ⟨hk, hz, s0, s1, s5⟩
    rw [upd1 s0, upd1 (sl := upd sl 0 _) (a := 1) s1, upd1 (sl := upd (upd sl 0 _) 1 _) (a := 5) s5]
    clear h4 h5
    rcases k with _ | k
    · (repeat' first
    | (refine g_WO ?_; first | (refine g_N ?_; first | (refine g_mv ?_; first | refine zA ?_ | refine zB ?_) | (refine g_bin ?_; first | (refine g_lss ?_; first | refine zC ?_ | refine zD ?_ | refine zE (fun _ => ?_) (fun _ => ?_)) | (refine g_gtr ?_; first | refine zF ?_ | refine zG ?_ | refine zH (fun _ => ?_) (fun _ => ?_)) | (refine g_leq ?_; first | refine zI ?_ | refine zJ ?_ | refine zK (fun _ => ?_) (fun _ => ?_)) | (refine g_geq ?_; first | refine zL ?_ | refine zM ?_ | refine zN (fun _ => ?_) (fun _ => ?_)) | (refine g_eql ?_; first | refine zO ?_ | refine zP ?_ | refine zQ (fun _ => ?_) (fun _ => ?_)) | (refine g_neq ?_; first | refine zR ?_ | refine zS ?_ | refine zT (fun _ => ?_) (fun _ => ?_)) | (refine g_shr ?_; refine zW ?_) | (refine g_shl ?_; refine zW ?_) | refine zU ?_ | refine zV ?_) | (refine g_len ?_; first | refine zX ?_ | refine zY ?_ | refine zZ ?_ | refine ya ?_) | (refine g_ia ?_; first | refine yb ?_ | refine yc ?_ | refine yd ?_) | (refine g_load ?_; first | refine ye ?_ | refine yf ?_) | (refine g_conv ?_; first | refine yg ?_ | refine yh ?_ | refine yi ?_ | refine yj ?_ | refine yk ?_) | refine yl ?_ | refine ym ?_ | refine yn fun _ _ _ _ => ?_ | refine yo ?_ | refine yp ?_ | refine yq ?_ | refine yr fun _ _ _ _ => ?_ | refine ys ?_ | refine yt ?_ | refine yu ?_ | refine yv ?_ | refine yw fun _ _ _ _ => ?_ | refine yx ?_ | refine yy ?_ | refine yz fun _ _ _ _ => ?_ | refine xa ?_ | refine xb fun _ _ _ _ => ?_) | refine xc ?_ | refine xd ?_ | refine xe ?_ | refine xf ?_ | refine xg ?_ | refine r_nil ?_)
    | (refine g_WC ?_; first | refine w_seq ?_ | refine w_region ?_ | refine w_block ?_ | refine w_skip ?_ | refine w_ret ?_ | refine w_exit ?_ | refine xh ?_ | refine xi ?_ | refine xj (fun _ => ?_) (fun _ => ?_))
    | (refine g_CC ?_; first | refine c_seqN ?_ | refine c_seqE ?_ | refine c_seqR ?_ | refine c_blkN ?_ | refine c_blkS ?_ | refine xk ?_ | refine c_blkR ?_ | refine c_invN ?_ | refine c_invE ?_ | refine c_invR ?_ | refine c_nil ?_))
      refine ends1 rfl rfl ?_
      have : val a = val b := by
        rw [← v1, ← v2, ← vt_len A, ← vt_len B, hl]
        exact vt_congr fun j _ => hz j (by omega)
      simp only [cmpI, if_neg (show ¬ val a < val b by omega), if_neg (show ¬ val b < val a by omega)]
    · rw [show (((k + 1 : Nat) : Int) - 1) = (k : Int) by omega]
      have t1 := val_top (k := k + 1) hz
      have t2 : A.getD k 0 < B.getD k 0 → val a < val b := fun h => by have := vt_less d1 h; omega
      have t3 : B.getD k 0 < A.getD k 0 → val b < val a := fun h => by have := vt_less d2 h; omega
      (repeat' first
    | (refine g_WO ?_; first | (refine g_N ?_; first | (refine g_mv ?_; first | refine zA ?_ | refine zB ?_) | (refine g_bin ?_; first | (refine g_lss ?_; first | refine zC ?_ | refine zD ?_ | refine zE (fun _ => ?_) (fun _ => ?_)) | (refine g_gtr ?_; first | refine zF ?_ | refine zG ?_ | refine zH (fun _ => ?_) (fun _ => ?_)) | (refine g_leq ?_; first | refine zI ?_ | refine zJ ?_ | refine zK (fun _ => ?_) (fun _ => ?_)) | (refine g_geq ?_; first | refine zL ?_ | refine zM ?_ | refine zN (fun _ => ?_) (fun _ => ?_)) | (refine g_eql ?_; first | refine zO ?_ | refine zP ?_ | refine zQ (fun _ => ?_) (fun _ => ?_)) | (refine g_neq ?_; first | refine zR ?_ | refine zS ?_ | refine zT (fun _ => ?_) (fun _ => ?_)) | (refine g_shr ?_; refine zW ?_) | (refine g_shl ?_; refine zW ?_) | refine zU ?_ | refine zV ?_) | (refine g_len ?_; first | refine zX ?_ | refine zY ?_ | refine zZ ?_ | refine ya ?_) | (refine g_ia ?_; first | refine yb ?_ | refine yc ?_ | refine yd ?_) | (refine g_load ?_; first | refine ye ?_ | refine yf ?_) | (refine g_conv ?_; first | refine yg ?_ | refine yh ?_ | refine yi ?_ | refine yj ?_ | refine yk ?_) | refine yl ?_ | refine ym ?_ | refine yn fun _ _ _ _ => ?_ | refine yo ?_ | refine yp ?_ | refine yq ?_ | refine yr fun _ _ _ _ => ?_ | refine ys ?_ | refine yt ?_ | refine yu ?_ | refine yv ?_ | refine yw fun _ _ _ _ => ?_ | refine yx ?_ | refine yy ?_ | refine yz fun _ _ _ _ => ?_ | refine xa ?_ | refine xb fun _ _ _ _ => ?_) | refine xc ?_ | refine xd ?_ | refine xe ?_ | refine xf ?_ | refine xg ?_ | refine r_nil ?_)
    | (refine g_WC ?_; first | refine w_seq ?_ | refine w_region ?_ | refine w_block ?_ | refine w_skip ?_ | refine w_ret ?_ | refine w_exit ?_ | refine xh ?_ | refine xi ?_ | refine xj (fun _ => ?_) (fun _ => ?_))
    | (refine g_CC ?_; first | refine c_seqN ?_ | refine c_seqE ?_ | refine c_seqR ?_ | refine c_blkN ?_ | refine c_blkS ?_ | refine xk ?_ | refine c_blkR ?_ | refine c_invN ?_ | refine c_invE ?_ | refine c_invR ?_ | refine c_nil ?_))
      · rename_i h4 h5
        refine ends1 rfl rfl ?_
        simp only [cmpI, if_pos (t2 (by omega))]
      · rename_i h4 h5
        have := t3 (by omega)
        refine ends1 rfl rfl ?_
        simp only [cmpI, if_pos this, if_neg (show ¬ val a < val b by omega)]
      · rename_i h4
        refine ⟨k, by omega, ⟨by omega, fun i hi => ?_, rfl, rfl, rfl⟩, rfl⟩
        by_cases hk : i = k
        · subst hk; omega
        · exact hz i (by omega)
end Go.Av
