/- A part of the proof (own method: an abstract machine). No condition. -/
import Derived.Test.YthdilnjdkniofaaGreatCvA
namespace Go.Av
open Go
variable {ext : Calls0}

theorem ofN_mul_len {x y : Nat} : (ofN (x * y)).length ≤ (ofN x).length + (ofN y).length := by
  apply ofN_len_le
  rw [Nat.pow_add]
  have h1 := val_lt (Dg.ofN x)
  have h2 := val_lt (Dg.ofN y)
  rw [val_ofN] at h1 h2
  exact Nat.mul_lt_mul'' h1 h2
theorem ofN_add_len {x y : Nat} : (ofN (x + y)).length ≤ (ofN x).length + (ofN y).length + 1 := by
  apply ofN_len_le
  have h1 := val_lt (Dg.ofN x)
  have h2 := val_lt (Dg.ofN y)
  rw [val_ofN] at h1 h2
  have h3 : 4294967296 ^ (ofN x).length ≤ 4294967296 ^ ((ofN x).length + (ofN y).length) := Nat.pow_le_pow_right (by omega) (by omega)
  have h4 : 4294967296 ^ (ofN y).length ≤ 4294967296 ^ ((ofN x).length + (ofN y).length) := Nat.pow_le_pow_right (by omega) (by omega)
  rw [Nat.pow_succ]; omega

theorem r_add_eq (r s : Rat) : r + s = mkRat (sg (decide (r.num < 0)) (r.num.natAbs * s.den) + sg (decide (s.num < 0)) (s.num.natAbs * r.den)) (r.den * s.den) := by
  have h := qR_add (s := decide (r.num < 0)) (t := decide (s.num < 0)) (x := r.num.natAbs) (y := s.num.natAbs) (d := r.den) (e := s.den) r.den_nz s.den_nz
  rw [qR_self, qR_self] at h
  exact h

set_option maxHeartbeats 2000000 in
theorem radd_F {x y : PSV} {r s : Rat} (hx : IsF x r) (hy : IsF y s) (zr : sz r < 68719476736) (zs : sz s < 68719476736) : PCall env ext 87 [x, y] (.s (.agg (encR (r + s)))) := by
  have n1 := rnorm_F (ext := ext) hx
  have n2 := rnorm_F (ext := ext) hy
  have l1 : (ofN r.num.natAbs).length < 68719476736 := by unfold sz at zr; omega
  have l2 : (ofN r.den).length < 68719476736 := by unfold sz at zr; omega
  have l3 : (ofN s.num.natAbs).length < 68719476736 := by unfold sz at zs; omega
  have l4 : (ofN s.den).length < 68719476736 := by unfold sz at zs; omega
  have he := r_add_eq r s
  obtain ⟨q1, a, b, rfl, _⟩ := hx.h
  obtain ⟨q2, c, d, rfl, _⟩ := hy.h
  rw [he]
  clear he zr zs
  unfold encR at n1 n2
  generalize decide (r.num < 0) = nr at *
  generalize decide (s.num < 0) = ns at *
  generalize r.num.natAbs = A at *
  generalize s.num.natAbs = C at *
  generalize r.den = B at *
  generalize s.den = D at *
  have dA := Dg.ofN A
  have dB := Dg.ofN B
  have dC := Dg.ofN C
  have dD := Dg.ofN D
  have m1 := natMul_ok (ext := ext) dA dD (by omega) (by omega)
  have m2 := natMul_ok (ext := ext) dC dB (by omega) (by omega)
  have m3 := natMul_ok (ext := ext) dB dD (by omega) (by omega)
  rw [val_ofN, val_ofN] at m1 m2 m3
  have lp := ofN_mul_len (x := A) (y := D)
  have lq := ofN_mul_len (x := C) (y := B)
  have ld := ofN_mul_len (x := B) (y := D)
  generalize A * D = p at *
  generalize C * B = q at *
  generalize B * D = e at *
  have la := ofN_add_len (x := p) (y := q)
  have ls1 := ofN_len_mono (show p - q ≤ p by omega)
  have ls2 := ofN_len_mono (show q - p ≤ q by omega)
  by_cases hst : nr = ns
  · subst hst
    rw [sg_same]
    have hr := frac_ok (ext := ext) (neg := nr) (Dg.ofN (p + q)) (Dg.ofN e) (by omega) (by omega)
    rw [val_ofN, val_ofN] at hr
    have ha := natAdd_ok (ext := ext) (Dg.ofN p) (Dg.ofN q) (by omega) (by omega)
    rw [val_ofN, val_ofN] at ha
    have hbb : (nr == nr) = true := by simp
    refine PCall.walk (env := env) (g := 87) rfl rfl ?_
    (repeat' first | refine st ?_ | refine s2 (fun _ => ?_) (fun _ => ?_) | refine s4 fun _ _ _ _ => ?_ | fail)
    refine p_callA n1 rfl rfl ?_
    (repeat' first | refine st ?_ | refine s2 (fun _ => ?_) (fun _ => ?_) | refine s4 fun _ _ _ _ => ?_ | fail)
    refine p_callA n2 rfl rfl ?_
    (repeat' first | refine st ?_ | refine s2 (fun _ => ?_) (fun _ => ?_) | refine s4 fun _ _ _ _ => ?_ | fail)
    rename_i oA a1 a2 a3 oB b1 b2 b3 oC c1 c2 c3
    have k0 : oC.cel (0 + 0) (Objs.empty.nv (0 + 0)) [.p (.bool false), .e0, .e0] := by unfold Objs.cel; rw [c2 _ _ (by omega), b2 _ _ (by omega)]; exact a1
    have k1 : oC.cel (0 + 1) (oA.nv (0 + 1)) [.p (.bool false), .e0, .e0] := by unfold Objs.cel; rw [c2 _ _ (by omega)]; exact b1
    (repeat' first | refine st ?_ | refine s2 (fun _ => ?_) (fun _ => ?_) | refine s4 fun _ _ _ _ => ?_ | fail)
    rename_i oD d1 d2 d3
    have k2 : oD.cel (0 + 2) (oB.nv (0 + 2)) [.p (.bool false), .e0, .e0] := by unfold Objs.cel; rw [d2 _ _ (by omega)]; exact c1
    (repeat' first | refine st ?_ | refine s2 (fun _ => ?_) (fun _ => ?_) | refine s4 fun _ _ _ _ => ?_ | fail)
    rename_i oE f1 f2 f3
    have k3 := d1
    unfold Objs.cel at k3
    rw [← f2 _ _ (by omega)] at k3
    replace k3 : oE.cel _ _ _ := k3
    have k4 : oE.cel (0 + 0) (Objs.empty.nv (0 + 0)) [.p (.bool false), .e0, .e0] := by unfold Objs.cel; rw [f2 _ _ (by omega), d2 _ _ (by omega)]; exact k0
    clear a1 a2 a3 b1 b2 b3 c1 c2 c3 d1 d2 d3 f2 f3 k0 k1 k2
    (repeat' first | refine st ?_ | refine s2 (fun _ => ?_) (fun _ => ?_) | refine s4 fun _ _ _ _ => ?_ | fail)
    refine p_call1 m1 rfl rfl ?_
    (repeat' first | refine st ?_ | refine s2 (fun _ => ?_) (fun _ => ?_) | refine s4 fun _ _ _ _ => ?_ | fail)
    refine p_call1 m2 rfl rfl ?_
    (repeat' first | refine st ?_ | refine s2 (fun _ => ?_) (fun _ => ?_) | refine s4 fun _ _ _ _ => ?_ | fail)
    refine r_call1 m3 rfl rfl ?_
    (repeat' first | refine st ?_ | refine s2 (fun _ => ?_) (fun _ => ?_) | refine s4 fun _ _ _ _ => ?_ | fail)
    · refine p_call1 ha rfl rfl ?_
      (repeat' first | refine st ?_ | refine s2 (fun _ => ?_) (fun _ => ?_) | refine s4 fun _ _ _ _ => ?_ | fail)
      refine p_callA hr rfl rfl ?_
      (repeat' first | refine st ?_ | refine s2 (fun _ => ?_) (fun _ => ?_) | refine s4 fun _ _ _ _ => ?_ | fail)
      exact endsC (.inr rfl) rfl (by assumption) rfl rfl rfl
    · rename_i hh
      rw [hbb] at hh; cases hh
  · have hbb : (nr == ns) = false := by simp [hst]
    have hc := natCmp_ok (ext := ext) (Dg.ofN p) (Dg.ofN q) (by omega) (by omega)
    rw [val_ofN, val_ofN] at hc
    by_cases hpq : q ≤ p
    · rw [sg_ge hst hpq]
      have hr := frac_ok (ext := ext) (neg := nr) (Dg.ofN (p - q)) (Dg.ofN e) (by omega) (by omega)
      rw [val_ofN, val_ofN] at hr
      have ha := natSub_ok (ext := ext) (Dg.ofN p) (Dg.ofN q) (by omega) (by omega) (by rw [val_ofN, val_ofN]; exact hpq)
      rw [val_ofN, val_ofN] at ha
      have hci : 0 ≤ cmpI p q := by unfold cmpI; rw [if_neg (by omega)]; split <;> omega
      refine PCall.walk (env := env) (g := 87) rfl rfl ?_
      (repeat' first | refine st ?_ | refine s2 (fun _ => ?_) (fun _ => ?_) | refine s4 fun _ _ _ _ => ?_ | fail)
      refine p_callA n1 rfl rfl ?_
      (repeat' first | refine st ?_ | refine s2 (fun _ => ?_) (fun _ => ?_) | refine s4 fun _ _ _ _ => ?_ | fail)
      refine p_callA n2 rfl rfl ?_
      (repeat' first | refine st ?_ | refine s2 (fun _ => ?_) (fun _ => ?_) | refine s4 fun _ _ _ _ => ?_ | fail)
      rename_i oA a1 a2 a3 oB b1 b2 b3 oC c1 c2 c3
      have k0 : oC.cel (0 + 0) (Objs.empty.nv (0 + 0)) [.p (.bool false), .e0, .e0] := by unfold Objs.cel; rw [c2 _ _ (by omega), b2 _ _ (by omega)]; exact a1
      have k1 : oC.cel (0 + 1) (oA.nv (0 + 1)) [.p (.bool false), .e0, .e0] := by unfold Objs.cel; rw [c2 _ _ (by omega)]; exact b1
      (repeat' first | refine st ?_ | refine s2 (fun _ => ?_) (fun _ => ?_) | refine s4 fun _ _ _ _ => ?_ | fail)
      rename_i oD d1 d2 d3
      have k2 : oD.cel (0 + 2) (oB.nv (0 + 2)) [.p (.bool false), .e0, .e0] := by unfold Objs.cel; rw [d2 _ _ (by omega)]; exact c1
      (repeat' first | refine st ?_ | refine s2 (fun _ => ?_) (fun _ => ?_) | refine s4 fun _ _ _ _ => ?_ | fail)
      rename_i oE f1 f2 f3
      have k3 := d1
      unfold Objs.cel at k3
      rw [← f2 _ _ (by omega)] at k3
      replace k3 : oE.cel _ _ _ := k3
      have k4 : oE.cel (0 + 0) (Objs.empty.nv (0 + 0)) [.p (.bool false), .e0, .e0] := by unfold Objs.cel; rw [f2 _ _ (by omega), d2 _ _ (by omega)]; exact k0
      clear a1 a2 a3 b1 b2 b3 c1 c2 c3 d1 d2 d3 f2 f3 k0 k1 k2
      (repeat' first | refine st ?_ | refine s2 (fun _ => ?_) (fun _ => ?_) | refine s4 fun _ _ _ _ => ?_ | fail)
      refine p_call1 m1 rfl rfl ?_
      (repeat' first | refine st ?_ | refine s2 (fun _ => ?_) (fun _ => ?_) | refine s4 fun _ _ _ _ => ?_ | fail)
      refine p_call1 m2 rfl rfl ?_
      (repeat' first | refine st ?_ | refine s2 (fun _ => ?_) (fun _ => ?_) | refine s4 fun _ _ _ _ => ?_ | fail)
      refine r_call1 m3 rfl rfl ?_
      (repeat' first | refine st ?_ | refine s2 (fun _ => ?_) (fun _ => ?_) | refine s4 fun _ _ _ _ => ?_ | fail)
      · rename_i hh
        rw [hbb] at hh; cases hh
      · refine r_call1 hc rfl rfl ?_
        (repeat' first | refine st ?_ | refine s2 (fun _ => ?_) (fun _ => ?_) | refine s4 fun _ _ _ _ => ?_ | fail)
        refine r_call2 ha rfl rfl ?_
        (repeat' first | refine st ?_ | refine s2 (fun _ => ?_) (fun _ => ?_) | refine s4 fun _ _ _ _ => ?_ | fail)
        refine r_callA hr rfl rfl ?_
        (repeat' first | refine st ?_ | refine s2 (fun _ => ?_) (fun _ => ?_) | refine s4 fun _ _ _ _ => ?_ | fail)
        exact endsC (.inr rfl) rfl (by assumption) rfl rfl rfl
    · rw [sg_lt hst (show p < q by omega)]
      have hr := frac_ok (ext := ext) (neg := ns) (Dg.ofN (q - p)) (Dg.ofN e) (by omega) (by omega)
      rw [val_ofN, val_ofN] at hr
      have ha := natSub_ok (ext := ext) (Dg.ofN q) (Dg.ofN p) (by omega) (by omega) (by rw [val_ofN, val_ofN]; omega)
      rw [val_ofN, val_ofN] at ha
      have hci : cmpI p q < 0 := by unfold cmpI; rw [if_pos (by omega)]; omega
      refine PCall.walk (env := env) (g := 87) rfl rfl ?_
      (repeat' first | refine st ?_ | refine s2 (fun _ => ?_) (fun _ => ?_) | refine s4 fun _ _ _ _ => ?_ | fail)
      refine p_callA n1 rfl rfl ?_
      (repeat' first | refine st ?_ | refine s2 (fun _ => ?_) (fun _ => ?_) | refine s4 fun _ _ _ _ => ?_ | fail)
      refine p_callA n2 rfl rfl ?_
      (repeat' first | refine st ?_ | refine s2 (fun _ => ?_) (fun _ => ?_) | refine s4 fun _ _ _ _ => ?_ | fail)
      rename_i oA a1 a2 a3 oB b1 b2 b3 oC c1 c2 c3
      have k0 : oC.cel (0 + 0) (Objs.empty.nv (0 + 0)) [.p (.bool false), .e0, .e0] := by unfold Objs.cel; rw [c2 _ _ (by omega), b2 _ _ (by omega)]; exact a1
      have k1 : oC.cel (0 + 1) (oA.nv (0 + 1)) [.p (.bool false), .e0, .e0] := by unfold Objs.cel; rw [c2 _ _ (by omega)]; exact b1
      (repeat' first | refine st ?_ | refine s2 (fun _ => ?_) (fun _ => ?_) | refine s4 fun _ _ _ _ => ?_ | fail)
      rename_i oD d1 d2 d3
      have k2 : oD.cel (0 + 2) (oB.nv (0 + 2)) [.p (.bool false), .e0, .e0] := by unfold Objs.cel; rw [d2 _ _ (by omega)]; exact c1
      (repeat' first | refine st ?_ | refine s2 (fun _ => ?_) (fun _ => ?_) | refine s4 fun _ _ _ _ => ?_ | fail)
      rename_i oE f1 f2 f3
      have k3 := d1
      unfold Objs.cel at k3
      rw [← f2 _ _ (by omega)] at k3
      replace k3 : oE.cel _ _ _ := k3
      have k4 : oE.cel (0 + 0) (Objs.empty.nv (0 + 0)) [.p (.bool false), .e0, .e0] := by unfold Objs.cel; rw [f2 _ _ (by omega), d2 _ _ (by omega)]; exact k0
      clear a1 a2 a3 b1 b2 b3 c1 c2 c3 d1 d2 d3 f2 f3 k0 k1 k2
      (repeat' first | refine st ?_ | refine s2 (fun _ => ?_) (fun _ => ?_) | refine s4 fun _ _ _ _ => ?_ | fail)
      refine p_call1 m1 rfl rfl ?_
      (repeat' first | refine st ?_ | refine s2 (fun _ => ?_) (fun _ => ?_) | refine s4 fun _ _ _ _ => ?_ | fail)
      refine p_call1 m2 rfl rfl ?_
      (repeat' first | refine st ?_ | refine s2 (fun _ => ?_) (fun _ => ?_) | refine s4 fun _ _ _ _ => ?_ | fail)
      refine r_call1 m3 rfl rfl ?_
      (repeat' first | refine st ?_ | refine s2 (fun _ => ?_) (fun _ => ?_) | refine s4 fun _ _ _ _ => ?_ | fail)
      · rename_i hh
        rw [hbb] at hh; cases hh
      · refine r_call1 hc rfl rfl ?_
        (repeat' first | refine st ?_ | refine s2 (fun _ => ?_) (fun _ => ?_) | refine s4 fun _ _ _ _ => ?_ | fail)
        refine r_call2 ha rfl rfl ?_
        (repeat' first | refine st ?_ | refine s2 (fun _ => ?_) (fun _ => ?_) | refine s4 fun _ _ _ _ => ?_ | fail)
        refine r_callA hr rfl rfl ?_
        (repeat' first | refine st ?_ | refine s2 (fun _ => ?_) (fun _ => ?_) | refine s4 fun _ _ _ _ => ?_ | fail)
        exact endsC (.inr rfl) rfl (by assumption) rfl rfl rfl

theorem rneg_F {x : PSV} {r : Rat} (hx : IsF x r) : PCall env ext 89 [x] (.s (.agg (encR (-r)))) := by
  obtain ⟨q, a, b, rfl, h1, h2, h3, h4, h5⟩ := hx.h
  have hf := frac_ok (ext := ext) (neg := !q) h1 h2 (by omega) (by omega)
  have e : qR (!q) (val a) (val b) = -r := by
    rw [← h5]
    unfold qR
    rw [Rat.neg_mkRat]
    congr 1
    cases q <;> simp [sg]
  rw [e] at hf
  refine PCall.walk (env := env) (g := 89) rfl rfl ?_
  (repeat' first | refine st ?_ | refine s2 (fun _ => ?_) (fun _ => ?_) | refine s4 fun _ _ _ _ => ?_ | fail)
  refine r_callA hf rfl rfl ?_
  (repeat' first | refine st ?_ | refine s2 (fun _ => ?_) (fun _ => ?_) | refine s4 fun _ _ _ _ => ?_ | fail)
  exact endsC (.inr rfl) rfl (by assumption) rfl rfl rfl
theorem rsub_F {x y : PSV} {r s : Rat} (hx : IsF x r) (hy : IsF y s) (zr : sz r < 68719476736) (zs : sz s < 68719476736) : PCall env ext 90 [x, y] (.s (.agg (encR (r - s)))) := by
  have h1 := rneg_F (ext := ext) hy
  have h2 := radd_F (ext := ext) hx (IsF.enc (r := -s) (by rw [sz_neg]; omega)) zr (by rw [sz_neg]; exact zs)
  rw [← Rat.sub_eq_add_neg] at h2
  obtain ⟨n1, a, b, rfl, _⟩ := hx.h
  obtain ⟨n2, c, d, rfl, _⟩ := hy.h
  refine PCall.walk (env := env) (g := 90) rfl rfl ?_
  (repeat' first | refine st ?_ | refine s2 (fun _ => ?_) (fun _ => ?_) | refine s4 fun _ _ _ _ => ?_ | fail)
  refine p_callA h1 rfl rfl ?_
  (repeat' first | refine st ?_ | refine s2 (fun _ => ?_) (fun _ => ?_) | refine s4 fun _ _ _ _ => ?_ | fail)
  refine p_callA h2 rfl rfl ?_
  (repeat' first | refine st ?_ | refine s2 (fun _ => ?_) (fun _ => ?_) | refine s4 fun _ _ _ _ => ?_ | fail)
  exact endsC (.inr rfl) rfl (by assumption) rfl rfl rfl
theorem rcmp_F {x y : PSV} {r s : Rat} (hx : IsF x r) (hy : IsF y s) (zr : sz r < 68719476736) (zs : sz s < 68719476736) (zd : sz (r - s) < 137438953472) : PCall env ext 91 [x, y] (.s (.c (.int .i64 (sgn (r - s))))) := by
  have h1 := rsub_F (ext := ext) hx hy zr zs
  have h2 := rsign_F (ext := ext) (IsF.enc (r := r - s) zd)
  obtain ⟨n1, a, b, rfl, _⟩ := hx.h
  obtain ⟨n2, c, d, rfl, _⟩ := hy.h
  refine PCall.walk (env := env) (g := 91) rfl rfl ?_
  (repeat' first | refine st ?_ | refine s2 (fun _ => ?_) (fun _ => ?_) | refine s4 fun _ _ _ _ => ?_ | fail)
  refine r_callA h1 rfl rfl ?_
  (repeat' first | refine st ?_ | refine s2 (fun _ => ?_) (fun _ => ?_) | refine s4 fun _ _ _ _ => ?_ | fail)
  refine r_call1 h2 rfl rfl ?_
  (repeat' first | refine st ?_ | refine s2 (fun _ => ?_) (fun _ => ?_) | refine s4 fun _ _ _ _ => ?_ | fail)
  exact ends1 rfl rfl rfl
theorem rone_ok : PCall env ext 73 [] (.s (.agg (encR 1))) := by
  have h := fracInt_ok (ext := ext) (n := 1) (by omega)
  refine PCall.walk (env := env) (g := 73) rfl rfl ?_
  (repeat' first | refine st ?_ | refine s2 (fun _ => ?_) (fun _ => ?_) | refine s4 fun _ _ _ _ => ?_ | fail)
  refine r_callA h rfl rfl ?_
  (repeat' first | refine st ?_ | refine s2 (fun _ => ?_) (fun _ => ?_) | refine s4 fun _ _ _ _ => ?_ | fail)
  exact endsC (.inr rfl) rfl (by assumption) rfl rfl rfl
theorem rsum_F {xs : List (List PC)} {rs : List Rat} (hl : xs.length = rs.length) (hx : ∀ i row, xs[i]? = some row → IsF (.agg row) (rs.getD i 0)) (hs : ∀ i, i ≤ rs.length → sz (psum rs i) < 68719476736) (hr : ∀ i, sz (rs.getD i 0) < 68719476736) (hn : rs.length < 1099511627776) :
    PCall env ext 88 [.c (.sl xs)] (.s (.agg (encR (psum rs rs.length)))) := by
  have h0 := fracInt_ok (ext := ext) (n := 0) (by omega)
  refine PCall.walk (env := env) (g := 88) rfl rfl ?_
  (repeat' first | refine st ?_ | refine s2 (fun _ => ?_) (fun _ => ?_) | refine s4 fun _ _ _ _ => ?_ | fail)
  refine r_callA h0 rfl rfl ?_
  (repeat' first | refine st ?_ | refine s2 (fun _ => ?_) (fun _ => ?_) | refine s4 fun _ _ _ _ => ?_ | fail)
  rename_i o0 g1 g2 g3 o1 g4 g5 g6 o2 g7 g8 g9
  generalize hw : o0.nv (0 + 1) = w at *
  have hres : o2.cel 0 0 [.p (.bool false), .e0, .e0] := by
    unfold Objs.cel; rw [g8 0 0 (by omega), g5 0 0 (by omega)]; exact g1
  refine w_loopUp (fun i sl o => i ≤ rs.length ∧ o.cel 0 0 [.p (.bool false), .e0, .e0] ∧ o.cel 1 w ((encR (psum rs i)).map C.p) ∧
    sl 0 = vs xs ∧ sl 2 = .s (.c (.ptr 0 0 0 0)) ∧ sl 3 = .s (.c (.ptr 1 w 0 0)) ∧ sl 4 = vn .i64 i) 0 rs.length
    ⟨by omega, hres, g7, rfl, rfl, rfl, rfl⟩ (fun i sl o h => h.1) ?_
  clear g1 g2 g3 g4 g5 g6 g7 g8 g9 hres
  rintro i sl o ⟨hi, hres, hacc, s0, s2, s3, s4⟩
  rw [upd4 s0 s2 s3 s4]
  clear s0 s2 s3 s4
  by_cases hin : i < rs.length
  · obtain ⟨row, hrow⟩ : ∃ row, xs[i]? = some row := ⟨_, List.getElem?_eq_getElem (by omega)⟩
    have hF := hx i row hrow
    have ha := radd_F (ext := ext) (IsF.enc (by have := hs i hi; omega)) hF (hs i hi) (hr i)
    obtain ⟨neg, a, b, he, _⟩ := hF.h
    cases he
    (repeat' first | refine st ?_ | refine s2 (fun _ => ?_) (fun _ => ?_) | refine s4 fun _ _ _ _ => ?_ | fail)
    rw [hl]
    (repeat' first | refine st ?_ | refine s2 (fun _ => ?_) (fun _ => ?_) | refine s4 fun _ _ _ _ => ?_ | fail)
    refine r_iaS rfl rfl (by first | with_reducible exact cself _ | exact nlit _) hrow rfl ?_
    (repeat' first | refine st ?_ | refine s2 (fun _ => ?_) (fun _ => ?_) | refine s4 fun _ _ _ _ => ?_ | fail)
    refine p_callA ha rfl rfl ?_
    (repeat' first | refine st ?_ | refine s2 (fun _ => ?_) (fun _ => ?_) | refine s4 fun _ _ _ _ => ?_ | fail)
    rename_i oA g1 g2 g3
    exact ⟨⟨by omega, by unfold Objs.cel; rw [g2 _ _ (by omega)]; exact hres, g1, rfl, rfl, rfl, rfl⟩, rfl⟩
  · have hie : i = rs.length := by omega
    subst hie
    (repeat' first | refine st ?_ | refine s2 (fun _ => ?_) (fun _ => ?_) | refine s4 fun _ _ _ _ => ?_ | fail)
    rw [hl]
    (repeat' first | refine st ?_ | refine s2 (fun _ => ?_) (fun _ => ?_) | refine s4 fun _ _ _ _ => ?_ | fail)
    exact endsC (.inr rfl) rfl (by assumption) rfl rfl rfl
end Go.Av
