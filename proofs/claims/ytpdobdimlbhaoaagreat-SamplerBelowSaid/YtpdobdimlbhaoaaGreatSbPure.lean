/- A part of the proof (own method: an abstract machine). No condition. -/
import Derived.Test.YtpdobdimlbhaoaaGreatBsA
namespace Go.Av
open Go
variable {ext : Calls0}

theorem sb_pure (hA : PCall env ext 159 [] (.s (.c (.bool true)))) {nl bs : List Nat} (hn : Dg nl) (hb : Db bs) : PCall env ext 162 [pN nl, pB bs] (.s (.c (.bool true))) := by
  refine PCall.walk (env := env) (g := 162) rfl rfl ?_
  by_cases h1 : 20 < nl.length
  · (repeat' first | refine st ?_ | refine s2 (fun _ => ?_) (fun _ => ?_) | refine s4 fun _ _ _ _ => ?_ | fail)
    refine r_call1 hA rfl rfl ?_
    (repeat' first | refine st ?_ | refine s2 (fun _ => ?_) (fun _ => ?_) | refine s4 fun _ _ _ _ => ?_ | fail)
    exact ends1 rfl rfl rfl
  by_cases h2 : 200 < bs.length
  · (repeat' first | refine st ?_ | refine s2 (fun _ => ?_) (fun _ => ?_) | refine s4 fun _ _ _ _ => ?_ | fail)
    refine r_call1 hA rfl rfl ?_
    (repeat' first | refine st ?_ | refine s2 (fun _ => ?_) (fun _ => ?_) | refine s4 fun _ _ _ _ => ?_ | fail)
    exact ends1 rfl rfl rfl
  have l1 := ofN_len_le_of hn
  by_cases h0 : val nl = 0
  · (repeat' first | refine st ?_ | refine s2 (fun _ => ?_) (fun _ => ?_) | refine s4 fun _ _ _ _ => ?_ | fail)
    refine r_call3 (Below0_ok hn (by omega) (by omega) h0) rfl rfl ?_
    (repeat' first | refine st ?_ | refine s2 (fun _ => ?_) (fun _ => ?_) | refine s4 fun _ _ _ _ => ?_ | fail)
    refine r_call1 (natNorm_ok hn (by omega)) rfl rfl ?_
    rw [h0, ofN_zero]
    (repeat' first | refine st ?_ | refine s2 (fun _ => ?_) (fun _ => ?_) | refine s4 fun _ _ _ _ => ?_ | fail)
    refine r_call1 hA rfl rfl ?_
    (repeat' first | refine st ?_ | refine s2 (fun _ => ?_) (fun _ => ?_) | refine s4 fun _ _ _ _ => ?_ | fail)
    exact ends1 rfl rfl rfl
  · have hp := Below_ok (ext := ext) hn (by omega) hb (show bs.length ≤ 4096 by omega) (show 0 < val nl by omega)
    have hr := refBelow_ok (ext := ext) hn (by omega) hb (show bs.length ≤ 4096 by omega) (show 0 < val nl by omega)
    have l3 : 0 < (ofN (val nl)).length := by
      apply Nat.pos_of_ne_zero
      intro h; exact h0 (ofN_eq_nil.1 (List.eq_nil_of_length_eq_zero h))
    have hrl : ∀ r u, bspec (val nl) (256 ^ bk (val nl) / val nl * val nl) (bk (val nl)) bs (bs.length + 1) 0 = some (r, u) → r < val nl := by
      have : ∀ f u0 r u, bspec (val nl) (256 ^ bk (val nl) / val nl * val nl) (bk (val nl)) bs f u0 = some (r, u) → r < val nl := by
        intro f
        induction f with
        | zero => intro u0 r u h; cases h
        | succ f ih =>
          intro u0 r u h
          simp only [bspec] at h
          split at h
          · cases h
          · split at h
            · cases h; exact Nat.mod_lt _ (by omega)
            · exact ih _ _ _ h
      exact fun r u h => this _ _ _ _ h
    generalize bspec (val nl) (256 ^ bk (val nl) / val nl * val nl) (bk (val nl)) bs (bs.length + 1) 0 = R at *
    cases R with
    | none =>
      have hs := natSame_ok (ext := ext) (A := []) (B := []) (by simp) (by simp)
      rw [decide_eq_true rfl] at hs
      (repeat' first | refine st ?_ | refine s2 (fun _ => ?_) (fun _ => ?_) | refine s4 fun _ _ _ _ => ?_ | fail)
      refine r_call3 hp rfl rfl ?_
      (repeat' first | refine st ?_ | refine s2 (fun _ => ?_) (fun _ => ?_) | refine s4 fun _ _ _ _ => ?_ | fail)
      refine r_call1 (natNorm_ok hn (by omega)) rfl rfl ?_
      (repeat' first | refine st ?_ | refine s2 (fun _ => ?_) (fun _ => ?_) | refine s4 fun _ _ _ _ => ?_ | fail)
      refine r_call3 hr rfl rfl ?_
      (repeat' first | refine st ?_ | refine s2 (fun _ => ?_) (fun _ => ?_) | refine s4 fun _ _ _ _ => ?_ | fail)
      refine r_call1 hs rfl rfl ?_
      (repeat' first | refine st ?_ | refine s2 (fun _ => ?_) (fun _ => ?_) | refine s4 fun _ _ _ _ => ?_ | fail)
      refine r_call1 hA rfl rfl ?_
      (repeat' first | refine st ?_ | refine s2 (fun _ => ?_) (fun _ => ?_) | refine s4 fun _ _ _ _ => ?_ | fail)
      exact ends1 rfl rfl rfl
    | some q =>
      obtain ⟨r, u⟩ := q
      have hlt := hrl r u rfl
      have lr := ofN_len_mono (Nat.le_of_lt hlt)
      have hs := natSame_ok (ext := ext) (A := ofN r) (B := ofN r) (by omega) (by omega)
      rw [decide_eq_true rfl] at hs
      (repeat' first | refine st ?_ | refine s2 (fun _ => ?_) (fun _ => ?_) | refine s4 fun _ _ _ _ => ?_ | fail)
      refine r_call3 hp rfl rfl ?_
      (repeat' first | refine st ?_ | refine s2 (fun _ => ?_) (fun _ => ?_) | refine s4 fun _ _ _ _ => ?_ | fail)
      refine r_call1 (natNorm_ok hn (by omega)) rfl rfl ?_
      (repeat' first | refine st ?_ | refine s2 (fun _ => ?_) (fun _ => ?_) | refine s4 fun _ _ _ _ => ?_ | fail)
      refine r_call3 hr rfl rfl ?_
      (repeat' first | refine st ?_ | refine s2 (fun _ => ?_) (fun _ => ?_) | refine s4 fun _ _ _ _ => ?_ | fail)
      refine r_call1 hs rfl rfl ?_
      (repeat' first | refine st ?_ | refine s2 (fun _ => ?_) (fun _ => ?_) | refine s4 fun _ _ _ _ => ?_ | fail)
      refine r_call1 hA rfl rfl ?_
      (repeat' first | refine st ?_ | refine s2 (fun _ => ?_) (fun _ => ?_) | refine s4 fun _ _ _ _ => ?_ | fail)
      exact ends1 rfl rfl rfl
end Go.Av
