/- A part of the proof (own method: an abstract machine). No condition. -/
import Derived.Test.YthdilnjdkniofaaGreatCvC
namespace Go.Av
open Go
variable {ext : Calls0}

theorem FAs.sz1 {b : List FA} (h : FAs b) (i : Nat) : sz ((rsOf b).getD i 0) < 400 := by
  have := h.sm4 i
  refine sz_le ?_ ?_
  · have e : (4294967296 ^ 4 : Nat) ≤ (4294967296 ^ 4) ^ 40 := Nat.le_self_pow (by omega) _
    generalize ((4294967296 ^ 4 : Nat)) ^ 40 = C at *
    omega
  · have e : (4294967296 ^ 4 : Nat) ≤ (4294967296 ^ 4) ^ 40 := Nat.le_self_pow (by omega) _
    generalize ((4294967296 ^ 4 : Nat)) ^ 40 = C at *
    omega
theorem rbsum_ok {b : List FA} (h : FAs b) : PCall env ext 88 [.c (.sl (b.map FA.row))] (.s (.agg (encR (bsum b)))) := by
  have hl : (b.map FA.row).length = (rsOf b).length := by simp
  have hn := h.1
  have := rsum_F (ext := ext) hl h.isF (fun i hi => by have := psum_sz h.sm4 (show i ≤ 40 by simp at hi; omega); omega) (fun i => by have := h.sz1 i; omega) (by simp; omega)
  have e : (rsOf b).length = b.length := by simp
  rw [e] at this
  exact this
theorem spaceValid_ok {S : List (List FA)} {t : Bool} (hn : S.length ≤ 40) (hS : ∀ (i : Nat) (b : List FA), S[i]? = some b → FAs b)
    (h1 : ∀ (i : Nat) (b : List FA), S[i]? = some b → ¬ bOK b → t = false) (h2 : (∀ (i : Nat) (b : List FA), S[i]? = some b → bOK b) → t = true) :
    PCall env ext 92 [.agg (spc S)] (.s (.c (.bool t))) := by
  have hl : (S.map brow).length = S.length := List.length_map ..
  unfold spc
  refine PCall.walk (env := env) (g := 92) rfl rfl ?_
  (repeat' first | refine st ?_ | refine s2 (fun _ => ?_) (fun _ => ?_) | refine s4 fun _ _ _ _ => ?_ | fail)
  rw [hl]
  (repeat' first | refine st ?_ | refine s2 (fun _ => ?_) (fun _ => ?_) | refine s4 fun _ _ _ _ => ?_ | fail)
  refine w_loopUp (fun i sl o => i ≤ S.length ∧ Hd (∀ (j : Nat) (b : List FA), j < i → S[j]? = some b → bOK b) ∧ sl 12 = vs (S.map brow) ∧ sl 13 = vn .i64 S.length ∧ sl 14 = vn .i64 i) 0 S.length
    ⟨by omega, ⟨fun j f h => absurd h (by omega)⟩, rfl, rfl, rfl⟩ (fun i sl o h => h.1) ?_
  rintro i sl o ⟨hi, hnn, s12, s13, s14⟩
  rw [upd3 s12 s13 s14]
  clear s12 s13 s14
  by_cases hin : i < S.length
  · have hb : S[i]? = some S[i] := List.getElem?_eq_getElem hin
    generalize S[i] = b at hb
    have hfa := hS i b hb
    have hbad := h1 i b hb
    have hst : bOK b → ∀ (j : Nat) (g : List FA), j < i + 1 → S[j]? = some g → bOK g := by
      intro hs j g hj hg
      by_cases hji : j < i
      · exact hnn.h j g hji hg
      · have : j = i := by omega
        subst this
        rw [hb] at hg; cases hg; exact hs
    have hrow : (S.map brow)[i]? = some [.sl (b.map FA.row)] := by rw [List.getElem?_map, hb]; rfl
    have hbl : (b.map FA.row).length = b.length := List.length_map ..
    have hb40 := hfa.1
    clear h1 h2 hnn hS
    by_cases hb16 : b.length ≤ 16
    · (repeat' first | refine st ?_ | refine s2 (fun _ => ?_) (fun _ => ?_) | refine s4 fun _ _ _ _ => ?_ | fail)
      refine r_iaS rfl rfl (by first | with_reducible exact cself _ | exact nlit _) hrow rfl ?_
      (repeat' first | refine st ?_ | refine s2 (fun _ => ?_) (fun _ => ?_) | refine s4 fun _ _ _ _ => ?_ | fail)
      rename_i oA g1 g2 g3 oB g4 g5 g6
      rw [hbl]
      (repeat' first | refine st ?_ | refine s2 (fun _ => ?_) (fun _ => ?_) | refine s4 fun _ _ _ _ => ?_ | fail)
      generalize Objs.nv _ _ = w at *
      refine w_loopUp (fun k sl o => k ≤ b.length ∧ Hd (∀ (j : Nat) (f : FA), j < k → b[j]? = some f → 0 ≤ f.r.num) ∧ o.cel 0 w [.p (.sl (b.map FA.row))] ∧ sl 4 = .s (.c (.ptr 0 w 0 0)) ∧
        sl 12 = vs (S.map brow) ∧ sl 13 = vn .i64 S.length ∧ sl 14 = vn .i64 i ∧ sl 23 = vs (b.map FA.row) ∧ sl 24 = vn .i64 b.length ∧ sl 25 = vn .i64 k) 0 b.length
        ⟨by omega, ⟨fun j f h => absurd h (by omega)⟩, g4, rfl, rfl, rfl, rfl, rfl, rfl, rfl⟩ (fun i sl o h => h.1) ?_
      clear g1 g2 g3 g4 g5 g6
      rintro k sl o ⟨hk, hnk, hc, s4, s12, s13, s14, s23, s24, s25⟩
      rw [upd7 s4 s12 s13 s14 s23 s24 s25]
      clear s4 s12 s13 s14 s23 s24 s25
      by_cases hkn : k < b.length
      · have hf : b[k]? = some b[k] := List.getElem?_eq_getElem hkn
        generalize b[k] = f at hf
        have hstk : 0 ≤ f.r.num → ∀ (j : Nat) (g : FA), j < k + 1 → b[j]? = some g → 0 ≤ g.r.num := by
          intro hs j g hj hg
          by_cases hji : j < k
          · exact hnk.h j g hji hg
          · have : j = k := by omega
            subst this
            rw [hf] at hg; cases hg; exact hs
        have hF : IsF (.agg f.row) f.r := by obtain ⟨d1, d2, d3⟩ := hfa.2 k f hf; exact FA.isF d1 d2 d3
        have hsg := rsign_F (ext := ext) hF
        have e1 : f.r.num < 0 → sgn f.r = -1 := sgn_neg
        have e2 : 0 ≤ f.r.num → 0 ≤ sgn f.r := sgn_nn
        obtain ⟨neg, fa, fb⟩ := f
        have hrk : (b.map FA.row)[k]? = some [.bool neg, .sl (encK .u32 fa), .sl (encK .u32 fb)] := by rw [List.getElem?_map, hf]; rfl
        generalize hr : (FA.mk neg fa fb).r = r at *
        by_cases hneg : r.num < 0
        · rw [hbad (fun h => by have := h.p k _ hf; rw [hr] at this; omega)]
          have e1 := e1 hneg
          clear hst hbad hstk hnk
          (repeat' first | refine st ?_ | refine s2 (fun _ => ?_) (fun _ => ?_) | refine s4 fun _ _ _ _ => ?_ | fail)
          refine r_iaS rfl rfl (by first | with_reducible exact cself _ | exact nlit _) hrk rfl ?_
          (repeat' first | refine st ?_ | refine s2 (fun _ => ?_) (fun _ => ?_) | refine s4 fun _ _ _ _ => ?_ | fail)
          refine r_call1 hsg rfl rfl ?_
          (repeat' first | refine st ?_ | refine s2 (fun _ => ?_) (fun _ => ?_) | refine s4 fun _ _ _ _ => ?_ | fail)
          exact ends1 rfl rfl rfl
        · have e2 := e2 (by omega)
          have hstk := hstk (by omega)
          clear hbad
          (repeat' first | refine st ?_ | refine s2 (fun _ => ?_) (fun _ => ?_) | refine s4 fun _ _ _ _ => ?_ | fail)
          refine r_iaS rfl rfl (by first | with_reducible exact cself _ | exact nlit _) hrk rfl ?_
          (repeat' first | refine st ?_ | refine s2 (fun _ => ?_) (fun _ => ?_) | refine s4 fun _ _ _ _ => ?_ | fail)
          rename_i oA g1 g2 g3 oB g4 g5 g6
          refine r_call1 hsg rfl rfl ?_
          (repeat' first | refine st ?_ | refine s2 (fun _ => ?_) (fun _ => ?_) | refine s4 fun _ _ _ _ => ?_ | fail)
          exact ⟨⟨by omega, ⟨hstk⟩, by unfold Objs.cel; rw [g5 _ _ (by omega), g2 _ _ (by omega)]; exact hc, rfl, rfl, rfl, rfl, rfl, rfl, rfl⟩, rfl⟩
      · have hke : k = b.length := by omega
        subst hke
        have hrm := rbsum_ok (ext := ext) hfa
        have hz := compl_sz hfa.sm4 hb40
        have hz2 := psum_sz hfa.sm4 hb40
        have hneg1 : bsum b - 1 = -(1 - bsum b) := by rw [Rat.neg_sub]
        have hcm := rcmp_F (ext := ext) (IsF.enc (r := bsum b) (by unfold bsum; omega)) (IsF.enc (r := 1) (by rw [sz_one]; omega)) (by unfold bsum; omega) (by rw [sz_one]; omega) (by rw [hneg1, sz_neg]; unfold bsum; omega)
        have e0 : (bsum b - 1).num = -(1 - bsum b).num := by rw [hneg1]; rfl
        have e1 : 0 < (bsum b - 1).num → sgn (bsum b - 1) = 1 := fun h => by unfold sgn; rw [if_neg (by omega), if_neg (by omega)]
        have e2 : (bsum b - 1).num ≤ 0 → sgn (bsum b - 1) ≤ 0 := fun h => by unfold sgn; split <;> (try split) <;> omega
        by_cases hneg : (1 - bsum b).num < 0
        · rw [hbad (fun h => by have := h.s; omega)]
          have e1 := e1 (by omega)
          clear hst hbad hnk
          (repeat' first | refine st ?_ | refine s2 (fun _ => ?_) (fun _ => ?_) | refine s4 fun _ _ _ _ => ?_ | fail)
          refine r_callA hrm rfl rfl ?_
          (repeat' first | refine st ?_ | refine s2 (fun _ => ?_) (fun _ => ?_) | refine s4 fun _ _ _ _ => ?_ | fail)
          refine r_callA rone_ok rfl rfl ?_
          (repeat' first | refine st ?_ | refine s2 (fun _ => ?_) (fun _ => ?_) | refine s4 fun _ _ _ _ => ?_ | fail)
          refine r_call1 hcm rfl rfl ?_
          (repeat' first | refine st ?_ | refine s2 (fun _ => ?_) (fun _ => ?_) | refine s4 fun _ _ _ _ => ?_ | fail)
          exact ends1 rfl rfl rfl
        · have e2 := e2 (by omega)
          have hst := hst ⟨hb16, fun j f hf => hnk.h j f (List.getElem?_eq_some_iff.1 hf).1 hf, by omega⟩
          clear hbad hnk
          (repeat' first | refine st ?_ | refine s2 (fun _ => ?_) (fun _ => ?_) | refine s4 fun _ _ _ _ => ?_ | fail)
          refine r_callA hrm rfl rfl ?_
          (repeat' first | refine st ?_ | refine s2 (fun _ => ?_) (fun _ => ?_) | refine s4 fun _ _ _ _ => ?_ | fail)
          refine r_callA rone_ok rfl rfl ?_
          (repeat' first | refine st ?_ | refine s2 (fun _ => ?_) (fun _ => ?_) | refine s4 fun _ _ _ _ => ?_ | fail)
          refine r_call1 hcm rfl rfl ?_
          (repeat' first | refine st ?_ | refine s2 (fun _ => ?_) (fun _ => ?_) | refine s4 fun _ _ _ _ => ?_ | fail)
          exact ⟨⟨by omega, ⟨hst⟩, rfl, rfl, rfl⟩, rfl⟩
    · rw [hbad (fun h => hb16 h.n)]
      clear hst hbad
      (repeat' first | refine st ?_ | refine s2 (fun _ => ?_) (fun _ => ?_) | refine s4 fun _ _ _ _ => ?_ | fail)
      refine r_iaS rfl rfl (by first | with_reducible exact cself _ | exact nlit _) hrow rfl ?_
      (repeat' first | refine st ?_ | refine s2 (fun _ => ?_) (fun _ => ?_) | refine s4 fun _ _ _ _ => ?_ | fail)
      rw [hbl]
      (repeat' first | refine st ?_ | refine s2 (fun _ => ?_) (fun _ => ?_) | refine s4 fun _ _ _ _ => ?_ | fail)
      exact ends1 rfl rfl rfl
  · have hie : i = S.length := by omega
    rw [h2 (fun j f hf => hnn.h j f (by rw [hie]; exact (List.getElem?_eq_some_iff.1 hf).1) hf)]
    (repeat' first | refine st ?_ | refine s2 (fun _ => ?_) (fun _ => ?_) | refine s4 fun _ _ _ _ => ?_ | fail)
    exact ends1 rfl rfl rfl

/-- The number of worlds of the first blocks. -/
def wN (S : List (List FA)) : Nat → Nat
  | 0 => 1
  | i + 1 => wN S i * (1 + (S.getD i []).length)
/-- What Light asks of the i-th block. -/
structure LiB (S : List (List FA)) (most i : Nat) (b : List FA) : Prop where
  n : b.length ≤ 40
  s : ∀ (j : Nat) (f : FA), b[j]? = some f → f.small
  w : wN S (i + 1) ≤ most
theorem light_ok {S : List (List FA)} {most : Nat} {t : Bool} (hm : most ≤ 1125899906842624) (h0 : ¬ S.length ≤ 40 → t = false)
    (h1 : ∀ (i : Nat) (b : List FA), S[i]? = some b → ¬ LiB S most i b → t = false) (h2 : S.length ≤ 40 → (∀ (i : Nat) (b : List FA), S[i]? = some b → LiB S most i b) → t = true) (hm1 : 1 ≤ most) :
    PCall env ext 1 [.agg (spc S), .c (.int .i64 (most : Nat))] (.s (.c (.bool t))) := by
  have hl : (S.map brow).length = S.length := List.length_map ..
  unfold spc
  by_cases hS : S.length ≤ 40
  · refine PCall.walk (env := env) (g := 1) rfl rfl ?_
    (repeat' first | refine st ?_ | refine s2 (fun _ => ?_) (fun _ => ?_) | refine s4 fun _ _ _ _ => ?_ | fail)
    rw [hl]
    (repeat' first | refine st ?_ | refine s2 (fun _ => ?_) (fun _ => ?_) | refine s4 fun _ _ _ _ => ?_ | fail)
    refine w_loopUp (fun i sl o => i ≤ S.length ∧ Hd (∀ (j : Nat) (b : List FA), j < i → S[j]? = some b → LiB S most j b) ∧ wN S i ≤ most ∧ sl 1 = vn .i64 most ∧ sl 5 = vn .i64 (wN S i) ∧ sl 13 = vs (S.map brow) ∧ sl 14 = vn .i64 S.length ∧ sl 15 = vn .i64 i) 0 S.length
      ⟨by omega, ⟨fun j f h => absurd h (by omega)⟩, hm1, rfl, rfl, rfl, rfl, rfl⟩ (fun i sl o h => h.1) ?_
    rintro i sl o ⟨hi, hnn, hw, s1, s5, s13, s14, s15⟩
    rw [upd5 s1 s5 s13 s14 s15]
    clear s1 s5 s13 s14 s15
    by_cases hin : i < S.length
    · have hb : S[i]? = some S[i] := List.getElem?_eq_getElem hin
      generalize S[i] = b at hb
      have hbad := h1 i b hb
      have hst : LiB S most i b → ∀ (j : Nat) (g : List FA), j < i + 1 → S[j]? = some g → LiB S most j g := by
        intro hs j g hj hg
        by_cases hji : j < i
        · exact hnn.h j g hji hg
        · have : j = i := by omega
          subst this
          rw [hb] at hg; cases hg; exact hs
      have hrow : (S.map brow)[i]? = some [.sl (b.map FA.row)] := by rw [List.getElem?_map, hb]; rfl
      have hbl : (b.map FA.row).length = b.length := List.length_map ..
      have hw1 : wN S (i + 1) = wN S i * (1 + b.length) := by
        show wN S i * (1 + (S.getD i []).length) = _
        rw [List.getD_eq_getElem?_getD, hb]; rfl
      clear h0 h1 h2 hnn
      by_cases hb40 : b.length ≤ 40
      · have hov : wN S i * (1 + b.length) ≤ 1125899906842624 * 41 := Nat.mul_le_mul (by omega) (by omega)
        have hov : wN S i * (1 + b.length) < 9223372036854775808 := by omega
        by_cases hsm : ∀ (j : Nat) (f : FA), b[j]? = some f → f.small
        · have hp := smallProbs_ok (ext := ext) (fs := b) (t := true) (by omega) (fun i f h hs => absurd (hsm i f h) hs) (fun _ => rfl)
          by_cases hwm : wN S i * (1 + b.length) ≤ most
          · have hst := hst ⟨hb40, hsm, by omega⟩
            clear hbad
            (repeat' first | refine st ?_ | refine s2 (fun _ => ?_) (fun _ => ?_) | refine s4 fun _ _ _ _ => ?_ | fail)
            refine r_iaS rfl rfl (by first | with_reducible exact cself _ | exact nlit _) hrow rfl ?_
            (repeat' first | refine st ?_ | refine s2 (fun _ => ?_) (fun _ => ?_) | refine s4 fun _ _ _ _ => ?_ | fail)
            rw [hbl]
            (repeat' first | refine st ?_ | refine s2 (fun _ => ?_) (fun _ => ?_) | refine s4 fun _ _ _ _ => ?_ | fail)
            refine r_call1 hp rfl rfl ?_
            (repeat' first | refine st ?_ | refine s2 (fun _ => ?_) (fun _ => ?_) | refine s4 fun _ _ _ _ => ?_ | fail)
            rw [hbl]
            (repeat' first | refine st ?_ | refine s2 (fun _ => ?_) (fun _ => ?_) | refine s4 fun _ _ _ _ => ?_ | fail)
            exact ⟨⟨by omega, ⟨hst⟩, by omega, rfl, by rw [hw1]; rfl, rfl, rfl, rfl⟩, rfl⟩
          · rw [hbad (fun h => by have := h.w; omega)]
            clear hbad hst
            (repeat' first | refine st ?_ | refine s2 (fun _ => ?_) (fun _ => ?_) | refine s4 fun _ _ _ _ => ?_ | fail)
            refine r_iaS rfl rfl (by first | with_reducible exact cself _ | exact nlit _) hrow rfl ?_
            (repeat' first | refine st ?_ | refine s2 (fun _ => ?_) (fun _ => ?_) | refine s4 fun _ _ _ _ => ?_ | fail)
            rw [hbl]
            (repeat' first | refine st ?_ | refine s2 (fun _ => ?_) (fun _ => ?_) | refine s4 fun _ _ _ _ => ?_ | fail)
            refine r_call1 hp rfl rfl ?_
            (repeat' first | refine st ?_ | refine s2 (fun _ => ?_) (fun _ => ?_) | refine s4 fun _ _ _ _ => ?_ | fail)
            rw [hbl]
            (repeat' first | refine st ?_ | refine s2 (fun _ => ?_) (fun _ => ?_) | refine s4 fun _ _ _ _ => ?_ | fail)
            exact ends1 rfl rfl rfl
        · have hp := smallProbs_ok (ext := ext) (fs := b) (t := false) (by omega) (fun i f h hs => rfl) (fun h => absurd h hsm)
          rw [hbad (fun h => hsm h.s)]
          clear hbad hst
          (repeat' first | refine st ?_ | refine s2 (fun _ => ?_) (fun _ => ?_) | refine s4 fun _ _ _ _ => ?_ | fail)
          refine r_iaS rfl rfl (by first | with_reducible exact cself _ | exact nlit _) hrow rfl ?_
          (repeat' first | refine st ?_ | refine s2 (fun _ => ?_) (fun _ => ?_) | refine s4 fun _ _ _ _ => ?_ | fail)
          rw [hbl]
          (repeat' first | refine st ?_ | refine s2 (fun _ => ?_) (fun _ => ?_) | refine s4 fun _ _ _ _ => ?_ | fail)
          refine r_call1 hp rfl rfl ?_
          (repeat' first | refine st ?_ | refine s2 (fun _ => ?_) (fun _ => ?_) | refine s4 fun _ _ _ _ => ?_ | fail)
          exact ends1 rfl rfl rfl
      · rw [hbad (fun h => hb40 h.n)]
        clear hbad hst
        (repeat' first | refine st ?_ | refine s2 (fun _ => ?_) (fun _ => ?_) | refine s4 fun _ _ _ _ => ?_ | fail)
        refine r_iaS rfl rfl (by first | with_reducible exact cself _ | exact nlit _) hrow rfl ?_
        (repeat' first | refine st ?_ | refine s2 (fun _ => ?_) (fun _ => ?_) | refine s4 fun _ _ _ _ => ?_ | fail)
        rw [hbl]
        (repeat' first | refine st ?_ | refine s2 (fun _ => ?_) (fun _ => ?_) | refine s4 fun _ _ _ _ => ?_ | fail)
        exact ends1 rfl rfl rfl
    · have hie : i = S.length := by omega
      rw [h2 hS (fun j f hf => hnn.h j f (by rw [hie]; exact (List.getElem?_eq_some_iff.1 hf).1) hf)]
      (repeat' first | refine st ?_ | refine s2 (fun _ => ?_) (fun _ => ?_) | refine s4 fun _ _ _ _ => ?_ | fail)
      exact ends1 rfl rfl rfl
  · rw [h0 hS]
    refine PCall.walk (env := env) (g := 1) rfl rfl ?_
    (repeat' first | refine st ?_ | refine s2 (fun _ => ?_) (fun _ => ?_) | refine s4 fun _ _ _ _ => ?_ | fail)
    rw [hl]
    (repeat' first | refine st ?_ | refine s2 (fun _ => ?_) (fun _ => ?_) | refine s4 fun _ _ _ _ => ?_ | fail)
    exact ends1 rfl rfl rfl
end Go.Av
