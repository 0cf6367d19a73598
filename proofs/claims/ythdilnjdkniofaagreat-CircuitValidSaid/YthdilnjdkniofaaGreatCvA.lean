/- A part of the proof (own method: an abstract machine). No condition. -/
import Derived.Test.YthdilnjdkniofaaGreatRaE
namespace Go.Av
open Go
variable {ext : Calls0}

theorem mkRat_le {n : Int} {d : Nat} : (mkRat n d).num.natAbs ≤ n.natAbs ∧ (mkRat n d).den ≤ max d 1 := by
  have e : mkRat n d = qR (decide (n < 0)) n.natAbs d := by
    unfold qR sg
    by_cases h : n < 0
    · rw [decide_eq_true h]; show _ = mkRat (-((n.natAbs : Nat) : Int)) d; congr 1; omega
    · rw [decide_eq_false h]; show _ = mkRat ((n.natAbs : Nat) : Int) d; congr 1; omega
  rw [e]; exact qR_le
theorem add_le (r s : Rat) : (r + s).num.natAbs ≤ r.num.natAbs * s.den + s.num.natAbs * r.den ∧ (r + s).den ≤ r.den * s.den := by
  rw [Rat.add_def']
  have h := mkRat_le (n := r.num * s.den + s.num * r.den) (d := r.den * s.den)
  have h1 : (r.num * s.den + s.num * r.den).natAbs ≤ r.num.natAbs * s.den + s.num.natAbs * r.den := by
    refine Nat.le_trans (Int.natAbs_add_le _ _) ?_
    rw [Int.natAbs_mul, Int.natAbs_mul]; simp
  have h2 : 0 < r.den * s.den := Nat.mul_pos r.den_pos s.den_pos
  omega
/-- A list of numbers of at most four digits. -/
def Sm4 (rs : List Rat) : Prop := ∀ i, (rs.getD i 0).num.natAbs < 4294967296 ^ 4 ∧ (rs.getD i 0).den < 4294967296 ^ 4
theorem psum_le {rs : List Rat} (h : Sm4 rs) : ∀ i, (psum rs i).num.natAbs ≤ i * (4294967296 ^ 4) ^ i ∧ (psum rs i).den ≤ (4294967296 ^ 4) ^ i
  | 0 => by simp [psum]
  | i + 1 => by
    have ih := psum_le h i
    have h1 := h i
    have h2 := add_le (psum rs i) (rs.getD i 0)
    show (psum rs i + rs.getD i 0).num.natAbs ≤ _ ∧ (psum rs i + rs.getD i 0).den ≤ _
    generalize (4294967296 ^ 4 : Nat) = B at *
    generalize psum rs i = p at *
    generalize rs.getD i 0 = q at *
    rw [Nat.pow_succ]
    have a1 : p.num.natAbs * q.den ≤ i * B ^ i * B := Nat.mul_le_mul ih.1 (by omega)
    have a2 : q.num.natAbs * p.den ≤ B * B ^ i := Nat.mul_le_mul (by omega) ih.2
    have a3 : p.den * q.den ≤ B ^ i * B := Nat.mul_le_mul ih.2 (by omega)
    rw [Nat.mul_comm B] at a2
    rw [Nat.add_mul, ← Nat.mul_assoc]
    omega
theorem sz_le {r : Rat} (h1 : r.num.natAbs ≤ 100 * (4294967296 ^ 4) ^ 40) (h2 : r.den ≤ (4294967296 ^ 4) ^ 40) : sz r < 400 := by
  have e : ((4294967296 ^ 4 : Nat)) ^ 40 < 4294967296 ^ 161 := by rw [← Nat.pow_mul]; exact Nat.pow_lt_pow_right (by decide) (by decide)
  have e2 : 100 * ((4294967296 ^ 4 : Nat)) ^ 40 < 4294967296 ^ 162 := by
    rw [Nat.pow_succ 4294967296 161]
    generalize 4294967296 ^ 161 = A at *
    generalize ((4294967296 ^ 4 : Nat)) ^ 40 = C at *
    omega
  have h4 : (ofN r.num.natAbs).length ≤ 162 := ofN_len_le (by
    generalize 4294967296 ^ 162 = A at *
    generalize ((4294967296 ^ 4 : Nat)) ^ 40 = C at *
    omega)
  have h5 : (ofN r.den).length ≤ 161 := ofN_len_le (by
    generalize 4294967296 ^ 161 = A at *
    generalize ((4294967296 ^ 4 : Nat)) ^ 40 = C at *
    omega)
  unfold sz
  omega
theorem psum_bd {rs : List Rat} (h : Sm4 rs) {i : Nat} (hi : i ≤ 40) : (psum rs i).num.natAbs ≤ 40 * (4294967296 ^ 4) ^ 40 ∧ (psum rs i).den ≤ (4294967296 ^ 4) ^ 40 := by
  have h1 := psum_le h i
  have h2 : (4294967296 ^ 4) ^ i ≤ (4294967296 ^ 4 : Nat) ^ 40 := Nat.pow_le_pow_right (by decide) hi
  have h3 : i * (4294967296 ^ 4) ^ i ≤ 40 * (4294967296 ^ 4 : Nat) ^ 40 := Nat.mul_le_mul hi h2
  generalize ((4294967296 ^ 4 : Nat)) ^ 40 = C at *
  omega
theorem psum_sz {rs : List Rat} (h : Sm4 rs) {i : Nat} (hi : i ≤ 40) : sz (psum rs i) < 400 := by
  have := psum_bd h hi
  exact sz_le (by
    generalize ((4294967296 ^ 4 : Nat)) ^ 40 = C at *
    omega) this.2
theorem compl_sz {rs : List Rat} (h : Sm4 rs) {i : Nat} (hi : i ≤ 40) : sz (1 - psum rs i) < 400 := by
  have h1 := psum_bd h hi
  have h2 := add_le 1 (-psum rs i)
  have e1 : (-psum rs i).num = -(psum rs i).num := rfl
  have e2 : (-psum rs i).den = (psum rs i).den := rfl
  have e3 : (1 : Rat).num.natAbs = 1 := rfl
  have e4 : (1 : Rat).den = 1 := rfl
  rw [← Rat.sub_eq_add_neg, e1, e2, e3, e4, Int.natAbs_neg, Nat.one_mul, Nat.mul_one] at h2
  refine sz_le ?_ ?_
  · generalize ((4294967296 ^ 4 : Nat)) ^ 40 = C at *
    omega
  · generalize ((4294967296 ^ 4 : Nat)) ^ 40 = C at *
    omega

/-- A block of fractions as a row. -/
def brow (b : List FA) : List PC := [.sl (b.map FA.row)]
/-- Digits are digits, numbers are small. -/
def FAs (b : List FA) : Prop := b.length ≤ 40 ∧ ∀ (i : Nat) (f : FA), b[i]? = some f → Dg f.a ∧ Dg f.b ∧ f.small
abbrev rsOf (b : List FA) : List Rat := b.map FA.r
theorem rs_get (b : List FA) (i : Nat) : (rsOf b).getD i 0 = ((b[i]?).map FA.r).getD 0 := by simp [List.getD]
theorem FAs.sm4 {b : List FA} (h : FAs b) : Sm4 (rsOf b) := by
  intro i
  rw [rs_get]
  cases hfi : b[i]? with
  | none => exact ⟨by decide, by decide⟩
  | some f =>
    obtain ⟨d1, d2, s⟩ := h.2 i f hfi
    exact FA.small_r d1 d2 s
theorem FAs.isF {b : List FA} (h : FAs b) (i : Nat) (row : List PC) (hr : (b.map FA.row)[i]? = some row) : IsF (.agg row) ((rsOf b).getD i 0) := by
  rw [List.getElem?_map] at hr
  rw [rs_get]
  cases hfi : b[i]? with
  | none => rw [hfi] at hr; cases hr
  | some f =>
    rw [hfi] at hr
    cases hr
    obtain ⟨d1, d2, s⟩ := h.2 i f hfi
    exact FA.isF d1 d2 s
/-- The sum of a block. -/
def bsum (b : List FA) : Rat := psum (rsOf b) b.length
theorem bsum_ok {b : List FA} (h : FAs b) : PCall env ext 32 [.c (.sl (b.map FA.row))] (.s (.agg (encR (bsum b)))) := by
  have hl : (b.map FA.row).length = (rsOf b).length := by simp
  have hn := h.1
  have := sum_F (ext := ext) hl h.isF (fun i hi => by have := psum_sz h.sm4 (show i ≤ 40 by simp at hi; omega); omega) (by simp; omega)
  have e : (rsOf b).length = b.length := by simp
  rw [e] at this
  exact this
theorem remainder_ok {b : List FA} (h : FAs b) : PCall env ext 36 [.agg (brow b)] (.s (.agg (encR (1 - bsum b)))) := by
  have hn := h.1
  have hz := psum_sz h.sm4 hn
  have h1 := bsum_ok (ext := ext) h
  have h2 := compl_F (ext := ext) (IsF.enc (r := bsum b) (by unfold bsum; omega)) (by unfold bsum; omega)
  unfold brow
  refine PCall.walk (env := env) (g := 36) rfl rfl ?_
  (repeat' first | refine st ?_ | refine s2 (fun _ => ?_) (fun _ => ?_) | refine s4 fun _ _ _ _ => ?_ | fail)
  refine r_callA h1 rfl rfl ?_
  (repeat' first | refine st ?_ | refine s2 (fun _ => ?_) (fun _ => ?_) | refine s4 fun _ _ _ _ => ?_ | fail)
  refine r_callA h2 rfl rfl ?_
  (repeat' first | refine st ?_ | refine s2 (fun _ => ?_) (fun _ => ?_) | refine s4 fun _ _ _ _ => ?_ | fail)
  exact endsC (.inr rfl) rfl (by assumption) rfl rfl rfl
/-- A space as a struct. -/
def spc (S : List (List FA)) : List PC := [.sl (S.map brow)]
/-- A block is valid. -/
structure bOK (b : List FA) : Prop where
  n : b.length ≤ 16
  p : ∀ (i : Nat) (f : FA), b[i]? = some f → 0 ≤ f.r.num
  s : 0 ≤ (1 - bsum b).num
theorem wvalid_ok {S : List (List FA)} {t : Bool} (hn : S.length ≤ 40) (hS : ∀ (i : Nat) (b : List FA), S[i]? = some b → FAs b)
    (h1 : ∀ (i : Nat) (b : List FA), S[i]? = some b → ¬ bOK b → t = false) (h2 : (∀ (i : Nat) (b : List FA), S[i]? = some b → bOK b) → t = true) :
    PCall env ext 37 [.agg (spc S)] (.s (.c (.bool t))) := by
  have hl : (S.map brow).length = S.length := List.length_map ..
  unfold spc
  refine PCall.walk (env := env) (g := 37) rfl rfl ?_
  (repeat' first | refine st ?_ | refine s2 (fun _ => ?_) (fun _ => ?_) | refine s4 fun _ _ _ _ => ?_ | fail)
  rw [hl]
  (repeat' first | refine st ?_ | refine s2 (fun _ => ?_) (fun _ => ?_) | refine s4 fun _ _ _ _ => ?_ | fail)
  refine w_loopUp (fun i sl o => i ≤ S.length ∧ Hd (∀ (j : Nat) (b : List FA), j < i → S[j]? = some b → bOK b) ∧ sl 12 = vs (S.map brow) ∧ sl 13 = vn .i64 S.length ∧ sl 14 = vn .i64 i) 0 S.length
    ⟨by omega, ⟨fun j f h => absurd h (by omega)⟩, rfl, rfl, rfl⟩ (fun i sl o h => h.1) ?_
  rintro i sl o ⟨hi, hnn, s12, s13, s14⟩
  rw [upd3 s12 s13 s14]
  clear s12 s13 s14
  by_cases hin : i < S.length
  · have hb : S[i]? = some S[i] := List.getElem?_eq_getElem hin
    generalize S[i] = b at hb
    have hfa := hS i b hb
    have hbad := h1 i b hb
    have hst : bOK b → ∀ (j : Nat) (g : List FA), j < i + 1 → S[j]? = some g → bOK g := by
      intro hs j g hj hg
      by_cases hji : j < i
      · exact hnn.h j g hji hg
      · have : j = i := by omega
        subst this
        rw [hb] at hg; cases hg; exact hs
    have hrow : (S.map brow)[i]? = some [.sl (b.map FA.row)] := by rw [List.getElem?_map, hb]; rfl
    have hbl : (b.map FA.row).length = b.length := List.length_map ..
    have hb40 := hfa.1
    clear h1 h2 hnn hS
    by_cases hb16 : b.length ≤ 16
    · (repeat' first | refine st ?_ | refine s2 (fun _ => ?_) (fun _ => ?_) | refine s4 fun _ _ _ _ => ?_ | fail)
      refine r_iaS rfl rfl (by first | with_reducible exact cself _ | exact nlit _) hrow rfl ?_
      (repeat' first | refine st ?_ | refine s2 (fun _ => ?_) (fun _ => ?_) | refine s4 fun _ _ _ _ => ?_ | fail)
      rename_i oA g1 g2 g3 oB g4 g5 g6
      rw [hbl]
      (repeat' first | refine st ?_ | refine s2 (fun _ => ?_) (fun _ => ?_) | refine s4 fun _ _ _ _ => ?_ | fail)
      generalize Objs.nv _ _ = w at *
      refine w_loopUp (fun k sl o => k ≤ b.length ∧ Hd (∀ (j : Nat) (f : FA), j < k → b[j]? = some f → 0 ≤ f.r.num) ∧ o.cel 0 w [.p (.sl (b.map FA.row))] ∧ sl 4 = .s (.c (.ptr 0 w 0 0)) ∧
        sl 12 = vs (S.map brow) ∧ sl 13 = vn .i64 S.length ∧ sl 14 = vn .i64 i ∧ sl 23 = vs (b.map FA.row) ∧ sl 24 = vn .i64 b.length ∧ sl 25 = vn .i64 k) 0 b.length
        ⟨by omega, ⟨fun j f h => absurd h (by omega)⟩, g4, rfl, rfl, rfl, rfl, rfl, rfl, rfl⟩ (fun i sl o h => h.1) ?_
      clear g1 g2 g3 g4 g5 g6
      rintro k sl o ⟨hk, hnk, hc, s4, s12, s13, s14, s23, s24, s25⟩
      rw [upd7 s4 s12 s13 s14 s23 s24 s25]
      clear s4 s12 s13 s14 s23 s24 s25
      by_cases hkn : k < b.length
      · have hf : b[k]? = some b[k] := List.getElem?_eq_getElem hkn
        generalize b[k] = f at hf
        have hstk : 0 ≤ f.r.num → ∀ (j : Nat) (g : FA), j < k + 1 → b[j]? = some g → 0 ≤ g.r.num := by
          intro hs j g hj hg
          by_cases hji : j < k
          · exact hnk.h j g hji hg
          · have : j = k := by omega
            subst this
            rw [hf] at hg; cases hg; exact hs
        have hF : IsF (.agg f.row) f.r := by obtain ⟨d1, d2, d3⟩ := hfa.2 k f hf; exact FA.isF d1 d2 d3
        have hsg := sign_F (ext := ext) hF
        have e1 : f.r.num < 0 → sgn f.r = -1 := sgn_neg
        have e2 : 0 ≤ f.r.num → 0 ≤ sgn f.r := sgn_nn
        obtain ⟨neg, fa, fb⟩ := f
        have hrk : (b.map FA.row)[k]? = some [.bool neg, .sl (encK .u32 fa), .sl (encK .u32 fb)] := by rw [List.getElem?_map, hf]; rfl
        generalize hr : (FA.mk neg fa fb).r = r at *
        by_cases hneg : r.num < 0
        · rw [hbad (fun h => by have := h.p k _ hf; rw [hr] at this; omega)]
          have e1 := e1 hneg
          clear hst hbad hstk hnk
          (repeat' first | refine st ?_ | refine s2 (fun _ => ?_) (fun _ => ?_) | refine s4 fun _ _ _ _ => ?_ | fail)
          refine r_iaS rfl rfl (by first | with_reducible exact cself _ | exact nlit _) hrk rfl ?_
          (repeat' first | refine st ?_ | refine s2 (fun _ => ?_) (fun _ => ?_) | refine s4 fun _ _ _ _ => ?_ | fail)
          refine r_call1 hsg rfl rfl ?_
          (repeat' first | refine st ?_ | refine s2 (fun _ => ?_) (fun _ => ?_) | refine s4 fun _ _ _ _ => ?_ | fail)
          exact ends1 rfl rfl rfl
        · have e2 := e2 (by omega)
          have hstk := hstk (by omega)
          clear hbad
          (repeat' first | refine st ?_ | refine s2 (fun _ => ?_) (fun _ => ?_) | refine s4 fun _ _ _ _ => ?_ | fail)
          refine r_iaS rfl rfl (by first | with_reducible exact cself _ | exact nlit _) hrk rfl ?_
          (repeat' first | refine st ?_ | refine s2 (fun _ => ?_) (fun _ => ?_) | refine s4 fun _ _ _ _ => ?_ | fail)
          rename_i oA g1 g2 g3 oB g4 g5 g6
          refine r_call1 hsg rfl rfl ?_
          (repeat' first | refine st ?_ | refine s2 (fun _ => ?_) (fun _ => ?_) | refine s4 fun _ _ _ _ => ?_ | fail)
          exact ⟨⟨by omega, ⟨hstk⟩, by unfold Objs.cel; rw [g5 _ _ (by omega), g2 _ _ (by omega)]; exact hc, rfl, rfl, rfl, rfl, rfl, rfl, rfl⟩, rfl⟩
      · have hke : k = b.length := by omega
        subst hke
        have hrm := remainder_ok (ext := ext) hfa
        have hz := compl_sz hfa.sm4 hb40
        have hF : IsF (.agg (encR (1 - bsum b))) (1 - bsum b) := by
          refine IsF.enc ?_
          unfold bsum
          omega
        have hsg := sign_F (ext := ext) hF
        have e1 : (1 - bsum b).num < 0 → sgn (1 - bsum b) = -1 := sgn_neg
        have e2 : 0 ≤ (1 - bsum b).num → 0 ≤ sgn (1 - bsum b) := sgn_nn
        by_cases hneg : (1 - bsum b).num < 0
        · rw [hbad (fun h => by have := h.s; omega)]
          have e1 := e1 hneg
          clear hst hbad hnk
          (repeat' first | refine st ?_ | refine s2 (fun _ => ?_) (fun _ => ?_) | refine s4 fun _ _ _ _ => ?_ | fail)
          refine r_callA hrm rfl rfl ?_
          (repeat' first | refine st ?_ | refine s2 (fun _ => ?_) (fun _ => ?_) | refine s4 fun _ _ _ _ => ?_ | fail)
          refine r_call1 hsg rfl rfl ?_
          (repeat' first | refine st ?_ | refine s2 (fun _ => ?_) (fun _ => ?_) | refine s4 fun _ _ _ _ => ?_ | fail)
          exact ends1 rfl rfl rfl
        · have e2 := e2 (by omega)
          have hst := hst ⟨hb16, fun j f hf => hnk.h j f (List.getElem?_eq_some_iff.1 hf).1 hf, by omega⟩
          clear hbad hnk
          (repeat' first | refine st ?_ | refine s2 (fun _ => ?_) (fun _ => ?_) | refine s4 fun _ _ _ _ => ?_ | fail)
          refine r_callA hrm rfl rfl ?_
          (repeat' first | refine st ?_ | refine s2 (fun _ => ?_) (fun _ => ?_) | refine s4 fun _ _ _ _ => ?_ | fail)
          refine r_call1 hsg rfl rfl ?_
          (repeat' first | refine st ?_ | refine s2 (fun _ => ?_) (fun _ => ?_) | refine s4 fun _ _ _ _ => ?_ | fail)
          exact ⟨⟨by omega, ⟨hst⟩, rfl, rfl, rfl⟩, rfl⟩
    · rw [hbad (fun h => hb16 h.n)]
      clear hst hbad
      (repeat' first | refine st ?_ | refine s2 (fun _ => ?_) (fun _ => ?_) | refine s4 fun _ _ _ _ => ?_ | fail)
      refine r_iaS rfl rfl (by first | with_reducible exact cself _ | exact nlit _) hrow rfl ?_
      (repeat' first | refine st ?_ | refine s2 (fun _ => ?_) (fun _ => ?_) | refine s4 fun _ _ _ _ => ?_ | fail)
      rw [hbl]
      (repeat' first | refine st ?_ | refine s2 (fun _ => ?_) (fun _ => ?_) | refine s4 fun _ _ _ _ => ?_ | fail)
      exact ends1 rfl rfl rfl
  · have hie : i = S.length := by omega
    rw [h2 (fun j f hf => hnn.h j f (by rw [hie]; exact (List.getElem?_eq_some_iff.1 hf).1) hf)]
    (repeat' first | refine st ?_ | refine s2 (fun _ => ?_) (fun _ => ?_) | refine s4 fun _ _ _ _ => ?_ | fail)
    exact ends1 rfl rfl rfl
end Go.Av
