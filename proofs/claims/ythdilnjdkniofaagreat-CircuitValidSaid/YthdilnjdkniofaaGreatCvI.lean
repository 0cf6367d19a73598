/- A part of the proof (own method: an abstract machine). No condition. -/
import Derived.Test.YthdilnjdkniofaaGreatCvG
namespace Go.Av
open Go
variable {ext : Calls0}

theorem small_ok {G : List GA} {m : Nat} (hm : m ≤ 4096) {t : Bool} (h0 : ¬ G.length ≤ m → t = false) (h1 : ∀ (i : Nat) (g : GA), G[i]? = some g → ¬ g.ins.length ≤ m → t = false)
    (h2 : G.length ≤ m → (∀ (i : Nat) (g : GA), G[i]? = some g → g.ins.length ≤ m) → t = true) :
    PCall env ext 2 [.agg (crc G), .c (.int .i64 (m : Nat))] (.s (.c (.bool t))) := by
  have hl : (G.map GA.row).length = G.length := List.length_map ..
  unfold crc
  by_cases hG : G.length ≤ m
  · refine PCall.walk (env := env) (g := 2) rfl rfl ?_
    (repeat' first | refine st ?_ | refine s2 (fun _ => ?_) (fun _ => ?_) | refine s4 fun _ _ _ _ => ?_ | fail)
    rw [hl]
    (repeat' first | refine st ?_ | refine s2 (fun _ => ?_) (fun _ => ?_) | refine s4 fun _ _ _ _ => ?_ | fail)
    refine w_loopUp (fun i sl o => i ≤ G.length ∧ Hd (∀ (j : Nat) (g : GA), j < i → G[j]? = some g → g.ins.length ≤ m) ∧ sl 1 = vn .i64 m ∧ sl 13 = vs (G.map GA.row) ∧ sl 14 = vn .i64 G.length ∧ sl 15 = vn .i64 i) 0 G.length
      ⟨by omega, ⟨fun j f h => absurd h (by omega)⟩, rfl, rfl, rfl, rfl⟩ (fun i sl o h => h.1) ?_
    rintro i sl o ⟨hi, hnn, s1, s13, s14, s15⟩
    rw [upd4 s1 s13 s14 s15]
    clear s1 s13 s14 s15
    by_cases hin : i < G.length
    · have hb : G[i]? = some G[i] := List.getElem?_eq_getElem hin
      generalize G[i] = g at hb
      have hbad := h1 i g hb
      have hst : g.ins.length ≤ m → ∀ (j : Nat) (g' : GA), j < i + 1 → G[j]? = some g' → g'.ins.length ≤ m := by
        intro hs j g' hj hg
        by_cases hji : j < i
        · exact hnn.h j g' hji hg
        · have : j = i := by omega
          subst this
          rw [hb] at hg; cases hg; exact hs
      obtain ⟨kind, block, ins⟩ := g
      have hrow : (G.map GA.row)[i]? = some [.int .i64 kind, .int .i64 block, .sl (encZ ins)] := by rw [List.getElem?_map, hb]; rfl
      have hzl := encZ_len ins
      simp only at hst hbad
      clear h0 h1 h2 hnn
      by_cases hsm : ins.length ≤ m
      · have hst := hst hsm
        (repeat' first | refine st ?_ | refine s2 (fun _ => ?_) (fun _ => ?_) | refine s4 fun _ _ _ _ => ?_ | fail)
        refine r_iaS rfl rfl (by first | with_reducible exact cself _ | exact nlit _) hrow rfl ?_
        (repeat' first | refine st ?_ | refine s2 (fun _ => ?_) (fun _ => ?_) | refine s4 fun _ _ _ _ => ?_ | fail)
        rw [hzl]
        (repeat' first | refine st ?_ | refine s2 (fun _ => ?_) (fun _ => ?_) | refine s4 fun _ _ _ _ => ?_ | fail)
        exact ⟨⟨by omega, ⟨hst⟩, rfl, rfl, rfl, rfl⟩, rfl⟩
      · rw [hbad hsm]
        (repeat' first | refine st ?_ | refine s2 (fun _ => ?_) (fun _ => ?_) | refine s4 fun _ _ _ _ => ?_ | fail)
        refine r_iaS rfl rfl (by first | with_reducible exact cself _ | exact nlit _) hrow rfl ?_
        (repeat' first | refine st ?_ | refine s2 (fun _ => ?_) (fun _ => ?_) | refine s4 fun _ _ _ _ => ?_ | fail)
        rw [hzl]
        (repeat' first | refine st ?_ | refine s2 (fun _ => ?_) (fun _ => ?_) | refine s4 fun _ _ _ _ => ?_ | fail)
        exact ends1 rfl rfl rfl
    · have hie : i = G.length := by omega
      rw [h2 hG (fun j f hf => hnn.h j f (by rw [hie]; exact (List.getElem?_eq_some_iff.1 hf).1) hf)]
      (repeat' first | refine st ?_ | refine s2 (fun _ => ?_) (fun _ => ?_) | refine s4 fun _ _ _ _ => ?_ | fail)
      exact ends1 rfl rfl rfl
  · rw [h0 hG]
    refine PCall.walk (env := env) (g := 2) rfl rfl ?_
    (repeat' first | refine st ?_ | refine s2 (fun _ => ?_) (fun _ => ?_) | refine s4 fun _ _ _ _ => ?_ | fail)
    rw [hl]
    (repeat' first | refine st ?_ | refine s2 (fun _ => ?_) (fun _ => ?_) | refine s4 fun _ _ _ _ => ?_ | fail)
    exact ends1 rfl rfl rfl

/-- A space and a circuit are small enough for a law. -/
structure Use (S : List (List FA)) (G : List GA) (most : Nat) : Prop where
  s : S.length ≤ 40
  b : ∀ (i : Nat) (b : List FA), S[i]? = some b → LiB S most i b
  g : G.length ≤ 60
  i : ∀ (i : Nat) (g : GA), G[i]? = some g → g.ins.length ≤ 60
open Classical in
theorem usable_ok {S : List (List FA)} {G : List GA} {most : Nat} (hm : most ≤ 1125899906842624) (hm1 : 1 ≤ most) :
    PCall env ext 3 [.agg (spc S), .agg (crc G), .c (.int .i64 (most : Nat))] (.s (.c (.bool (decide (Use S G most))))) := by
  by_cases hL : S.length ≤ 40 ∧ ∀ (i : Nat) (b : List FA), S[i]? = some b → LiB S most i b
  · have h1 := light_ok (ext := ext) (S := S) (most := most) (t := true) hm (fun h => absurd hL.1 h) (fun i b hb h => absurd (hL.2 i b hb) h) (fun _ _ => rfl) hm1
    by_cases hG : G.length ≤ 60 ∧ ∀ (i : Nat) (g : GA), G[i]? = some g → g.ins.length ≤ 60
    · have h2 := small_ok (ext := ext) (G := G) (m := 60) (t := true) (by omega) (fun h => absurd hG.1 h) (fun i b hb h => absurd (hG.2 i b hb) h) (fun _ _ => rfl)
      rw [decide_eq_true ⟨hL.1, hL.2, hG.1, hG.2⟩]
      unfold spc at h1 ⊢
      unfold crc at h2 ⊢
      refine PCall.walk (env := env) (g := 3) rfl rfl ?_
      (repeat' first | refine st ?_ | refine s2 (fun _ => ?_) (fun _ => ?_) | refine s4 fun _ _ _ _ => ?_ | fail)
      refine r_call1 h1 rfl rfl ?_
      (repeat' first | refine st ?_ | refine s2 (fun _ => ?_) (fun _ => ?_) | refine s4 fun _ _ _ _ => ?_ | fail)
      refine r_call1 h2 rfl rfl ?_
      (repeat' first | refine st ?_ | refine s2 (fun _ => ?_) (fun _ => ?_) | refine s4 fun _ _ _ _ => ?_ | fail)
      exact ends1 rfl rfl rfl
    · have h2 := small_ok (ext := ext) (G := G) (m := 60) (t := false) (by omega) (fun _ => rfl) (fun _ _ _ _ => rfl) (fun a c => absurd ⟨a, c⟩ hG)
      rw [decide_eq_false (fun h => hG ⟨h.g, h.i⟩)]
      unfold spc at h1 ⊢
      unfold crc at h2 ⊢
      refine PCall.walk (env := env) (g := 3) rfl rfl ?_
      (repeat' first | refine st ?_ | refine s2 (fun _ => ?_) (fun _ => ?_) | refine s4 fun _ _ _ _ => ?_ | fail)
      refine r_call1 h1 rfl rfl ?_
      (repeat' first | refine st ?_ | refine s2 (fun _ => ?_) (fun _ => ?_) | refine s4 fun _ _ _ _ => ?_ | fail)
      refine r_call1 h2 rfl rfl ?_
      (repeat' first | refine st ?_ | refine s2 (fun _ => ?_) (fun _ => ?_) | refine s4 fun _ _ _ _ => ?_ | fail)
      exact ends1 rfl rfl rfl
  · have h1 := light_ok (ext := ext) (S := S) (most := most) (t := false) hm (fun _ => rfl) (fun _ _ _ _ => rfl) (fun a c => absurd ⟨a, c⟩ hL) hm1
    rw [decide_eq_false (fun h => hL ⟨h.s, h.b⟩)]
    unfold spc at h1 ⊢
    unfold crc
    refine PCall.walk (env := env) (g := 3) rfl rfl ?_
    (repeat' first | refine st ?_ | refine s2 (fun _ => ?_) (fun _ => ?_) | refine s4 fun _ _ _ _ => ?_ | fail)
    refine r_call1 h1 rfl rfl ?_
    (repeat' first | refine st ?_ | refine s2 (fun _ => ?_) (fun _ => ?_) | refine s4 fun _ _ _ _ => ?_ | fail)
    exact ends1 rfl rfl rfl

/-- A circuit is valid over a space. -/
structure CV (S : List (List FA)) (G : List GA) : Prop where
  s : SpV S
  g : ∀ (i : Nat) (g : GA), G[i]? = some g → gOK S i (words G i) g
/-- What the type says of a space: digits are digits. -/
def SpD (S : List (List FA)) : Prop := ∀ (i : Nat) (b : List FA), S[i]? = some b → ∀ (j : Nat) (f : FA), b[j]? = some f → Dg f.a ∧ Dg f.b
theorem Use.fas {S : List (List FA)} {G : List GA} {most : Nat} (h : Use S G most) (hd : SpD S) (i : Nat) (b : List FA) (hb : S[i]? = some b) : FAs b :=
  ⟨(h.b i b hb).n, fun j f hf => ⟨(hd i b hb j f hf).1, (hd i b hb j f hf).2, (h.b i b hb).s j f hf⟩⟩
open Classical in
theorem valid_dec {S : List (List FA)} {G : List GA} {most : Nat} (h : Use S G most) (hd : SpD S) : PCall env ext 42 [.agg (spc S), .agg (crc G)] (.s (.c (.bool (decide (CV S G))))) :=
  valid_ok h.s (h.fas hd) h.g h.i (fun hn => decide_eq_false fun h => hn h.s) (fun i g hg hn => decide_eq_false fun h => hn (h.g i g hg)) (fun a c => decide_eq_true ⟨a, c⟩)
open Classical in
theorem refValid_dec {S : List (List FA)} {G : List GA} {most : Nat} (h : Use S G most) (hd : SpD S) : PCall env ext 96 [.agg (spc S), .agg (crc G)] (.s (.c (.bool (decide (CV S G))))) :=
  refValid_ok h.s (h.fas hd) h.g h.i (fun hn => decide_eq_false fun h => hn h.s) (fun i g hg hn => decide_eq_false fun h => hn (h.g i g hg)) (fun a c => decide_eq_true ⟨a, c⟩)

open Classical in
theorem cv_pure (hA : PCall env ext 179 [] (.s (.c (.bool true)))) {S : List (List FA)} {G : List GA} (hd : SpD S) :
    PCall env ext 180 [.agg (spc S), .agg (crc G)] (.s (.c (.bool true))) := by
  have hu := usable_ok (ext := ext) (S := S) (G := G) (most := 1099511627776) (by omega) (by omega)
  by_cases hU : Use S G 1099511627776
  · rw [decide_eq_true hU] at hu
    have h1 := valid_dec (ext := ext) hU hd
    have h2 := refValid_dec (ext := ext) hU hd
    generalize decide (CV S G) = v at *
    have hvv : (v == v) = true := by simp
    unfold spc at hu h1 h2 ⊢
    unfold crc at hu h1 h2 ⊢
    refine PCall.walk (env := env) (g := 180) rfl rfl ?_
    (repeat' first | refine st ?_ | refine s2 (fun _ => ?_) (fun _ => ?_) | refine s4 fun _ _ _ _ => ?_ | fail)
    refine p_call1 hu rfl rfl ?_
    (repeat' first | refine st ?_ | refine s2 (fun _ => ?_) (fun _ => ?_) | refine s4 fun _ _ _ _ => ?_ | fail)
    refine p_call1 h1 rfl rfl ?_
    (repeat' first | refine st ?_ | refine s2 (fun _ => ?_) (fun _ => ?_) | refine s4 fun _ _ _ _ => ?_ | fail)
    refine p_call1 h2 rfl rfl ?_
    (repeat' first | refine st ?_ | refine s2 (fun _ => ?_) (fun _ => ?_) | refine s4 fun _ _ _ _ => ?_ | fail)
    rw [hvv]
    (repeat' first | refine st ?_ | refine s2 (fun _ => ?_) (fun _ => ?_) | refine s4 fun _ _ _ _ => ?_ | fail)
    refine p_call1 hA rfl rfl ?_
    (repeat' first | refine st ?_ | refine s2 (fun _ => ?_) (fun _ => ?_) | refine s4 fun _ _ _ _ => ?_ | fail)
    exact ends1 rfl rfl rfl
  · rw [decide_eq_false hU] at hu
    unfold spc at hu ⊢
    unfold crc at hu ⊢
    refine PCall.walk (env := env) (g := 180) rfl rfl ?_
    (repeat' first | refine st ?_ | refine s2 (fun _ => ?_) (fun _ => ?_) | refine s4 fun _ _ _ _ => ?_ | fail)
    refine p_call1 hu rfl rfl ?_
    (repeat' first | refine st ?_ | refine s2 (fun _ => ?_) (fun _ => ?_) | refine s4 fun _ _ _ _ => ?_ | fail)
    exact ends1 rfl rfl rfl
end Go.Av
