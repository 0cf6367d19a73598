/- A part of the proof (own method: an abstract machine). No condition. -/
import Derived.Test.YthdilnjdkniofaaGreatCvF
namespace Go.Av
open Go
variable {ext : Calls0}

theorem words_get_lt {G : List GA} {i j : Nat} (h : j < i) : (words G (i + 1)).getD j 0 = (words G i).getD j 0 := by
  show (words G i ++ _).getD j 0 = _
  rw [List.getD_eq_getElem?_getD, List.getElem?_append_left (by rw [words_len]; exact h), ← List.getD_eq_getElem?_getD]
theorem words_get_eq {G : List GA} {i : Nat} : (words G (i + 1)).getD i 0 = gW (words G i) (G.getD i default) := by
  show (words G i ++ _).getD i 0 = _
  rw [List.getD_eq_getElem?_getD, List.getElem?_append_right (by rw [words_len]; exact Nat.le_refl _), words_len, Nat.sub_self]
  rfl
theorem words_get_ge {G : List GA} {i j : Nat} (h : i ≤ j) : (words G i).getD j 0 = 0 := by
  rw [List.getD_eq_getElem?_getD, List.getElem?_eq_none (by rw [words_len]; exact h)]; rfl
theorem getD_of {G : List GA} {i : Nat} {g : GA} (h : G[i]? = some g) : G.getD i default = g := by rw [List.getD_eq_getElem?_getD, h]; rfl
theorem gW_Ln {S : List (List FA)} (hS : S.length ≤ 40) {L : Nat} (hL : L = (S.length + 63) / 64) {i : Nat} {W : List Nat} {g : GA} (hW : ∀ j, Ln L (W.getD j 0)) (hg : gOK S i W g) : Ln L (gW W g) := by
  have h0 : Ln L 0 := ⟨by omega, by omega⟩
  have h1 := Ln.orW h0 hW g.ins g.ins.length
  unfold gW
  split
  · rename_i hk
    have h2 := hg.cs hk
    refine h1.or ⟨?_, .inl (by omega)⟩
    exact Nat.lt_of_lt_of_eq (Nat.pow_lt_pow_right (show 1 < 2 by decide) (show g.block.toNat < 64 by omega)) rfl
  · exact h1
theorem words_Ln {S : List (List FA)} (hS : S.length ≤ 40) {L : Nat} (hL : L = (S.length + 63) / 64) {G : List GA} : ∀ {i : Nat}, i ≤ G.length → (∀ (j : Nat) (g : GA), j < i → G[j]? = some g → gOK S j (words G j) g) → ∀ j, Ln L ((words G i).getD j 0)
  | 0, _, _, j => by
    rw [words_get_ge (Nat.zero_le j)]
    exact ⟨by omega, by omega⟩
  | i + 1, hi, h, j => by
    have ih := words_Ln hS hL (i := i) (by omega) (fun j g hj => h j g (by omega))
    by_cases h1 : j < i
    · rw [words_get_lt h1]; exact ih j
    · by_cases h2 : j = i
      · subst h2
        rw [words_get_eq]
        have hg : G[j]? = some G[j] := List.getElem?_eq_getElem (by omega)
        rw [getD_of hg]
        exact gW_Ln hS hL ih (h j _ (by omega) hg)
      · rw [words_get_ge (by omega)]
        exact ⟨by omega, by omega⟩

/-- A space is valid. -/
def SpV (S : List (List FA)) : Prop := ∀ (i : Nat) (b : List FA), S[i]? = some b → bOK b

set_option maxHeartbeats 4000000 in
theorem valid_ok {S : List (List FA)} {G : List GA} (hS : S.length ≤ 40) (hSF : ∀ (i : Nat) (b : List FA), S[i]? = some b → FAs b) (hG : G.length ≤ 60) (hGi : ∀ (i : Nat) (g : GA), G[i]? = some g → g.ins.length ≤ 60)
    {t : Bool} (h1 : ¬ SpV S → t = false) (h2 : ∀ (i : Nat) (g : GA), G[i]? = some g → ¬ gOK S i (words G i) g → t = false) (h3 : SpV S → (∀ (i : Nat) (g : GA), G[i]? = some g → gOK S i (words G i) g) → t = true) :
    PCall env ext 42 [.agg (spc S), .agg (crc G)] (.s (.c (.bool t))) := by
  have hGl : (G.map GA.row).length = G.length := List.length_map ..
  by_cases hSV : SpV S
  · have hv := wvalid_ok (ext := ext) (S := S) (t := true) hS hSF (fun i b hb hn => absurd (hSV i b hb) hn) (fun _ => rfl)
    have h3 := h3 hSV
    unfold spc at hv ⊢
    unfold crc
    clear h1
    refine PCall.walk (env := env) (g := 42) rfl rfl ?_
    (repeat' first | refine st ?_ | refine s2 (fun _ => ?_) (fun _ => ?_) | refine s4 fun _ _ _ _ => ?_ | fail)
    refine r_call1 hv rfl rfl ?_
    (repeat' first | refine st ?_ | refine s2 (fun _ => ?_) (fun _ => ?_) | refine s4 fun _ _ _ _ => ?_ | fail)
    rw [hGl]
    (repeat' first | refine st ?_ | refine s2 (fun _ => ?_) (fun _ => ?_) | refine s4 fun _ _ _ _ => ?_ | fail)
    refine gr_mk rfl (by first | with_reducible exact cself _ | exact nlit _) (by omega) (by omega) rfl ?_
    intro o1 g1 g2 g3
    (repeat' first | refine st ?_ | refine s2 (fun _ => ?_) (fun _ => ?_) | refine s4 fun _ _ _ _ => ?_ | fail)
    rw [hGl]
    generalize hL : (S.length + 63) / 64 = L at *
    generalize hn : G.length = n at *
    generalize hw0 : Objs.nv _ _ = w at *
    refine w_loopUp (fun i sl o => i ≤ n ∧ Hd (∀ (j : Nat) (g : GA), j < i → G[j]? = some g → gOK S j (words G j) g) ∧
      (∃ X, Hd (X.length = n ∧ (∀ j, j < i → ∃ vj, X[j]? = some [.rs 100 vj 1 0 L] ∧ o.is 100 vj .u64 (wd L ((words G i).getD j 0)) ∧ vj < o.nv 100) ∧ (∀ j, i ≤ j → j < n → X[j]? = some [.e0])) ∧ o.rws 0 w 1 X) ∧
      (∃ tot, tot ≤ 60 * i ∧ sl 5 = vn .i64 tot) ∧ sl 2 = vp (.pref [.sl (S.map brow)]) ∧ sl 6 = .s (.c (.rs 0 w 1 0 n)) ∧ sl 25 = vs (G.map GA.row) ∧ sl 26 = vn .i64 n ∧ sl 27 = vn .i64 i) 0 n
      ⟨by omega, ⟨fun j g h => by omega⟩, ⟨_, ⟨by simp, fun j h => by omega, fun j _ h => by simp [h]⟩, g1⟩, ⟨0, by omega, rfl⟩, rfl, rfl, rfl, rfl, rfl⟩ (fun i sl o h => h.1) ?_
    clear g1 g2 g3
    rintro i sl o ⟨hi, hok, ⟨X, hX, hrw⟩, ⟨tot, htot, s5⟩, s2, s6, s25, s26, s27⟩
    rw [upd6 s2 s5 s6 s25 s26 s27]
    clear s2 s5 s6 s25 s26 s27
    by_cases hin : i < n
    · have hg : G[i]? = some G[i] := List.getElem?_eq_getElem (by omega)
      generalize G[i] = g at hg
      have hrow : (G.map GA.row)[i]? = some g.row := by rw [List.getElem?_map, hg]; rfl
      have hg60 := hGi i g hg
      have hWL := words_Ln (S := S) (G := G) (L := L) hS hL.symm (i := i) (by omega) hok.h
      have hSb : ∀ (j : Nat) (b : List FA), S[j]? = some b → b.length ≤ 40 := fun j b hb => (hSF j b hb).1
      have hX1 := hX.h.1
      have hX2 := hX.h.2.1
      have hX3 := hX.h.2.2
      have hXi := hX3 i (Nat.le_refl _) hin
      have hbad := h2 i g hg
      obtain ⟨kind, block, ins⟩ := g
      have hzl := encZ_len ins
      simp only at hg60
      unfold GA.row at hrow
      simp only at hrow
      clear h2 h3 hSV hv hGi hSF
      (repeat' first | refine st ?_ | refine s2 (fun _ => ?_) (fun _ => ?_) | refine s4 fun _ _ _ _ => ?_ | fail)
      refine r_iaS rfl rfl (by first | with_reducible exact cself _ | exact nlit _) hrow rfl ?_
      (repeat' first | refine st ?_ | refine s2 (fun _ => ?_) (fun _ => ?_) | refine s4 fun _ _ _ _ => ?_ | fail)
      rename_i oA a1 a2 a3 oB b1 b2 b3
      rw [hzl]
      (repeat' first | refine st ?_ | refine s2 (fun _ => ?_) (fun _ => ?_) | refine s4 fun _ _ _ _ => ?_ | fail)
      have hrwB : oB.rws 0 w 1 X := rws_keep hrw (by rw [b2 _ _ (by omega), a2 _ _ (by omega)])
      have hnv : oB.nv 100 = o.nv 100 := by rw [b3, a3, if_neg (by omega)]
      have hsup : ∀ j, j < i → ∃ vj, X[j]? = some [.rs 100 vj 1 0 L] ∧ oB.is 100 vj .u64 (wd L ((words G i).getD j 0)) ∧ vj < oB.nv 100 := by
        intro j hj
        obtain ⟨vj, e1, e2, e3⟩ := hX2 j hj
        exact ⟨vj, e1, by unfold Objs.is; rw [b2 _ _ (by omega), a2 _ _ (by omega)]; exact e2, by rw [hnv]; exact e3⟩
      by_cases hgo : gOK S i (words G i) ⟨kind, block, ins⟩
      · have hvg := vgate_ok (ext := ext) (o := oB) (base := 0 + 100) (oi := 0) (ov := w) (X := X) (t := true) (n := n) (g := ⟨kind, block, ins⟩) hS hSb hin (by omega) hg60 hL.symm hWL (by omega) hrwB hsup (fun _ => rfl) (fun h => absurd hgo h)
        refine r_callR hvg rfl ?_
        rintro oC r ⟨k1, k2, k3 | ⟨_, rfl, k4⟩⟩
        · cases k3.1
        (repeat' first | refine st ?_ | refine s2 (fun _ => ?_) (fun _ => ?_) | refine s4 fun _ _ _ _ => ?_ | fail)
        have hrwC : oC.rws 0 w 1 X := rws_keep hrwB (k1 _ _ (by omega))
        refine gr_stF rfl rfl hrwC hXi (by decide) ?_
        intro oD d1 d2 d3
        (repeat' first | refine st ?_ | refine s2 (fun _ => ?_) (fun _ => ?_) | refine s4 fun _ _ _ _ => ?_ | fail)
        refine ⟨⟨by omega, ⟨fun j g hj hgj => ?_⟩, ⟨_, ⟨by rw [List.length_set]; exact hX1, fun j hj => ?_, fun j hj hj2 => ?_⟩, d1⟩, ⟨_, by omega, rfl⟩, rfl, rfl, rfl, rfl, rfl⟩, rfl⟩
        · by_cases hji : j < i
          · exact hok.h j g hji hgj
          · have : j = i := by omega
            subst this
            rw [hg] at hgj; cases hgj; exact hgo
        · by_cases hji : j < i
          · obtain ⟨vj, e1, e2, e3⟩ := hsup j hji
            have e4 : vj < oB.nv (0 + 100) := e3
            refine ⟨vj, by rw [List.getElem?_set_ne (by omega)]; exact e1, ?_, ?_⟩
            · rw [words_get_lt hji]
              unfold Objs.is
              rw [d2 _ _ (by omega), k1 _ _ (by omega)]
              exact e2
            · rw [d3, k2]
              split <;> omega
          · have : j = i := by omega
            subst this
            refine ⟨oB.nv 100, by rw [List.getElem?_set_self (by omega)]; rfl, ?_, ?_⟩
            · rw [words_get_eq, getD_of hg]
              unfold Objs.is
              rw [d2 _ _ (by omega)]
              exact k4
            · rw [d3, k2]
              rw [if_pos (by omega)]
              exact Nat.lt_succ_self _
        · rw [List.getElem?_set_ne (by omega)]; exact hX3 j (by omega) hj2
      · have hvg := vgate_ok (ext := ext) (o := oB) (base := 0 + 100) (oi := 0) (ov := w) (X := X) (t := false) (n := n) (g := ⟨kind, block, ins⟩) hS hSb hin (by omega) hg60 hL.symm hWL (by omega) hrwB hsup (fun h => absurd h hgo) (fun _ => rfl)
        rw [hbad hgo]
        refine r_callR hvg rfl ?_
        rintro oC r ⟨k1, k2, ⟨_, x, rfl⟩ | k3⟩
        · (repeat' first | refine st ?_ | refine s2 (fun _ => ?_) (fun _ => ?_) | refine s4 fun _ _ _ _ => ?_ | fail)
          exact ends1 rfl rfl rfl
        · cases k3.1
    · have hie : i = n := by omega
      rw [h3 (fun j g hg => hok.h j g (by rw [hie, ← hn]; exact (List.getElem?_eq_some_iff.1 hg).1) hg)]
      (repeat' first | refine st ?_ | refine s2 (fun _ => ?_) (fun _ => ?_) | refine s4 fun _ _ _ _ => ?_ | fail)
      exact ends1 rfl rfl rfl
  · have hv := wvalid_ok (ext := ext) (S := S) (t := false) hS hSF (fun _ _ _ _ => rfl) (fun h => absurd h hSV)
    rw [h1 hSV]
    unfold spc at hv ⊢
    unfold crc
    clear h1 h2 h3
    refine PCall.walk (env := env) (g := 42) rfl rfl ?_
    (repeat' first | refine st ?_ | refine s2 (fun _ => ?_) (fun _ => ?_) | refine s4 fun _ _ _ _ => ?_ | fail)
    refine r_call1 hv rfl rfl ?_
    (repeat' first | refine st ?_ | refine s2 (fun _ => ?_) (fun _ => ?_) | refine s4 fun _ _ _ _ => ?_ | fail)
    exact ends1 rfl rfl rfl
end Go.Av
namespace Go.Av
open Go
variable {ext : Calls0}

theorem orW_mono {W : List Nat} {l : List Int} {b k : Nat} : ∀ {m : Nat}, k ≤ m → (orW W l k).testBit b = true → (orW W l m).testBit b = true := by
  intro m h hb
  induction h with
  | refl => exact hb
  | step _ ih => simp only [orW, Nat.testBit_or, ih, Bool.true_or]
theorem orW_in {W : List Nat} {l : List Int} {b k m : Nat} (h : k < m) (hb : (W.getD (l.getD k 0).toNat 0).testBit b = true) : (orW W l m).testBit b = true := by
  refine orW_mono (k := k + 1) h ?_
  simp only [orW, Nat.testBit_or, hb, Bool.or_true]
theorem purRow {o : Objs} {oi ver i a : Nat} {X : List (List C)} (hm : o.rws oi ver 64 X) (hi : X[i]? = some (rwC a)) : purSV o (.c (.ptr oi ver i 0)) = some (.c (.pref (rwP a))) := by
  have e : ∀ (ys : List PC) (n : Nat), allSome ((ys.map C.p).map (purC o n)) = some ys := by
    intro ys n
    induction ys with
    | nil => rfl
    | cons y ys ih =>
      have : purC o n (C.p y) = some y := by cases n <;> rfl
      simp only [List.map_cons, this, allSome, ih]
  unfold Objs.rws at hm
  have h1 : purC o purDepth (.ptr oi ver i 0) = some (.pref (rwP a)) := by
    show purC o (_ + 1) _ = _
    simp only [purC, hm, hi]
    rw [if_pos (Nat.zero_le _), List.drop_zero]
    unfold rwC
    rw [e]; rfl
  show (purC o purDepth _).map PSV.c = _
  rw [h1]; rfl

set_option maxHeartbeats 8000000 in
theorem refValid_ok {S : List (List FA)} {G : List GA} (hS : S.length ≤ 40) (hSF : ∀ (i : Nat) (b : List FA), S[i]? = some b → FAs b) (hG : G.length ≤ 60) (hGi : ∀ (i : Nat) (g : GA), G[i]? = some g → g.ins.length ≤ 60)
    {t : Bool} (h1 : ¬ SpV S → t = false) (h2 : ∀ (i : Nat) (g : GA), G[i]? = some g → ¬ gOK S i (words G i) g → t = false) (h3 : SpV S → (∀ (i : Nat) (g : GA), G[i]? = some g → gOK S i (words G i) g) → t = true) :
    PCall env ext 96 [.agg (spc S), .agg (crc G)] (.s (.c (.bool t))) := by
  have hGl : (G.map GA.row).length = G.length := List.length_map ..
  have hSl : (S.map brow).length = S.length := List.length_map ..
  by_cases hSV : SpV S
  · have hv := spaceValid_ok (ext := ext) (S := S) (t := true) hS hSF (fun i b hb hn => absurd (hSV i b hb) hn) (fun _ => rfl)
    have h3 := h3 hSV
    unfold spc at hv ⊢
    unfold crc
    clear h1
    refine PCall.walk (env := env) (g := 96) rfl rfl ?_
    (repeat' first | refine st ?_ | refine s2 (fun _ => ?_) (fun _ => ?_) | refine s4 fun _ _ _ _ => ?_ | fail)
    refine r_call1 hv rfl rfl ?_
    (repeat' first | refine st ?_ | refine s2 (fun _ => ?_) (fun _ => ?_) | refine s4 fun _ _ _ _ => ?_ | fail)
    rw [hGl]
    (repeat' first | refine st ?_ | refine s2 (fun _ => ?_) (fun _ => ?_) | refine s4 fun _ _ _ _ => ?_ | fail)
    refine gr_mk rfl (by first | with_reducible exact cself _ | exact nlit _) (by omega) (by omega) rfl ?_
    intro o1 g1 g2 g3
    (repeat' first | refine st ?_ | refine s2 (fun _ => ?_) (fun _ => ?_) | refine s4 fun _ _ _ _ => ?_ | fail)
    rw [hGl]
    generalize hn : G.length = n at *
    generalize hw0 : Objs.nv _ _ = w at *
    have g1 : o1.rws 0 w 64 (List.replicate n (rwC 0)) := g1
    refine w_loopUp (fun i sl o => i ≤ n ∧ Hd (∀ (j : Nat) (g : GA), j < i → G[j]? = some g → gOK S j (words G j) g) ∧
      (∃ X, Hd (X.length = n ∧ ∀ j, j < n → X[j]? = some (rwC ((words G i).getD j 0))) ∧ o.rws 0 w 64 X) ∧
      (∃ tot, tot ≤ 60 * i ∧ sl 5 = vn .i64 tot) ∧ sl 2 = vp (.pref [.sl (S.map brow)]) ∧ sl 6 = .s (.c (.rs 0 w 64 0 n)) ∧ sl 29 = vs (G.map GA.row) ∧ sl 30 = vn .i64 n ∧ sl 31 = vn .i64 i) 0 n
      ⟨by omega, ⟨fun j g h => by omega⟩, ⟨_, ⟨by simp, fun j h => by simp [h, words]⟩, g1⟩, ⟨0, by omega, rfl⟩, rfl, rfl, rfl, rfl, rfl⟩ (fun i sl o h => h.1) ?_
    clear g1 g2 g3
    rintro i sl o ⟨hi, hok, ⟨X, hX, hrw⟩, ⟨tot, htot, s5⟩, s2, s6, s29, s30, s31⟩
    rw [upd6 s2 s5 s6 s29 s30 s31]
    clear s2 s5 s6 s29 s30 s31
    by_cases hin : i < n
    · have hg : G[i]? = some G[i] := List.getElem?_eq_getElem (by omega)
      generalize G[i] = g at hg
      have hrow : (G.map GA.row)[i]? = some g.row := by rw [List.getElem?_map, hg]; rfl
      have hg60 := hGi i g hg
      have hWL := words_Ln (S := S) (G := G) hS rfl (i := i) (by omega) hok.h
      have hSb : ∀ (j : Nat) (b : List FA), S[j]? = some b → b.length ≤ 40 := fun j b hb => (hSF j b hb).1
      have hX1 := hX.h.1
      have hX2 := hX.h.2
      have hXi := hX2 i hin
      rw [words_get_ge (Nat.le_refl i)] at hXi
      have hbad := h2 i g hg
      have hwge := fun j (h : i ≤ j) => words_get_ge (G := G) h
      have hfin : gOK S i (words G i) g → ∀ X' : List (List C), X'.length = n → X'[i]? = some (rwC (gW (words G i) g)) → (∀ j, j ≠ i → X'[j]? = X[j]?) →
          Hd (∀ (j : Nat) (g : GA), j < i + 1 → G[j]? = some g → gOK S j (words G j) g) ∧ Hd (X'.length = n ∧ ∀ j, j < n → X'[j]? = some (rwC ((words G (i + 1)).getD j 0))) := by
        intro hgo X' l1 l2 l3
        refine ⟨⟨fun j g' hj hgj => ?_⟩, ⟨l1, fun j hj => ?_⟩⟩
        · by_cases hji : j < i
          · exact hok.h j g' hji hgj
          · have : j = i := by omega
            subst this
            rw [hg] at hgj; cases hgj; exact hgo
        · by_cases hji : j = i
          · subst hji
            rw [words_get_eq, getD_of hg]; exact l2
          · rw [l3 j hji, hX2 j hj]
            by_cases hjl : j < i
            · rw [words_get_lt hjl]
            · rw [words_get_ge (by omega), words_get_ge (by omega)]
      generalize hWW : words G i = W at *
      obtain ⟨kind, block, ins⟩ := g
      have hzl := encZ_len ins
      simp only at hg60
      unfold GA.row at hrow
      simp only at hrow
      clear h2 h3 hSV hv hGi hSF hX hok
      have hn1 : ∀ (P : Prop), (gOK S i W ⟨kind, block, ins⟩ → P) → ¬P → t = false := fun P h hp => hbad fun h3 => hp (h h3)
      clear hbad
      (repeat' first | refine st ?_ | refine s2 (fun _ => ?_) (fun _ => ?_) | refine s4 fun _ _ _ _ => ?_ | fail)
      refine r_iaS rfl rfl (by first | with_reducible exact cself _ | exact nlit _) hrow rfl ?_
      (repeat' first | refine st ?_ | refine s2 (fun _ => ?_) (fun _ => ?_) | refine s4 fun _ _ _ _ => ?_ | fail)
      rename_i oA a1 a2 a3 oB b1 b2 b3
      rw [hzl]
      (repeat' first | refine st ?_ | refine s2 (fun _ => ?_) (fun _ => ?_) | refine s4 fun _ _ _ _ => ?_ | fail)
      have hrwB : oB.rws 0 w 64 X := rws_keep hrw (by rw [b2 _ _ (by omega), a2 _ _ (by omega)])
      generalize hv8 : o.nv (0 + 1) = v8 at *
      clear a1 a2 a3 b2 b3 hrw
      have hcB : oB.cel 1 v8 [.p (.int .i64 kind), .p (.int .i64 block), .p (.sl (encZ ins))] := b1
      clear b1
      -- the inputs
      refine w_loopUp (fun k sl o' => k ≤ ins.length ∧ Hd (∀ (j : Nat) (x : Int), j < k → ins[j]? = some x → 0 ≤ x ∧ x < i) ∧ o' = oB ∧
        sl 2 = vp (.pref [.sl (S.map brow)]) ∧ sl 5 = vn .i64 (tot + ins.length) ∧ sl 6 = .s (.c (.rs 0 w 64 0 n)) ∧ sl 7 = vn .i64 i ∧ sl 8 = .s (.c (.ptr 1 v8 0 0)) ∧ sl 29 = vs (G.map GA.row) ∧ sl 30 = vn .i64 n ∧ sl 31 = vn .i64 i ∧
        sl 48 = vs (encZ ins) ∧ sl 49 = vn .i64 ins.length ∧ sl 50 = vn .i64 k) 0 ins.length
        ⟨by omega, ⟨fun j x h => by omega⟩, rfl, rfl, rfl, rfl, rfl, rfl, rfl, rfl, rfl, rfl, rfl, rfl⟩ (fun i sl o h => h.1) ?_
      rintro k sl o' ⟨hk, hin2, rfl, s2, s5, s6, s7, s8, s29, s30, s31, s48, s49, s50⟩
      rw [upd6 s2 s5 s6 s7 s8 s29, upd5 s30 s31 s48 s49 s50]
      clear s2 s5 s6 s7 s8 s29 s30 s31 s48 s49 s50
      by_cases hki : k < ins.length
      · have hx : ins[k]? = some ins[k] := List.getElem?_eq_getElem hki
        generalize ins[k] = x at hx
        have hxr := encZ_get hx
        clear hfin
        by_cases hx0 : x < 0
        · rw [hn1 (0 ≤ x) (fun h => (h.ins k x hx).1) (by omega)]
          (repeat' first | refine st ?_ | refine s2 (fun _ => ?_) (fun _ => ?_) | refine s4 fun _ _ _ _ => ?_ | fail)
          refine r_iaS rfl rfl (by first | with_reducible exact cself _ | exact nlit _) hxr rfl ?_
          (repeat' first | refine st ?_ | refine s2 (fun _ => ?_) (fun _ => ?_) | refine s4 fun _ _ _ _ => ?_ | fail)
          exact ends1 rfl rfl rfl
        · by_cases hxi : x < i
          · (repeat' first | refine st ?_ | refine s2 (fun _ => ?_) (fun _ => ?_) | refine s4 fun _ _ _ _ => ?_ | fail)
            refine r_iaS rfl rfl (by first | with_reducible exact cself _ | exact nlit _) hxr rfl ?_
            (repeat' first | refine st ?_ | refine s2 (fun _ => ?_) (fun _ => ?_) | refine s4 fun _ _ _ _ => ?_ | fail)
            refine ⟨⟨by omega, ⟨fun j y hj hy => ?_⟩, rfl, rfl, rfl, rfl, rfl, rfl, rfl, rfl, rfl, rfl, rfl, rfl⟩, rfl⟩
            by_cases hjk : j < k
            · exact hin2.h j y hjk hy
            · have : j = k := by omega
              subst this
              rw [hx] at hy; cases hy; omega
          · rw [hn1 (x < i) (fun h => (h.ins k x hx).2) (by omega)]
            (repeat' first | refine st ?_ | refine s2 (fun _ => ?_) (fun _ => ?_) | refine s4 fun _ _ _ _ => ?_ | fail)
            refine r_iaS rfl rfl (by first | with_reducible exact cself _ | exact nlit _) hxr rfl ?_
            (repeat' first | refine st ?_ | refine s2 (fun _ => ?_) (fun _ => ?_) | refine s4 fun _ _ _ _ => ?_ | fail)
            exact ends1 rfl rfl rfl
      · have hke : k = ins.length := by omega
        subst hke
        have hok : ∀ (k : Nat) (x : Int), ins[k]? = some x → 0 ≤ x ∧ x < i := fun k x hx => hin2.h k x (List.getElem?_eq_some_iff.1 hx).1 hx
        clear hin2 hki hk
        have hL0 : Ln ((S.length + 63) / 64) 0 := ⟨by omega, by omega⟩
        have hor := Ln.orW hL0 hWL ins
        by_cases hk2 : kind = 2
        · by_cases hb0 : block < 0
          · rw [hn1 (0 ≤ block) (fun h => (h.cs hk2).1) (by omega)]
            clear hn1 hfin hor hWL hX2
            (repeat' first | refine st ?_ | refine s2 (fun _ => ?_) (fun _ => ?_) | refine s4 fun _ _ _ _ => ?_ | fail)
            exact ends1 rfl rfl rfl
          · by_cases hbS : block < S.length
            · obtain ⟨q, rfl⟩ := Int.eq_ofNat_of_zero_le (show 0 ≤ block by omega)
              have hq : q < S.length := by omega
              have hb : S[q]? = some S[q] := List.getElem?_eq_getElem hq
              have hpl : pl S q = (S[q]).length := by unfold pl; rw [List.getD_eq_getElem?_getD, hb]; rfl
              generalize S[q] = b at hb hpl
              have hbrow : (S.map brow)[q]? = some [.sl (b.map FA.row)] := by rw [List.getElem?_map, hb]; rfl
              have hbl : (b.map FA.row).length = b.length := List.length_map ..
              have hb40 := hSb q b hb
              by_cases hlen : ins.length = b.length + 1
              · (repeat' first | refine st ?_ | refine s2 (fun _ => ?_) (fun _ => ?_) | refine s4 fun _ _ _ _ => ?_ | fail)
                rw [hSl]
                (repeat' first | refine st ?_ | refine s2 (fun _ => ?_) (fun _ => ?_) | refine s4 fun _ _ _ _ => ?_ | fail)
                rw [hzl]
                (repeat' first | refine st ?_ | refine s2 (fun _ => ?_) (fun _ => ?_) | refine s4 fun _ _ _ _ => ?_ | fail)
                refine r_iaS rfl rfl (by first | with_reducible exact cself _ | exact nlit _) hbrow rfl ?_
                (repeat' first | refine st ?_ | refine s2 (fun _ => ?_) (fun _ => ?_) | refine s4 fun _ _ _ _ => ?_ | fail)
                rw [hbl]
                (repeat' first | refine st ?_ | refine s2 (fun _ => ?_) (fun _ => ?_) | refine s4 fun _ _ _ _ => ?_ | fail)
                rw [hzl]
                have inv : ∀ (oC : Objs) (m k : Nat) (X' : List (List C)), m < i → X'.length = n → (∀ j, j ≠ i → X'[j]? = X[j]?) → oC.rws 0 w 64 (X'.set i (rwC (orW W ins k ||| W.getD m 0))) → (ins.getD k 0).toNat = m →
                    ∃ X'', Hd (X''.length = n ∧ X''[i]? = some (rwC (orW W ins (k + 1))) ∧ ∀ j, j ≠ i → X''[j]? = X[j]?) ∧ oC.rws 0 w 64 X'' := by
                  intro oC m k X' hm l1 l2 hr eg
                  refine ⟨_, ⟨by rw [List.length_set]; exact l1, ?_, fun j hj => by rw [List.getElem?_set_ne (by omega)]; exact l2 j hj⟩, hr⟩
                  rw [List.getElem?_set_self (by omega)]
                  simp only [orW]; rw [eg]
                refine w_loopUp (fun k sl o' => k ≤ ins.length ∧ (∃ X', Hd (X'.length = n ∧ X'[i]? = some (rwC (orW W ins k)) ∧ ∀ j, j ≠ i → X'[j]? = X[j]?) ∧ o'.rws 0 w 64 X') ∧ Hd ((orW W ins k).testBit q = false) ∧
                  o'.cel 1 v8 [.p (.int .i64 kind), .p (.int .i64 (q : Nat)), .p (.sl (encZ ins))] ∧ sl 2 = vp (.pref [.sl (S.map brow)]) ∧ sl 5 = vn .i64 (tot + ins.length) ∧ sl 6 = .s (.c (.rs 0 w 64 0 n)) ∧ sl 7 = vn .i64 i ∧ sl 8 = .s (.c (.ptr 1 v8 0 0)) ∧
                  sl 29 = vs (G.map GA.row) ∧ sl 30 = vn .i64 n ∧ sl 31 = vn .i64 i ∧ sl 108 = vs (encZ ins) ∧ sl 109 = vn .i64 ins.length ∧ sl 110 = vn .i64 k) 0 ins.length
                  ⟨by omega, ⟨X, ⟨hX1, hXi, fun _ _ => rfl⟩, hrwB⟩, ⟨Nat.zero_testBit q⟩, hcB, rfl, rfl, rfl, rfl, rfl, rfl, rfl, rfl, rfl, rfl, rfl⟩ (fun i sl o h => h.1) ?_
                clear hrwB hcB
                rintro k sl o' ⟨hk, ⟨X', hX', hrw⟩, hbt, hc, s2, s5, s6, s7, s8, s29, s30, s31, s108, s109, s110⟩
                rw [upd6 s2 s5 s6 s7 s8 s29, upd5 s30 s31 s108 s109 s110]
                clear s2 s5 s6 s7 s8 s29 s30 s31 s108 s109 s110
                have lX1 := hX'.h.1
                have lX2 := hX'.h.2.1
                have lX3 := hX'.h.2.2
                by_cases hki : k < ins.length
                · have hx : ins[k]? = some ins[k] := List.getElem?_eq_getElem hki
                  generalize ins[k] = x at hx
                  have hxr := encZ_get hx
                  have hxb := hok k x hx
                  obtain ⟨m, rfl⟩ := Int.eq_ofNat_of_zero_le hxb.1
                  have hm : m < i := by omega
                  have eg : (ins.getD k 0).toNat = m := by rw [List.getD_eq_getElem?_getD, hx]; rfl
                  have hXm : X'[m]? = some (rwC (W.getD m 0)) := by rw [lX3 m (by omega)]; exact hX2 m (by omega)
                  have hh := rhas_ok (ext := ext) (w := W.getD m 0) (q := q) (hWL m).1 (by omega)
                  have pp := pur2 (o := o') (purRow hrw hXm) (c := .c (.p (.int .i64 (q : Nat)))) rfl
                  by_cases hbit : (W.getD m 0).testBit q = true
                  · rw [hbit] at hh
                    rw [hn1 _ (fun h => (h.cs hk2).2.2.2) (by
                      show ¬ (orW W ins ins.length).testBit q = false
                      rw [orW_in (k := k) hki (by rw [eg]; exact hbit)]; simp)]
                    clear hn1 hfin hor hWL hX2 hok inv
                    (repeat' first | refine st ?_ | refine s2 (fun _ => ?_) (fun _ => ?_) | refine s4 fun _ _ _ _ => ?_ | fail)
                    refine r_iaS rfl rfl (by first | with_reducible exact cself _ | exact nlit _) hxr rfl ?_
                    (repeat' first | refine st ?_ | refine s2 (fun _ => ?_) (fun _ => ?_) | refine s4 fun _ _ _ _ => ?_ | fail)
                    refine r_callS hh rfl rfl pp ?_
                    (repeat' first | refine st ?_ | refine s2 (fun _ => ?_) (fun _ => ?_) | refine s4 fun _ _ _ _ => ?_ | fail)
                    exact ends1 rfl rfl rfl
                  · have hbit : (W.getD m 0).testBit q = false := by simpa using hbit
                    rw [hbit] at hh
                    have hr := radd_ok (ext := ext) (base := 0 + 100) (hor k).1 (hWL m).1 hrw lX2 hXm (by omega)
                    have hbt2 : (orW W ins (k + 1)).testBit q = false := by simp only [orW, Nat.testBit_or]; rw [eg, hbit, hbt.h]; rfl
                    clear hn1 hfin hor hWL hX2 hok
                    (repeat' first | refine st ?_ | refine s2 (fun _ => ?_) (fun _ => ?_) | refine s4 fun _ _ _ _ => ?_ | fail)
                    refine r_iaS rfl rfl (by first | with_reducible exact cself _ | exact nlit _) hxr rfl ?_
                    (repeat' first | refine st ?_ | refine s2 (fun _ => ?_) (fun _ => ?_) | refine s4 fun _ _ _ _ => ?_ | fail)
                    refine r_callS hh rfl rfl pp ?_
                    (repeat' first | refine st ?_ | refine s2 (fun _ => ?_) (fun _ => ?_) | refine s4 fun _ _ _ _ => ?_ | fail)
                    refine r_callR hr rfl ?_
                    rintro oC r ⟨c1, c2, c3⟩
                    (repeat' first | refine st ?_ | refine s2 (fun _ => ?_) (fun _ => ?_) | refine s4 fun _ _ _ _ => ?_ | fail)
                    exact ⟨⟨by omega, inv oC m k X' hm lX1 lX3 c1 eg, ⟨hbt2⟩, by unfold Objs.cel; rw [c2 _ _ (by omega)]; exact hc, rfl, rfl, rfl, rfl, rfl, rfl, rfl, rfl, rfl, rfl, rfl⟩, rfl⟩
                · have hke : k = ins.length := by omega
                  subst hke
                  have hgo : gOK S i W ⟨kind, (q : Nat), ins⟩ := ⟨hok, by simp only; omega, fun _ => ⟨by simp only; omega, by simp only; omega, by show ins.length = pl S (Int.toNat (q : Nat)) + 1; rw [Int.toNat_natCast, hpl]; exact hlen, by show (orW W ins ins.length).testBit (Int.toNat (q : Nat)) = false; rw [Int.toNat_natCast]; exact hbt.h⟩,
                    fun h => absurd hk2 h, fun h => by simp only at h; omega, fun h => by simp only at h; omega, fun h => by simp only at h; omega⟩
                  have hgw : gW W ⟨kind, (q : Nat), ins⟩ = orW W ins ins.length ||| 2 ^ q := by unfold gW; rw [if_pos hk2]; rfl
                  have hwl := (hor ins.length).1
                  have hfin := hfin hgo (X'.set i (rwC (orW W ins ins.length ||| 2 ^ q))) (by rw [List.length_set]; exact lX1) (by rw [hgw, List.getElem?_set_self (by omega)]) (fun j hj => by rw [List.getElem?_set_ne (by omega)]; exact lX3 j hj)
                  have p2 : 2 ^ q < 18446744073709551616 := Nat.lt_of_lt_of_eq (Nat.pow_lt_pow_right (show 1 < 2 by decide) (show q < 64 by omega)) rfl
                  have ew : (1 : Nat) * 2 ^ min (q % 64) 64 % 18446744073709551616 = 2 ^ q := by
                    rw [Nat.mod_eq_of_lt (show q < 64 by omega), Nat.min_eq_left (by omega), Nat.one_mul, Nat.mod_eq_of_lt p2]
                  have e0 : q / 64 = 0 := Nat.div_eq_of_lt (by omega)
                  clear hn1 hor hWL hX2 hok inv
                  (repeat' first | refine st ?_ | refine s2 (fun _ => ?_) (fun _ => ?_) | refine s4 fun _ _ _ _ => ?_ | fail)
                  refine r_iaAR (k := 0) rfl rfl (by rw [e0]) (by omega) ?_
                  (repeat' first | refine st ?_ | refine s2 (fun _ => ?_) (fun _ => ?_) | refine s4 fun _ _ _ _ => ?_ | fail)
                  refine gr_ldF rfl hrw lX2 (rwC_get0 _) ?_
                  (repeat' first | refine st ?_ | refine s2 (fun _ => ?_) (fun _ => ?_) | refine s4 fun _ _ _ _ => ?_ | fail)
                  refine r_iaAR (k := 0) rfl rfl (by rw [e0]) (by omega) ?_
                  (repeat' first | refine st ?_ | refine s2 (fun _ => ?_) (fun _ => ?_) | refine s4 fun _ _ _ _ => ?_ | fail)
                  refine gr_stF rfl rfl hrw lX2 (by rw [rwC_len]; omega) ?_
                  intro oC c1 c2 c3
                  (repeat' first | refine st ?_ | refine s2 (fun _ => ?_) (fun _ => ?_) | refine s4 fun _ _ _ _ => ?_ | fail)
                  have c1 : oC.rws 0 w 64 (X'.set i (rwC (orW W ins ins.length ||| 1 * 2 ^ min (q % 64) 64 % 18446744073709551616))) := c1
                  rw [ew] at c1
                  exact ⟨⟨by omega, hfin.1, ⟨_, hfin.2, c1⟩, ⟨_, by omega, rfl⟩, rfl, rfl, rfl, rfl, rfl⟩, rfl⟩
              · rw [hn1 (ins.length = b.length + 1) (fun h => by have := (h.cs hk2).2.2.1; simp only [Int.toNat_natCast] at this; omega) hlen]
                clear hn1 hfin hor hWL hX2
                (repeat' first | refine st ?_ | refine s2 (fun _ => ?_) (fun _ => ?_) | refine s4 fun _ _ _ _ => ?_ | fail)
                rw [hSl]
                (repeat' first | refine st ?_ | refine s2 (fun _ => ?_) (fun _ => ?_) | refine s4 fun _ _ _ _ => ?_ | fail)
                rw [hzl]
                (repeat' first | refine st ?_ | refine s2 (fun _ => ?_) (fun _ => ?_) | refine s4 fun _ _ _ _ => ?_ | fail)
                refine r_iaS rfl rfl (by first | with_reducible exact cself _ | exact nlit _) hbrow rfl ?_
                (repeat' first | refine st ?_ | refine s2 (fun _ => ?_) (fun _ => ?_) | refine s4 fun _ _ _ _ => ?_ | fail)
                rw [hbl]
                (repeat' first | refine st ?_ | refine s2 (fun _ => ?_) (fun _ => ?_) | refine s4 fun _ _ _ _ => ?_ | fail)
                exact ends1 rfl rfl rfl
            · rw [hn1 (block < S.length) (fun h => (h.cs hk2).2.1) hbS]
              clear hn1 hfin hor hWL hX2
              (repeat' first | refine st ?_ | refine s2 (fun _ => ?_) (fun _ => ?_) | refine s4 fun _ _ _ _ => ?_ | fail)
              rw [hSl]
              (repeat' first | refine st ?_ | refine s2 (fun _ => ?_) (fun _ => ?_) | refine s4 fun _ _ _ _ => ?_ | fail)
              exact ends1 rfl rfl rfl
        · have hgw : gW W ⟨kind, block, ins⟩ = orW W ins ins.length := by unfold gW; rw [if_neg hk2]
          rw [hgw] at hfin
          by_cases hb0 : block = 0
          · by_cases h01 : kind = 0 ∨ kind = 1
            · by_cases hl0 : ins.length = 0
              · have hgo : gOK S i W ⟨kind, block, ins⟩ := ⟨hok, by simp only; omega, fun h => absurd h hk2, fun _ => hb0, fun _ => hl0, fun h => by simp only at h; omega, fun h => by simp only at h; omega⟩
                have hfin := hfin hgo X hX1 (by rw [hl0]; exact hXi) (fun _ _ => rfl)
                clear hn1 hor hWL hX2 hok
                rcases h01 with h01 | h01
                · (repeat' first | refine st ?_ | refine s2 (fun _ => ?_) (fun _ => ?_) | refine s4 fun _ _ _ _ => ?_ | fail)
                  rw [hzl]
                  (repeat' first | refine st ?_ | refine s2 (fun _ => ?_) (fun _ => ?_) | refine s4 fun _ _ _ _ => ?_ | fail)
                  exact ⟨⟨by omega, hfin.1, ⟨X, hfin.2, hrwB⟩, ⟨_, by omega, rfl⟩, rfl, rfl, rfl, rfl, rfl⟩, rfl⟩
                · (repeat' first | refine st ?_ | refine s2 (fun _ => ?_) (fun _ => ?_) | refine s4 fun _ _ _ _ => ?_ | fail)
                  rw [hzl]
                  (repeat' first | refine st ?_ | refine s2 (fun _ => ?_) (fun _ => ?_) | refine s4 fun _ _ _ _ => ?_ | fail)
                  exact ⟨⟨by omega, hfin.1, ⟨X, hfin.2, hrwB⟩, ⟨_, by omega, rfl⟩, rfl, rfl, rfl, rfl, rfl⟩, rfl⟩
              · rw [hn1 _ (fun h => h.leaf h01) hl0]
                clear hn1 hfin hor hWL hX2 hok
                rcases h01 with h01 | h01
                · (repeat' first | refine st ?_ | refine s2 (fun _ => ?_) (fun _ => ?_) | refine s4 fun _ _ _ _ => ?_ | fail)
                  rw [hzl]
                  (repeat' first | refine st ?_ | refine s2 (fun _ => ?_) (fun _ => ?_) | refine s4 fun _ _ _ _ => ?_ | fail)
                  exact ends1 rfl rfl rfl
                · (repeat' first | refine st ?_ | refine s2 (fun _ => ?_) (fun _ => ?_) | refine s4 fun _ _ _ _ => ?_ | fail)
                  rw [hzl]
                  (repeat' first | refine st ?_ | refine s2 (fun _ => ?_) (fun _ => ?_) | refine s4 fun _ _ _ _ => ?_ | fail)
                  exact ends1 rfl rfl rfl
            · have n0 : kind ≠ 0 := fun h => h01 (.inl h)
              have n1 : kind ≠ 1 := fun h => h01 (.inr h)
              by_cases h5 : kind = 5
              · by_cases hl1 : ins.length = 1
                · have hgo : gOK S i W ⟨kind, block, ins⟩ := ⟨hok, by simp only; omega, fun h => absurd h hk2, fun _ => hb0, fun h => absurd h h01, fun h => by simp only at h; omega, fun _ => hl1⟩
                  have hx : ins[0]? = some ins[0] := List.getElem?_eq_getElem (by omega)
                  generalize ins[0] = x at hx
                  have hxr := encZ_get hx
                  have hxb := hok 0 x hx
                  obtain ⟨m, rfl⟩ := Int.eq_ofNat_of_zero_le hxb.1
                  have hm : m < i := by omega
                  have hXm := hX2 m (by omega)
                  have ew : orW W ins ins.length = W.getD m 0 := by
                    rw [hl1]
                    have : (ins.getD 0 0).toNat = m := by rw [List.getD_eq_getElem?_getD, hx]; rfl
                    simp only [orW, this, Nat.zero_or]
                  have hfin := hfin hgo (X.set i (rwC (W.getD m 0))) (by rw [List.length_set]; exact hX1) (by rw [ew, List.getElem?_set_self (by omega)]) (fun j hj => List.getElem?_set_ne (by omega))
                  clear hn1 hor hWL hX2 hok
                  (repeat' first | refine st ?_ | refine s2 (fun _ => ?_) (fun _ => ?_) | refine s4 fun _ _ _ _ => ?_ | fail)
                  rw [hzl]
                  (repeat' first | refine st ?_ | refine s2 (fun _ => ?_) (fun _ => ?_) | refine s4 fun _ _ _ _ => ?_ | fail)
                  refine r_iaS rfl rfl (by first | with_reducible exact cself _ | exact nlit _) hxr rfl ?_
                  (repeat' first | refine st ?_ | refine s2 (fun _ => ?_) (fun _ => ?_) | refine s4 fun _ _ _ _ => ?_ | fail)
                  refine gr_ldA rfl hrwB hXm rfl ?_
                  (repeat' first | refine st ?_ | refine s2 (fun _ => ?_) (fun _ => ?_) | refine s4 fun _ _ _ _ => ?_ | fail)
                  refine gr_stA rfl rfl hrwB hXi rfl rfl ?_
                  intro oC c1 c2 c3
                  (repeat' first | refine st ?_ | refine s2 (fun _ => ?_) (fun _ => ?_) | refine s4 fun _ _ _ _ => ?_ | fail)
                  exact ⟨⟨by omega, hfin.1, ⟨_, hfin.2, c1⟩, ⟨_, by omega, rfl⟩, rfl, rfl, rfl, rfl, rfl⟩, rfl⟩
                · rw [hn1 _ (fun h => h.nt h5) hl1]
                  clear hn1 hfin hor hWL hX2 hok
                  (repeat' first | refine st ?_ | refine s2 (fun _ => ?_) (fun _ => ?_) | refine s4 fun _ _ _ _ => ?_ | fail)
                  rw [hzl]
                  (repeat' first | refine st ?_ | refine s2 (fun _ => ?_) (fun _ => ?_) | refine s4 fun _ _ _ _ => ?_ | fail)
                  exact ends1 rfl rfl rfl
              · by_cases h34 : kind = 3 ∨ kind = 4
                · have h34' := h34
                  have inv : ∀ (oC : Objs) (m k : Nat) (X' : List (List C)), m < i → X'.length = n → (∀ j, j ≠ i → X'[j]? = X[j]?) → oC.rws 0 w 64 (X'.set i (rwC (orW W ins k ||| W.getD m 0))) → (ins.getD k 0).toNat = m →
                      ∃ X'', Hd (X''.length = n ∧ X''[i]? = some (rwC (orW W ins (k + 1))) ∧ ∀ j, j ≠ i → X''[j]? = X[j]?) ∧ oC.rws 0 w 64 X'' := by
                    intro oC m k X' hm l1 l2 hr eg
                    refine ⟨_, ⟨by rw [List.length_set]; exact l1, ?_, fun j hj => by rw [List.getElem?_set_ne (by omega)]; exact l2 j hj⟩, hr⟩
                    rw [List.getElem?_set_self (by omega)]
                    simp only [orW]; rw [eg]
                  rcases h34 with h34 | h34
                  · (repeat' first | refine st ?_ | refine s2 (fun _ => ?_) (fun _ => ?_) | refine s4 fun _ _ _ _ => ?_ | fail)
                    rw [hzl]
                    (repeat' first | refine st ?_ | refine s2 (fun _ => ?_) (fun _ => ?_) | refine s4 fun _ _ _ _ => ?_ | fail)
                    refine w_loopUp (fun k sl o' => k ≤ ins.length ∧ (∃ X', Hd (X'.length = n ∧ X'[i]? = some (rwC (orW W ins k)) ∧ ∀ j, j ≠ i → X'[j]? = X[j]?) ∧ o'.rws 0 w 64 X') ∧ Hd (∀ j, j < k → orW W ins j &&& W.getD (ins.getD j 0).toNat 0 = 0) ∧
                      o'.cel 1 v8 [.p (.int .i64 kind), .p (.int .i64 block), .p (.sl (encZ ins))] ∧ sl 2 = vp (.pref [.sl (S.map brow)]) ∧ sl 5 = vn .i64 (tot + ins.length) ∧ sl 6 = .s (.c (.rs 0 w 64 0 n)) ∧ sl 7 = vn .i64 i ∧ sl 8 = .s (.c (.ptr 1 v8 0 0)) ∧
                      sl 29 = vs (G.map GA.row) ∧ sl 30 = vn .i64 n ∧ sl 31 = vn .i64 i ∧ sl 153 = vs (encZ ins) ∧ sl 154 = vn .i64 ins.length ∧ sl 155 = vn .i64 k) 0 ins.length
                      ⟨by omega, ⟨X, ⟨hX1, hXi, fun _ _ => rfl⟩, hrwB⟩, ⟨fun j h => by omega⟩, hcB, rfl, rfl, rfl, rfl, rfl, rfl, rfl, rfl, rfl, rfl, rfl⟩ (fun i sl o h => h.1) ?_
                    clear hrwB hcB
                    rintro k sl o' ⟨hk, ⟨X', hX', hrw⟩, hdj, hc, s2, s5, s6, s7, s8, s29, s30, s31, s108, s109, s110⟩
                    rw [upd6 s2 s5 s6 s7 s8 s29, upd5 s30 s31 s108 s109 s110]
                    clear s2 s5 s6 s7 s8 s29 s30 s31 s108 s109 s110
                    have lX1 := hX'.h.1
                    have lX2 := hX'.h.2.1
                    have lX3 := hX'.h.2.2
                    by_cases hki : k < ins.length
                    · have hx : ins[k]? = some ins[k] := List.getElem?_eq_getElem hki
                      generalize ins[k] = x at hx
                      have hxr := encZ_get hx
                      have hxb := hok k x hx
                      obtain ⟨m, rfl⟩ := Int.eq_ofNat_of_zero_le hxb.1
                      have hm : m < i := by omega
                      have eg : (ins.getD k 0).toNat = m := by rw [List.getD_eq_getElem?_getD, hx]; rfl
                      have hXm : X'[m]? = some (rwC (W.getD m 0)) := by rw [lX3 m (by omega)]; exact hX2 m (by omega)
                      have hh := rmeets_ok (ext := ext) (hor k).1 (hWL m).1
                      have pp := pur2 (o := o') (purRow hrw lX2) (purRow hrw hXm)
                      by_cases hd : orW W ins k &&& W.getD m 0 = 0
                      · rw [decide_eq_false (fun h => h hd)] at hh
                        have hr := radd_ok (ext := ext) (base := 0 + 200) (hor k).1 (hWL m).1 hrw lX2 hXm (by omega)
                        have hdj' : ∀ j, j < k + 1 → orW W ins j &&& W.getD (ins.getD j 0).toNat 0 = 0 := by
                          intro j hj
                          by_cases hjk : j < k
                          · exact hdj.h j hjk
                          · have : j = k := by omega
                            subst this
                            rw [eg]; exact hd
                        clear hn1 hfin hor hWL hX2 hok
                        (repeat' first | refine st ?_ | refine s2 (fun _ => ?_) (fun _ => ?_) | refine s4 fun _ _ _ _ => ?_ | fail)
                        refine r_iaS rfl rfl (by first | with_reducible exact cself _ | exact nlit _) hxr rfl ?_
                        (repeat' first | refine st ?_ | refine s2 (fun _ => ?_) (fun _ => ?_) | refine s4 fun _ _ _ _ => ?_ | fail)
                        refine r_callS hh rfl rfl pp ?_
                        (repeat' first | refine st ?_ | refine s2 (fun _ => ?_) (fun _ => ?_) | refine s4 fun _ _ _ _ => ?_ | fail)
                        refine r_callR hr rfl ?_
                        rintro oC r ⟨c1, c2, c3⟩
                        (repeat' first | refine st ?_ | refine s2 (fun _ => ?_) (fun _ => ?_) | refine s4 fun _ _ _ _ => ?_ | fail)
                        exact ⟨⟨by omega, inv oC m k X' hm lX1 lX3 c1 eg, ⟨hdj'⟩, by unfold Objs.cel; rw [c2 _ _ (by omega)]; exact hc, rfl, rfl, rfl, rfl, rfl, rfl, rfl, rfl, rfl, rfl, rfl⟩, rfl⟩
                      · rw [decide_eq_true hd] at hh
                        rw [hn1 _ (fun h => h.dj h34' k hki) (by show ¬ (orW W ins k &&& W.getD (ins.getD k 0).toNat 0 = 0); rw [eg]; exact hd)]
                        clear hn1 hfin hor hWL hX2 hok inv
                        (repeat' first | refine st ?_ | refine s2 (fun _ => ?_) (fun _ => ?_) | refine s4 fun _ _ _ _ => ?_ | fail)
                        refine r_iaS rfl rfl (by first | with_reducible exact cself _ | exact nlit _) hxr rfl ?_
                        (repeat' first | refine st ?_ | refine s2 (fun _ => ?_) (fun _ => ?_) | refine s4 fun _ _ _ _ => ?_ | fail)
                        refine r_callS hh rfl rfl pp ?_
                        (repeat' first | refine st ?_ | refine s2 (fun _ => ?_) (fun _ => ?_) | refine s4 fun _ _ _ _ => ?_ | fail)
                        exact ends1 rfl rfl rfl
                    · have hke : k = ins.length := by omega
                      subst hke
                      have hgo : gOK S i W ⟨kind, block, ins⟩ := ⟨hok, by simp only; omega, fun h => absurd h hk2, fun _ => hb0, fun h => absurd h h01, fun _ => hdj.h, fun h => absurd h h5⟩
                      have hfin := hfin hgo X' lX1 lX2 lX3
                      clear hn1 hor hWL hX2 hok inv
                      (repeat' first | refine st ?_ | refine s2 (fun _ => ?_) (fun _ => ?_) | refine s4 fun _ _ _ _ => ?_ | fail)
                      exact ⟨⟨by omega, hfin.1, ⟨_, hfin.2, hrw⟩, ⟨_, by omega, rfl⟩, rfl, rfl, rfl, rfl, rfl⟩, rfl⟩
                  · (repeat' first | refine st ?_ | refine s2 (fun _ => ?_) (fun _ => ?_) | refine s4 fun _ _ _ _ => ?_ | fail)
                    rw [hzl]
                    (repeat' first | refine st ?_ | refine s2 (fun _ => ?_) (fun _ => ?_) | refine s4 fun _ _ _ _ => ?_ | fail)
                    refine w_loopUp (fun k sl o' => k ≤ ins.length ∧ (∃ X', Hd (X'.length = n ∧ X'[i]? = some (rwC (orW W ins k)) ∧ ∀ j, j ≠ i → X'[j]? = X[j]?) ∧ o'.rws 0 w 64 X') ∧ Hd (∀ j, j < k → orW W ins j &&& W.getD (ins.getD j 0).toNat 0 = 0) ∧
                      o'.cel 1 v8 [.p (.int .i64 kind), .p (.int .i64 block), .p (.sl (encZ ins))] ∧ sl 2 = vp (.pref [.sl (S.map brow)]) ∧ sl 5 = vn .i64 (tot + ins.length) ∧ sl 6 = .s (.c (.rs 0 w 64 0 n)) ∧ sl 7 = vn .i64 i ∧ sl 8 = .s (.c (.ptr 1 v8 0 0)) ∧
                      sl 29 = vs (G.map GA.row) ∧ sl 30 = vn .i64 n ∧ sl 31 = vn .i64 i ∧ sl 153 = vs (encZ ins) ∧ sl 154 = vn .i64 ins.length ∧ sl 155 = vn .i64 k) 0 ins.length
                      ⟨by omega, ⟨X, ⟨hX1, hXi, fun _ _ => rfl⟩, hrwB⟩, ⟨fun j h => by omega⟩, hcB, rfl, rfl, rfl, rfl, rfl, rfl, rfl, rfl, rfl, rfl, rfl⟩ (fun i sl o h => h.1) ?_
                    clear hrwB hcB
                    rintro k sl o' ⟨hk, ⟨X', hX', hrw⟩, hdj, hc, s2, s5, s6, s7, s8, s29, s30, s31, s108, s109, s110⟩
                    rw [upd6 s2 s5 s6 s7 s8 s29, upd5 s30 s31 s108 s109 s110]
                    clear s2 s5 s6 s7 s8 s29 s30 s31 s108 s109 s110
                    have lX1 := hX'.h.1
                    have lX2 := hX'.h.2.1
                    have lX3 := hX'.h.2.2
                    by_cases hki : k < ins.length
                    · have hx : ins[k]? = some ins[k] := List.getElem?_eq_getElem hki
                      generalize ins[k] = x at hx
                      have hxr := encZ_get hx
                      have hxb := hok k x hx
                      obtain ⟨m, rfl⟩ := Int.eq_ofNat_of_zero_le hxb.1
                      have hm : m < i := by omega
                      have eg : (ins.getD k 0).toNat = m := by rw [List.getD_eq_getElem?_getD, hx]; rfl
                      have hXm : X'[m]? = some (rwC (W.getD m 0)) := by rw [lX3 m (by omega)]; exact hX2 m (by omega)
                      have hh := rmeets_ok (ext := ext) (hor k).1 (hWL m).1
                      have pp := pur2 (o := o') (purRow hrw lX2) (purRow hrw hXm)
                      by_cases hd : orW W ins k &&& W.getD m 0 = 0
                      · rw [decide_eq_false (fun h => h hd)] at hh
                        have hr := radd_ok (ext := ext) (base := 0 + 200) (hor k).1 (hWL m).1 hrw lX2 hXm (by omega)
                        have hdj' : ∀ j, j < k + 1 → orW W ins j &&& W.getD (ins.getD j 0).toNat 0 = 0 := by
                          intro j hj
                          by_cases hjk : j < k
                          · exact hdj.h j hjk
                          · have : j = k := by omega
                            subst this
                            rw [eg]; exact hd
                        clear hn1 hfin hor hWL hX2 hok
                        (repeat' first | refine st ?_ | refine s2 (fun _ => ?_) (fun _ => ?_) | refine s4 fun _ _ _ _ => ?_ | fail)
                        refine r_iaS rfl rfl (by first | with_reducible exact cself _ | exact nlit _) hxr rfl ?_
                        (repeat' first | refine st ?_ | refine s2 (fun _ => ?_) (fun _ => ?_) | refine s4 fun _ _ _ _ => ?_ | fail)
                        refine r_callS hh rfl rfl pp ?_
                        (repeat' first | refine st ?_ | refine s2 (fun _ => ?_) (fun _ => ?_) | refine s4 fun _ _ _ _ => ?_ | fail)
                        refine r_callR hr rfl ?_
                        rintro oC r ⟨c1, c2, c3⟩
                        (repeat' first | refine st ?_ | refine s2 (fun _ => ?_) (fun _ => ?_) | refine s4 fun _ _ _ _ => ?_ | fail)
                        exact ⟨⟨by omega, inv oC m k X' hm lX1 lX3 c1 eg, ⟨hdj'⟩, by unfold Objs.cel; rw [c2 _ _ (by omega)]; exact hc, rfl, rfl, rfl, rfl, rfl, rfl, rfl, rfl, rfl, rfl, rfl⟩, rfl⟩
                      · rw [decide_eq_true hd] at hh
                        rw [hn1 _ (fun h => h.dj h34' k hki) (by show ¬ (orW W ins k &&& W.getD (ins.getD k 0).toNat 0 = 0); rw [eg]; exact hd)]
                        clear hn1 hfin hor hWL hX2 hok inv
                        (repeat' first | refine st ?_ | refine s2 (fun _ => ?_) (fun _ => ?_) | refine s4 fun _ _ _ _ => ?_ | fail)
                        refine r_iaS rfl rfl (by first | with_reducible exact cself _ | exact nlit _) hxr rfl ?_
                        (repeat' first | refine st ?_ | refine s2 (fun _ => ?_) (fun _ => ?_) | refine s4 fun _ _ _ _ => ?_ | fail)
                        refine r_callS hh rfl rfl pp ?_
                        (repeat' first | refine st ?_ | refine s2 (fun _ => ?_) (fun _ => ?_) | refine s4 fun _ _ _ _ => ?_ | fail)
                        exact ends1 rfl rfl rfl
                    · have hke : k = ins.length := by omega
                      subst hke
                      have hgo : gOK S i W ⟨kind, block, ins⟩ := ⟨hok, by simp only; omega, fun h => absurd h hk2, fun _ => hb0, fun h => absurd h h01, fun _ => hdj.h, fun h => absurd h h5⟩
                      have hfin := hfin hgo X' lX1 lX2 lX3
                      clear hn1 hor hWL hX2 hok inv
                      (repeat' first | refine st ?_ | refine s2 (fun _ => ?_) (fun _ => ?_) | refine s4 fun _ _ _ _ => ?_ | fail)
                      exact ⟨⟨by omega, hfin.1, ⟨_, hfin.2, hrw⟩, ⟨_, by omega, rfl⟩, rfl, rfl, rfl, rfl, rfl⟩, rfl⟩
                · have n3 : kind ≠ 3 := fun h => h34 (.inl h)
                  have n4 : kind ≠ 4 := fun h => h34 (.inr h)
                  rw [hn1 (0 ≤ kind ∧ kind ≤ 5) (fun h => h.kd) (by omega)]
                  clear hn1 hfin hor hWL hX2 hok
                  (repeat' first | refine st ?_ | refine s2 (fun _ => ?_) (fun _ => ?_) | refine s4 fun _ _ _ _ => ?_ | fail)
                  exact ends1 rfl rfl rfl
          · rw [hn1 _ (fun h => h.nb hk2) hb0]
            clear hn1 hfin hor hWL hX2 hok
            (repeat' first | refine st ?_ | refine s2 (fun _ => ?_) (fun _ => ?_) | refine s4 fun _ _ _ _ => ?_ | fail)
            exact ends1 rfl rfl rfl
    · have hie : i = n := by omega
      rw [h3 (fun j g hg => hok.h j g (by rw [hie, ← hn]; exact (List.getElem?_eq_some_iff.1 hg).1) hg)]
      (repeat' first | refine st ?_ | refine s2 (fun _ => ?_) (fun _ => ?_) | refine s4 fun _ _ _ _ => ?_ | fail)
      exact ends1 rfl rfl rfl
  · have hv := spaceValid_ok (ext := ext) (S := S) (t := false) hS hSF (fun _ _ _ _ => rfl) (fun h => absurd h hSV)
    rw [h1 hSV]
    unfold spc at hv ⊢
    unfold crc
    clear h1 h2 h3
    refine PCall.walk (env := env) (g := 96) rfl rfl ?_
    (repeat' first | refine st ?_ | refine s2 (fun _ => ?_) (fun _ => ?_) | refine s4 fun _ _ _ _ => ?_ | fail)
    refine r_call1 hv rfl rfl ?_
    (repeat' first | refine st ?_ | refine s2 (fun _ => ?_) (fun _ => ?_) | refine s4 fun _ _ _ _ => ?_ | fail)
    exact ends1 rfl rfl rfl
end Go.Av
