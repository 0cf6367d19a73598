/- The abstract machine of the Av files, fifth part: what is read through the objects is what the memory holds. No condition. -/
import Derived.Test.YtpdobdimlbhaoaaGreatAvMem
namespace Go.Av
open Go Go.RowKit

theorem allSome_spec {α : Type} : ∀ {l : List (Option α)} {r : List α}, allSome l = some r → l = r.map some
  | [], r, h => by simp [allSome] at h; subst h; rfl
  | none :: _, r, h => by simp [allSome] at h
  | some x :: l, r, h => by
    simp only [allSome] at h
    cases hl : allSome l with
    | none => simp [hl] at h
    | some l' =>
      simp only [hl, Option.some.injEq] at h
      subst h
      rw [allSome_spec hl]; rfl

theorem allSome_map {α : Type} : ∀ (r : List α), allSome (r.map some) = some r
  | [] => rfl
  | x :: r => by simp [allSome, allSome_map r]

/-- What allSome of a map says, place by place. -/
theorem allSome_get {α γ : Type} {f : γ → Option α} {l : List γ} {r : List α} (h : allSome (l.map f) = some r) :
    r.length = l.length ∧ ∀ (i : Nat) (y : α), r[i]? = some y → ∃ x, l[i]? = some x ∧ f x = some y := by
  have e := allSome_spec h
  have hl : r.length = l.length := by simpa using (congrArg List.length e).symm
  refine ⟨hl, fun i y hy => ?_⟩
  have ei := congrArg (fun z => z[i]?) e
  simp only [List.getElem?_map, hy, Option.map_some] at ei
  cases hx : l[i]? with
  | none => simp [hx] at ei
  | some x => simp [hx] at ei; exact ⟨x, rfl, ei⟩

variable {fm : Nat → Nat} {Z : ZM} {β : BM} {objs : Objs} {w0 w : World}

/-- Memory in which the blocks of some objects are known for good. -/
structure FZ (Z : ZM) (β : BM) (objs : Objs) (w : World) (ids : List (Nat × Nat)) (Zf : ZM) : Prop where
  old : ∀ b c, Z b = some c → Zf b = some c
  here : ∀ o v ob b, (o, v) ∈ ids → objs.m o v = some ob → blockOf β o v = some b → ∃ cells e, Zf b = some cells ∧ w.heap[b]? = some (.cells cells e (0, 0))
  only : ∀ b c, Zf b = some c → Z b = some c ∨ ∃ o v ob, (o, v) ∈ ids ∧ objs.m o v = some ob ∧ blockOf β o v = some b
  hz : ∀ b cells, Zf b = some cells → ∃ e f, w.heap[b]? = some (.cells cells e f)

theorem OR.heap {B : Nat} {o v : Nat} {ob : Obj} (h : OR fm Z β B w o v ob) {b : Nat} (hb : blockOf β o v = some b) :
    ∃ cells e, w.heap[b]? = some (.cells cells e (0, 0)) ∧ Z b = if ob.frozen then some cells else none := by
  obtain ⟨base, n, sz, hl⟩ := blockOf_some hb
  unfold OR at h
  simp only [hl] at h
  obtain ⟨_, _, cells, e, h3, _, _, _, _, h8⟩ := h
  exact ⟨cells, e, h3, h8⟩

theorem FZ.exists_ (h : WR fm Z β objs w0 w) : ∀ ids, ∃ Zf, FZ Z β objs w ids Zf
  | [] => ⟨Z, fun _ _ h => h, fun _ _ _ _ h => by simp at h, fun _ _ h => .inl h, h.hz⟩
  | (o, v) :: ids => by
    obtain ⟨Zf, hf⟩ := FZ.exists_ h ids
    have skip : (∀ ob b, objs.m o v = some ob → blockOf β o v = some b → ∃ cells e, Zf b = some cells ∧ w.heap[b]? = some (.cells cells e (0, 0))) → ∃ Zf, FZ Z β objs w ((o, v) :: ids) Zf := by
      intro hs
      refine ⟨Zf, hf.old, fun o' v' ob b ho hob hb => ?_, fun b c hb => ?_, hf.hz⟩
      · simp only [List.mem_cons, Prod.mk.injEq] at ho
        rcases ho with ⟨rfl, rfl⟩ | ho
        · exact hs ob b hob hb
        · exact hf.here o' v' ob b ho hob hb
      · rcases hf.only b c hb with k | ⟨o', v', ob, k1, k2, k3⟩
        · exact .inl k
        · exact .inr ⟨o', v', ob, by simp [k1], k2, k3⟩
    cases hob : objs.m o v with
    | none => exact skip fun ob b h1 => by rw [hob] at h1; cases h1
    | some ob =>
      cases hb : blockOf β o v with
      | none => exact skip fun ob' b h1 h2 => by rw [hb] at h2; cases h2
      | some b =>
        obtain ⟨cells, e, k1, k2⟩ := (h.ho o v ob hob).heap hb
        cases hz : Zf b with
        | some c =>
          refine skip fun ob' b' h1 h2 => ?_
          rw [hb] at h2; cases h2
          obtain ⟨e', f, k⟩ := hf.hz b c hz
          rw [k1] at k; cases k
          exact ⟨_, _, hz, k1⟩
        | none =>
          refine ⟨upd Zf b (some cells), fun b' c hc => ?_, fun o' v' ob' b' ho' hob' hb' => ?_, fun b' c hc => ?_, fun b' c hc => ?_⟩
          · have := hf.old b' c hc
            rw [upd_ne _ _ _ _ (by rintro rfl; rw [hz] at this; cases this)]; exact this
          · by_cases hbb : b' = b
            · subst hbb; exact ⟨cells, e, by simp, k1⟩
            · rw [upd_ne _ _ _ _ hbb]
              simp only [List.mem_cons, Prod.mk.injEq] at ho'
              rcases ho' with ⟨rfl, rfl⟩ | ho'
              · rw [hb] at hb'; cases hb'; exact (hbb rfl).elim
              · exact hf.here o' v' ob' b' ho' hob' hb'
          · by_cases hbb : b' = b
            · subst hbb; exact .inr ⟨o, v, ob, by simp, hob, hb⟩
            · rw [upd_ne _ _ _ _ hbb] at hc
              rcases hf.only b' c hc with k | ⟨o', v', ob', k1, k2, k3⟩
              · exact .inl k
              · exact .inr ⟨o', v', ob', by simp [k1], k2, k3⟩
          · by_cases hbb : b' = b
            · subst hbb; simp at hc; subst hc; exact ⟨e, _, k1⟩
            · rw [upd_ne _ _ _ _ hbb] at hc; exact hf.hz b' c hc

/-- With these objects frozen the memory is still told rightly. -/
theorem FZ.wr {ids : List (Nat × Nat)} {Zf : ZM} (hf : FZ Z β objs w ids Zf) (h : WR fm Z β objs w0 w) : WR fm Zf β (fzIds ids objs) w0 w := by
  have key : ∀ o v ob, (fzIds ids objs).m o v = some ob → ∃ ob', objs.m o v = some ob' ∧ ob = { ob' with frozen := ob'.frozen || ids.contains (o, v) } := by
    intro o v ob ho
    unfold fzIds at ho
    cases hob : objs.m o v with
    | none => simp [hob] at ho
    | some ob' => simp [hob] at ho; exact ⟨ob', rfl, by rw [← ho]; simp⟩
  refine ⟨h.below, hf.hz, fun o v ob ho => ?_, fun o1 v1 ob1 o2 v2 ob2 b g1 g2 k1 k2 => ?_, h.hβ⟩
  · obtain ⟨ob', hob, rfl⟩ := key o v ob ho
    have hor := h.ho o v ob' hob
    have hor' := hor
    unfold OR at hor ⊢
    cases hl : β o v with
    | none => simp [hl] at hor
    | some l =>
      cases l with
      | nil => simpa [hl] using hor
      | map r =>
        simp only [hl] at hor ⊢
        obtain ⟨h1, es, clk, h2, h3, h4⟩ := hor
        refine ⟨h1, es, clk, h2, h3, fun i x hi => ?_⟩
        obtain ⟨e, k1, k2⟩ := h4 i x hi
        exact ⟨e, k1, k2.mono hf.old (BExt.refl _)⟩
      | at_ b base n sz =>
        simp only [hl] at hor ⊢
        obtain ⟨h1, h2, cells, e, h3, h4, h5, h6, h7, h8⟩ := hor
        refine ⟨h1, h2, cells, e, h3, h4, h5, h6, fun i j x c hi hj => (h7 i j x c hi hj).mono hf.old (BExt.refl _), ?_⟩
        have hb : blockOf β o v = some b := by simp [blockOf, hl]
        by_cases hid : (o, v) ∈ ids
        · obtain ⟨cells', e', k1, k2⟩ := hf.here o v ob' b hid hob hb
          rw [h3] at k2; cases k2
          simp [hid, k1]
        · have hcn : ids.contains (o, v) = false := by simpa using hid
          rw [hcn, Bool.or_false]
          by_cases hfr : ob'.frozen = true
          · rw [if_pos hfr] at h8 ⊢; exact hf.old _ _ h8
          · rw [if_neg hfr] at h8 ⊢
            cases hz : Zf b with
            | none => rfl
            | some c =>
              rcases hf.only b c hz with k | ⟨o2, v2, ob2, k1, k2, k3⟩
              · rw [h8] at k; cases k
              · obtain ⟨ba, n', s, hl2⟩ := blockOf_some k3
                have := h.inj _ _ _ _ _ _ _ hob k2 (anyOf_at hl) (anyOf_at hl2)
                obtain ⟨rfl, rfl⟩ := this
                exact (hid k1).elim
  · obtain ⟨x1, y1, rfl⟩ := key _ _ _ g1
    obtain ⟨x2, y2, rfl⟩ := key _ _ _ g2
    exact h.inj _ _ _ _ _ _ _ y1 y2 k1 k2

/-- What purC reads is what the memory holds. -/
theorem purC_PR {ids : List (Nat × Nat)} {Zf : ZM} (hf : FZ Z β objs w ids Zf) (h : WR fm Z β objs w0 w) : ∀ (n : Nat) (v : Value) (c : C) (x : PC),
    VR fm Z β v c → purC objs n c = some x → (∀ o, o ∈ rchC objs n c → o ∈ ids) → PR fm Zf v x := by
  intro n
  induction n with
  | zero =>
    intro v c x hv hp hr
    cases c with
    | p y => cases hv with | p hv => simp [purC] at hp; subst hp; exact hv.mono hf.old
    | e0 => cases hv; simp [purC] at hp; subst hp; exact .sl0
    | _ => simp [purC] at hp
  | succ n ih =>
    intro v c x hv hp hr
    cases c with
    | p y => cases hv with | p hv => simp [purC] at hp; subst hp; exact hv.mono hf.old
    | e0 => cases hv; simp [purC] at hp; subst hp; exact .sl0
    | nilp => simp [purC] at hp
    | mp o u => simp [purC] at hp
    | nilm => simp [purC] at hp
    | rs o u sz st len =>
      simp only [purC] at hp
      cases hob : objs.m o u with
      | none => simp [hob] at hp
      | some ob =>
        simp only [hob] at hp
        by_cases hc : ob.sz = sz ∧ st + len ≤ ob.elems.length
        · rw [if_pos hc] at hp
          obtain ⟨rfl, hle⟩ := hc
          cases hxs : allSome (((ob.elems.drop st).take len).map fun x => allSome (x.map (purC objs n))) with
          | none => rw [hxs] at hp; cases hp
          | some xs =>
            simp only [hxs, Option.map_some, Option.some.injEq] at hp
            subst hp
            obtain ⟨hl, hget⟩ := allSome_get hxs
            have hlen : xs.length = len := by
              rw [hl]; simp; omega
            have hor := h.ho o u ob hob
            unfold OR at hor
            have hcases : v = .slice none 0 0 ∧ len = 0 ∨ ∃ b base m sz' cap a, β o u = some (.at_ b base m sz') ∧ len ≤ cap ∧ (cap ≠ 0 → a = (⟨b, base + st * sz', none⟩ : Addr)) ∧ v = .slice (some a) len cap ∧ True := by
              cases hv with
              | rsn hβ => exact .inl ⟨rfl, rfl⟩
              | rs hβ h1 h2 h3 => rename_i b base m cap a; exact .inr ⟨b, base, m, ob.sz, cap, a, hβ, h1, h3, rfl, trivial⟩
            rcases hcases with ⟨rfl, hl0⟩ | ⟨b, base, m, sz', cap, a, hβ, hcap, ha, rfl, -⟩
            · obtain rfl : xs = [] := List.length_eq_zero_iff.1 (by omega)
              exact .sl0
            · simp only [hβ] at hor
              obtain ⟨h1, h2, cells, e, h3, h4, h5, h6, h7, h8⟩ := hor
              subst h1
              by_cases h0 : len = 0
              · obtain rfl : xs = [] := List.length_eq_zero_iff.1 (by omega)
                subst h0; exact .sl0
              · have hz : ∃ cells' e', Zf b = some cells' ∧ w.heap[b]? = some (.cells cells' e' (0, 0)) :=
                  hf.here o u ob b (hr (o, u) (by simp [rchC])) hob (by simp [blockOf, hβ])
                obtain ⟨cells', e', hz, hz'⟩ := hz
                rw [h3] at hz'; cases hz'
                rw [ha (by omega)]
                have hel : ∀ i y, xs[i]? = some y → ∃ x, ob.elems[st + i]? = some x ∧ allSome (x.map (purC objs n)) = some y := by
                  intro i y hy
                  obtain ⟨x, hx, hx2⟩ := hget i y hy
                  rw [List.getElem?_take] at hx
                  split at hx
                  · rw [List.getElem?_drop] at hx; exact ⟨x, hx, hx2⟩
                  · cases hx
                rw [← hlen] at hcap ⊢
                refine .sl (sz := ob.sz) hz hcap ?_ ?_ ?_
                · intro y hy
                  obtain ⟨i, hi⟩ := List.getElem?_of_mem hy
                  obtain ⟨x, hx, hx2⟩ := hel i y hi
                  rw [(allSome_get hx2).1]; exact h6 x (List.mem_of_getElem? hx)
                · have : base + (st + xs.length) * ob.sz ≤ base + ob.elems.length * ob.sz := Nat.add_le_add_left (Nat.mul_le_mul_right _ (by omega)) _
                  rw [h4, Nat.add_assoc, ← Nat.add_mul]; omega
                · intro i j y c hi hj
                  obtain ⟨x, hx, hx2⟩ := hel i y hi
                  obtain ⟨c0, hc0, hc1⟩ := (allSome_get hx2).2 j c hj
                  have hvr := h7 (st + i) j x c0 hx hc0
                  rw [show base + st * ob.sz + i * ob.sz + j = base + (st + i) * ob.sz + j by rw [Nat.add_mul]; omega]
                  refine ih _ _ _ hvr hc1 fun o' ho' => hr o' ?_
                  simp only [rchC, hob, List.mem_cons]
                  exact .inr (List.mem_flatMap.2 ⟨x, List.mem_of_getElem? hx, List.mem_flatMap.2 ⟨c0, List.mem_of_getElem? hc0, ho'⟩⟩)
        · rw [if_neg hc] at hp; cases hp
    | ptr o u i off =>
      simp only [purC] at hp
      cases hob : objs.m o u with
      | none => simp [hob] at hp
      | some ob =>
        simp only [hob] at hp
        · cases hx : ob.elems[i]? with
          | none => simp [hx] at hp
          | some x0 =>
            simp only [hx] at hp
            by_cases hoff : off ≤ x0.length
            · rw [if_pos hoff] at hp
              cases hxs : allSome ((x0.drop off).map (purC objs n)) with
              | none => rw [hxs] at hp; cases hp
              | some cs =>
                simp only [hxs, Option.map_some, Option.some.injEq] at hp
                subst hp
                obtain ⟨hl, hget⟩ := allSome_get hxs
                cases hv with
                | ptr hβ =>
                  rename_i b base m sz
                  have hor := h.ho o u ob hob
                  unfold OR at hor
                  simp only [hβ] at hor
                  obtain ⟨h1, h2, cells, e, h3, h4, h5, h6, h7, h8⟩ := hor
                  have hz : ∃ cells' e', Zf b = some cells' ∧ w.heap[b]? = some (.cells cells' e' (0, 0)) :=
                    hf.here o u ob b (hr (o, u) (by simp [rchC])) hob (by simp [blockOf, hβ])
                  obtain ⟨cells', e', hz, hz'⟩ := hz
                  rw [h3] at hz'; cases hz'
                  have hi : i < ob.elems.length := by
                    rcases Nat.lt_or_ge i ob.elems.length with h | h
                    · exact h
                    · rw [List.getElem?_eq_none h] at hx; cases hx
                  have hxl := h6 x0 (List.mem_of_getElem? hx)
                  refine .pref hz ?_ ?_
                  · have : (i + 1) * sz ≤ ob.elems.length * sz := Nat.mul_le_mul_right _ (by omega)
                    rw [Nat.add_mul, Nat.one_mul] at this
                    rw [hl, List.length_drop, h4]; omega
                  · intro j c hj
                    obtain ⟨c0, hc0, hc1⟩ := hget j c hj
                    rw [List.getElem?_drop] at hc0
                    have hvr := h7 i (off + j) x0 c0 hx hc0
                    rw [show base + i * sz + off + j = base + i * sz + (off + j) by omega]
                    refine ih _ _ _ hvr hc1 fun o' ho' => hr o' ?_
                    simp only [rchC, hob, List.mem_cons]
                    exact .inr (List.mem_flatMap.2 ⟨x0, List.mem_of_getElem? hx, List.mem_flatMap.2 ⟨c0, List.mem_of_getElem? hc0, ho'⟩⟩)
            · rw [if_neg hoff] at hp; cases hp

theorem purSV_up {ids : List (Nat × Nat)} {Zf : ZM} (hf : FZ Z β objs w ids Zf) (h : WR fm Z β objs w0 w) (β' : BM) {v : Value} {c : SV} {x : PSV}
    (hv : SR fm Z β v c) (hp : purSV objs c = some x) (hr : ∀ o, o ∈ rchSV objs c → o ∈ ids) : SR fm Zf β' v x.up := by
  cases c with
  | c y =>
    cases hv with
    | c hv =>
      simp only [purSV] at hp
      cases hy : purC objs purDepth y with
      | none => simp [hy] at hp
      | some z =>
        simp [hy] at hp; subst hp
        exact .c (.p (purC_PR hf h _ _ _ _ hv hy fun o ho => hr o (by simpa [rchSV, SV.cells] using ho)))
  | agg cs =>
    cases hv with
    | agg hl hv =>
      simp only [purSV] at hp
      cases hy : allSome (cs.map (purC objs purDepth)) with
      | none => simp [hy] at hp
      | some l =>
        simp [hy] at hp; subst hp
        obtain ⟨hll, hget⟩ := allSome_get hy
        refine .agg (by simp [hl, hll]) fun j c hj => ?_
        simp only [List.getElem?_map] at hj
        cases hlj : l[j]? with
        | none => simp [hlj] at hj
        | some y =>
          simp [hlj] at hj; subst hj
          obtain ⟨c0, hc0, hc1⟩ := hget j y hlj
          refine .p (purC_PR hf h _ _ _ _ (hv j c0 hc0) hc1 fun o ho => hr o ?_)
          exact List.mem_flatMap.2 ⟨c0, List.mem_of_getElem? hc0, ho⟩

theorem VR.p_inv {Z : ZM} {β : BM} {v : Value} {x : PC} (h : VR fm Z β v (.p x)) : PR fm Z v x := by
  generalize hc : C.p x = c at h
  cases h with
  | p h => cases hc; exact h
  | _ => cases hc

theorem purC_pure {c : C} {x : PC} (h : c.pure? = some x) (n : Nat) : purC objs n c = some x ∧ rchC objs n c = [] := by
  cases c with
  | p y => cases n <;> (simp [C.pure?] at h; subst h; exact ⟨by simp [purC], by simp [rchC]⟩)
  | e0 => cases n <;> (simp only [C.pure?, Option.some.injEq] at h; subst h; exact ⟨by simp [purC], by simp [rchC]⟩)
  | _ => simp [C.pure?] at h

theorem purSV_pure {c : SV} {x : PSV} (h : c.pure? = some x) : purSV objs c = some x ∧ rchSV objs c = [] := by
  cases c with
  | c y =>
    simp only [SV.pure?] at h
    cases hy : y.pure? with
    | none => simp [hy] at h
    | some z =>
      obtain ⟨h1, h2⟩ := purC_pure (objs := objs) hy purDepth
      rw [hy] at h
      exact ⟨by simp only [purSV, h1]; exact h, by simp [rchSV, SV.cells, h2]⟩
  | agg cs =>
    simp only [SV.pure?] at h
    cases hl : allSome (cs.map C.pure?) with
    | none => simp [hl] at h
    | some l =>
      have e := allSome_spec hl
      have hall : ∀ c, c ∈ cs → ∃ y, c.pure? = some y := by
        intro c hc
        have : c.pure? ∈ cs.map C.pure? := List.mem_map_of_mem hc
        rw [e] at this
        obtain ⟨y, _, hy⟩ := List.mem_map.1 this
        exact ⟨y, hy.symm⟩
      have e2 : cs.map (purC objs purDepth) = cs.map C.pure? := List.map_congr_left fun c hc => by
        obtain ⟨y, hy⟩ := hall c hc
        rw [hy]; exact (purC_pure hy _).1
      refine ⟨by simp only [purSV, e2, hl]; rw [hl] at h; exact h, ?_⟩
      simp only [rchSV, SV.cells]
      rw [List.flatMap_eq_nil_iff]
      intro c hc
      obtain ⟨y, hy⟩ := hall c hc
      exact (purC_pure hy _).2

theorem purSVs_pure : ∀ {l : List SV} {r : List PSV}, allSome (l.map SV.pure?) = some r → allSome (l.map (purSV objs)) = some r ∧ l.flatMap (rchSV objs) = []
  | [], r, h => ⟨by simpa using h, rfl⟩
  | x :: l, r, h => by
    simp only [List.map_cons] at h
    cases hx : x.pure? with
    | none => simp [hx, allSome] at h
    | some y =>
      simp only [hx, allSome] at h
      cases hl : allSome (l.map SV.pure?) with
      | none => simp [hl] at h
      | some r' =>
        simp only [hl, Option.some.injEq] at h
        subst h
        obtain ⟨h1, h2⟩ := purSVs_pure hl
        obtain ⟨h3, h4⟩ := purSV_pure (objs := objs) hx
        exact ⟨by simp [allSome, h3, h1], by simp [h4, h2]⟩

/-- Scalars hang on no memory. -/
theorem PR.scalar {Z' : ZM} {v : Value} {x : PC} (h : PR fm Z v x) (hs : x.scalar = true) : PR fm Z' v x := by
  cases h with
  | int => exact .int
  | bool => exact .bool
  | str => exact .str
  | sl0 => simp [PC.scalar] at hs
  | sl => simp [PC.scalar] at hs
  | pref => simp [PC.scalar] at hs
  | clo => simp [PC.scalar] at hs

theorem SR.up_any {Z : ZM} {β β' : BM} {v : Value} {x : PSV} (h : SR fm Z β v x.up) : SR fm Z β' v x.up := by
  cases x with
  | c y => cases h with | c h => exact .c (.p h.p_inv)
  | agg cs =>
    cases h with
    | agg hl h =>
      refine .agg hl fun j c hj => ?_
      have := h j c hj
      simp only [List.getElem?_map] at hj
      cases hc : cs[j]? with
      | none => simp [hc] at hj
      | some y => simp [hc] at hj; subst hj; exact .p this.p_inv

theorem SR.up_scalar {Z Z' : ZM} {β β' : BM} {v : Value} {x : PSV} (h : SR fm Z β v x.up) (hs : x.scalar = true) : SR fm Z' β' v x.up := by
  cases x with
  | c y => cases h with | c h => exact .c (.p (h.p_inv.scalar hs))
  | agg cs =>
    cases h with
    | agg hl h =>
      refine .agg hl fun j c hj => ?_
      have := h j c hj
      simp only [List.getElem?_map] at hj
      cases hc : cs[j]? with
      | none => simp [hc] at hj
      | some y =>
        simp [hc] at hj; subst hj
        have hy : y.scalar = true := by
          simp only [PSV.scalar, List.all_eq_true] at hs
          exact hs y (List.mem_of_getElem? hc)
        exact .p (this.p_inv.scalar hy)

theorem AR.up_any {Z : ZM} {β β' : BM} {v : Value} {x : PAV} (h : AR fm Z β v x.up) : AR fm Z β' v x.up := by
  cases x with
  | s y => cases h with | s h => exact .s h.up_any
  | tup l =>
    cases h with
    | tup hl h =>
      refine .tup hl fun j y hj => ?_
      have := h j y hj
      simp only [List.getElem?_map] at hj
      cases hc : l[j]? with
      | none => simp [hc] at hj
      | some z => simp [hc] at hj; subst hj; exact this.up_any

theorem AR.up_scalar {Z Z' : ZM} {β β' : BM} {v : Value} {x : PAV} (h : AR fm Z β v x.up) (hs : x.scalar = true) : AR fm Z' β' v x.up := by
  cases x with
  | s y => cases h with | s h => exact .s (h.up_scalar hs)
  | tup l =>
    cases h with
    | tup hl h =>
      refine .tup hl fun j y hj => ?_
      have := h j y hj
      simp only [List.getElem?_map] at hj
      cases hc : l[j]? with
      | none => simp [hc] at hj
      | some z =>
        simp [hc] at hj; subst hj
        have hz : z.scalar = true := by
          simp only [PAV.scalar, List.all_eq_true] at hs
          exact hs z (List.mem_of_getElem? hc)
        exact this.up_scalar hz

/-- A result, read through the objects of the call that made it. -/
theorem purAV_up {ids : List (Nat × Nat)} {Zf : ZM} (hf : FZ Z β objs w ids Zf) (h : WR fm Z β objs w0 w) (β' : BM) {v : Value} {c : AV} {x : PAV}
    (hv : AR fm Z β v c) (hp : purAV objs c = some x) (hr : ∀ o, o ∈ rchAV objs c → o ∈ ids) : AR fm Zf β' v x.up := by
  cases c with
  | u => simp [purAV] at hp
  | s y =>
    cases hv with
    | s hv =>
      simp only [purAV] at hp
      cases hy : purSV objs y with
      | none => simp [hy] at hp
      | some z =>
        simp [hy] at hp; subst hp
        exact .s (purSV_up hf h β' hv hy hr)
  | tup l =>
    cases hv with
    | tup hl hv =>
      simp only [purAV] at hp
      cases hy : allSome (l.map (purSV objs)) with
      | none => simp [hy] at hp
      | some l' =>
        simp [hy] at hp; subst hp
        obtain ⟨hll, hget⟩ := allSome_get hy
        refine .tup (by simp [hl, hll]) fun j c hj => ?_
        simp only [List.getElem?_map] at hj
        cases hlj : l'[j]? with
        | none => simp [hlj] at hj
        | some y =>
          simp [hlj] at hj; subst hj
          obtain ⟨c0, hc0, hc1⟩ := hget j y hlj
          exact purSV_up hf h β' (hv j c0 hc0) hc1 fun o ho => hr o (List.mem_flatMap.2 ⟨c0, List.mem_of_getElem? hc0, ho⟩)
end Go.Av
