/- The abstract machine of the Av files: rules for calls, appends and literals. No condition. -/
import Derived.Test.YthdilnjdkniofaaGreatAvNum
import Derived.Test.YthdilnjdkniofaaGreatAvMem
namespace Go.Av
open Go
section
variable {Γ : Calls0} {l : List AO} {F : List Fr} {Q : Ex → St → Prop} {sl : Nat → AV} {o : Objs} {b : Nat} {d : Nat} {x y z : Opd} {a c : Int} {m n : Nat} {k k' : IntKind}

theorem r_callG {g : Nat} {args : List Opd} {sv : List SV} {pv : List PSV} {res : PAV} (hc : PureC Γ g pv res) (ha : argsOf ⟨sl, o, b⟩ args = some sv) (hu : allSome (sv.map SV.pure?) = some pv)
    (h : WO Γ l F Q ⟨upd sl d res.up, o, b⟩) : WO Γ (⟨some d, .call g args, none⟩ :: l) F Q ⟨sl, o, b⟩ := by
  have h := h.h
  constructor
  unfold WpO
  obtain ⟨h1, h2⟩ := purSVs_pure (objs := o) hu
  have e : behind ⟨sl, o, b⟩ sv res = o := by
    unfold behind; split
    · rfl
    · simp only [h2, fzIds_nil]
  simp only [guardV, ha, thenO, h1, St.put]
  exact ⟨res, hc, by rw [e]; exact h⟩
theorem r_call1 {g : Nat} {args : List Opd} {sv : List SV} {pv : List PSV} {r : PC} (hc : PureC Γ g pv (.s (.c r))) (ha : argsOf ⟨sl, o, b⟩ args = some sv) (hu : allSome (sv.map SV.pure?) = some pv)
    (h : WO Γ l F Q ⟨upd sl d (vp r), o, b⟩) : WO Γ (⟨some d, .call g args, none⟩ :: l) F Q ⟨sl, o, b⟩ := r_callG hc ha hu h
theorem r_callA {g : Nat} {args : List Opd} {sv : List SV} {pv : List PSV} {r : List PC} (hc : PureC Γ g pv (.s (.agg r))) (ha : argsOf ⟨sl, o, b⟩ args = some sv) (hu : allSome (sv.map SV.pure?) = some pv)
    (h : WO Γ l F Q ⟨upd sl d (.s (.agg (r.map C.p))), o, b⟩) : WO Γ (⟨some d, .call g args, none⟩ :: l) F Q ⟨sl, o, b⟩ := r_callG hc ha hu h
theorem r_call2 {g : Nat} {args : List Opd} {sv : List SV} {pv : List PSV} {r1 r2 : PC} (hc : PureC Γ g pv (.tup [.c r1, .c r2])) (ha : argsOf ⟨sl, o, b⟩ args = some sv) (hu : allSome (sv.map SV.pure?) = some pv)
    (h : WO Γ l F Q ⟨upd sl d (.tup [.c (.p r1), .c (.p r2)]), o, b⟩) : WO Γ (⟨some d, .call g args, none⟩ :: l) F Q ⟨sl, o, b⟩ := r_callG hc ha hu h
theorem r_call3 {g : Nat} {args : List Opd} {sv : List SV} {pv : List PSV} {r1 r2 r3 : PC} (hc : PureC Γ g pv (.tup [.c r1, .c r2, .c r3])) (ha : argsOf ⟨sl, o, b⟩ args = some sv) (hu : allSome (sv.map SV.pure?) = some pv)
    (h : WO Γ l F Q ⟨upd sl d (.tup [.c (.p r1), .c (.p r2), .c (.p r3)]), o, b⟩) : WO Γ (⟨some d, .call g args, none⟩ :: l) F Q ⟨sl, o, b⟩ := r_callG hc ha hu h
theorem r_callR {g B : Nat} {args : List Opd} {sv : List SV} {P : Objs → AV → Prop} (hc : ∃ o' r, Γ g (b + B) o sv o' r ∧ P o' r) (ha : argsOf ⟨sl, o, b⟩ args = some sv)
    (h : ∀ o' r, P o' r → WO Γ l F Q ⟨upd sl d r, o', b⟩) : WO Γ (⟨some d, .callR B g args, none⟩ :: l) F Q ⟨sl, o, b⟩ := by
  obtain ⟨o', r, h1, h2⟩ := hc
  have h := (h o' r h2).h
  constructor
  unfold WpO
  simp only [guardV, ha, thenO, St.put]
  exact ⟨o', r, h1, h⟩
theorem r_callR0 {g B : Nat} {args : List Opd} {D : Option Nat} {sv : List SV} {P : Objs → AV → Prop} (hc : ∃ o' r, Γ g (b + B) o sv o' r ∧ P o' r) (ha : argsOf ⟨sl, o, b⟩ args = some sv)
    (h : ∀ o' r, P o' r → WO Γ l F Q (St.put ⟨sl, o', b⟩ D r)) : WO Γ (⟨D, .callR B g args, none⟩ :: l) F Q ⟨sl, o, b⟩ := by
  obtain ⟨o', r, h1, h2⟩ := hc
  have h := (h o' r h2).h
  constructor
  unfold WpO
  simp only [guardV, ha, thenO]
  exact ⟨o', r, h1, h⟩
theorem r_ext {i : Nat} {L : List SV} {v : SV} (hx : St.ev ⟨sl, o, b⟩ x = .tup L) (hv : L[i]? = some v) (h : WO Γ l F Q ⟨upd sl d (.s v), o, b⟩) : WO Γ (⟨some d, .ext i x, none⟩ :: l) F Q ⟨sl, o, b⟩ :=
  r_op (o' := o) (v := .s v) rfl (by simp only [aop, hx, hv, Option.map_some]) h

theorem r_sidx {tb : ByteArray} {v : UInt8} (hx : St.ev ⟨sl, o, b⟩ x = vp (.str tb)) (hi : St.ev ⟨sl, o, b⟩ y = .s (.c (.p (.int k a)))) (ha : a = (n : Int)) (hv : tb[n]? = some v) (h : WO Γ l F Q ⟨upd sl d (vn .u8 v.toNat), o, b⟩) :
    WO Γ (⟨some d, .sidx x y, none⟩ :: l) F Q ⟨sl, o, b⟩ := by
  subst ha
  refine r_op (o' := o) (v := vn .u8 v.toNat) rfl ?_ h
  simp [aop, hx, hi, AV.int?, hv]
-- rows of one number
theorem r_slP1 {zz : C} (hx : St.ev ⟨sl, o, b⟩ x = .s (.c (.p (.int k a)))) (ha : a = (n : Int)) (h : WO Γ l F Q ⟨upd sl d (vk k [n]), o, b⟩) : WO Γ (⟨some d, .slP 1 1 [zz] [(0, 1, x)], none⟩ :: l) F Q ⟨sl, o, b⟩ := by
  subst ha
  refine r_op (o' := o) (v := vk k [n]) rfl ?_ h
  simp [aop, rowOf, partsOf, hx, AV.cells?, SV.cells, fillA, setAt, chunk, allSome, C.pure?, encK]
theorem r_slP2 {zz zw : C} (hx : St.ev ⟨sl, o, b⟩ x = .s (.c (.p (.int k a)))) (ha : a = (n : Int)) (hy : St.ev ⟨sl, o, b⟩ y = .s (.c (.p (.int k c)))) (hc : c = (m : Int)) (h : WO Γ l F Q ⟨upd sl d (vk k [n, m]), o, b⟩) :
    WO Γ (⟨some d, .slP 2 1 [zz, zw] [(0, 1, x), (1, 1, y)], none⟩ :: l) F Q ⟨sl, o, b⟩ := by
  subst ha hc
  refine r_op (o' := o) (v := vk k [n, m]) rfl ?_ h
  simp [aop, rowOf, partsOf, hx, hy, AV.cells?, SV.cells, fillA, setAt, chunk, allSome, C.pure?, encK]
theorem r_slO0 (k : IntKind) {id sz : Nat} (hs : sz = 1) (h : ∀ o', o'.is (b + id) (o.nv (b + id)) k [] → (∀ o2 v2, ¬ (o2 = b + id ∧ v2 = o.nv (b + id)) → o'.m o2 v2 = o.m o2 v2) →
      (∀ o2, o'.nv o2 = if o2 = b + id then o.nv (b + id) + 1 else o.nv o2) → WO Γ l F Q ⟨upd sl d (.s (.c (.rs (b + id) (o.nv (b + id)) 1 0 0))), o', b⟩) :
    WO Γ (⟨some d, .slO id 0 sz [] [], none⟩ :: l) F Q ⟨sl, o, b⟩ := by
  subst hs
  refine r_op (o' := o.new (b + id) ⟨1, [], false⟩) (v := .s (.c (.rs (b + id) (o.nv (b + id)) 1 0 0))) rfl ?_ (h _ (by simp [Objs.is, Objs.new, encO]) (fun o2 v2 hne => by simp only [Objs.new, if_neg hne]) (fun o2 => rfl))
  simp [aop, rowOf, partsOf, fillA, chunk, newObj]
theorem enc_all (k : IntKind) (xs : List Nat) : (encK k xs).all (fun x => x.length == 1) = true := by simp [encK]
theorem enc_map (k : IntKind) (xs : List Nat) : (encK k xs).map (List.map C.p) = encO k xs := by simp [encK, encO]
theorem encO_app (k : IntKind) (xs ys : List Nat) : encO k (xs ++ ys) = encO k xs ++ encO k ys := by simp [encO]
theorem r_app0E {id sz bytes : Nat} {ys : List Nat} (hx : St.ev ⟨sl, o, b⟩ x = .s (.c .e0)) (hy : St.ev ⟨sl, o, b⟩ y = vk k ys) (hs : sz = 1) (he : ys.length = 0) (h : WO Γ l F Q ⟨upd sl d (.s (.c .e0)), o, b⟩) :
    WO Γ (⟨some d, .app id sz bytes x y, none⟩ :: l) F Q ⟨sl, o, b⟩ := by
  subst hs
  refine r_op (o' := o) (v := .s (.c .e0)) rfl ?_ h
  simp only [aop, hx, hy, sliceElems, enc_all, enc_map, if_true, encO_len, he, Option.map_some]
/-- An append to a nil slice. -/
theorem r_app0 {id sz bytes : Nat} {ys : List Nat} (hx : St.ev ⟨sl, o, b⟩ x = .s (.c .e0)) (hy : St.ev ⟨sl, o, b⟩ y = vk k ys) (hs : sz = 1) (he : ys.length ≠ 0) (hb : ys.length * bytes ≤ 140737488355328) (hn : ys.length ≤ 140737488355328)
    (h : ∀ o', o'.is (b + id) (o.nv (b + id)) k ys → (∀ o2 v2, ¬ (o2 = b + id ∧ v2 = o.nv (b + id)) → o'.m o2 v2 = o.m o2 v2) →
      (∀ o2, o'.nv o2 = if o2 = b + id then o.nv (b + id) + 1 else o.nv o2) → WO Γ l F Q ⟨upd sl d (.s (.c (.rs (b + id) (o.nv (b + id)) 1 0 ys.length))), o', b⟩) :
    WO Γ (⟨some d, .app id sz bytes x y, none⟩ :: l) F Q ⟨sl, o, b⟩ := by
  subst hs
  refine r_op (o' := o.new (b + id) ⟨1, encO k ys, false⟩) (v := .s (.c (.rs (b + id) (o.nv (b + id)) 1 0 ys.length))) rfl ?_ (h _ (by simp [Objs.is, Objs.new]) (fun o2 v2 hne => by simp only [Objs.new, if_neg hne]) (fun o2 => rfl))
  simp only [aop, hx, hy, sliceElems, enc_all, enc_map, if_true, encO_len]
  rw [if_neg he, if_pos ⟨hb, hn⟩]; rfl
/-- An append to a slice that is its object's end. -/
theorem r_app {id sz bytes oi ver st len : Nat} {xs ys : List Nat} (hx : St.ev ⟨sl, o, b⟩ x = .s (.c (.rs oi ver 1 st len))) (hy : St.ev ⟨sl, o, b⟩ y = vk k ys) (hs : sz = 1) (hm : o.is oi ver k xs) (hl : st + len = xs.length)
    (hb : (len + ys.length) * bytes ≤ 140737488355328) (hn : len + ys.length ≤ 140737488355328)
    (h : ∀ o', o'.is oi (o.nv oi) k (xs.drop st ++ ys) → (∀ o2 v2, o2 ≠ oi → o'.m o2 v2 = o.m o2 v2) → (∀ o2, o'.nv o2 = if o2 = oi then o.nv oi + 1 else o.nv o2) →
      WO Γ l F Q ⟨upd sl d (.s (.c (.rs oi (o.nv oi) 1 0 (len + ys.length)))), o', b⟩) :
    WO Γ (⟨some d, .app id sz bytes x y, none⟩ :: l) F Q ⟨sl, o, b⟩ := by
  subst hs
  refine r_op (o' := (o.set oi ver none).new oi ⟨1, encO k (xs.drop st ++ ys), false⟩) (v := .s (.c (.rs oi (o.nv oi) 1 0 (len + ys.length)))) rfl ?_ (h _ ?_ (fun o2 v2 hne => ?_) (fun o2 => rfl))
  · unfold Objs.is at hm
    simp only [aop, hx, hy, sliceElems, enc_all, enc_map, if_true, hm, encO_len]
    rw [if_pos ⟨trivial, trivial, trivial, hl, hb, hn⟩, encO_app]
    simp [encO, List.map_drop]
  · simp [Objs.is, Objs.new, Objs.set]
  · simp [Objs.new, Objs.set, hne]

/-- An append of an object's numbers to another object. -/
theorem r_appRR {id sz bytes oi ver st len o2 v2 n : Nat} {xs ys : List Nat} (hx : St.ev ⟨sl, o, b⟩ x = .s (.c (.rs oi ver 1 st len))) (hy : St.ev ⟨sl, o, b⟩ y = .s (.c (.rs o2 v2 1 0 n))) (hs : sz = 1) (hm : o.is oi ver k xs) (hm2 : o.is o2 v2 k ys) (hn2 : n ≤ ys.length) (hl : st + len = xs.length)
    (hb : (len + n) * bytes ≤ 140737488355328) (hn : len + n ≤ 140737488355328)
    (h : ∀ o', o'.is oi (o.nv oi) k (xs.drop st ++ ys.take n) → (∀ i v, i ≠ oi → o'.m i v = o.m i v) → (∀ i, o'.nv i = if i = oi then o.nv oi + 1 else o.nv i) →
      WO Γ l F Q ⟨upd sl d (.s (.c (.rs oi (o.nv oi) 1 0 (len + n)))), o', b⟩) :
    WO Γ (⟨some d, .app id sz bytes x y, none⟩ :: l) F Q ⟨sl, o, b⟩ := by
  subst hs
  have hlt : (ys.take n).length = n := by rw [List.length_take, Nat.min_eq_left hn2]
  have e2 : ((encO k ys).drop 0).take n = encO k (ys.take n) := by simp [encO, List.map_take]
  refine r_op (o' := (o.set oi ver none).new oi ⟨1, encO k (xs.drop st ++ ys.take n), false⟩) (v := .s (.c (.rs oi (o.nv oi) 1 0 (len + n)))) rfl ?_ (h _ ?_ (fun i v hne => ?_) (fun i => rfl))
  · unfold Objs.is at hm hm2
    have e3 : sliceElems o 1 (.s (.c (.rs o2 v2 1 0 n))) = some (encO k (ys.take n)) := by
      simp only [sliceElems, hm2]
      rw [if_pos ⟨trivial, trivial, by rw [encO_len]; omega⟩, e2]
    simp only [aop, hx, hy, e3, hm, encO_len, hlt]
    rw [if_pos ⟨trivial, trivial, trivial, hl, hb, hn⟩, encO_app]
    simp [encO, List.map_drop]
  · simp [Objs.is, Objs.new, Objs.set]
  · simp [Objs.new, Objs.set, hne]

theorem purK {oi ver : Nat} {xs : List Nat} (hm : o.is oi ver k xs) {n : Nat} (hn : n ≤ xs.length) : purSV o (.c (.rs oi ver 1 0 n)) = some (.c (.sl (encK k (xs.take n)))) := by
  unfold Objs.is at hm
  have e : ∀ (D : Nat) (ys : List Nat), allSome ((encO k ys).map fun x => allSome (x.map (purC o D))) = some (encK k ys) := by
    intro D ys
    induction ys with
    | nil => rfl
    | cons y ys ih =>
      have h1 : purC o D (C.p (PC.int k (y : Int))) = some (PC.int k (y : Int)) := by cases D <;> rfl
      simp only [encO, encK, List.map_cons, List.map_nil, h1, allSome] at ih ⊢
      rw [ih]
  have e2 : ((encO k xs).drop 0).take n = encO k (xs.take n) := by simp [encO, List.map_take]
  simp only [purSV, purDepth, purC, hm]
  rw [if_pos ⟨trivial, by simp [encO]; omega⟩, e2, e]
  rfl
end

theorem rchK {k : IntKind} {o : Objs} {oi ver : Nat} {xs : List Nat} (hm : o.is oi ver k xs) (n : Nat) : rchSV o (.c (.rs oi ver 1 0 n)) = [(oi, ver)] := by
  unfold Objs.is at hm
  have e : ∀ (D : Nat) (ys : List Nat), ((encO k ys).flatMap fun x => x.flatMap (rchC o D)) = [] := by
    intro D ys
    induction ys with
    | nil => rfl
    | cons y ys ih =>
      have h1 : rchC o D (C.p (PC.int k (y : Int))) = [] := by cases D <;> rfl
      simp only [encO, List.map_cons, List.flatMap_cons, List.flatMap_nil, h1, List.append_nil, List.nil_append] at ih ⊢
      exact ih
  simp only [rchSV, SV.cells, List.flatMap_cons, List.flatMap_nil, List.append_nil, purDepth, rchC, hm, e]
/-- A pure call whose one argument is an object of numbers. -/
theorem r_callM {Γ : Calls0} {l : List AO} {F : List Fr} {Q : Ex → St → Prop} {sl : Nat → AV} {o : Objs} {b d g oi ver n : Nat} {args : List Opd} {k : IntKind} {xs : List Nat} {r : PAV} (hm : o.is oi ver k xs) (hn : n ≤ xs.length)
    (hc : PureC Γ g [.c (.sl (encK k (xs.take n)))] r) (ha : argsOf ⟨sl, o, b⟩ args = some [.c (.rs oi ver 1 0 n)])
    (h : ∀ o', (∀ o2 v2, ¬ (o2 = oi ∧ v2 = ver) → o'.m o2 v2 = o.m o2 v2) → o'.nv = o.nv → WO Γ l F Q ⟨upd sl d r.up, o', b⟩) : WO Γ (⟨some d, .call g args, none⟩ :: l) F Q ⟨sl, o, b⟩ := by
  have e : ∀ o2 v2, ¬ (o2 = oi ∧ v2 = ver) → (behind ⟨sl, o, b⟩ [.c (.rs oi ver 1 0 n)] r).m o2 v2 = o.m o2 v2 := by
    intro o2 v2 hne
    unfold behind; split
    · rfl
    · simp only [List.flatMap_cons, List.flatMap_nil, List.append_nil, rchK hm, fzIds]
      have hf : [(oi, ver)].contains (o2, v2) = false := by
        simp only [List.contains_cons, List.contains_nil, Bool.or_false]
        rw [Bool.eq_false_iff]; intro hh
        have := eq_of_beq hh
        exact hne (by cases this; exact ⟨rfl, rfl⟩)
      cases ho : o.m o2 v2 with
      | none => rfl
      | some ob => simp only [hf, Bool.or_false]
  have e2 : (behind ⟨sl, o, b⟩ [.c (.rs oi ver 1 0 n)] r).nv = o.nv := by
    unfold behind; split <;> rfl
  have h := (h _ e e2).h
  constructor
  unfold WpO
  simp only [guardV, ha, thenO, List.map_cons, List.map_nil, purK hm hn, allSome, St.put]
  exact ⟨r, hc, h⟩

/-- How a run of a body shows a call, whatever the objects. -/
def EndsR (rs : List ARes) (P : Objs → AV → Prop) (e : Ex) (s : St) : Prop := (e = .normal ∨ e = .ret) ∧ ∃ r, resultsA rs s = some r ∧ P s.objs r
theorem Call.walk {env : Nat → Option AFun} {ext : Calls0} {g base : Nat} {objs : Objs} {args : List SV} {n nt : Nat} {rs : List ARes} {c : ACode} {P : Objs → AV → Prop} (hf : env g = some { nargs := n, ntmps := nt, results := rs, body := c }) (hl : args.length = n)
    (h : WC (Call env ext) c [] (EndsR rs P) ⟨initSlots args, objs, base⟩) : ∃ o' r, Call env ext g base objs args o' r ∧ P o' r := by
  obtain ⟨e, s', h1, he, r, hr, hp⟩ := h.h
  exact ⟨_, r, Call.of_body hf hl h1 he hr, hp⟩
theorem ends1 {t : Nat} {s : St} {v : SV} {p : PSV} {res : PAV} (h : s.slots t = .s v) (hp : purSV s.objs v = some p) (hr : PAV.s p = res) : Ends [.tmp t] res .ret s := by
  refine ⟨.inr rfl, ?_⟩
  simp only [resultsA, List.map, resOf, h, AV.sv?, allSome, thenO, purAV, hp, Option.map_some, hr]
theorem ends2 {t u : Nat} {s : St} {v w : SV} {p q : PSV} {res : PAV} (h : s.slots t = .s v) (h2 : s.slots u = .s w) (hp : purSV s.objs v = some p) (hq : purSV s.objs w = some q) (hr : PAV.tup [p, q] = res) : Ends [.tmp t, .tmp u] res .ret s := by
  refine ⟨.inr rfl, ?_⟩
  simp only [resultsA, List.map, resOf, h, h2, AV.sv?, allSome, thenO, purAV, hp, hq, Option.map_some, hr]
theorem ends3 {t u i : Nat} {s : St} {v w x : SV} {p q r : PSV} {res : PAV} (h : s.slots t = .s v) (h2 : s.slots u = .s w) (h3 : s.slots i = .s x) (hp : purSV s.objs v = some p) (hq : purSV s.objs w = some q) (hx : purSV s.objs x = some r)
    (hr : PAV.tup [p, q, r] = res) : Ends [.tmp t, .tmp u, .tmp i] res .ret s := by
  refine ⟨.inr rfl, ?_⟩
  simp only [resultsA, List.map, resOf, h, h2, h3, AV.sv?, allSome, thenO, purAV, hp, hq, hx, Option.map_some, hr]
theorem endsR1 {t : Nat} {s : St} {v : SV} {P : Objs → AV → Prop} (h : s.slots t = .s v) (hp : P s.objs (.s v)) : EndsR [.tmp t] P .ret s := by
  refine ⟨.inr rfl, .s v, ?_, hp⟩
  simp only [resultsA, List.map, resOf, h, AV.sv?, allSome]
end Go.Av
namespace Go.Av
open Go

/-- Of an object: it is one struct of these cells. -/
def Objs.cel (o : Objs) (id ver : Nat) (cells : List C) : Prop := o.m id ver = some ⟨cells.length, [cells], false⟩

section
variable {Γ : Calls0} {l : List AO} {F : List Fr} {Q : Ex → St → Prop} {sl : Nat → AV} {o : Objs} {b : Nat} {d : Nat} {x y z : Opd}

theorem r_alloc {id : Nat} {zero : List C} (h : ∀ o', o'.cel (b + id) (o.nv (b + id)) zero → (∀ o2 v2, ¬ (o2 = b + id ∧ v2 = o.nv (b + id)) → o'.m o2 v2 = o.m o2 v2) → (∀ o2, o'.nv o2 = if o2 = b + id then o.nv (b + id) + 1 else o.nv o2) →
      WO Γ l F Q ⟨upd sl d (.s (.c (.ptr (b + id) (o.nv (b + id)) 0 0))), o', b⟩) : WO Γ (⟨some d, .alloc id zero, none⟩ :: l) F Q ⟨sl, o, b⟩ :=
  r_op (o' := o.new (b + id) ⟨zero.length, [zero], false⟩) (v := .s (.c (.ptr (b + id) (o.nv (b + id)) 0 0))) rfl (by simp [aop, newObj]) (h _ (by simp [Objs.cel, Objs.new]) (fun o2 v2 hne => by simp only [Objs.new, if_neg hne]) (fun o2 => rfl))
theorem r_stA {oi ver n : Nat} {cells cs : List C} (hx : St.ev ⟨sl, o, b⟩ x = .s (.c (.ptr oi ver 0 0))) (hy : St.ev ⟨sl, o, b⟩ y = .s (.agg cs)) (hm : o.cel oi ver cells) (hn : cs.length = n) (hc : cells.length = n)
    (h : ∀ o', o'.cel oi ver cs → (∀ o2 v2, ¬ (o2 = oi ∧ v2 = ver) → o'.m o2 v2 = o.m o2 v2) → o'.nv = o.nv → WO Γ l F Q ⟨sl, o', b⟩) : WO Γ (⟨none, .store n x y, none⟩ :: l) F Q ⟨sl, o, b⟩ := by
  unfold Objs.cel at hm
  refine r_op0 (o' := o.set oi ver (some ⟨cells.length, [cs], false⟩)) (v := .tup []) rfl ?_ (h _ (by simp [Objs.cel, Objs.set]; omega) (fun o2 v2 hne => by simp only [Objs.set, if_neg hne]) rfl)
  simp only [aop, hx, hy, hm, AV.cells?, SV.cells, List.getElem?_cons_zero]
  rw [if_pos ⟨trivial, hn, by omega⟩]
  simp only [List.set_cons_zero, setAt, List.take_zero, List.nil_append, Nat.zero_add]
  rw [List.drop_eq_nil_of_le (by omega), List.append_nil]
theorem r_stF {oi ver off : Nat} {cells : List C} {c : C} (hx : St.ev ⟨sl, o, b⟩ x = .s (.c (.ptr oi ver 0 off))) (hy : St.ev ⟨sl, o, b⟩ y = .s (.c c)) (hm : o.cel oi ver cells) (hc : off < cells.length)
    (h : ∀ o', o'.cel oi ver (cells.set off c) → (∀ o2 v2, ¬ (o2 = oi ∧ v2 = ver) → o'.m o2 v2 = o.m o2 v2) → o'.nv = o.nv → WO Γ l F Q ⟨sl, o', b⟩) : WO Γ (⟨none, .store 1 x y, none⟩ :: l) F Q ⟨sl, o, b⟩ := by
  unfold Objs.cel at hm
  refine r_op0 (o' := o.set oi ver (some ⟨cells.length, [cells.set off c], false⟩)) (v := .tup []) rfl ?_ (h _ (by simp [Objs.cel, Objs.set]) (fun o2 v2 hne => by simp only [Objs.set, if_neg hne]) rfl)
  simp only [aop, hx, hy, hm, AV.cells?, SV.cells, List.getElem?_cons_zero]
  rw [if_pos ⟨trivial, rfl, by omega⟩]
  simp only [List.set_cons_zero, setAt, List.length_singleton]
  rw [List.set_eq_take_append_cons_drop, if_pos hc]; simp
theorem r_ldA {oi ver n : Nat} {cells : List C} (hx : St.ev ⟨sl, o, b⟩ x = .s (.c (.ptr oi ver 0 0))) (hm : o.cel oi ver cells) (hc : cells.length = n) (h : WO Γ l F Q ⟨upd sl d (.s (.agg cells)), o, b⟩) : WO Γ (⟨some d, .load true n x, none⟩ :: l) F Q ⟨sl, o, b⟩ := by
  unfold Objs.cel at hm
  refine r_op (o' := o) (v := .s (.agg cells)) rfl ?_ h
  simp only [aop, hx, hm, List.getElem?_cons_zero]
  rw [if_pos (by omega)]
  simp [hc, List.take_of_length_le]
theorem r_ldF {oi ver off : Nat} {cells : List C} {c : C} (hx : St.ev ⟨sl, o, b⟩ x = .s (.c (.ptr oi ver 0 off))) (hm : o.cel oi ver cells) (hc : cells[off]? = some c) (h : WO Γ l F Q ⟨upd sl d (.s (.c c)), o, b⟩) : WO Γ (⟨some d, .load false 1 x, none⟩ :: l) F Q ⟨sl, o, b⟩ := by
  unfold Objs.cel at hm
  refine r_op (o' := o) (v := .s (.c c)) rfl ?_ h
  have := (List.getElem?_eq_some_iff.1 hc).1
  simp only [aop, hx, hm, List.getElem?_cons_zero]
  rw [if_pos (by omega)]
  simp [hc]
theorem r_ldPA {n : Nat} {cs : List PC} (hx : St.ev ⟨sl, o, b⟩ x = vp (.pref cs)) (hn : cs.length = n) (h : WO Γ l F Q ⟨upd sl d (.s (.agg (cs.map C.p))), o, b⟩) : WO Γ (⟨some d, .load true n x, none⟩ :: l) F Q ⟨sl, o, b⟩ := by
  refine r_op (o' := o) (v := .s (.agg (cs.map C.p))) rfl ?_ h
  simp [aop, hx, hn]
theorem r_boxP {cs : List C} {ps : List PC} (hx : St.ev ⟨sl, o, b⟩ x = .s (.agg cs)) (hp : allSome (cs.map C.pure?) = some ps) (h : WO Γ l F Q ⟨upd sl d (vp (.pref ps)), o, b⟩) : WO Γ (⟨some d, .boxP x, none⟩ :: l) F Q ⟨sl, o, b⟩ := by
  refine r_op (o' := o) (v := vp (.pref ps)) rfl ?_ h
  simp [aop, hx, AV.cells?, SV.cells, hp]
theorem r_faP {off n : Nat} {cs : List PC} (hx : St.ev ⟨sl, o, b⟩ x = vp (.pref cs)) (hn : off + n ≤ cs.length) (h : WO Γ l F Q ⟨upd sl d (vp (.pref ((cs.drop off).take n))), o, b⟩) : WO Γ (⟨some d, .fa off n x, none⟩ :: l) F Q ⟨sl, o, b⟩ := by
  refine r_op (o' := o) (v := vp (.pref ((cs.drop off).take n))) rfl ?_ h
  simp only [aop, hx]; rw [if_pos hn]; rfl
theorem r_faP1 {off : Nat} {cs : List PC} {c : PC} (hx : St.ev ⟨sl, o, b⟩ x = vp (.pref cs)) (hc : cs[off]? = some c) (h : WO Γ l F Q ⟨upd sl d (vp (.pref [c])), o, b⟩) : WO Γ (⟨some d, .fa off 1 x, none⟩ :: l) F Q ⟨sl, o, b⟩ := by
  have hl := (List.getElem?_eq_some_iff.1 hc).1
  refine r_faP hx (by omega) ?_
  have : (cs.drop off).take 1 = [c] := by
    rw [List.drop_eq_getElem_cons hl, List.take_succ_cons, List.take_zero]
    rw [List.getElem?_eq_getElem hl] at hc; cases hc; rfl
  rw [this]; exact h
theorem r_faR {oi ver i f off n : Nat} (hx : St.ev ⟨sl, o, b⟩ x = .s (.c (.ptr oi ver i f))) (h : WO Γ l F Q ⟨upd sl d (.s (.c (.ptr oi ver i (f + off)))), o, b⟩) : WO Γ (⟨some d, .fa off n x, none⟩ :: l) F Q ⟨sl, o, b⟩ :=
  r_op (o' := o) (v := .s (.c (.ptr oi ver i (f + off)))) rfl (by simp [aop, hx]) h
theorem r_fld1 {off : Nat} {cs : List C} {c : C} (hx : St.ev ⟨sl, o, b⟩ x = .s (.agg cs)) (hc : cs[off]? = some c) (h : WO Γ l F Q ⟨upd sl d (.s (.c c)), o, b⟩) : WO Γ (⟨some d, .fld false off 1 x, none⟩ :: l) F Q ⟨sl, o, b⟩ := by
  refine r_op (o' := o) (v := .s (.c c)) rfl ?_ h
  have := (List.getElem?_eq_some_iff.1 hc).1
  simp only [aop, hx]; rw [if_pos (by omega)]; simp [hc]
theorem r_bbN {p q : Bool} (hx : St.ev ⟨sl, o, b⟩ x = vb p) (hy : St.ev ⟨sl, o, b⟩ y = vb q) (h : WO Γ l F Q ⟨upd sl d (vb (!(p == q))), o, b⟩) : WO Γ (⟨some d, .binB .neq x y, none⟩ :: l) F Q ⟨sl, o, b⟩ :=
  r_op (o' := o) (v := vb (!(p == q))) rfl (by simp [aop, hx, hy, abinB]) h
theorem r_bbE {p q : Bool} (hx : St.ev ⟨sl, o, b⟩ x = vb p) (hy : St.ev ⟨sl, o, b⟩ y = vb q) (h : WO Γ l F Q ⟨upd sl d (vb (p == q)), o, b⟩) : WO Γ (⟨some d, .binB .eql x y, none⟩ :: l) F Q ⟨sl, o, b⟩ :=
  r_op (o' := o) (v := vb (p == q)) rfl (by simp [aop, hx, hy, abinB]) h
theorem r_build {zero cs : List C} {parts : List (Nat × Nat × Opd)} {q : List (Nat × List C)} (hq : partsOf ⟨sl, o, b⟩ parts = some q) (hc : fillA zero q = some cs) (h : WO Γ l F Q ⟨upd sl d (.s (.agg cs)), o, b⟩) : WO Γ (⟨some d, .build zero parts, none⟩ :: l) F Q ⟨sl, o, b⟩ :=
  r_op (o' := o) (v := .s (.agg cs)) rfl (by simp [aop, hq, hc]) h
theorem r_bd3 {z1 z2 z3 c : C} (hx : St.ev ⟨sl, o, b⟩ x = .s (.c c)) (h : WO Γ l F Q ⟨upd sl d (.s (.agg [z1, z2, c])), o, b⟩) : WO Γ (⟨some d, .build [z1, z2, z3] [(2, 1, x)], none⟩ :: l) F Q ⟨sl, o, b⟩ :=
  r_build (q := [(2, [c])]) (by simp [partsOf, hx, AV.cells?, SV.cells]) (by simp [fillA, setAt]) h
theorem r_bd23 {z1 z2 z3 c e : C} (hx : St.ev ⟨sl, o, b⟩ x = .s (.c c)) (hy : St.ev ⟨sl, o, b⟩ y = .s (.c e)) (h : WO Γ l F Q ⟨upd sl d (.s (.agg [z1, c, e])), o, b⟩) : WO Γ (⟨some d, .build [z1, z2, z3] [(1, 1, x), (2, 1, y)], none⟩ :: l) F Q ⟨sl, o, b⟩ :=
  r_build (q := [(1, [c]), (2, [e])]) (by simp [partsOf, hx, hy, AV.cells?, SV.cells]) (by simp [fillA, setAt]) h
theorem r_bd123 {z1 z2 z3 c e f : C} (hx : St.ev ⟨sl, o, b⟩ x = .s (.c c)) (hy : St.ev ⟨sl, o, b⟩ y = .s (.c e)) (hz : St.ev ⟨sl, o, b⟩ z = .s (.c f)) (h : WO Γ l F Q ⟨upd sl d (.s (.agg [c, e, f])), o, b⟩) :
    WO Γ (⟨some d, .build [z1, z2, z3] [(0, 1, x), (1, 1, y), (2, 1, z)], none⟩ :: l) F Q ⟨sl, o, b⟩ :=
  r_build (q := [(0, [c]), (1, [e]), (2, [f])]) (by simp [partsOf, hx, hy, hz, AV.cells?, SV.cells]) (by simp [fillA, setAt]) h
end
/-- The end of a call whose result is a struct in an object. -/
theorem endsC {n t id ver : Nat} {s : St} {cells : List C} {ps : List PC} {res : PAV} {e : Ex} (he : e = .normal ∨ e = .ret) (h : s.slots t = .s (.c (.ptr id ver 0 0))) (hm : s.objs.cel id ver cells) (hn : cells.length = n) (hp : allSome (cells.map (purC s.objs purDepth)) = some ps) (hr : PAV.s (.agg ps) = res) :
    Ends [.cell true n t] res e s := by
  refine ⟨he, ?_⟩
  unfold Objs.cel at hm
  have : aop (.load true n (.t t)) s = some (s.objs, .s (.agg cells)) := by
    simp only [aop, St.ev, h, hm, List.getElem?_cons_zero]
    rw [if_pos (by omega)]
    simp [hn, List.take_of_length_le]
  simp only [resultsA, List.map, resOf, this, AV.sv?, allSome, thenO, purAV, purSV, hp, Option.map_some, hr]
end Go.Av
