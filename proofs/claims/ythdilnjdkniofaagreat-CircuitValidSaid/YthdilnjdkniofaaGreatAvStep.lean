/- The abstract machine of the Av files, fourteenth part: calls, and regions in the text's order. No condition. -/
import Derived.Test.YthdilnjdkniofaaGreatAvOpY
import Derived.Orders
namespace Go.Av
open Go Go.RowKit

variable {P : Program} {fm : Nat → Nat} {Z : ZM} {β : BM} {objs : Objs} {w0 w : World} {a : Act} {s : St}

def FOK (P : Program) (fm : Nat → Nat) (g : Nat) : Prop := ∃ fn, P.funcs[fm g]? = some fn ∧ fn.body.isNone = false ∧ (fn.name == "runtime.NumGoroutine") = false

def ArgsR (fm : Nat → Nat) (Z : ZM) (β : BM) (vs : Array Value) (args : List SV) : Prop :=
  vs.size = args.length ∧ ∀ (j : Nat) (x : SV), args[j]? = some x → SR fm Z β (vs.getD j undef) x

def Post (fm : Nat → Nat) (Z : ZM) (β : BM) (w0 : World) (objs' : Objs) (r : AV) (e : Ending) (w' : World) : Prop :=
  ∃ v Z' β', e = .returned v ∧ ZExt w0.heap.size Z Z' ∧ BExt β β' ∧ WR fm Z' β' objs' w0 w' ∧ AR fm Z' β' v r

def SoundF (P : Program) (fm : Nat → Nat) (Γ : Calls0) : Prop :=
  ∀ g base objs args objs' r, Γ g base objs args objs' r → FOK P fm g ∧
    ∀ Z β w0 w vs, WR fm Z β objs w0 w → ArgsR fm Z β vs args → Calls P (fm g) vs w (Post fm Z β w0 objs' r)

theorem WR.grow {Z' : ZM} {w' : World} (h : WR fm Z β objs w0 w) (hb : Below w.heap.size w w') (hZ : ZExt w.heap.size Z Z') (hz : ∀ b cells, Z' b = some cells → ∃ e f, w'.heap[b]? = some (.cells cells e f)) :
    WR fm Z' β objs w0 w' where
  below := h.below.trans (hb.mono h.below.size)
  hz := hz
  ho := fun o v ob ho => (h.ho o v ob ho).keep (BExt.refl _) hZ.old fun b hbl => by
    have hlt := ((h.ho o v ob ho).block hbl).2
    refine ⟨?_, hb.block b hlt⟩
    cases hzb : Z b with
    | some c => exact hZ.old b c hzb
    | none =>
      cases hzb' : Z' b with
      | none => rfl
      | some c =>
        rcases hZ.new b c hzb' with h | h
        · rw [hzb] at h; cases h
        · omega
  inj := h.inj
  hβ := h.hβ

theorem WR.later {w' : World} (h : WR fm Z β objs w0 w) (hb : Below w.heap.size w w') : WR fm Z β objs w0 w' :=
  h.grow hb (ZExt.refl _ _) fun b cells hz => by
    obtain ⟨e, f, k⟩ := h.hz b cells hz
    exact ⟨e, f, by rw [hb.block b (h.zlt hz)]; exact k⟩

theorem ArgsR.up_any {Z : ZM} {β β' : BM} {vs : Array Value} {l : List PSV} (h : ArgsR fm Z β vs (l.map PSV.up)) : ArgsR fm Z β' vs (l.map PSV.up) := by
  refine ⟨h.1, fun j x hj => ?_⟩
  have := h.2 j x hj
  rw [List.getElem?_map] at hj
  cases hl : l[j]? with
  | none => simp [hl] at hj
  | some y => simp only [hl, Option.map_some, Option.some.injEq] at hj; subst hj; exact this.up_any

theorem pure_sound {Γ : Calls0} (hΓ : SoundF P fm Γ) {g : Nat} {pargs : List PSV} {res : PAV} (hc : PureC Γ g pargs res) {Zf : ZM} {vs : Array Value}
    (hz : ∀ b cells, Zf b = some cells → ∃ e f, w.heap[b]? = some (.cells cells e f)) (hargs : ArgsR fm Zf β vs (pargs.map PSV.up)) :
    FOK P fm g ∧ Calls P (fm g) vs w fun e w' => ∃ v Z', e = .returned v ∧ Below w.heap.size w w' ∧ ZExt w.heap.size Zf Z' ∧
      (∀ b cells, Z' b = some cells → ∃ e f, w'.heap[b]? = some (.cells cells e f)) ∧ AR fm Z' β v res.up := by
  obtain ⟨objs', r, h1, h2⟩ := hc
  obtain ⟨hF, hcall⟩ := hΓ _ _ _ _ _ _ h1
  refine ⟨hF, ?_⟩
  have hwr : WR fm Zf (fun _ _ => none) Objs.empty w w := ⟨Below.refl _ _, hz, fun o v ob h => (by cases h), fun o v ob o' v' ob' b h => (by cases h), fun o v l h => (by cases h)⟩
  refine (hcall Zf (fun _ _ => none) w w vs hwr hargs.up_any).mono fun e w' hp => ?_
  obtain ⟨v, Z', β', rfl, k1, k2, k3, k4⟩ := hp
  obtain ⟨Zf', hf⟩ := FZ.exists_ k3 (rchAV objs' r)
  refine ⟨v, Zf', rfl, k3.below, ⟨fun b c hb => hf.old b c (k1.old b c hb), fun b c hb => ?_⟩, hf.hz, purAV_up hf k3 β k4 h2 (fun o ho => ho)⟩
  rcases hf.only b c hb with h | ⟨o, u, ob, _, h3, h4⟩
  · exact k1.new b c h
  · exact .inr ((k3.ho o u ob h3).block (blockOf_any h4)).1

/-- A call as an operation. -/
theorem exec_call {c : Go.Call} {o : Oper} {g : Nat} {caps : Array Value} (ho : o.op = .call c) (hF : FOK P fm g)
    (hc : (resolve a.eval c o.type) = pure { target := .fn (.func (fm g)) caps, args := c.args.map a.eval }) :
    (execOp a.eval o).run P w = .ok (.enter (fm g) (c.args.map a.eval ++ caps)) w := by
  obtain ⟨fn, h1, h2, h3⟩ := hF
  have h3' : ¬ fn.name = "runtime.NumGoroutine" := by intro h; simp [h] at h3
  have h2' : ¬ fn.body = none := by intro h; simp [h] at h2
  simp [execOp, ho, hc, invoke, callFunc, h1, h2', h3']

theorem argsOf_R {xs : List Operand} {ys : List Opd} {sv : List SV} (h : opdsOK fm xs ys = true) (hs : SlR fm Z β a s) (ha : argsOf s ys = some sv) : ArgsR fm Z β (xs.map a.eval).toArray sv := by
  obtain ⟨h1, h2⟩ := opdsOK_AR h hs
  obtain ⟨h3, h4⟩ := allSome_get ha
  refine ⟨by simp; omega, fun j x hj => ?_⟩
  obtain ⟨y, hy, hy2⟩ := h4 j x hj
  obtain ⟨u, hu, hu2⟩ := h2 j y hy
  have : ((xs.map a.eval).toArray).getD j undef = a.eval u := by
    rw [Array.getD_eq_getD_getElem?, List.getElem?_toArray, List.getElem?_map, hu]; rfl
  rw [this]
  generalize s.ev y = Y at hy2 hu2
  cases Y with
  | s q => simp [AV.sv?] at hy2; subst hy2; exact hu2.sv
  | _ => simp [AV.sv?] at hy2

/-- What a pure call leaves. -/
theorem behind_sound {Γ : Calls0} (hΓ : SoundF P fm Γ) {g : Nat} {sv : List SV} {pv : List PSV} {res : PAV} {vs : Array Value} (h : WR fm Z β s.objs w0 w) (hargs : ArgsR fm Z β vs sv)
    (hp : allSome (sv.map (purSV s.objs)) = some pv) (hc : PureC Γ g pv res) : FOK P fm g ∧ Calls P (fm g) vs w (Post fm Z β w0 (behind s sv res) res.up) := by
  obtain ⟨Zf, hf⟩ := FZ.exists_ h (sv.flatMap (rchSV s.objs))
  obtain ⟨h1, h2⟩ := allSome_get hp
  have hargs' : ArgsR fm Zf β vs (pv.map PSV.up) := by
    refine ⟨by simp [h1, hargs.1], fun j x hj => ?_⟩
    rw [List.getElem?_map] at hj
    cases hl : pv[j]? with
    | none => simp [hl] at hj
    | some y =>
      simp only [hl, Option.map_some, Option.some.injEq] at hj
      subst hj
      obtain ⟨x, hx, hx2⟩ := h2 j y hl
      exact purSV_up hf h β (hargs.2 j x hx) hx2 fun o ho => List.mem_flatMap.2 ⟨x, List.mem_of_getElem? hx, ho⟩
  obtain ⟨hF, hcall⟩ := pure_sound (w := w) hΓ hc hf.hz hargs'
  refine ⟨hF, hcall.mono fun e w' hq => ?_⟩
  obtain ⟨v, Z', rfl, k1, k2, k3, k4⟩ := hq
  unfold behind
  by_cases hsc : res.scalar = true
  · rw [if_pos hsc]
    exact ⟨v, Z, β, rfl, ZExt.refl _ _, BExt.refl _, h.later k1, k4.up_scalar hsc⟩
  · rw [if_neg hsc]
    have hZf : ZExt w0.heap.size Z Zf := ⟨hf.old, fun b c hb => (hf.only b c hb).imp id fun ⟨o, u, ob, _, q1, q2⟩ => ((h.ho o u ob q1).block (blockOf_any q2)).1⟩
    exact ⟨v, Z', β, rfl, hZf.trans (k2.mono h.below.size), BExt.refl _, (hf.wr h).grow k1 k2 k3, k4⟩

def chkGuard (ops : Array Oper) : Option (Nat × Bool) → Option (Nat × Bool) → Bool
  | none, none => true
  | some (j, w), some (t, w') => w == w' && ((ops[j]?).bind (·.dst)) == some t
  | _, _ => false

def chkO (P : Program) (fm : Nat → Nat) (nt : Nat) (ops : Array Oper) (o : Oper) (b : AO) : Bool :=
  o.dst == b.dst && (match o.dst with | some d => decide (d < nt) | none => true) && chkGuard ops o.guard b.guard && chkOp P fm o.op b.op

theorem SlR.put {d : Option Nat} {x : Value} {v : AV} (hs : SlR fm Z β a s) (hd : ∀ k, d = some k → k < a.tmps.size) (hv : AR fm Z β x v) : SlR fm Z β (a.put d x) (s.put d v) := by
  intro t
  cases d with
  | none => exact hs t
  | some k =>
    simp only [Act.put, St.put]
    by_cases hk : t = k
    · subst hk
      rw [upd_self]
      have := hd t rfl
      rw [Array.getD_eq_getD_getElem?, Array.getElem?_setIfInBounds]
      simp [this, hv]
    · rw [upd_ne _ _ _ _ hk, Array.getD_eq_getD_getElem?, Array.getElem?_setIfInBounds, if_neg (fun h => hk h.symm), ← Array.getD_eq_getD_getElem?]
      exact hs t

theorem SlR.mono {Z' : ZM} {β' : BM} (hs : SlR fm Z β a s) (hZ : ∀ b c, Z b = some c → Z' b = some c) (hβ : BExt β β') : SlR fm Z' β' a s := fun t => (hs t).mono hZ hβ

theorem put_size (a : Act) (d : Option Nat) (x : Value) : (a.put d x).tmps.size = a.tmps.size := by cases d <;> simp [Act.put]
theorem put_defers (a : Act) (d : Option Nat) (x : Value) : (a.put d x).defers = a.defers := by cases d <;> rfl

theorem guard_sound {ops : Array Oper} {o : Oper} {gd : Option (Nat × Bool)} (hk : chkGuard ops o.guard gd = true) (hs : SlR fm Z β a s) {b : Bool} (hg : guardV s gd = some b) :
    Region.wanted o (yielded ops a.tmps) = b := by
  unfold chkGuard at hk
  split at hk
  · rename_i h
    simp [guardV] at hg; subst hg
    simp [Region.wanted, h]
  · rename_i j wt t wt' h
    simp only [Bool.and_eq_true, beq_iff_eq] at hk
    obtain ⟨rfl, hk⟩ := hk
    simp only [Region.wanted, h]
    have ht := hs t
    unfold guardV at hg
    have hy : yielded ops a.tmps j = match a.tmps[t]? with | some (.bool b) => some b | _ => none := by
      unfold yielded; rw [hk]; rfl
    rw [hy]
    simp only at hg
    split at hg
    · rename_i b' hb
      simp only [Option.some.injEq] at hg
      subst hg
      rw [hb] at ht
      have := ht.pr.bool_inv
      rw [Array.getD_eq_getD_getElem?] at this
      cases hx : a.tmps[t]? with
      | none => simp [hx, undef] at this
      | some x => simp [hx] at this; subst this; simp
    · rename_i hb
      simp only [Option.some.injEq] at hg
      subst hg
      rw [hb] at ht
      generalize hX : a.tmps.getD t undef = X at ht
      cases ht with
      | tup hl hr =>
        rw [Array.getD_eq_getD_getElem?] at hX
        cases hx : a.tmps[t]? with
        | none => simp
        | some x => simp [hx] at hX; subst hX; simp
    · cases hg
  · cases hk

/-- One operation of a region. -/
theorem BO_sound {Γ : Calls0} (hΓ : SoundF P fm Γ) {ops : Array Oper} {i nt : Nat} {o : Oper} {b : AO} {s' : St} (hi : ops[i]? = some o) (hk : chkO P fm nt ops o b = true) (hnt : a.tmps.size = nt)
    (hs : SlR fm Z β a s) (h : WR fm Z β s.objs w0 w) (hb : BO Γ b s s') {K : Act → World → Prop} {Q : Exit → Act → World → Prop}
    (hK : ∀ Z' β' a' w', ZExt w0.heap.size Z Z' → BExt β β' → SlR fm Z' β' a' s' → a'.tmps.size = nt → a'.defers = a.defers → WR fm Z' β' s'.objs w0 w' → K a' w') :
    wpOp P ops Q i K a w := by
  simp only [chkO, Bool.and_eq_true, beq_iff_eq] at hk
  obtain ⟨⟨⟨hd, hdn⟩, hg⟩, hop⟩ := hk
  have hdlt : ∀ k, b.dst = some k → k < a.tmps.size := by
    intro k hk
    rw [← hd] at hk
    have : k < nt := by simpa [hk] using hdn
    omega
  unfold wpOp
  rw [hi]
  simp only
  have hcall : ∀ {c : Go.Call} {g : Nat} {caps : Array Value} {objs' : Objs} {r : AV}, o.op = .call c → FOK P fm g → resolve a.eval c o.type = pure { target := .fn (.func (fm g)) caps, args := c.args.map a.eval } →
      Region.wanted o (yielded ops a.tmps) = true → Calls P (fm g) (c.args.map a.eval ++ caps) w (Post fm Z β w0 objs' r) → s' = St.put { s with objs := objs' } b.dst r →
      (if Region.wanted o (yielded ops a.tmps) then o.wp P a w K Q ∨ (o.asks P a w ∧ LetsOut Q) else K (a.put o.dst undef) w) := by
    intro c g caps objs' r ho hF hr hw hc hs'
    rw [if_pos hw]
    left
    unfold Oper.wp
    rw [exec_call ho hF hr]
    simp only [Oper.upon]
    refine hc.mono fun e w' hp => ?_
    obtain ⟨v, Z', β', rfl, k1, k2, k3, k4⟩ := hp
    subst hs'
    refine hK Z' β' _ w' k1 k2 ?_ (by rw [put_size]; exact hnt) (put_defers _ _ _) (by cases b.dst <;> exact k3)
    rw [hd]
    exact SlR.put (s := { s with objs := objs' }) (fun t => (hs.mono k1.old k2) t) hdlt k4
  cases hb with
  | skip hgs =>
    have hw := guard_sound hg hs hgs
    rw [hw]
    simp only [Bool.false_eq_true, if_false]
    refine hK Z β _ w (ZExt.refl _ _) (BExt.refl _) ?_ (by rw [put_size]; exact hnt) (put_defers _ _ _) (by cases b.dst <;> exact h)
    rw [hd]
    exact hs.put hdlt (.tup rfl fun j x hj => by simp at hj)
  | op hgs ho =>
    have hw := guard_sound hg hs hgs
    rw [if_pos hw]
    left
    obtain ⟨x, w', Z', β', hr, k1, k2, k3, k4⟩ := aop_sound (o := o) hop hs h ho
    unfold Oper.wp
    rename_i objs' v
    have hfin : K (a.put o.dst x) w' := by
      refine hK Z' β' _ w' k1 k2 ?_ (by rw [put_size]; exact hnt) (put_defers _ _ _) (by cases b.dst <;> exact k3)
      rw [hd]
      exact SlR.put (s := { s with objs := objs' }) (fun t => (hs.mono k1.old k2) t) hdlt k4
    rcases hr with hr | ⟨hr, rfl⟩
    · rw [hr]; exact hfin
    · rw [hr]; exact hfin
  | call hgs hob ha hp hc =>
    have hw := guard_sound hg hs hgs
    rw [hob] at hop
    simp only [chkOp] at hop
    split at hop
    · rename_i c ho
      split at hop
      · rename_i f hcal
        simp only [Bool.and_eq_true, beq_iff_eq] at hop
        obtain ⟨rfl, hargs⟩ := hop
        have hA := argsOf_R hargs hs ha
        obtain ⟨hF, hC⟩ := behind_sound hΓ h hA hp hc
        refine hcall (caps := #[]) ho hF ?_ hw ?_ rfl
        · simp [resolve, hcal, Deferred.ofValue, Act.eval]
        · have : c.args.map a.eval ++ #[] = (c.args.toList.map a.eval).toArray := by apply Array.ext'; simp
          rw [this]; exact hC
      · cases hop
    · cases hop
  | @callP g args sv pv res hgs hob ha hp hc =>
    have hw := guard_sound hg hs hgs
    rw [hob] at hop
    simp only [chkOp] at hop
    split at hop
    · rename_i c ho
      split at hop
      · rename_i f hcal
        simp only [Bool.and_eq_true, beq_iff_eq] at hop
        obtain ⟨rfl, hargs⟩ := hop
        have hA := argsOf_R hargs hs ha
        obtain ⟨hp1, hp2⟩ := purSVs_pure (objs := s.objs) hp
        obtain ⟨hF, hC⟩ := behind_sound hΓ h hA hp1 hc
        have hbe : behind s sv res = s.objs := by
          unfold behind; rw [hp2, fzIds_nil]; split <;> rfl
        rw [hbe] at hC
        refine hcall (caps := #[]) ho hF ?_ hw ?_ rfl
        · simp [resolve, hcal, Deferred.ofValue, Act.eval]
        · have : c.args.map a.eval ++ #[] = (c.args.toList.map a.eval).toArray := by apply Array.ext'; simp
          rw [this]; exact hC
      · cases hop
    · cases hop
  | callR hgs hob ha hc =>
    have hw := guard_sound hg hs hgs
    rw [hob] at hop
    simp only [chkOp] at hop
    split at hop
    · rename_i c ho
      split at hop
      · rename_i f hcal
        simp only [Bool.and_eq_true, beq_iff_eq] at hop
        obtain ⟨rfl, hargs⟩ := hop
        have hA := argsOf_R hargs hs ha
        obtain ⟨hF, hC⟩ := hΓ _ _ _ _ _ _ hc
        refine hcall (caps := #[]) ho hF ?_ hw ?_ rfl
        · simp [resolve, hcal, Deferred.ofValue, Act.eval]
        · have : c.args.map a.eval ++ #[] = (c.args.toList.map a.eval).toArray := by apply Array.ext'; simp
          rw [this]; exact hC Z β w0 w _ h hA
      · cases hop
    · cases hop
  | @callV f0 args0 sv0 g0 sv1 pv0 res0 hgs hob ha hf hp hc =>
    have hw := guard_sound hg hs hgs
    rw [hob] at hop
    simp only [chkOp] at hop
    split at hop
    · rename_i c ho
      split at hop
      · rename_i f' hcal
        simp only [Bool.and_eq_true] at hop
        obtain ⟨hf', hargs⟩ := hop
        have hA := argsOf_R hargs hs ha
        unfold callee at hf
        split at hf
        · rename_i g caps hev
          simp only [Option.some.injEq, Prod.mk.injEq] at hf
          obtain ⟨rfl, rfl⟩ := hf
          have hfv := opdOK_AR hf' hs
          rw [hev] at hfv
          obtain ⟨cv, he, hcl, hcr⟩ := hfv.pr.clo_inv
          have hA' : ArgsR fm Z β (c.args.map a.eval ++ cv) (sv0 ++ caps.map fun c => SV.c (.p c)) := by
            refine ⟨by have := hA.1; simp at this ⊢; omega, fun j x hj => ?_⟩
            rw [List.getElem?_append] at hj
            have hl := hA.1
            simp only [List.size_toArray, List.length_map, Array.length_toList] at hl
            rw [Array.getD_eq_getD_getElem?, Array.getElem?_append]
            split at hj
            · rename_i hlt
              rw [if_pos (by simp; omega)]
              have := hA.2 j x hj
              rw [Array.getD_eq_getD_getElem?] at this
              simpa using this
            · rename_i hlt
              rw [if_neg (by simp; omega)]
              rw [List.getElem?_map] at hj
              cases hcc : caps[j - sv0.length]? with
              | none => rw [hcc] at hj; cases hj
              | some cc =>
                rw [hcc] at hj
                simp only [Option.map_some, Option.some.injEq] at hj
                subst hj
                have := hcr _ cc hcc
                rw [Array.getD_eq_getD_getElem?] at this
                simp only [Array.size_map, hl]
                exact .c (.p this)
          obtain ⟨hF, hC⟩ := behind_sound hΓ h hA' hp hc
          refine hcall (caps := cv) ho hF ?_ hw hC rfl
          simp [resolve, hcal, he, Deferred.ofValue]
        · cases hf
      · cases hop
    · cases hop
def chkOps (P : Program) (fm : Nat → Nat) (nt : Nat) (all : Array Oper) : List Oper → List AO → Bool
  | [], [] => true
  | o :: os, b :: bs => chkO P fm nt all o b && chkOps P fm nt all os bs
  | _, _ => false

end Go.Av
