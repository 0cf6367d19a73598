/- The abstract machine of the Av files, fifteenth part: code, loops, functions. No condition. -/
import Derived.Test.YthdilnjdkniofaaGreatAvDraw
import Derived.LoopN
namespace Go.Av
open Go Go.RowKit

variable {P : Program} {fm : Nat → Nat} {Z : ZM} {β : BM} {objs : Objs} {w0 w : World} {a : Act} {s : St}

def chkC (P : Program) (fm : Nat → Nat) (nt : Nat) : Code → ACode → Bool
  | .skip, .skip => true
  | .ret, .ret => true
  | .exit i, .exit j => i == j
  | .region _ ops d, .region l d' => d == d' && chkOps P fm nt ops ops.toList l && (!d || (P.follows .mixedOrders && chkDraw ops.toList l))
  | .seq a b, .seq c d => chkC P fm nt a c && chkC P fm nt b d
  | .cond x a b, .cond y c d => opdOK fm x y && chkC P fm nt a c && chkC P fm nt b d
  | .block i a, .block j c => i == j && chkC P fm nt a c
  | .loop a, .loop c => chkC P fm nt a c
  | _, _ => false

def exOf : Ex → Exit
  | .normal => .normal
  | .exit i => .exit i
  | .ret => .ret

/-- What is to be shown of code. -/
def CodeS (P : Program) (fm : Nat → Nat) (nt : Nat) (Z : ZM) (β : BM) (w0 : World) (c : Code) (a : Act) (w : World) (e : Ex) (s' : St) : Prop :=
  ∀ Q : Exit → Act → World → Prop, (∀ Z' β' a' w', ZExt w0.heap.size Z Z' → BExt β β' → SlR fm Z' β' a' s' → a'.tmps.size = nt → a'.defers = a.defers → WR fm Z' β' s'.objs w0 w' → Q (exOf e) a' w') → c.wp P Q a w

theorem ops_sound {Γ : Calls0} (hΓ : SoundF P fm Γ) {ops : Array Oper} {nt : Nat} {Q : Exit → Act → World → Prop} : ∀ (os : List Oper) (bs : List AO) (i : Nat) (Z : ZM) (β : BM) (a : Act) (w : World) (s s' : St),
    ops.toList.drop i = os → chkOps P fm nt ops os bs = true → a.tmps.size = nt → SlR fm Z β a s → WR fm Z β s.objs w0 w → BOs Γ bs s s' →
    (∀ Z' β' a' w', ZExt w0.heap.size Z Z' → BExt β β' → SlR fm Z' β' a' s' → a'.tmps.size = nt → a'.defers = a.defers → WR fm Z' β' s'.objs w0 w' → Q .normal a' w') →
    wpOps P ops Q (List.range' i os.length) a w
  | [], [], i, Z, β, a, w, s, s', _, _, hn, hs, h, hb, hQ => by
    cases hb
    simpa [wpOps] using hQ Z β a w (ZExt.refl _ _) (BExt.refl _) hs hn rfl h
  | o :: os, b :: bs, i, Z, β, a, w, s, s', hd, hk, hn, hs, h, hb, hQ => by
    simp only [chkOps, Bool.and_eq_true] at hk
    cases hb with
    | cons h1 h2 =>
      have hi : ops[i]? = some o := by
        have := congrArg (fun l => l[0]?) hd
        simpa [List.getElem?_drop] using this
      rw [List.length_cons, List.range'_succ, wpOps_cons]
      refine BO_sound hΓ hi hk.1 hn hs h h1 fun Z' β' a' w' k1 k2 k3 k4 k5 k6 => ?_
      refine ops_sound hΓ os bs (i + 1) Z' β' a' w' _ s' ?_ hk.2 k4 k3 k6 h2 fun Z2 β2 a2 w2 q1 q2 q3 q4 q5 q6 => hQ Z2 β2 a2 w2 (k1.trans q1) (k2.trans q2) q3 q4 (q5.trans k5) q6
      have := congrArg List.tail hd
      simpa [List.tail_drop] using this
  | [], _ :: _, _, _, _, _, _, _, _, _, h, _, _, _, _, _ => by simp [chkOps] at h
  | _ :: _, [], _, _, _, _, _, _, _, _, h, _, _, _, _, _ => by simp [chkOps] at h

theorem Exit.then_ne {K : Act → World → Prop} {Q : Exit → Act → World → Prop} {e : Ex} (he : e ≠ .normal) {a : Act} {w : World} (h : Q (exOf e) a w) : Exit.then K Q (exOf e) a w := by
  cases e with
  | normal => exact (he rfl).elim
  | exit i => exact h
  | ret => exact h

/-- Rounds enough for a loop. -/
def LoopS (P : Program) (fm : Nat → Nat) (nt : Nat) (w0 : World) (b : ACode) (s : St) (e : Ex) (s' : St) : Prop :=
  ∀ b0, b = .loop b0 → ∃ n, ∀ (c : Code) (Z : ZM) (β : BM) (a : Act) (w : World), chkC P fm nt c b0 = true → a.tmps.size = nt → SlR fm Z β a s → WR fm Z β s.objs w0 w →
    ∀ Q : Exit → Act → World → Prop, (∀ Z' β' a' w', ZExt w0.heap.size Z Z' → BExt β β' → SlR fm Z' β' a' s' → a'.tmps.size = nt → a'.defers = a.defers → WR fm Z' β' s'.objs w0 w' → Q (exOf e) a' w') →
    Code.rounds P c Q n a w

theorem code_sound {Γ : Calls0} (hΓ : SoundF P fm Γ) {nt : Nat} {w0 : World} {b : ACode} {s : St} {e : Ex} {s' : St} (hb : BS Γ b s e s') : (∀ (c : Code) (Z : ZM) (β : BM) (a : Act) (w : World), chkC P fm nt c b = true →
    a.tmps.size = nt → SlR fm Z β a s → WR fm Z β s.objs w0 w → CodeS P fm nt Z β w0 c a w e s') ∧ LoopS P fm nt w0 b s e s' := by
  induction hb with
  | skip =>
    refine ⟨?_, fun b0 h => by cases h⟩
    intro c Z β a w hk hn hs h Q hQ
    cases c <;> simp [chkC] at hk
    exact wp_skip (hQ Z β a w (ZExt.refl _ _) (BExt.refl _) hs hn rfl h)
  | ret =>
    refine ⟨?_, fun b0 h => by cases h⟩
    intro c Z β a w hk hn hs h Q hQ
    cases c <;> simp [chkC] at hk
    exact wp_ret (hQ Z β a w (ZExt.refl _ _) (BExt.refl _) hs hn rfl h)
  | exit =>
    refine ⟨?_, fun b0 h => by cases h⟩
    intro c Z β a w hk hn hs h Q hQ
    cases c <;> simp [chkC] at hk
    subst hk
    exact wp_exit (hQ Z β a w (ZExt.refl _ _) (BExt.refl _) hs hn rfl h)
  | @region ops d s s' hb =>
    refine ⟨?_, fun b0 h => by cases h⟩
    intro c Z β a w hk hn hs h Q hQ
    cases c <;> (try simp only [chkC, Bool.false_eq_true] at hk)
    rename_i id cops dr
    simp only [Bool.and_eq_true, beq_iff_eq, Bool.or_eq_true, Bool.not_eq_true'] at hk
    obtain ⟨⟨rfl, hk1⟩, hk2⟩ := hk
    cases dr with
    | false =>
      refine wp_region ?_
      have := ops_sound (Q := Q) hΓ cops.toList ops 0 Z β a w s s' (by simp) hk1 hn hs h hb hQ
      rw [Array.length_toList, ← List.range_eq_range'] at this
      exact this
    | true =>
      rcases hk2 with hk2 | hk2
      · cases hk2
      · exact region_draw_sound hΓ hk2.1 hk1 hk2.2 hn hs h hb hQ
  | @seq x y s s1 e s2 _ _ ih1 ih2 =>
    refine ⟨?_, fun b0 h => by cases h⟩
    intro c Z β a w hk hn hs h Q hQ
    cases c <;> simp only [chkC, Bool.false_eq_true, Bool.and_eq_true] at hk
    refine wp_seq (ih1.1 _ Z β a w hk.1 hn hs h _ fun Z' β' a' w' k1 k2 k3 k4 k5 k6 => ?_)
    exact ih2.1 _ Z' β' a' w' hk.2 k4 k3 k6 Q fun Z2 β2 a2 w2 q1 q2 q3 q4 q5 q6 => hQ Z2 β2 a2 w2 (k1.trans q1) (k2.trans q2) q3 q4 (q5.trans k5) q6
  | @seqX x y s e s1 _ he ih =>
    refine ⟨?_, fun b0 h => by cases h⟩
    intro c Z β a w hk hn hs h Q hQ
    cases c <;> simp only [chkC, Bool.false_eq_true, Bool.and_eq_true] at hk
    refine wp_seq (ih.1 _ Z β a w hk.1 hn hs h _ fun Z' β' a' w' k1 k2 k3 k4 k5 k6 => ?_)
    exact Exit.then_ne he (hQ Z' β' a' w' k1 k2 k3 k4 k5 k6)
  | @condT x b1 b2 s e s1 hc _ ih =>
    refine ⟨?_, fun b0 h => by cases h⟩
    intro c Z β a w hk hn hs h Q hQ
    cases c <;> simp only [chkC, Bool.false_eq_true, Bool.and_eq_true] at hk
    have hx := opdOK_AR hk.1.1 hs
    rw [hc] at hx
    exact wp_cond_true hx.pr.bool_inv (ih.1 _ Z β a w hk.1.2 hn hs h Q hQ)
  | @condF x b1 b2 s e s1 hc _ ih =>
    refine ⟨?_, fun b0 h => by cases h⟩
    intro c Z β a w hk hn hs h Q hQ
    cases c <;> simp only [chkC, Bool.false_eq_true, Bool.and_eq_true] at hk
    have hx := opdOK_AR hk.1.1 hs
    rw [hc] at hx
    exact wp_cond_false hx.pr.bool_inv (ih.1 _ Z β a w hk.2 hn hs h Q hQ)
  | @blockN id b s s1 _ ih =>
    refine ⟨?_, fun b0 h => by cases h⟩
    intro c Z β a w hk hn hs h Q hQ
    cases c <;> simp only [chkC, Bool.false_eq_true, Bool.and_eq_true, beq_iff_eq] at hk
    obtain ⟨rfl, hk⟩ := hk
    exact wp_block (ih.1 _ Z β a w hk hn hs h _ fun Z' β' a' w' k1 k2 k3 k4 k5 k6 => hQ Z' β' a' w' k1 k2 k3 k4 k5 k6)
  | @blockX id b s s1 _ ih =>
    refine ⟨?_, fun b0 h => by cases h⟩
    intro c Z β a w hk hn hs h Q hQ
    cases c <;> simp only [chkC, Bool.false_eq_true, Bool.and_eq_true, beq_iff_eq] at hk
    obtain ⟨rfl, hk⟩ := hk
    refine wp_block (ih.1 _ Z β a w hk hn hs h _ fun Z' β' a' w' k1 k2 k3 k4 k5 k6 => ?_)
    show (if _ then _ else _)
    rw [if_pos rfl]; exact hQ Z' β' a' w' k1 k2 k3 k4 k5 k6
  | @blockO id b s e s1 _ he hx ih =>
    refine ⟨?_, fun b0 h => by cases h⟩
    intro c Z β a w hk hn hs h Q hQ
    cases c <;> simp only [chkC, Bool.false_eq_true, Bool.and_eq_true, beq_iff_eq] at hk
    obtain ⟨rfl, hk⟩ := hk
    refine wp_block (ih.1 _ Z β a w hk hn hs h _ fun Z' β' a' w' k1 k2 k3 k4 k5 k6 => ?_)
    have := hQ Z' β' a' w' k1 k2 k3 k4 k5 k6
    cases e with
    | normal => exact (he rfl).elim
    | ret => exact this
    | exit i =>
      show (if _ then _ else _)
      rw [if_neg (fun h => hx (by rw [h]))]; exact this
  | @loopN b s s1 e s2 _ _ ih1 ih2 =>
    have hl : LoopS P fm nt w0 (.loop b) s e s2 := by
      intro b0 hb0
      cases hb0
      obtain ⟨n, hn2⟩ := ih2.2 b rfl
      refine ⟨n + 1, fun c Z β a w hk hn hs h Q hQ => ?_⟩
      rw [rounds_succ]
      refine ih1.1 _ Z β a w hk hn hs h _ fun Z' β' a' w' k1 k2 k3 k4 k5 k6 => ?_
      exact hn2 c Z' β' a' w' hk k4 k3 k6 Q fun Z2 β2 a2 w2 q1 q2 q3 q4 q5 q6 => hQ Z2 β2 a2 w2 (k1.trans q1) (k2.trans q2) q3 q4 (q5.trans k5) q6
    refine ⟨?_, hl⟩
    intro c Z β a w hk hn hs h Q hQ
    cases c <;> simp only [chkC, Bool.false_eq_true] at hk
    obtain ⟨n, hn2⟩ := hl b rfl
    exact wp_loop_rounds n (hn2 _ Z β a w hk hn hs h Q hQ)
  | @loopX b s e s1 _ he ih =>
    have hl : LoopS P fm nt w0 (.loop b) s e s1 := by
      intro b0 hb0
      cases hb0
      refine ⟨1, fun c Z β a w hk hn hs h Q hQ => ?_⟩
      rw [rounds_succ]
      exact ih.1 _ Z β a w hk hn hs h _ fun Z' β' a' w' k1 k2 k3 k4 k5 k6 => Exit.then_ne he (hQ Z' β' a' w' k1 k2 k3 k4 k5 k6)
    refine ⟨?_, hl⟩
    intro c Z β a w hk hn hs h Q hQ
    cases c <;> simp only [chkC, Bool.false_eq_true] at hk
    obtain ⟨n, hn2⟩ := hl b rfl
    exact wp_loop_rounds n (hn2 _ Z β a w hk hn hs h Q hQ)

def chkRes (P : Program) : List ResultVar → List ARes → Bool
  | [], [] => true
  | .tmp t :: rs, .tmp u :: us => t == u && chkRes P rs us
  | .cell t ty :: rs, .cell agg sz u :: us => t == u && tyOK P ty agg sz && chkRes P rs us
  | _, _ => false

/-- The function of the machine's is the function of the abstract machine's. -/
def chkF (P : Program) (fm : Nat → Nat) (fn : Func) (f : AFun) : Bool :=
  (match fn.body with
  | some c => chkC P fm f.ntmps c f.body
  | none => false) && fn.ntmps == f.ntmps && decide (f.nargs ≤ f.ntmps) && chkRes P fn.results.toList f.results && !(fn.name == "runtime.NumGoroutine")

def resOne (tmps : Array Value) : ResultVar → Sem Value
  | .tmp t => pure (tmps.getD t undef)
  | .cell a t => do loadVar t (← asAddr (tmps.getD a undef))

theorem resOne_sound {r : ResultVar} {u : ARes} {rs : List ResultVar} {us : List ARes} {x : SV} (hk : chkRes P (r :: rs) (u :: us) = true) (hs : SlR fm Z β a s) (h : WR fm Z β s.objs w0 w) (hx : resOf s u = some x) :
    chkRes P rs us = true ∧ ∃ v, (resOne a.tmps r).run P w = .ok v w ∧ SR fm Z β v x := by
  cases r with
  | tmp t =>
    cases u with
    | tmp t' =>
      simp only [chkRes, Bool.and_eq_true, beq_iff_eq] at hk
      obtain ⟨rfl, hk⟩ := hk
      refine ⟨hk, _, rfl, ?_⟩
      simp only [resOf] at hx
      have h2 := hs t
      generalize s.slots t = V at hx h2
      cases V with
      | s y => simp [AV.sv?] at hx; subst hx; exact h2.sv
      | _ => simp [AV.sv?] at hx
    | cell _ _ _ => simp [chkRes] at hk
  | cell q t =>
    cases u with
    | tmp _ => simp [chkRes] at hk
    | cell agg sz q' =>
      simp only [chkRes, Bool.and_eq_true, beq_iff_eq] at hk
      obtain ⟨⟨rfl, hty⟩, hk⟩ := hk
      refine ⟨hk, ?_⟩
      simp only [resOf] at hx
      split at hx
      · rename_i objs' v hload
        obtain ⟨_, b, off, he, y, hr, hvr⟩ := load_val (x := .tmp q) (y := .t q) hty (by simp [opdOK]) hs h hload
        refine ⟨y, ?_, ?_⟩
        · simp only [Act.eval] at he
          simp only [resOne, he, asAddr, Sem.run_bind, Sem.run_pure, Result.andThen_ok]
          simpa [Instr.loadAt, Instr.sureAddr] using hr
        · cases v with
          | s z => simp [AV.sv?] at hx; subst hx; exact hvr.sv
          | _ => simp [AV.sv?] at hx
      · cases hx

theorem results_list : ∀ (rs : List ResultVar) (us : List ARes) (l : List SV), chkRes P rs us = true → SlR fm Z β a s → WR fm Z β s.objs w0 w → us.map (resOf s) = l.map some →
    ∃ vs : List Value, (rs.mapM (resOne a.tmps)).run P w = .ok vs w ∧ vs.length = l.length ∧ ∀ (j : Nat) (x : SV), l[j]? = some x → SR fm Z β (vs.getD j undef) x
  | [], [], l, _, _, _, hl => by
    have : l = [] := by simpa using hl.symm
    subst this
    exact ⟨[], by simp, rfl, fun j x h => by simp at h⟩
  | r :: rs, u :: us, l, hk, hs, h, hl => by
    cases l with
    | nil => simp at hl
    | cons x l =>
      simp only [List.map_cons, List.cons.injEq] at hl
      obtain ⟨hk', v, hv, hvr⟩ := resOne_sound hk hs h hl.1
      obtain ⟨vs, h1, h2, h3⟩ := results_list rs us l hk' hs h hl.2
      refine ⟨v :: vs, ?_, by simp [h2], fun j y hj => ?_⟩
      · simp only [List.mapM_cons, Sem.run_bind, hv, h1, Result.andThen_ok, Sem.run_pure]
      · cases j with
        | zero => simp at hj; subst hj; simpa using hvr
        | succ j => simpa using h3 j y (by simpa using hj)
  | [], _ :: _, _, h, _, _, _ => by simp [chkRes] at h
  | _ :: _, [], _, h, _, _, _ => by
    rename_i r _
    cases r <;> simp [chkRes] at h

theorem results_eq (fn : Func) (tmps : Array Value) : results fn tmps = (do
    let vs ← fn.results.mapM (resOne tmps)
    pure (if h : vs.size = 1 then vs[0] else .tuple vs)) := rfl

theorem results_sound {fn : Func} {f : AFun} {r : AV} (hk : chkRes P fn.results.toList f.results = true) (hs : SlR fm Z β a s) (h : WR fm Z β s.objs w0 w) (hr : resultsA f.results s = some r) :
    ∃ v, (results fn a.tmps).run P w = .ok v w ∧ AR fm Z β v r := by
  unfold resultsA at hr
  cases hl : allSome (f.results.map (resOf s)) with
  | none => simp [hl] at hr
  | some l =>
    obtain ⟨vs, h1, h2, h3⟩ := results_list fn.results.toList f.results l hk hs h (allSome_spec hl)
    rw [results_eq]
    have hrun : (fn.results.mapM (resOne a.tmps)).run P w = .ok vs.toArray w := by
      rw [Array.mapM_eq_mapM_toList]; simp [h1]
    simp only [Sem.run_bind, hrun, Result.andThen_ok, Sem.run_pure]
    rw [hl] at hr
    match l, hr with
    | [x], hr =>
      simp only [Option.some.injEq] at hr; subst hr
      match vs, h2 with
      | [v], _ => exact ⟨v, by simp, .s (by simpa using h3 0 x (by simp))⟩
    | [], hr =>
      simp only [Option.some.injEq] at hr; subst hr
      match vs, h2 with
      | [], _ => exact ⟨.tuple #[], by simp, .tup rfl fun j x hj => by simp at hj⟩
    | x :: y :: l, hr =>
      simp only [Option.some.injEq] at hr; subst hr
      have hne : ¬ vs.toArray.size = 1 := by simp [h2]
      refine ⟨.tuple vs.toArray, by rw [dif_neg hne], .tup (by simpa using h2) fun j z hj => ?_⟩
      have := h3 j z hj
      simpa [List.getD] using this

/-- The program's functions are the abstract machine's. -/
def EnvOK (P : Program) (fm : Nat → Nat) (env : Nat → Option AFun) : Prop :=
  ∀ g f, env g = some f → ∃ fn, P.funcs[fm g]? = some fn ∧ chkF P fm fn f = true

theorem callN_sound {env : Nat → Option AFun} {ext : Calls0} (henv : EnvOK P fm env) (hext : SoundF P fm ext) : ∀ n, SoundF P fm (CallN env ext n)
  | 0 => hext
  | n + 1 => by
    intro g base objs args objs' r hc
    rcases hc with hc | ⟨f, hf, hl, e, s', hb, he, ho, hr⟩
    · exact hext g base objs args objs' r hc
    · obtain ⟨fn, hfn, hk⟩ := henv g f hf
      simp only [chkF, Bool.and_eq_true, Bool.not_eq_true', beq_iff_eq, decide_eq_true_eq] at hk
      obtain ⟨⟨⟨⟨hbody, hnt⟩, hna⟩, hres⟩, hname⟩ := hk
      cases hbd : fn.body with
      | none => simp [hbd] at hbody
      | some c =>
        simp only [hbd] at hbody
        refine ⟨⟨fn, hfn, by simp [hbd], hname⟩, fun Z β w0 w vs h hargs => ?_⟩
        refine calls_of_wp hfn hbd ?_
        have hsz : (vs ++ Array.replicate (fn.ntmps - vs.size) undef).size = f.ntmps := by
          simp [hnt]; have := hargs.1; omega
        have hsl : SlR fm Z β { tmps := vs ++ Array.replicate (fn.ntmps - vs.size) undef, defers := [] } { slots := initSlots args, objs, base } := by
          intro t
          simp only [initSlots]
          cases hx : args[t]? with
          | none => exact .u
          | some x =>
            have hlt := lt_of_get hx
            have := hargs.2 t x hx
            rw [Array.getD_eq_getD_getElem?] at this ⊢
            rw [Array.getElem?_append, if_pos (by rw [hargs.1]; exact hlt)]
            exact .s this
        refine (code_sound (callN_sound henv hext n) hb).1 c Z β _ w hbody hsz hsl h _ fun Z' β' a' w' k1 k2 k3 k4 k5 k6 => ?_
        obtain ⟨v, hv, hvr⟩ := results_sound hres k3 k6 hr
        subst ho
        have hd : a'.defers = [] := k5
        rcases he with rfl | rfl
        · exact ⟨hd, v, hv, v, Z', β', rfl, k1, k2, k6, hvr⟩
        · exact ⟨hd, v, hv, v, Z', β', rfl, k1, k2, k6, hvr⟩

theorem call_sound {env : Nat → Option AFun} {ext : Calls0} (henv : EnvOK P fm env) (hext : SoundF P fm ext) : SoundF P fm (Call env ext) := by
  intro g base objs args objs' r ⟨n, hc⟩
  exact callN_sound henv hext n g base objs args objs' r hc

/-- What a pure call of the abstract machine's says of the machine's. -/
theorem pcall_sound {env : Nat → Option AFun} {ext : Calls0} (henv : EnvOK P fm env) (hext : SoundF P fm ext) {g : Nat} {pargs : List PSV} {res : PAV} (hc : PCall env ext g pargs res) {Zf : ZM} {vs : Array Value}
    (hz : ∀ b cells, Zf b = some cells → ∃ e f, w.heap[b]? = some (.cells cells e f)) (hargs : ArgsR fm Zf β vs (pargs.map PSV.up)) :
    Calls P (fm g) vs w fun e w' => ∃ v Z', e = .returned v ∧ Below w.heap.size w w' ∧ AR fm Z' β v res.up := by
  refine (pure_sound (call_sound henv hext) hc hz hargs).2.mono fun e w' h => ?_
  obtain ⟨v, Z', h1, h2, _, _, h3⟩ := h
  exact ⟨v, Z', h1, h2, h3⟩
end Go.Av
