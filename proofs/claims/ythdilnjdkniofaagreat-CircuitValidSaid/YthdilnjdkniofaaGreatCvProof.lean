/- Valid returns exactly whether a circuit satisfies the conditions of decomposability and determinism. No condition. -/
import Derived.Test.YthdilnjdkniofaaGreatRows
import Derived.WalkKit
import Derived.ProofKit
import Derived.OpenShut
import Derived.ShutString
import Derived.ChangeOld
import Derived.Below
import Derived.Carry
import Derived.Test.YthdilnjdkniofaaGreatAvArg
import Derived.Test.YthdilnjdkniofaaGreatCdTie
import Derived.Test.YthdilnjdkniofaaGreatCvAw
import Derived.Test.YthdilnjdkniofaaGreatCvI
namespace Go.Proofs.YthdilnjdkniofaaGreat.circuitValid
open Go.ChangeShapes Go.WideShapes Go.ChangeAt Go.RowKit
open Go.ChangeMaps (open_string shut_string)
set_option linter.unusedVariables false

theorem own : ownKnob Tryz.prog.godebug = none := by kernel_rfl
theorem laidOut : laidOutB Tryz.prog = true := by kernel_rfl

theorem ty95 : Go.Av.TyOK Tryz.prog 95 [.int .u32] := .int Tryz.underlying95
theorem ty39 : Go.Av.TyOK Tryz.prog 39 [.sl [.int .u32]] := .sl Tryz.underlying39 (by kernel_rfl) (by decide) ty95
theorem ty4 : Go.Av.TyOK Tryz.prog 4 [.bool] := .bool Tryz.underlying4
theorem ty3 : Go.Av.TyOK Tryz.prog 3 [.int .i64] := .int Tryz.underlying3
theorem ty31 : Go.Av.TyOK Tryz.prog 31 [.sl [.int .i64]] := .sl Tryz.underlying31 (by kernel_rfl) (by decide) ty3
abbrev tF : List Go.Av.Ty := [.bool, .sl [.int .u32], .sl [.int .u32]]
abbrev tG : List Go.Av.Ty := [.int .i64, .int .i64, .sl [.int .i64]]
set_option maxRecDepth 100000 in
theorem ty41 : Go.Av.TyOK Tryz.prog 41 tF := by
  refine .struct Tryz.underlying41 (by kernel_rfl) (fun j hj => ?_) (fun i f hf => ?_)
  · match j, hj with
    | 0, _ => exact ⟨0, _, rfl, Nat.le_refl _, by decide +kernel⟩
    | 1, _ => exact ⟨1, _, rfl, Nat.le_refl _, by decide +kernel⟩
    | 2, _ => exact ⟨2, _, rfl, Nat.le_refl _, by decide +kernel⟩
  · match i, hf with
    | 0, hf => cases hf; exact ty4
    | 1, hf => cases hf; exact ty39
    | 2, hf => cases hf; exact ty39
    | i + 3, hf => simp at hf
theorem ty61 : Go.Av.TyOK Tryz.prog 61 [.sl tF] := .sl Tryz.underlying61 (by kernel_rfl) (by decide) ty41
set_option maxRecDepth 100000 in
theorem ty63 : Go.Av.TyOK Tryz.prog 63 [.sl tF] := by
  refine .struct Tryz.underlying63 (by kernel_rfl) (fun j hj => ?_) (fun i f hf => ?_)
  · match j, hj with
    | 0, _ => exact ⟨0, _, rfl, Nat.le_refl _, by decide +kernel⟩
  · match i, hf with
    | 0, hf => cases hf; exact ty61
    | i + 1, hf => simp at hf
theorem ty22 : Go.Av.TyOK Tryz.prog 22 [.sl [.sl tF]] := .sl Tryz.underlying22 (by kernel_rfl) (by decide) ty63
set_option maxRecDepth 100000 in
theorem ty24 : Go.Av.TyOK Tryz.prog 24 [.sl [.sl tF]] := by
  refine .struct Tryz.underlying24 (by kernel_rfl) (fun j hj => ?_) (fun i f hf => ?_)
  · match j, hj with
    | 0, _ => exact ⟨0, _, rfl, Nat.le_refl _, by decide +kernel⟩
  · match i, hf with
    | 0, hf => cases hf; exact ty22
    | i + 1, hf => simp at hf
set_option maxRecDepth 100000 in
theorem ty55 : Go.Av.TyOK Tryz.prog 55 tG := by
  refine .struct Tryz.underlying55 (by kernel_rfl) (fun j hj => ?_) (fun i f hf => ?_)
  · match j, hj with
    | 0, _ => exact ⟨0, _, rfl, Nat.le_refl _, by decide +kernel⟩
    | 1, _ => exact ⟨1, _, rfl, Nat.le_refl _, by decide +kernel⟩
    | 2, _ => exact ⟨2, _, rfl, Nat.le_refl _, by decide +kernel⟩
  · match i, hf with
    | 0, hf => cases hf; exact ty3
    | 1, hf => cases hf; exact ty3
    | 2, hf => cases hf; exact ty31
    | i + 3, hf => simp at hf
theorem ty25 : Go.Av.TyOK Tryz.prog 25 [.sl tG] := .sl Tryz.underlying25 (by kernel_rfl) (by decide) ty55
set_option maxRecDepth 100000 in
theorem ty27 : Go.Av.TyOK Tryz.prog 27 [.sl tG] := by
  refine .struct Tryz.underlying27 (by kernel_rfl) (fun j hj => ?_) (fun i f hf => ?_)
  · match j, hj with
    | 0, _ => exact ⟨0, _, rfl, Nat.le_refl _, by decide +kernel⟩
  · match i, hf with
    | 0, hf => cases hf; exact ty25
    | i + 1, hf => simp at hf

theorem fracs {c : Go.Av.PC} (h : Go.Av.ShC (.sl tF) c) : ∃ fs : List Go.Av.FA, c = .sl (fs.map Go.Av.FA.row) ∧ ∀ f, f ∈ fs → Go.Av.Dg f.a ∧ Go.Av.Dg f.b := by
  obtain ⟨xs, rfl, _, hx⟩ := h.sl_inv
  obtain ⟨fs, rfl, h4⟩ := Go.Av.rows_map (enc := Go.Av.FA.row) (Pr := fun f => Go.Av.Dg f.a ∧ Go.Av.Dg f.b) (xs := xs) (fun x hxx => by
    obtain ⟨h1, h2⟩ := hx x hxx
    match x, h1 with
    | [p, q, r], _ =>
      have h3 := h2 0 p _ rfl rfl
      obtain ⟨a, rfl, _, ha⟩ := (h2 1 q _ rfl rfl).nums Go.Av.u32_wf (by omega)
      obtain ⟨b, rfl, _, hb⟩ := (h2 2 r _ rfl rfl).nums Go.Av.u32_wf (by omega)
      cases h3 with
      | @bool t => exact ⟨⟨t, a, b⟩, rfl, ha, hb⟩)
  exact ⟨fs, rfl, h4⟩
theorem spaces {c : Go.Av.PC} (h : Go.Av.ShC (.sl [.sl tF]) c) : ∃ S : List (List Go.Av.FA), c = .sl (S.map Go.Av.brow) ∧ Go.Av.SpD S := by
  obtain ⟨xs, rfl, _, hx⟩ := h.sl_inv
  obtain ⟨S, rfl, h4⟩ := Go.Av.rows_map (enc := Go.Av.brow) (Pr := fun b => ∀ f, f ∈ b → Go.Av.Dg f.a ∧ Go.Av.Dg f.b) (xs := xs) (fun x hxx => by
    obtain ⟨h1, h2⟩ := hx x hxx
    match x, h1 with
    | [p], _ =>
      obtain ⟨fs, rfl, hf⟩ := fracs (h2 0 p _ rfl rfl)
      exact ⟨fs, rfl, hf⟩)
  exact ⟨S, rfl, fun i b hb j f hf => h4 b (List.mem_of_getElem? hb) f (List.mem_of_getElem? hf)⟩
theorem ints {c : Go.Av.PC} (h : Go.Av.ShC (.sl [.int .i64]) c) : ∃ l : List Int, c = .sl (Go.Av.encZ l) := by
  obtain ⟨xs, rfl, _, hx⟩ := h.sl_inv
  obtain ⟨l, rfl, _⟩ := Go.Av.rows_map (enc := fun x : Int => [Go.Av.PC.int .i64 x]) (Pr := fun _ => True) (xs := xs) (fun x hxx => by
    obtain ⟨h1, h2⟩ := hx x hxx
    match x, h1 with
    | [p], _ =>
      have h3 := h2 0 p _ rfl rfl
      cases h3 with
      | @int _ n hw => exact ⟨n, rfl, trivial⟩)
  exact ⟨l, rfl⟩
theorem gates {c : Go.Av.PC} (h : Go.Av.ShC (.sl tG) c) : ∃ G : List Go.Av.GA, c = .sl (G.map Go.Av.GA.row) := by
  obtain ⟨xs, rfl, _, hx⟩ := h.sl_inv
  obtain ⟨G, rfl, _⟩ := Go.Av.rows_map (enc := Go.Av.GA.row) (Pr := fun _ => True) (xs := xs) (fun x hxx => by
    obtain ⟨h1, h2⟩ := hx x hxx
    match x, h1 with
    | [p, q, r], _ =>
      have h3 := h2 0 p _ rfl rfl
      have h4 := h2 1 q _ rfl rfl
      obtain ⟨l, rfl⟩ := ints (h2 2 r _ rfl rfl)
      cases h3 with
      | @int _ n hw =>
        cases h4 with
        | @int _ m hw2 => exact ⟨⟨n, m, l⟩, rfl, trivial⟩)
  exact ⟨G, rfl⟩

theorem agg1 {Z : Go.Av.ZM} {β : Go.Av.BM} {x : Value} {c : Go.Av.PC} (h : Go.Av.PR Go.Av.fmCd Z x c) : Go.Av.SR Go.Av.fmCd Z β (.agg #[x]) (.agg [.p c]) := by
  refine .agg rfl fun j c' hj => ?_
  cases j with
  | zero => cases hj; exact .p h
  | succ j => simp at hj

set_option maxRecDepth 100000 in
theorem walk (v0 v1 : Value) (c0 c1 : Go.Av.PC) (w : World) (p0 : Go.Av.PR Go.Av.fmCd (Go.Av.cellsOf w) v0 c0) (p1 : Go.Av.PR Go.Av.fmCd (Go.Av.cellsOf w) v1 c1)
    (s0 : Go.Av.ShC (.sl [.sl tF]) c0) (s1 : Go.Av.ShC (.sl tG) c1) :
    Calls Tryz.prog 3 #[.agg #[v0], .agg #[v1]] w fun e w' => e = .returned (.bool true) ∧ Below w.heap.size w w' := by
  obtain ⟨S, rfl, hS⟩ := spaces s0
  obtain ⟨G, rfl⟩ := gates s1
  have h := Go.Av.law_of_pcall (w := w) (Zf := Go.Av.cellsOf w) (vs := #[.agg #[v0], .agg #[v1]]) Go.Av.envOKCd (Go.Av.cloneExt_sound (ids := []) (fun g hg => by simp at hg))
    (Go.Av.cv_pure Go.Av.awake29 (S := S) (G := G) hS) (Go.Av.cellsOf_heap w) ?_
  · exact h
  · refine ⟨rfl, fun i x hi => ?_⟩
    rcases i with _ | _ | i
    · simp at hi; subst hi; exact agg1 p0
    · simp at hi; subst hi; exact agg1 p1
    · simp at hi

theorem agg_one {P : Program} {t : TypeId} {fs : Array Field} (ht : P.underlying t = some (.struct fs)) (hc : P.cellsOf t = 1) {w : World} {base : Nat} {v : Value} (h : Value.okWide P w .any base t v) : ∃ x, v = .agg #[x] := by
  obtain ⟨cs, rfl, h1⟩ := okWide_struct ht h
  rw [hc] at h1
  refine ⟨cs[0], ?_⟩
  congr 1
  apply Array.ext
  · simpa using h1
  · intro i h2 h3
    have : i = 0 := by omega
    subst this
    rfl

set_option maxRecDepth 100000 in
theorem lifted (os : Os) (started : os.Started) (H : Type) (enc : TypeId × Value → H) :
    ReturnsInHanded {} Tryz.checked os 3 .any (Rows.circuitValidSpec.pre6 enc Tryz.prog Tryz.f3 Rows.circuitValidRow.domain false) (Rows.circuitValidSpec.post enc Tryz.prog Tryz.f3 false true false false) := by
  refine returnsInHanded_of_change (C := Tryz.checked) own started (by kernel_rfl) Tryz.func3
    (ChangeSpec.witness6 (enc := enc) (C := Tryz.checked) false ⟨#[], #[.agg #[.slice none 0 0], .agg #[.slice none 0 0]], []⟩ 8 (by kernel_rfl) (by kernel_rfl) (by kernel_rfl) (by kernel_rfl)) ?_
  intro W base args ds gs before hval0 hW hcnd _
  have hval : ∀ (j : Nat) t v, Tryz.f3.params[j]? = some t → args[j]? = some v → Value.okWide Tryz.prog W .any base t v := hval0
  have hW' := hW
  obtain ⟨p, q, hA0, hV, rfl, hfz, hnd⟩ := hW
  have hA : DataW.TrodAll enc Tryz.prog W 0 (fun _ => true) true Tryz.f3.params.toList args.toList ds p := hA0
  rw [Tryz.params3] at hA hval
  obtain ⟨v0, vs0, d0, ds0, p0, q0, hargs, rfl, rfl, h0, r0⟩ := trodAll_cons hA
  obtain ⟨v1, vs1, d1, ds1, p1, q1, rfl, rfl, rfl, h1, r1⟩ := trodAll_cons r0
  obtain ⟨rfl, rfl, rfl⟩ := trodAll_nil r1
  obtain rfl : args = #[v0, v1] := by cases args; simp_all
  obtain ⟨rfl, rfl⟩ := trodVars_none hV
  obtain ⟨x0, rfl⟩ := agg_one Tryz.underlying24 (by kernel_rfl) (hval 0 24 v0 rfl rfl)
  have k0 := h0
  have lt0 : ∀ x ∈ p0, x.block < W.heap.size := by obtain ⟨m, hm⟩ := k0; exact DataW.trod_lt m _ _ _ hm
  obtain ⟨f0, hf0⟩ := h0
  obtain ⟨c0, w0, s0⟩ := Go.Av.trod_ty1 (fm := Go.Av.fmCd) ty24 hf0
  obtain ⟨x1, rfl⟩ := agg_one Tryz.underlying27 (by kernel_rfl) (hval 1 27 v1 rfl rfl)
  have k1 := h1
  have lt1 : ∀ x ∈ p1, x.block < W.heap.size := by obtain ⟨m, hm⟩ := k1; exact DataW.trod_lt m _ _ _ hm
  obtain ⟨f1, hf1⟩ := h1
  obtain ⟨c1, w1, s1⟩ := Go.Av.trod_ty1 (fm := Go.Av.fmCd) ty27 hf1
  clear hA0 hval0
  refine (walk _ _ c0 c1 W w0 w1 s0 s1).mono fun e W' ⟨he, bel⟩ => ?_
  subst he
  exact ⟨_, rfl, Go.Av.post_of_below (pa := p0 ++ (p1 ++ [])) (pv := []) hW' (fun _ _ _ => (trodAll_cons_mk (shut_bool Tryz.underlying4 _) trodAll_mk0))
    (fun sp hsp => (trodAll_cons_mk (Go.Av.trod_sp laidOut (by kernel_rfl) (of_decide_eq_true (by kernel_rfl)) k0 bel lt0 (fun x hx => hsp x (by simp [hx])))
      (trodAll_cons_mk (Go.Av.trod_sp laidOut (by kernel_rfl) (of_decide_eq_true (by kernel_rfl)) k1 bel lt1 (fun x hx => hsp x (by simp [hx]))) trodAll_mk0)))
    (fun _ _ => rfl) rfl bel (ok_one (by kernel_rfl) rfl (okWide_bool_mk Tryz.underlying4 _))⟩

theorem over : Rows.circuitValidRow.holds Tryz.pinned (OpenSpec.ofChange Rows.circuitValidSpec) :=
  OpenClaim.holds_of_wide 3 Tryz.f3 rfl rfl rfl rfl rfl rfl rfl ⟨rfl, rfl, rfl, rfl, rfl⟩ rfl rfl rfl rfl rfl (by kernel_rfl) Tryz.func3 (by kernel_rfl)
    (of_decide_eq_true (by kernel_rfl)) (by unfold Func.isWrapper; first | (rw [if_pos (by decide +kernel)]; kernel_rfl) | (rw [if_neg (by decide +kernel)]; exact ⟨rfl, rfl⟩))
    (fun os started H enc _ => lifted os started H enc)

/-- ████ THE STATEMENT ████ -/
theorem proved : Rows.CircuitValidSaid := over
#print axioms proved
end Go.Proofs.YthdilnjdkniofaaGreat.circuitValid
