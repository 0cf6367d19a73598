/- Choose returns exactly the specified index and the number of consumed bytes, or the specified error. No condition. -/
import Derived.Test.YtncdbpobpkmliaaGreatRows
import Derived.WalkKit
import Derived.ProofKit
import Derived.OpenShut
import Derived.ShutString
import Derived.ChangeOld
import Derived.Below
import Derived.Carry
import Derived.Test.YtncdbpobpkmliaaGreatAvArg
import Derived.Test.YtncdbpobpkmliaaGreatCdTie
import Derived.Test.YtncdbpobpkmliaaGreatS4Clone
import Derived.Test.YtncdbpobpkmliaaGreatSuAwake
import Derived.Test.YtncdbpobpkmliaaGreatRhE
namespace Go.Proofs.YtncdbpobpkmliaaGreat.samplerChoose
open Go.ChangeShapes Go.WideShapes Go.ChangeAt Go.RowKit
open Go.ChangeMaps (open_string shut_string)
set_option linter.unusedVariables false

theorem own : ownKnob Tryz.prog.godebug = none := by kernel_rfl
theorem laidOut : laidOutB Tryz.prog = true := by kernel_rfl

theorem ty5 : Go.Av.TyOK Tryz.prog 5 [.int .u8] := .int Tryz.underlying5
theorem ty23 : Go.Av.TyOK Tryz.prog 23 [.sl [.int .u8]] := .sl Tryz.underlying23 (by kernel_rfl) (by decide) ty5
theorem ty63 : Go.Av.TyOK Tryz.prog 63 [.int .u32] := .int Tryz.underlying63
theorem ty31 : Go.Av.TyOK Tryz.prog 31 [.sl [.int .u32]] := .sl Tryz.underlying31 (by kernel_rfl) (by decide) ty63
theorem ty4 : Go.Av.TyOK Tryz.prog 4 [.bool] := .bool Tryz.underlying4
set_option maxRecDepth 100000 in
theorem ty33 : Go.Av.TyOK Tryz.prog 33 [.bool, .sl [.int .u32], .sl [.int .u32]] := by
  refine .struct Tryz.underlying33 (by kernel_rfl) (fun j hj => ?_) (fun i f hf => ?_)
  · match j, hj with
    | 0, _ => exact ⟨0, _, rfl, Nat.le_refl _, by decide +kernel⟩
    | 1, _ => exact ⟨1, _, rfl, Nat.le_refl _, by decide +kernel⟩
    | 2, _ => exact ⟨2, _, rfl, Nat.le_refl _, by decide +kernel⟩
  · match i, hf with
    | 0, hf => cases hf; exact ty4
    | 1, hf => cases hf; exact ty31
    | 2, hf => cases hf; exact ty31
    | i + 3, hf => simp at hf
theorem ty22 : Go.Av.TyOK Tryz.prog 22 [.sl [.bool, .sl [.int .u32], .sl [.int .u32]]] := .sl Tryz.underlying22 (by kernel_rfl) (by decide) ty33

theorem fracs {c : Go.Av.PC} (h : Go.Av.ShC (.sl [.bool, .sl [.int .u32], .sl [.int .u32]]) c) : ∃ fs : List Go.Av.FA, c = .sl (fs.map Go.Av.FA.row) ∧ ∀ f, f ∈ fs → Go.Av.Dg f.a ∧ Go.Av.Dg f.b := by
  obtain ⟨xs, rfl, _, hx⟩ := h.sl_inv
  obtain ⟨fs, rfl, h4⟩ := Go.Av.rows_map (enc := Go.Av.FA.row) (Pr := fun f => Go.Av.Dg f.a ∧ Go.Av.Dg f.b) (xs := xs) (fun x hxx => by
    obtain ⟨h1, h2⟩ := hx x hxx
    match x, h1 with
    | [p, q, r], _ =>
      have h3 := h2 0 p _ rfl rfl
      obtain ⟨a, rfl, _, ha⟩ := (h2 1 q _ rfl rfl).nums Go.Av.u32_wf (by omega)
      obtain ⟨b, rfl, _, hb⟩ := (h2 2 r _ rfl rfl).nums Go.Av.u32_wf (by omega)
      cases h3 with
      | @bool t => exact ⟨⟨t, a, b⟩, rfl, ha, hb⟩)
  exact ⟨fs, rfl, h4⟩

theorem walk (v0 v1 : Value) (c0 c1 : Go.Av.PC) (w : World) (p0 : Go.Av.PR Go.Av.fmCd (Go.Av.cellsOf w) v0 c0) (p1 : Go.Av.PR Go.Av.fmCd (Go.Av.cellsOf w) v1 c1)
    (s0 : Go.Av.ShC (.sl [.bool, .sl [.int .u32], .sl [.int .u32]]) c0) (s1 : Go.Av.ShC (.sl [.int .u8]) c1) :
    Calls Tryz.prog 3 #[v0, v1] w fun e w' => e = .returned (.bool true) ∧ Below w.heap.size w w' := by
  obtain ⟨fs, rfl, hf⟩ := fracs s0
  obtain ⟨bs, rfl, _, hb⟩ := s1.nums Go.Av.u8_wf (by omega)
  have h := Go.Av.law_of_pcall (w := w) (Zf := Go.Av.cellsOf w) (vs := #[v0, v1]) Go.Av.envOKCd Go.Proofs.YtncdbpobpkmliaaGreat.cl.ext_sound
    (Go.Av.sc_pure Go.Av.awake38 (fs := fs) (bs := bs) (fun i f h => hf f (List.mem_of_getElem? h)) hb) (Go.Av.cellsOf_heap w) ?_
  · exact h
  · refine ⟨rfl, fun i x hi => ?_⟩
    rcases i with _ | _ | i
    · simp at hi; subst hi; exact .c (.p p0)
    · simp at hi; subst hi; exact .c (.p p1)
    · simp at hi

set_option maxRecDepth 100000 in
theorem lifted (os : Os) (started : os.Started) (H : Type) (enc : TypeId × Value → H) :
    ReturnsInHanded {} Tryz.checked os 3 .any (Rows.samplerChooseSpec.pre6 enc Tryz.prog Tryz.f3 Rows.samplerChooseRow.domain false) (Rows.samplerChooseSpec.post enc Tryz.prog Tryz.f3 false true false false) := by
  refine returnsInHanded_of_change (C := Tryz.checked) own started (by kernel_rfl) Tryz.func3
    (ChangeSpec.witness6 (enc := enc) (C := Tryz.checked) false ⟨#[], #[.slice none 0 0, .slice none 0 0], []⟩ 8 (by kernel_rfl) (by kernel_rfl) (by kernel_rfl) (by kernel_rfl)) ?_
  intro W base args ds gs before hval0 hW hcnd _
  have hval : ∀ (j : Nat) t v, Tryz.f3.params[j]? = some t → args[j]? = some v → Value.okWide Tryz.prog W .any base t v := hval0
  have hW' := hW
  obtain ⟨p, q, hA0, hV, rfl, hfz, hnd⟩ := hW
  have hA : DataW.TrodAll enc Tryz.prog W 0 (fun _ => true) true Tryz.f3.params.toList args.toList ds p := hA0
  rw [Tryz.params3] at hA hval
  obtain ⟨v0, vs0, d0, ds0, p0, q0, hargs, rfl, rfl, h0, r0⟩ := trodAll_cons hA
  obtain ⟨v1, vs1, d1, ds1, p1, q1, rfl, rfl, rfl, h1, r1⟩ := trodAll_cons r0
  obtain ⟨rfl, rfl, rfl⟩ := trodAll_nil r1
  obtain rfl : args = #[v0, v1] := by cases args; simp_all
  obtain ⟨rfl, rfl⟩ := trodVars_none hV
  obtain ⟨a0, len0, cap0, rfl⟩ := okWide_slice Tryz.underlying22 (hval 0 22 v0 rfl rfl)
  have k0 := h0
  have lt0 : ∀ x ∈ p0, x.block < W.heap.size := by obtain ⟨m, hm⟩ := k0; exact DataW.trod_lt m _ _ _ hm
  obtain ⟨f0, hf0⟩ := h0
  obtain ⟨c0, w0, s0⟩ := Go.Av.trod_ty1 (fm := Go.Av.fmCd) ty22 hf0
  obtain ⟨a1, len1, cap1, rfl⟩ := okWide_slice Tryz.underlying23 (hval 1 23 v1 rfl rfl)
  have k1 := h1
  have lt1 : ∀ x ∈ p1, x.block < W.heap.size := by obtain ⟨m, hm⟩ := k1; exact DataW.trod_lt m _ _ _ hm
  obtain ⟨f1, hf1⟩ := h1
  obtain ⟨c1, w1, s1⟩ := Go.Av.trod_ty1 (fm := Go.Av.fmCd) ty23 hf1
  clear hA0 hval0
  refine (walk _ _ c0 c1 W w0 w1 s0 s1).mono fun e W' ⟨he, bel⟩ => ?_
  subst he
  exact ⟨_, rfl, Go.Av.post_of_below (pa := p0 ++ (p1 ++ [])) (pv := []) hW' (fun _ _ _ => (trodAll_cons_mk (shut_bool Tryz.underlying4 _) trodAll_mk0))
    (fun sp hsp => (trodAll_cons_mk (Go.Av.trod_sp laidOut (by kernel_rfl) (of_decide_eq_true (by kernel_rfl)) k0 bel lt0 (fun x hx => hsp x (by simp [hx])))
      (trodAll_cons_mk (Go.Av.trod_sp laidOut (by kernel_rfl) (of_decide_eq_true (by kernel_rfl)) k1 bel lt1 (fun x hx => hsp x (by simp [hx]))) trodAll_mk0)))
    (fun _ _ => rfl) rfl bel (ok_one (by kernel_rfl) rfl (okWide_bool_mk Tryz.underlying4 _))⟩

theorem over : Rows.samplerChooseRow.holds Tryz.pinned (OpenSpec.ofChange Rows.samplerChooseSpec) :=
  OpenClaim.holds_of_wide 3 Tryz.f3 rfl rfl rfl rfl rfl rfl rfl ⟨rfl, rfl, rfl, rfl, rfl⟩ rfl rfl rfl rfl rfl (by kernel_rfl) Tryz.func3 (by kernel_rfl)
    (of_decide_eq_true (by kernel_rfl)) (by unfold Func.isWrapper; first | (rw [if_pos (by decide +kernel)]; kernel_rfl) | (rw [if_neg (by decide +kernel)]; exact ⟨rfl, rfl⟩))
    (fun os started H enc _ => lifted os started H enc)

/-- ████ THE STATEMENT ████ -/
theorem proved : Rows.SamplerChooseSaid := over
#print axioms proved
end Go.Proofs.YtncdbpobpkmliaaGreat.samplerChoose
