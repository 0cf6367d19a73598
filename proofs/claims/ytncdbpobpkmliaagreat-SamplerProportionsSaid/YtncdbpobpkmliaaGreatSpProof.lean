/- Over all strings of one byte, Choose yields the indexes in the proportion of the weights. No condition. -/
import Derived.Test.YtncdbpobpkmliaaGreatRows
import Derived.WalkKit
import Derived.ProofKit
import Derived.OpenShut
import Derived.ShutString
import Derived.ChangeOld
import Derived.Below
import Derived.Carry
import Derived.Test.YtncdbpobpkmliaaGreatAvArg
import Derived.Test.YtncdbpobpkmliaaGreatCdTie
import Derived.Test.YtncdbpobpkmliaaGreatS4Clone
import Derived.Test.YtncdbpobpkmliaaGreatSuAwake
import Derived.Test.YtncdbpobpkmliaaGreatSpNum
namespace Go.Proofs.YtncdbpobpkmliaaGreat.samplerProportions
open Go.ChangeShapes Go.WideShapes Go.ChangeAt Go.RowKit
open Go.ChangeMaps (open_string shut_string)
set_option linter.unusedVariables false

theorem own : ownKnob Tryz.prog.godebug = none := by kernel_rfl
theorem laidOut : laidOutB Tryz.prog = true := by kernel_rfl

theorem ty5 : Go.Av.TyOK Tryz.prog 5 [.int .u8] := .int Tryz.underlying5
theorem ty23 : Go.Av.TyOK Tryz.prog 23 [.sl [.int .u8]] := .sl Tryz.underlying23 (by kernel_rfl) (by decide) ty5
theorem walk (v0 : Value) (c0 : Go.Av.PC) (w : World) (p0 : Go.Av.PR Go.Av.fmCd (Go.Av.cellsOf w) v0 c0) (s0 : Go.Av.ShC (.sl [.int .u8]) c0) :
    Calls Tryz.prog 4 #[v0] w fun e w' => e = .returned (.bool true) ∧ Below w.heap.size w w' := by
  obtain ⟨bs, rfl, _, hb⟩ := s0.nums Go.Av.u8_wf (by omega)
  have h := Go.Av.law_of_pcall (w := w) (Zf := Go.Av.cellsOf w) (vs := #[v0]) Go.Av.envOKCd Go.Proofs.YtncdbpobpkmliaaGreat.cl.ext_sound
    (Go.Av.sp_pure Go.Av.awake38 (bs := bs) hb) (Go.Av.cellsOf_heap w) ?_
  · exact h
  · refine ⟨rfl, fun i x hi => ?_⟩
    rcases i with _ | i
    · simp at hi; subst hi; exact .c (.p p0)
    · simp at hi

set_option maxRecDepth 100000 in
theorem lifted (os : Os) (started : os.Started) (H : Type) (enc : TypeId × Value → H) :
    ReturnsInHanded {} Tryz.checked os 4 .any (Rows.samplerProportionsSpec.pre6 enc Tryz.prog Tryz.f4 Rows.samplerProportionsRow.domain false) (Rows.samplerProportionsSpec.post enc Tryz.prog Tryz.f4 false true false false) := by
  refine returnsInHanded_of_change (C := Tryz.checked) own started (by kernel_rfl) Tryz.func4
    (ChangeSpec.witness6 (enc := enc) (C := Tryz.checked) false ⟨#[], #[.slice none 0 0], []⟩ 8 (by kernel_rfl) (by kernel_rfl) (by kernel_rfl) (by kernel_rfl)) ?_
  intro W base args ds gs before hval0 hW hcnd _
  have hval : ∀ (j : Nat) t v, Tryz.f4.params[j]? = some t → args[j]? = some v → Value.okWide Tryz.prog W .any base t v := hval0
  have hW' := hW
  obtain ⟨p, q, hA0, hV, rfl, hfz, hnd⟩ := hW
  have hA : DataW.TrodAll enc Tryz.prog W 0 (fun _ => true) true Tryz.f4.params.toList args.toList ds p := hA0
  rw [Tryz.params4] at hA hval
  obtain ⟨v0, vs0, d0, ds0, p0, q0, hargs, rfl, rfl, h0, r0⟩ := trodAll_cons hA
  obtain ⟨rfl, rfl, rfl⟩ := trodAll_nil r0
  obtain rfl : args = #[v0] := by cases args; simp_all
  obtain ⟨rfl, rfl⟩ := trodVars_none hV
  obtain ⟨a0, len0, cap0, rfl⟩ := okWide_slice Tryz.underlying23 (hval 0 23 v0 rfl rfl)
  have k0 := h0
  have lt0 : ∀ x ∈ p0, x.block < W.heap.size := by obtain ⟨m, hm⟩ := k0; exact DataW.trod_lt m _ _ _ hm
  obtain ⟨f0, hf0⟩ := h0
  obtain ⟨c0, w0, s0⟩ := Go.Av.trod_ty1 (fm := Go.Av.fmCd) ty23 hf0
  clear hA0 hval0
  refine (walk _ c0 W w0 s0).mono fun e W' ⟨he, bel⟩ => ?_
  subst he
  exact ⟨_, rfl, Go.Av.post_of_below (pa := p0 ++ []) (pv := []) hW' (fun _ _ _ => (trodAll_cons_mk (shut_bool Tryz.underlying4 _) trodAll_mk0))
    (fun sp hsp => (trodAll_cons_mk (Go.Av.trod_sp laidOut (by kernel_rfl) (of_decide_eq_true (by kernel_rfl)) k0 bel lt0 (fun x hx => hsp x (by simp [hx]))) trodAll_mk0))
    (fun _ _ => rfl) rfl bel (ok_one (by kernel_rfl) rfl (okWide_bool_mk Tryz.underlying4 _))⟩

theorem over : Rows.samplerProportionsRow.holds Tryz.pinned (OpenSpec.ofChange Rows.samplerProportionsSpec) :=
  OpenClaim.holds_of_wide 4 Tryz.f4 rfl rfl rfl rfl rfl rfl rfl ⟨rfl, rfl, rfl, rfl, rfl⟩ rfl rfl rfl rfl rfl (by kernel_rfl) Tryz.func4 (by kernel_rfl)
    (of_decide_eq_true (by kernel_rfl)) (by unfold Func.isWrapper; first | (rw [if_pos (by decide +kernel)]; kernel_rfl) | (rw [if_neg (by decide +kernel)]; exact ⟨rfl, rfl⟩))
    (fun os started H enc _ => lifted os started H enc)

/-- ████ THE STATEMENT ████ -/
theorem proved : Rows.SamplerProportionsSaid := over
#print axioms proved
end Go.Proofs.YtncdbpobpkmliaaGreat.samplerProportions
