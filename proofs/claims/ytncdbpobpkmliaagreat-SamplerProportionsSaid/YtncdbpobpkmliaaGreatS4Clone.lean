/- What slices.Clone gives at an empty slice. No condition. -/
import Derived.Test.YtncdbpobpkmliaaGreatChecked
import Derived.Test.YtncdbpobpkmliaaGreatAvExt
import Derived.Test.YtncdbpobpkmliaaGreatCdTie
import Derived.WalkKit
import Derived.ProofKit
import Derived.Below
import Derived.Handy
namespace Go.Proofs.YtncdbpobpkmliaaGreat.cl
open Go Go.RowKit
theorem eqg (P : Program) (w : World) (op t y z) (a : Option Addr) (n cap : Nat) : (eqGuard op t y z (.slice a n cap) (.slice none 0 0)).run P w = .ok () w := by
  unfold eqGuard
  split <;> simp
theorem eqn {P : Program} {w : World} {t e : TypeId} {n cap : Nat} (ht : P.underlying t = some (.slice e)) : (Op.equal t (.slice none n cap) (.slice none 0 0)).run P w = .ok true w := by
  have h1 : ∀ d, (Op.equalIn (d + 1) t (.slice none n cap) (.slice none 0 0)).run P w = .ok true w := by
    intro d
    simp only [Op.equalIn, Sem.run_bind, run_underlying ht, Result.andThen_ok, Sem.run_pure]
    rfl
  exact h1 9999
theorem bin_n {P : Program} {w : World} {t e : TypeId} {n cap : Nat} (ht : P.underlying t = some (.slice e)) : (binOp .eql t (.slice none n cap) (.slice none 0 0)).run P w = .ok (.bool true) w := by
  simp only [binOp, Sem.run_bind, eqn ht, Result.andThen_ok, Sem.run_pure]
theorem bin_s {P : Program} {w : World} {t e : TypeId} {ad : Addr} {n cap : Nat} (ht : P.underlying t = some (.slice e)) : (binOp .eql t (.slice (some ad) n cap) (.slice none 0 0)).run P w = .ok (.bool false) w := by
  simp only [binOp, Sem.run_bind, Go.Av.run_equal_nil ht, Result.andThen_ok, Sem.run_pure]
set_option maxRecDepth 100000 in
theorem cloneN (cap : Nat) (w : World) : Calls Tryz.prog 70 #[.slice none 0 cap] w fun e w' => (∃ a', e = .returned (.slice a' 0 0)) ∧ Below w.heap.size w w' := by
  have hg := fun op t y z (w : World) => eqg Tryz.prog w op t y z none 0 cap
  have hb := fun (w : World) => bin_n (w := w) (n := 0) (cap := cap) Tryz.underlying35
  go_enter Tryz.func70, Tryz.ntmps70
  go_wp2
  all_goals (try go_ret)
  all_goals (try exact ⟨⟨_, rfl⟩, Below.refl _ _⟩)
set_option maxRecDepth 100000 in
theorem cloneS (a : Addr) (cap : Nat) (w : World) : Calls Tryz.prog 70 #[.slice (some a) 0 cap] w fun e w' => (∃ a', e = .returned (.slice a' 0 0)) ∧ Below w.heap.size w w' := by
  have hg := fun op t y z (w : World) => eqg Tryz.prog w op t y z (some a) 0 cap
  have hb := fun (w : World) => bin_s (w := w) (ad := a) (n := 0) (cap := cap) Tryz.underlying35
  go_enter Tryz.func70, Tryz.ntmps70
  go_wp2
  all_goals (try go_ret)
  all_goals (try exact ⟨⟨_, rfl⟩, (Below.refl _ _).alloc (Nat.le_refl _) _⟩)
theorem ext_sound : Go.Av.SoundF Tryz.prog Go.Av.fmCd (Go.Av.cloneExt [125]) := by
  refine Go.Av.cloneExt_sound fun g hg => ?_
  have hg : g = 125 := by simpa using hg
  subst hg
  have e : Go.Av.fmCd 125 = 70 := by decide +kernel
  refine ⟨⟨_, (by rw [e]; exact Tryz.func70), rfl, by decide +kernel⟩, fun a cap w => ?_⟩
  rw [e]
  cases a with
  | none => exact cloneN cap w
  | some a => exact cloneS a cap w
end Go.Proofs.YtncdbpobpkmliaaGreat.cl
