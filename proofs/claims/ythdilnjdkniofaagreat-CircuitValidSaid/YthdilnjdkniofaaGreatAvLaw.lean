/- The abstract machine of the Av files: from a pure call to a law's row. No condition. -/
import Derived.Test.YthdilnjdkniofaaGreatAvRun
import Derived.ProofKit
import Derived.Carry
namespace Go.Av
open Go Go.RowKit

def noExt : Calls0 := fun _ _ _ _ _ _ => False
theorem noExt_sound {P : Program} {fm : Nat → Nat} : SoundF P fm noExt := fun _ _ _ _ _ _ h => h.elim

variable {P : Program} {fm : Nat → Nat} {w : World}

/-- A pure call that gives true, on the machine. -/
theorem law_of_pcall {env : Nat → Option AFun} {ext : Calls0} (henv : EnvOK P fm env) (hext : SoundF P fm ext) {g : Nat} {pargs : List PSV} (hc : PCall env ext g pargs (.s (.c (.bool true)))) {Zf : ZM} {vs : Array Value}
    (hz : ∀ b cells, Zf b = some cells → ∃ e f, w.heap[b]? = some (.cells cells e f)) (hargs : ArgsR fm Zf (fun _ _ => none) vs (pargs.map PSV.up)) :
    Calls P (fm g) vs w fun e w' => e = .returned (.bool true) ∧ Below w.heap.size w w' := by
  refine (pcall_sound henv hext hc hz hargs).mono fun e w' h => ?_
  obtain ⟨v, Z', rfl, hb, hv⟩ := h
  have : v = .bool true := by
    cases hv with
    | s hv =>
      cases hv with
      | c hv =>
        cases hv with
        | p hv => exact hv.bool_inv
  exact ⟨by rw [this], hb⟩

/-- The cells of a world's blocks. -/
def cellsOf (w : World) : ZM := fun b => match w.heap[b]? with
  | some (.cells c _ _) => some c
  | _ => none
theorem cellsOf_heap (w : World) (b : Nat) (cells : Array Value) (h : cellsOf w b = some cells) : ∃ e f, w.heap[b]? = some (.cells cells e f) := by
  unfold cellsOf at h
  split at h
  · rename_i c e f hb; cases h; exact ⟨e, f, hb⟩
  · cases h

open Go.ChangeShapes Go.WideShapes Go.ChangeAt in
theorem post_of_below {H : Type} {enc : TypeId × Value → H} {f : Func} {s : ChangeSpec} {apart fresh handsOn again : Bool} {W W' : World} {args : Array Value} {v : Value} {ds gs : List (DataW H)} {before pa pv : List MemPlace}
    (hW : DataW.Whole enc P f.params.toList s.vars apart W args.toList ds gs before)
    (hres : ∀ (b : Nat) (sp : Nat → Bool) (hd : Bool), DataW.TrodAll enc P W' b sp hd f.resultTypes.toList (v.resultList f.resultTypes.size) (s.fn H (ds ++ gs)).results [])
    (hargs : ∀ sp : Nat → Bool, (∀ p ∈ before, sp p.block = true) → DataW.TrodAll enc P W' 0 sp true f.params.toList args.toList (s.fn H (ds ++ gs)).args pa)
    (hvars : ∀ sp : Nat → Bool, (∀ p ∈ before, sp p.block = true) → DataW.TrodVars enc P W' sp s.vars (s.fn H (ds ++ gs)).vars pv)
    (hps : before = pa ++ pv) (hb : Below W.heap.size W W')
    (hok : ∀ (j : Nat) (t : TypeId) (r : Value), f.resultTypes[j]? = some t → (v.resultList f.resultTypes.size)[j]? = some r → Value.okWide P W' .any 0 t r) :
    s.post enc P f apart fresh handsOn again W args v W' := by
  have hold : ∀ p ∈ before, (fun b => decide (b < W.heap.size)) p.block = true := fun p hp => by simpa using hW.lt p hp
  have hlt : ∀ p ∈ before, p.block < W.heap.size := fun p hp => hW.lt p hp
  refine ⟨ds, gs, before, [], pa, pv, hW, hres _ _ _, hargs _ hold, hvars _ hold, World.keptBut_mono (fun p hp => ⟨hp, ?_⟩) (hb.frame (· ∈ before)), fun _ => ?_⟩
  · rw [hps, List.mem_append] at hp
    exact Or.inr hp
  · obtain ⟨_, _, _, _, _, hz, hn⟩ := hW
    refine ⟨hok, _, _, ([] ++ pa) ++ pv, ⟨[] ++ pa, pv, trodAll_append (hargs _ (fun _ _ => rfl)) (hres _ _ _), hvars _ (fun _ _ => rfl), rfl, ?_, ?_⟩, ?_⟩
    · intro b off hp
      have hp' : MemPlace.cell b off ∈ before := by rw [hps]; simpa using hp
      rw [hb.frozen (p := ⟨b, off, none⟩) (hlt _ hp')]
      exact hz b off hp'
    · intro ha
      have := hn ha
      rw [hps] at this
      simpa using this
    · intro p hp _
      rw [hps]
      simpa using hp
end Go.Av
