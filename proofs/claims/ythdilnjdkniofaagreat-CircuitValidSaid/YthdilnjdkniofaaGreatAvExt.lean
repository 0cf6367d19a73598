/- The abstract machine of the Av files: calls by contract: a copy of an empty slice. No condition. -/
import Derived.Test.YthdilnjdkniofaaGreatAvQuick
import Derived.Test.YthdilnjdkniofaaGreatAvLaw
namespace Go.Av
open Go Go.RowKit

/-- Functions that copy a slice, at an empty one. -/
def cloneExt (ids : List Nat) : Calls0 := fun g _ objs args objs' r => g ∈ ids ∧ (args = [.c (.p (.sl []))] ∨ args = [.c .e0]) ∧ objs' = objs ∧ r = vs []
def cloneX (ids : List Nat) (g : Nat) (args : List SV) : Option AV := match ids.contains g with
  | true => match args with
    | [.c (.p (.sl []))] => some (vs [])
    | [.c .e0] => some (vs [])
    | _ => none
  | false => none
theorem cloneX_ok (ids : List Nat) : ∀ g args r, cloneX ids g args = some r → ∀ base objs, cloneExt ids g base objs args objs r := by
  intro g args r h base objs
  unfold cloneX at h
  split at h
  · rename_i hg
    have hg : g ∈ ids := by simpa using hg
    split at h
    · cases h; exact ⟨hg, .inl rfl, rfl, rfl⟩
    · cases h; exact ⟨hg, .inr rfl, rfl, rfl⟩
    · cases h
  · cases h

theorem cloneExt_sound {P : Program} {fm : Nat → Nat} {ids : List Nat} (h : ∀ g, g ∈ ids → FOK P fm g ∧
    ∀ (a : Option Addr) (cap : Nat) (w : World), Calls P (fm g) #[.slice a 0 cap] w fun e w' => (∃ a', e = .returned (.slice a' 0 0)) ∧ Below w.heap.size w w') : SoundF P fm (cloneExt ids) := by
  rintro g base objs args objs' r ⟨hg, ha, rfl, rfl⟩
  obtain ⟨h1, h2⟩ := h g hg
  refine ⟨h1, fun Z β w0 w vs' hw hargs => ?_⟩
  obtain ⟨a, cap, rfl⟩ : ∃ a cap, vs' = #[.slice a 0 cap] := by
    obtain ⟨hl, hv⟩ := hargs
    have hl1 : vs'.size = 1 := by rcases ha with rfl | rfl <;> simpa using hl
    have hx : ∃ a cap, vs'.getD 0 undef = .slice a 0 cap := by
      rcases ha with rfl | rfl
      · have := (hv 0 _ rfl).vr
        rcases this.p_inv.sl_inv with ⟨ad, cap, he, _⟩ | ⟨b, off, cap, sz, cells, he, _⟩
        · exact ⟨ad, cap, he⟩
        · exact ⟨_, cap, he⟩
      · have := (hv 0 _ rfl).vr
        obtain ⟨b, hb⟩ := this.e0_inv; exact ⟨b, 0, hb⟩
    obtain ⟨a, cap, hx⟩ := hx
    refine ⟨a, cap, ?_⟩
    apply Array.ext
    · simpa using hl1
    · intro i h1 h2
      have : i = 0 := by omega
      subst this
      simp only [Array.getD, h1, dif_pos] at hx
      simpa using hx
  refine (h2 a cap w).mono fun e w' hp => ?_
  obtain ⟨⟨a', rfl⟩, hb⟩ := hp
  exact ⟨_, Z, β, rfl, ZExt.refl _ _, BExt.refl _, hw.later hb, .s (.c (.p .sl0))⟩
end Go.Av
