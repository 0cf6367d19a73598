/- The abstract machine of the Av files: a law's argument that is a slice of numbers, read. No condition. -/
import Derived.Test.YtpdobdimlbhaoaaGreatAvLaw
import Derived.Test.YtpdobdimlbhaoaaGreatAvWalk
import Derived.DataReads
namespace Go.Av
open Go Go.RowKit

/-- A row of numbers that came in is a slice of the abstract machine. -/
theorem row_PR {fm : Nat → Nat} {k : IntKind} {T : Nat} (hk : ∀ n : Int, (Lit.int k n).wf = true → 0 ≤ n ∧ n < (T : Int)) (hT : 0 < T) {w : World} {x : Addr} {len cap : Nat} {zs : List Int} (hlc : len ≤ cap) (hz : zs.length = cap)
    (hcell : ∀ i, i < zs.length → w.cell? (x.add i) = some (.int k (zs.getD i 0))) (hwf : ∀ n ∈ zs, (Lit.int k n).wf = true) :
    ∃ ns : List Nat, PR fm (cellsOf w) (.slice (some x) len cap) (.sl (encK k ns)) ∧ ∀ i, ns.getD i 0 < T := by
  by_cases h0 : len = 0
  · subst h0
    exact ⟨[], .sl0, fun i => by simpa using hT⟩
  have hc0 := hcell 0 (by omega)
  have hsp : x.spot = none := by
    have := World.cell?_spot hc0
    simpa [Addr.add] using this
  obtain ⟨b, off, spot⟩ := x
  simp only at hsp
  subst hsp
  have hadd : ∀ i, i < zs.length → w.cell? ⟨b, off + i, none⟩ = some (.int k (zs.getD i 0)) := by
    intro i hi
    have := hcell i hi
    unfold Addr.add at this
    split at this
    · rename_i h; subst h; exact this
    · exact this
  obtain ⟨c, e, f, hb⟩ : ∃ c e f, w.heap[b]? = some (.cells c e f) := by
    have h1 := hadd 0 (by omega)
    unfold World.cell? at h1
    split at h1
    · rename_i c e f hb; exact ⟨c, e, f, hb⟩
    · cases h1
  have hget : ∀ i, i < zs.length → c[off + i]? = some (.int k (zs.getD i 0)) := by
    intro i hi
    have h1 := hadd i hi
    unfold World.cell? at h1
    simp only [hb] at h1
    simpa using h1
  have hns : ∀ i, i < zs.length → 0 ≤ zs.getD i 0 ∧ zs.getD i 0 < (T : Int) := by
    intro i hi
    apply hk
    apply hwf
    rw [List.getD_eq_getElem?_getD, List.getElem?_eq_getElem hi]
    exact List.getElem_mem hi
  have hl : ((zs.take len).map Int.toNat).length = len := by simp; omega
  refine ⟨(zs.take len).map Int.toNat, ?_, fun i => ?_⟩
  · have key : PR fm (cellsOf w) (.slice (some ⟨b, off, none⟩) (encK k ((zs.take len).map Int.toNat)).length cap) (.sl (encK k ((zs.take len).map Int.toNat))) := by
      refine .sl (sz := 1) (cells := c) (by simp [cellsOf, hb]) (by rw [encK_len, hl]; exact hlc) (fun y hy => ?_) ?_ ?_
      · simp only [encK, List.mem_map] at hy
        obtain ⟨m, _, rfl⟩ := hy; rfl
      · rw [encK_len, hl]
        have h1 := hget (len - 1) (by omega)
        have h2 := (Array.getElem?_eq_some_iff.1 h1).1
        omega
      · intro i j y cc hy hcc
        simp only [encK, List.getElem?_map, Option.map_eq_some_iff] at hy
        obtain ⟨m, ⟨z, hz1, rfl⟩, rfl⟩ := hy
        have hi : i < len := by
          have := (List.getElem?_eq_some_iff.1 hz1).1
          simp at this; omega
        have hzi : zs.getD i 0 = z := by
          rw [List.getElem?_take, if_pos hi] at hz1
          rw [List.getD_eq_getElem?_getD, hz1]; rfl
        cases j with
        | zero =>
          simp at hcc; subst hcc
          have h1 := hget i (by omega)
          have h2 := hns i (by omega)
          rw [hzi] at h1 h2
          have h3 : c.getD (off + i * 1 + 0) undef = .int k z := by
            rw [Nat.mul_one, Nat.add_zero]
            rw [Array.getD_eq_getD_getElem?, h1]; rfl
          rw [h3, show max z 0 = z by omega]
          exact .int
        | succ j => simp at hcc
    rw [encK_len, hl] at key
    exact key
  · by_cases hi : i < len
    · have h2 := hns i (by omega)
      rw [List.getD_eq_getElem?_getD, List.getElem?_map, List.getElem?_take, if_pos hi, List.getElem?_eq_getElem (show i < zs.length by omega)]
      rw [List.getD_eq_getElem?_getD, List.getElem?_eq_getElem (show i < zs.length by omega)] at h2
      simp at h2 ⊢; omega
    · rw [List.getD_eq_getElem?_getD, List.getElem?_eq_none (by rw [hl]; omega)]
      exact hT
theorem u32_wf (n : Int) (h : (Lit.int .u32 n).wf = true) : 0 ≤ n ∧ n < ((4294967296 : Nat) : Int) := by
  simp [Lit.wf, IntKind.min, IntKind.max, IntKind.signed, IntKind.bits] at h; omega
theorem u8_wf (n : Int) (h : (Lit.int .u8 n).wf = true) : 0 ≤ n ∧ n < ((256 : Nat) : Int) := by
  simp [Lit.wf, IntKind.min, IntKind.max, IntKind.signed, IntKind.bits] at h; omega

theorem trod_sp {H : Type} {enc : TypeId × Value → H} {P : Program} {t : TypeId} (hl : laidOutB P = true) (hr : P.readableRec t = true) (hrow : t < P.types.size) {W W' : World} {sp : Nat → Bool} {v : Value} {d : DataW H} {ps : List MemPlace}
    (h : DataW.Trod enc P W 0 (fun _ => true) true t v d ps) (hb : Below W.heap.size W W') (hlt : ∀ x ∈ ps, x.block < W.heap.size) (hsp : ∀ x ∈ ps, sp x.block = true) : DataW.Trod enc P W' 0 sp true t v d ps :=
  WideElems.Trod_stays hl hr hrow h (fun x hx => hb.same (hlt x hx)) hsp
end Go.Av
