/- The abstract machine of the Av files: a law's argument that is a slice of numbers, read. No condition. -/
import Derived.Test.YthdilnjdkniofaaGreatAvLaw
import Derived.Test.YthdilnjdkniofaaGreatAvWalk
import Derived.DataReads
import Derived.ChangeArms
import Derived.DataElems
namespace Go.Av
open Go Go.RowKit

/-- A row of numbers that came in is a slice of the abstract machine. -/
theorem row_PR {fm : Nat → Nat} {k : IntKind} {T : Nat} (hk : ∀ n : Int, (Lit.int k n).wf = true → 0 ≤ n ∧ n < (T : Int)) (hT : 0 < T) {w : World} {x : Addr} {len cap : Nat} {zs : List Int} (hlc : len ≤ cap) (hz : zs.length = cap)
    (hcell : ∀ i, i < zs.length → w.cell? (x.add i) = some (.int k (zs.getD i 0))) (hwf : ∀ n ∈ zs, (Lit.int k n).wf = true) :
    ∃ ns : List Nat, PR fm (cellsOf w) (.slice (some x) len cap) (.sl (encK k ns)) ∧ ∀ i, ns.getD i 0 < T := by
  by_cases h0 : len = 0
  · subst h0
    exact ⟨[], .sl0, fun i => by simpa using hT⟩
  have hc0 := hcell 0 (by omega)
  have hsp : x.spot = none := by
    have := World.cell?_spot hc0
    simpa [Addr.add] using this
  obtain ⟨b, off, spot⟩ := x
  simp only at hsp
  subst hsp
  have hadd : ∀ i, i < zs.length → w.cell? ⟨b, off + i, none⟩ = some (.int k (zs.getD i 0)) := by
    intro i hi
    have := hcell i hi
    unfold Addr.add at this
    split at this
    · rename_i h; subst h; exact this
    · exact this
  obtain ⟨c, e, f, hb⟩ : ∃ c e f, w.heap[b]? = some (.cells c e f) := by
    have h1 := hadd 0 (by omega)
    unfold World.cell? at h1
    split at h1
    · rename_i c e f hb; exact ⟨c, e, f, hb⟩
    · cases h1
  have hget : ∀ i, i < zs.length → c[off + i]? = some (.int k (zs.getD i 0)) := by
    intro i hi
    have h1 := hadd i hi
    unfold World.cell? at h1
    simp only [hb] at h1
    simpa using h1
  have hns : ∀ i, i < zs.length → 0 ≤ zs.getD i 0 ∧ zs.getD i 0 < (T : Int) := by
    intro i hi
    apply hk
    apply hwf
    rw [List.getD_eq_getElem?_getD, List.getElem?_eq_getElem hi]
    exact List.getElem_mem hi
  have hl : ((zs.take len).map Int.toNat).length = len := by simp; omega
  refine ⟨(zs.take len).map Int.toNat, ?_, fun i => ?_⟩
  · have key : PR fm (cellsOf w) (.slice (some ⟨b, off, none⟩) (encK k ((zs.take len).map Int.toNat)).length cap) (.sl (encK k ((zs.take len).map Int.toNat))) := by
      refine .sl (sz := 1) (cells := c) (by simp [cellsOf, hb]) (by rw [encK_len, hl]; exact hlc) (fun y hy => ?_) ?_ ?_
      · simp only [encK, List.mem_map] at hy
        obtain ⟨m, _, rfl⟩ := hy; rfl
      · rw [encK_len, hl]
        have h1 := hget (len - 1) (by omega)
        have h2 := (Array.getElem?_eq_some_iff.1 h1).1
        omega
      · intro i j y cc hy hcc
        simp only [encK, List.getElem?_map, Option.map_eq_some_iff] at hy
        obtain ⟨m, ⟨z, hz1, rfl⟩, rfl⟩ := hy
        have hi : i < len := by
          have := (List.getElem?_eq_some_iff.1 hz1).1
          simp at this; omega
        have hzi : zs.getD i 0 = z := by
          rw [List.getElem?_take, if_pos hi] at hz1
          rw [List.getD_eq_getElem?_getD, hz1]; rfl
        cases j with
        | zero =>
          simp at hcc; subst hcc
          have h1 := hget i (by omega)
          have h2 := hns i (by omega)
          rw [hzi] at h1 h2
          have h3 : c.getD (off + i * 1 + 0) undef = .int k z := by
            rw [Nat.mul_one, Nat.add_zero]
            rw [Array.getD_eq_getD_getElem?, h1]; rfl
          rw [h3, show max z 0 = z by omega]
          exact .int
        | succ j => simp at hcc
    rw [encK_len, hl] at key
    exact key
  · by_cases hi : i < len
    · have h2 := hns i (by omega)
      rw [List.getD_eq_getElem?_getD, List.getElem?_map, List.getElem?_take, if_pos hi, List.getElem?_eq_getElem (show i < zs.length by omega)]
      rw [List.getD_eq_getElem?_getD, List.getElem?_eq_getElem (show i < zs.length by omega)] at h2
      simp at h2 ⊢; omega
    · rw [List.getD_eq_getElem?_getD, List.getElem?_eq_none (by rw [hl]; omega)]
      exact hT
theorem u32_wf (n : Int) (h : (Lit.int .u32 n).wf = true) : 0 ≤ n ∧ n < ((4294967296 : Nat) : Int) := by
  simp [Lit.wf, IntKind.min, IntKind.max, IntKind.signed, IntKind.bits] at h; omega
theorem u8_wf (n : Int) (h : (Lit.int .u8 n).wf = true) : 0 ≤ n ∧ n < ((256 : Nat) : Int) := by
  simp [Lit.wf, IntKind.min, IntKind.max, IntKind.signed, IntKind.bits] at h; omega

theorem trod_sp {H : Type} {enc : TypeId × Value → H} {P : Program} {t : TypeId} (hl : laidOutB P = true) (hr : P.readableRec t = true) (hrow : t < P.types.size) {W W' : World} {sp : Nat → Bool} {v : Value} {d : DataW H} {ps : List MemPlace}
    (h : DataW.Trod enc P W 0 (fun _ => true) true t v d ps) (hb : Below W.heap.size W W') (hlt : ∀ x ∈ ps, x.block < W.heap.size) (hsp : ∀ x ∈ ps, sp x.block = true) : DataW.Trod enc P W' 0 sp true t v d ps :=
  WideElems.Trod_stays hl hr hrow h (fun x hx => hb.same (hlt x hx)) hsp
end Go.Av
namespace Go.Av
open Go Go.RowKit

/-- The type of a cell: a number, a truth, a text, a slice of rows of cells. -/
inductive Ty where
  | int (k : IntKind)
  | bool
  | str
  | sl (row : List Ty)
/-- A pure cell is of a type. -/
inductive ShC : Ty → PC → Prop
  | int {k n} (h : (Lit.int k n).wf = true) : ShC (.int k) (.int k n)
  | bool {b} : ShC .bool (.bool b)
  | str {s : ByteArray} (h : s.size ≤ maxLen) : ShC .str (.str s)
  | sl {row xs} (hn : xs.length ≤ maxLen) (hw : ∀ x, x ∈ xs → x.length = row.length) (h : ∀ (i j : Nat) x c ty, xs[i]? = some x → x[j]? = some c → row[j]? = some ty → ShC ty c) : ShC (.sl row) (.sl xs)
/-- The cells of a program's type. -/
inductive TyOK (P : Program) : TypeId → List Ty → Prop
  | int {t k} (h : P.underlying t = some (.int k)) : TyOK P t [.int k]
  | bool {t} (h : P.underlying t = some .bool) : TyOK P t [.bool]
  | str {t} (h : P.underlying t = some .string) : TyOK P t [.str]
  | sl {t e row} (h : P.underlying t = some (.slice e)) (hc : P.cellsOf e = row.length) (h0 : 0 < row.length) (he : TyOK P e row) : TyOK P t [.sl row]
  | struct {t fs row} (h : P.underlying t = some (.struct fs)) (hc : P.cellsOf t = row.length) (hj : ∀ j, j < row.length → ∃ (i : Nat) (f : Field), fs[i]? = some f ∧ f.offset ≤ j ∧ j < f.offset + P.cellsOf f.type)
      (hf : ∀ (i : Nat) (f : Field), fs[i]? = some f → TyOK P f.type ((row.drop f.offset).take (P.cellsOf f.type))) : TyOK P t row

theorem trod_ty {fm : Nat → Nat} {H : Type} {enc : TypeId × Value → H} {P : Program} {w : World} {spare : Nat → Bool} {held : Bool} {t : TypeId} {row : List Ty} (ht : TyOK P t row) :
    ∀ {fuel : Nat} {cs : List Value} {x : DataW H × List MemPlace}, DataW.trod enc P w 0 spare held fuel t cs = some x →
      cs.length = row.length ∧ ∀ (j : Nat) v ty, cs[j]? = some v → row[j]? = some ty → ∃ c, PR fm (cellsOf w) v c ∧ ShC ty c := by
  induction ht with
  | int h =>
    intro fuel cs x hx
    obtain ⟨n, rfl, _, hw⟩ := DataW.trod_int h hx
    refine ⟨rfl, fun j v ty hv hty => ?_⟩
    cases j with
    | zero => cases hv; cases hty; exact ⟨_, .int, .int hw⟩
    | succ j => simp at hv
  | bool h =>
    intro fuel cs x hx
    obtain ⟨n, rfl, _⟩ := DataW.trod_bool h hx
    refine ⟨rfl, fun j v ty hv hty => ?_⟩
    cases j with
    | zero => cases hv; cases hty; exact ⟨_, .bool, .bool⟩
    | succ j => simp at hv
  | str h =>
    intro fuel cs x hx
    obtain ⟨n, rfl, _, hs⟩ := DataW.trod_string h hx
    refine ⟨rfl, fun j v ty hv hty => ?_⟩
    cases j with
    | zero => cases hv; cases hty; exact ⟨_, .str, .str hs⟩
    | succ j => simp at hv
  | @struct t fs row h hc hj hf ih =>
    intro fuel cs x hx
    obtain ⟨xs, n, _, _, hl, hn, hfl⟩ := DataW.trod_struct h hx
    refine ⟨by omega, fun j v ty hv hty => ?_⟩
    have hjl := (List.getElem?_eq_some_iff.1 hty).1
    obtain ⟨i, f, hfi, h1, h2⟩ := hj j hjl
    have hi : i < fs.size := (Array.getElem?_eq_some_iff.1 hfi).1
    have hy : xs[i]? = some xs[i] := List.getElem?_eq_getElem (by omega)
    have ht := hfl i f hfi
    rw [hy] at ht
    obtain ⟨_, hp⟩ := ih i f hfi ht
    refine hp (j - f.offset) v ty ?_ ?_
    · rw [List.getElem?_take, if_pos (by omega), List.getElem?_drop, show f.offset + (j - f.offset) = j by omega]; exact hv
    · rw [List.getElem?_take, if_pos (by omega), List.getElem?_drop, show f.offset + (j - f.offset) = j by omega]; exact hty
  | @sl t e row h hc h0 he ih =>
    intro fuel cs x hx
    rcases DataW.trod_slice h hx with ⟨rfl, _⟩ | ⟨a, len, cap, elems, rest, n, _, rfl, _, _, hlc, hcm, hel, hg, _⟩
    · refine ⟨rfl, fun j v ty hv hty => ?_⟩
      cases j with
      | zero => cases hv; cases hty; exact ⟨_, .sl0, .sl (by simp) (by simp) (by simp)⟩
      | succ j => simp at hv
    · refine ⟨rfl, fun j v ty hv hty => ?_⟩
      cases j with
      | succ j => simp at hv
      | zero =>
        cases hv; cases hty
        by_cases hl0 : len = 0
        · subst hl0
          exact ⟨_, .sl0, .sl (by simp) (by simp) (by simp)⟩
        have hrow : ∀ i, i < len → ∃ cs', w.cells? 0 (a.add (i * row.length)) row.length = some cs' ∧ cs'.length = row.length ∧ ∀ (j : Nat) v ty, cs'[j]? = some v → row[j]? = some ty → ∃ c, PR fm (cellsOf w) v c ∧ ShC ty c := by
          intro i hi
          have h1 := hg i hi
          rw [List.getElem?_eq_getElem (by omega), hc, Option.bind_eq_some_iff] at h1
          obtain ⟨cs', h2, h3⟩ := h1
          exact ⟨cs', h2, ih h3⟩
        have hcell : ∀ i j, i < len → j < row.length → ∃ v, w.cell? (a.add (i * row.length + j)) = some v ∧ ∃ c, PR fm (cellsOf w) v c ∧ ∀ ty, row[j]? = some ty → ShC ty c := by
          intro i j hi hj
          obtain ⟨cs', h2, h3, h4⟩ := hrow i hi
          obtain ⟨_, _, h5⟩ := World.cells?_some h2
          have h6 := h5 j hj
          rw [Addr.add_add] at h6
          have h7 : cs'[j]? = some cs'[j] := List.getElem?_eq_getElem (by omega)
          have h8 : row[j]? = some row[j] := List.getElem?_eq_getElem hj
          obtain ⟨c, h9, h10⟩ := h4 j _ _ h7 h8
          exact ⟨_, h6.trans h7, c, h9, fun ty hty => by rw [h8] at hty; cases hty; exact h10⟩
        obtain ⟨v0, hv0, _⟩ := hcell 0 0 (by omega) h0
        have hsp : a.spot = none := by
          have := World.cell?_spot hv0
          simpa [Addr.add] using this
        obtain ⟨b, off, spot⟩ := a
        simp only at hsp
        subst hsp
        have hadd : ∀ i, Addr.add ⟨b, off, none⟩ i = ⟨b, off + i, none⟩ := by
          intro i
          unfold Addr.add
          split
          · rename_i h; subst h; rfl
          · rfl
        obtain ⟨c, e', f', hb⟩ : ∃ c e f, w.heap[b]? = some (.cells c e f) := by
          rw [hadd] at hv0
          unfold World.cell? at hv0
          split at hv0
          · rename_i c e f hb; exact ⟨c, e, f, hb⟩
          · cases hv0
        have hget : ∀ i v, w.cell? (Addr.add ⟨b, off, none⟩ i) = some v → c[off + i]? = some v := by
          intro i v h1
          rw [hadd] at h1
          unfold World.cell? at h1
          simp only [hb] at h1
          simpa using h1
        have hall : ∀ i j, ∃ p : PC, i < len → j < row.length → PR fm (cellsOf w) (c.getD (off + i * row.length + j) undef) p ∧ ∀ ty, row[j]? = some ty → ShC ty p := by
          intro i j
          by_cases hi : i < len
          · by_cases hj : j < row.length
            · obtain ⟨v, h1, p, h2, h3⟩ := hcell i j hi hj
              have h4 := hget _ _ h1
              refine ⟨p, fun _ _ => ⟨?_, h3⟩⟩
              rw [Array.getD_eq_getD_getElem?, show off + i * row.length + j = off + (i * row.length + j) by omega, h4]
              exact h2
            · exact ⟨.bool true, fun _ h => absurd h hj⟩
          · exact ⟨.bool true, fun h => absurd h hi⟩
        obtain ⟨G, hG⟩ : ∃ G : Nat → Nat → PC, ∀ i j, i < len → j < row.length → PR fm (cellsOf w) (c.getD (off + i * row.length + j) undef) (G i j) ∧ ∀ ty, row[j]? = some ty → ShC ty (G i j) :=
          ⟨fun i j => (hall i j).choose, fun i j => (hall i j).choose_spec⟩
        refine ⟨.sl ((List.range len).map fun i => (List.range row.length).map fun j => G i j), ?_, ?_⟩
        · have key : PR fm (cellsOf w) (.slice (some ⟨b, off, none⟩) ((List.range len).map fun i => (List.range row.length).map fun j => G i j).length cap) (.sl ((List.range len).map fun i => (List.range row.length).map fun j => G i j)) := by
            refine .sl (sz := row.length) (cells := c) (by simp [cellsOf, hb]) (by simpa using hlc) (fun y hy => ?_) ?_ ?_
            · simp only [List.mem_map] at hy
              obtain ⟨m, _, rfl⟩ := hy; simp
            · obtain ⟨v, h1, _⟩ := hcell (len - 1) (row.length - 1) (by omega) (by omega)
              have h2 := (Array.getElem?_eq_some_iff.1 (hget _ _ h1)).1
              rw [List.length_map, List.length_range]
              have h3 : len * row.length = (len - 1) * row.length + row.length := by
                conv => lhs; rw [show len = (len - 1) + 1 by omega]
                rw [Nat.add_mul, Nat.one_mul]
              omega
            · intro i j y cc hy hcc
              have hi : i < len := by have := (List.getElem?_eq_some_iff.1 hy).1; simpa using this
              simp [hi] at hy
              subst hy
              have hj : j < row.length := by have := (List.getElem?_eq_some_iff.1 hcc).1; simpa using this
              simp [hj] at hcc
              subst hcc
              exact (hG i j hi hj).1
          simpa using key
        · refine .sl (by simp; omega) (fun y hy => ?_) ?_
          · simp only [List.mem_map] at hy
            obtain ⟨m, _, rfl⟩ := hy; simp
          · intro i j y cc ty hy hcc hty
            have hi : i < len := by have := (List.getElem?_eq_some_iff.1 hy).1; simpa using this
            simp [hi] at hy
            subst hy
            have hj : j < row.length := by have := (List.getElem?_eq_some_iff.1 hcc).1; simpa using this
            simp [hj] at hcc
            subst hcc
            exact (hG i j hi hj).2 ty hty
/-- An argument of one cell. -/
theorem trod_ty1 {fm : Nat → Nat} {H : Type} {enc : TypeId × Value → H} {P : Program} {w : World} {spare : Nat → Bool} {held : Bool} {t : TypeId} {ty : Ty} (ht : TyOK P t [ty]) {fuel : Nat} {v : Value} {x : DataW H × List MemPlace}
    (h : DataW.trod enc P w 0 spare held fuel t [v] = some x) : ∃ c, PR fm (cellsOf w) v c ∧ ShC ty c := (trod_ty ht h).2 0 v ty rfl rfl
/-- What a slice holds, by its type. -/
theorem ShC.sl_inv {row : List Ty} {c : PC} (h : ShC (.sl row) c) : ∃ xs, c = .sl xs ∧ xs.length ≤ maxLen ∧ ∀ x, x ∈ xs → x.length = row.length ∧ ∀ (j : Nat) c ty, x[j]? = some c → row[j]? = some ty → ShC ty c := by
  cases h with
  | @sl _ xs hn hw h =>
    refine ⟨xs, rfl, hn, fun x hx => ⟨hw x hx, fun j c ty hc ht => ?_⟩⟩
    obtain ⟨i, hi⟩ := List.mem_iff_getElem?.1 hx
    exact h i j x c ty hi hc ht
theorem rows_map {α : Type} {enc : α → List PC} {Pr : α → Prop} : ∀ {xs : List (List PC)}, (∀ x, x ∈ xs → ∃ f, x = enc f ∧ Pr f) → ∃ fs : List α, xs = fs.map enc ∧ ∀ f, f ∈ fs → Pr f
  | [], _ => ⟨[], rfl, by simp⟩
  | x :: xs, h => by
    obtain ⟨f, h1, h2⟩ := h x (by simp)
    obtain ⟨fs, h3, h4⟩ := rows_map (xs := xs) (fun y hy => h y (by simp [hy]))
    refine ⟨f :: fs, by rw [h1, h3]; rfl, fun g hg => ?_⟩
    rcases List.mem_cons.1 hg with rfl | hg
    · exact h2
    · exact h4 g hg
/-- A slice of natural numbers. -/
theorem ShC.nums {k : IntKind} {T : Nat} (hk : ∀ n : Int, (Lit.int k n).wf = true → 0 ≤ n ∧ n < (T : Int)) (hT : 0 < T) {c : PC} (h : ShC (.sl [.int k]) c) : ∃ ns : List Nat, c = .sl (encK k ns) ∧ ns.length ≤ maxLen ∧ ∀ i, ns.getD i 0 < T := by
  obtain ⟨xs, rfl, hn, hx⟩ := h.sl_inv
  obtain ⟨ns, rfl, h4⟩ := rows_map (enc := fun n : Nat => [PC.int k (n : Int)]) (Pr := fun n => n < T) (xs := xs) (fun x hxx => by
    obtain ⟨h1, h2⟩ := hx x hxx
    match x, h1 with
    | [p], _ =>
      have h3 := h2 0 p _ rfl rfl
      cases h3 with
      | @int _ n hw =>
        obtain ⟨h5, h6⟩ := hk n hw
        exact ⟨n.toNat, by rw [show ((n.toNat : Nat) : Int) = n by omega], by omega⟩)
  refine ⟨ns, rfl, by simpa using hn, fun i => ?_⟩
  rw [List.getD_eq_getElem?_getD]
  cases h : ns[i]? with
  | none => exact hT
  | some n => exact h4 n (List.mem_of_getElem? h)
end Go.Av
