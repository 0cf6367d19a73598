/- The abstract machine of the Av files, twelfth part: append; function values; all operations. No condition. -/
import Derived.Test.YthdilnjdkniofaaGreatAvOpW
namespace Go.Av
open Go Go.RowKit

variable {P : Program} {fm : Nat → Nat} {Z : ZM} {β : BM} {objs : Objs} {w0 w : World} {a : Act} {s : St}

/-- append where there is room. -/
theorem run_append_in {t ty e : TypeId} {i : TypeInfo} (ht : P.underlying t = some (.slice e)) (hi : P.info? e = some i) {b off sLen sCap : Nat} {cur : Array Value}
    (hg : w.heap[b]? = some (.cells cur e (0, 0))) {x : Value} {n : Nat} {news : List Value} (hx : (Builtin.lenOf x).run P w = .ok n w)
    (hn : (Builtin.firstCells i.size n x).run P w = .ok news.toArray w) (hl : news.length = n * i.size) (h1 : ∀ u ∈ news, u.oneCell' = true) (hroom : sLen + n ≤ sCap)
    (hfit : off + (sLen + n) * i.size ≤ cur.size) :
    (Builtin.append_ #[t, t] ty #[.slice (some ⟨b, off, none⟩) sLen sCap, x]).run P w =
      .ok (.slice (some ⟨b, off, none⟩) (sLen + n) sCap) (w.setRow b (setAt cur.toList (off + sLen * i.size) news).toArray) := by
  have hst := run_storeCells_at (P := P) b (off + sLen * i.size) e news 0 cur w hg (by rw [hl]; rw [Nat.add_mul] at hfit; omega) h1
  have hz : (do match (#[t, t] : Array TypeId)[1]? with | some xType => do pure ((← underlying xType) matches .int _) | none => pure false : Sem Bool).run P w = .ok false w := by
    simp [run_underlying ht]
  simp [Builtin.append_, run_underlying ht, sizeOf, typeInfo, hi, hx, hroom, hn, add_none]
  simp only [Nat.add_zero] at hst
  rw [hst]
  simp [setAt]

/-- append where a new row is made. -/
theorem run_append_out {t ty e : TypeId} {i : TypeInfo} {z : Value} (ht : P.underlying t = some (.slice e)) (hi : P.info? e = some i) (hz : i.zero = some z) {base : Option Addr} {sLen sCap : Nat}
    {x : Value} {n : Nat} {olds news : List Value} (hx : (Builtin.lenOf x).run P w = .ok n w) (hn : (Builtin.firstCells i.size n x).run P w.drew = .ok news.toArray w.drew)
    (ho : (Builtin.firstCells i.size sLen (.slice base sLen sCap)).run P w.drew = .ok olds.toArray w.drew) (hroom : sCap < sLen + n)
    (h63 : ((sLen + n : Nat) : Int) ≤ 9223372036854775807) (hfit : Builtin.nextslicecap (sLen + n) sCap * i.bytes ≤ 281474976710656) :
    ∃ cap, sLen + n ≤ cap ∧ (Builtin.append_ #[t, t] ty #[.slice base sLen sCap, x]).run P w =
      .ok (.slice (some ⟨w.heap.size, 0, none⟩) (sLen + n) cap) (w.drew.alloc (.cells (olds ++ news ++ (Builtin.zeroCells z.cells (cap - (sLen + n))).toList).toArray e)) := by
  refine ⟨grownCap w (sLen + n) sCap e, ?_, ?_⟩
  · exact Nat.le_add_right _ _
  · have hnr : ¬ (sLen + n ≤ sCap) := by omega
    have h63' : ¬ (9223372036854775807 < ((sLen : Int) + (n : Int))) := by omega
    have h48' : ¬ (281474976710656 < Builtin.nextslicecap (sLen + n) sCap * i.bytes) := by omega
    simp [Builtin.append_, run_underlying ht, sizeOf, typeInfo, zeroValue, hi, hz, hx, hnr, h63', h48', Question.forced, ho, hn, newRow, grownCap]
    congr 2
    apply Array.ext'
    simp

theorem firstCells_of {ad : Option Addr} {ys : List (List C)} {cap sz : Nat} (h : ∀ y, y ∈ ys → y.length = sz)
    (hm : (ad = none ∧ ys = []) ∨ ∃ q, ad = some q ∧ ∀ (i j : Nat) (y : List C) (c : C), ys[i]? = some y → y[j]? = some c → ∃ u, w.cell? (q.add (i * sz + j)) = some u ∧ VR fm Z β u c) :
    ∃ us : List Value, us.length = ys.length * sz ∧ (∀ w', (∀ p, w'.cell? p = w.cell? p) → (Builtin.firstCells sz ys.length (.slice ad ys.length cap)).run P w' = .ok us.toArray w') ∧
      (∀ u, u ∈ us → u.oneCell' = true) ∧ ∀ (i j : Nat) (y : List C) (c : C), ys[i]? = some y → y[j]? = some c → ∃ u, us[i * sz + j]? = some u ∧ VR fm Z β u c := by
  rcases hm with ⟨rfl, rfl⟩ | ⟨q, rfl, hm⟩
  · exact ⟨[], by simp, fun w' _ => by simp [Builtin.firstCells], by simp, fun i j y c hi => by simp at hi⟩
  · obtain ⟨us, h1, h2, h3, h4⟩ := row_vals h hm
    refine ⟨us, h1, fun w' hw => ?_, h3, h4⟩
    have := run_loadCells_list (P := P) w' q us (fun j v hv => by rw [hw]; exact h2 j v hv)
    simp only [Builtin.firstCells]
    rw [← h1]; exact this

theorem lenOf_slice {ad : Option Addr} {n cap : Nat} : (Builtin.lenOf (.slice ad n cap)).run P w = .ok n w := rfl

/-- What stands in a row that append made. -/
theorem appended_get {olds news rest : List Value} {xs ys : List (List C)} {sz : Nat} {Z : ZM} {β : BM} (h1 : olds.length = xs.length * sz) 
    (h2 : ∀ (i j : Nat) (y : List C) (c : C), xs[i]? = some y → y[j]? = some c → ∃ u, olds[i * sz + j]? = some u ∧ VR fm Z β u c)
    (h3 : ∀ (i j : Nat) (y : List C) (c : C), ys[i]? = some y → y[j]? = some c → ∃ u, news[i * sz + j]? = some u ∧ VR fm Z β u c) :
    ∀ (i j : Nat) (y : List C) (c : C), (xs ++ ys)[i]? = some y → y[j]? = some c → VR fm Z β ((olds ++ news ++ rest).toArray.getD (i * sz + j) undef) c := by
  intro i j y c hi hj
  have hget : ∀ k u, (olds ++ news ++ rest)[k]? = some u → (olds ++ news ++ rest).toArray.getD k undef = u := by
    intro k u hk; rw [Array.getD_eq_getD_getElem?, List.getElem?_toArray, hk]; rfl
  rw [List.getElem?_append] at hi
  split at hi
  · obtain ⟨u, k1, k2⟩ := h2 i j y c hi hj
    have hl := lt_of_get k1
    rw [hget _ u (by rw [List.getElem?_append_left (by simp; omega), List.getElem?_append_left hl]; exact k1)]
    exact k2
  · obtain ⟨u, k1, k2⟩ := h3 _ j y c hi hj
    have hl := lt_of_get k1
    have he : i * sz + j = olds.length + ((i - xs.length) * sz + j) := by
      rw [h1, ← Nat.add_assoc, ← Nat.add_mul]; congr 2; omega
    rw [hget _ u (by rw [List.getElem?_append_left (by simp; omega), List.getElem?_append_right (by omega), he, Nat.add_sub_cancel_left]; exact k1)]
    exact k2

theorem sound_app {c : Go.Call} {x y : Opd} {t e : TypeId} {sz bytes : Nat} {i : TypeInfo} {z : Value} {ys : List (List C)} {o : Oper} (ho : o.op = .call c) (hc : c.callee = .builtin .append) (ht : c.argTypes.toList = [t, t])
    (hse : sliceTy P t = some e) (hi : P.info? e = some i) (hsz : i.size = sz) (hby : i.bytes = bytes) (hz : i.zero = some z) (hzs : z.cells.size = sz)
    (ha : opdsOK fm c.args.toList [x, y] = true) (hs : SlR fm Z β a s) (h : WR fm Z β objs w0 w) (hy : sliceElems objs sz (s.ev y) = some ys) :
    (∀ id, s.ev x = .s (.c .e0) → ys.length ≠ 0 → ys.length * bytes ≤ 140737488355328 → ys.length ≤ 140737488355328 →
      OpS fm Z β w0 ((execOp a.eval o).run P w) (newObj objs id sz ys).1 (.s (.c (.rs id (newObj objs id sz ys).2 sz 0 ys.length)))) ∧
    (s.ev x = .s (.c .e0) → ys.length = 0 → OpS fm Z β w0 ((execOp a.eval o).run P w) objs (.s (.c .e0))) ∧
    (∀ q u st len ob, s.ev x = .s (.c (.rs q u sz st len)) → objs.m q u = some ob → ob.frozen = false → ob.sz = sz → st + len = ob.elems.length →
      (len + ys.length) * bytes ≤ 140737488355328 → len + ys.length ≤ 140737488355328 →
      OpS fm Z β w0 ((execOp a.eval o).run P w) ((objs.set q u none).new q { ob with elems := ob.elems.drop st ++ ys }) (.s (.c (.rs q (objs.nv q) sz 0 (len + ys.length))))) := by
  obtain ⟨x', y', hxy, hx1, hy1⟩ := opds2 ha
  have harg : c.args = #[x', y'] := by rw [← hxy]
  have htt : c.argTypes = #[t, t] := by rw [← ht]
  have hu := sliceTy_spec hse
  obtain ⟨yad, ycap, hye, hyl, hym⟩ := sliceElems_mem (opdOK_AR hy1 hs) h hy
  have hexec : ∀ r w', (Builtin.append_ #[t, t] o.type #[a.eval x', a.eval y']).run P w = .ok r w' → (execOp a.eval o).run P w = .ok (.value r) w' := by
    intro r w' hr
    simp [execOp, ho, resolve, hc, harg, htt, invoke, builtin, hr]
  obtain ⟨us, hu1, hu2, hu3, hu4⟩ := firstCells_of (P := P) (cap := ycap) hyl hym
  have hzc : ∀ n, (Builtin.zeroCells z.cells n).size = n * sz := by intro n; simp [Builtin.zeroCells, hzs]
  refine ⟨fun id hx hne hb1 hb2 => ?_, fun hx hne => ?_, fun q u st len ob hx hob hfz hosz hst hb1 hb2 => ?_⟩
  · have g1 := opdOK_AR hx1 hs
    rw [hx] at g1
    obtain ⟨ad, he⟩ := g1.vr.e0_inv
    have hold : (Builtin.firstCells i.size 0 (.slice ad 0 0)).run P w.drew = .ok (([] : List Value)).toArray w.drew := by
      cases ad <;> simp [Builtin.firstCells, loadCells, loadCellsFrom]
    obtain ⟨cap, hcap, hrun⟩ := run_append_out (P := P) (w := w) (ty := o.type) (x := .slice yad ys.length ycap) (news := us) (base := ad) (sLen := 0) (sCap := 0) hu hi hz lenOf_slice (by rw [hsz]; exact hu2 w.drew (fun _ => rfl)) hold (by omega)
      (by omega) (growslice_fits (by omega) (by rw [hby, Nat.zero_add]; exact hb1))
    rw [← he, ← hye] at hrun
    have hd : WR fm Z β objs w0 w.drew := h.heapEq rfl rfl rfl rfl
    simp only [Nat.zero_add] at hrun hcap
    obtain ⟨β', k1, k2, k3⟩ := hd.newObj id sz ys (us ++ (Builtin.zeroCells z.cells (cap - ys.length)).toList).toArray e (by simp; omega) hyl (by
      have := appended_get (fm := fm) (Z := Z) (β := β) (olds := []) (news := us) (rest := (Builtin.zeroCells z.cells (cap - ys.length)).toList) (xs := []) (ys := ys) (sz := sz) (by simp) (fun i j y c hi => by simp at hi) hu4
      simpa using this)
    refine ⟨_, _, Z, β', .inl (hexec _ _ hrun), ZExt.refl _ _, k1, ?_, .s (.c (.rs k3 hcap ?_ (fun _ => by simp)))⟩
    · rw [List.nil_append]; exact k2
    · have : (us ++ (Builtin.zeroCells z.cells (cap - ys.length)).toList).toArray.size = cap * sz := by
        simp only [List.size_toArray, List.length_append, Array.length_toList, hzc, hu1, ← Nat.add_mul]
        congr 1; omega
      rw [this]; simp
  · have g1 := opdOK_AR hx1 hs
    rw [hx] at g1
    obtain ⟨ad, he⟩ := g1.vr.e0_inv
    obtain rfl : ys = [] := List.eq_nil_of_length_eq_zero hne
    have hus : us = [] := by simpa using hu1
    subst hus
    have hn := hu2 w (fun _ => rfl)
    simp only [List.length_nil] at hn hye
    have hrun : (Builtin.append_ #[t, t] o.type #[a.eval x', a.eval y']).run P w = .ok (.slice ad 0 0) w := by
      rw [he, hye]
      cases ad <;> simp [Builtin.append_, run_underlying hu, sizeOf, typeInfo, hi, Builtin.lenOf, hsz, hn, storeCells]
    exact ⟨_, _, Z, β, .inl (hexec _ _ hrun), ZExt.refl _ _, BExt.refl _, h, .s (.c .e0)⟩
  · have g1 := opdOK_AR hx1 hs
    rw [hx] at g1
    have ho1 := hob
    have hor := h.ho q u ob ho1
    have hdrop : ∀ o v ob', (objs.set q u none).m o v = some ob' → objs.m o v = some ob' ∧ ¬ (o = q ∧ v = u) := by
      intro o v ob' hm
      simp only [Objs.set] at hm
      split at hm
      · cases hm
      · rename_i hne; exact ⟨hm, hne⟩
    rcases g1.vr.rs_inv with ⟨he, rfl, rfl, hβ⟩ | ⟨b, base, n, cap, ad, he, hβ, k1, k2, k3⟩
    · -- nowhere yet
      unfold OR at hor
      simp only [hβ] at hor
      simp only [Nat.zero_add, List.drop_zero]
      by_cases hne : ys.length = 0
      · obtain rfl : ys = [] := List.eq_nil_of_length_eq_zero hne
        have hus : us = [] := by simpa using hu1
        subst hus
        have hn := hu2 w (fun _ => rfl)
        simp only [List.length_nil] at hn hye
        have hrun : (Builtin.append_ #[t, t] o.type #[a.eval x', a.eval y']).run P w = .ok (.slice none 0 0) w := by
          rw [he, hye]
          simp [Builtin.append_, run_underlying hu, sizeOf, typeInfo, hi, Builtin.lenOf, hsz, hn]
        obtain ⟨β', r1, r2, r3⟩ := h.addObj (objs1 := objs.set q u none) (fun _ _ _ hm => (hdrop _ _ _ hm).1) rfl q { ob with elems := ob.elems ++ [] } .nil (Below.refl _ _) (fun _ _ => rfl) (fun β' hb hl => by
          unfold OR; rw [hl]; simp [hor]) (fun b hh => by cases hh)
        exact ⟨_, _, Z, β', .inl (hexec _ _ hrun), ZExt.refl _ _, r1, r2, .s (.c (.rsn r3))⟩
      · have hold : (Builtin.firstCells i.size 0 (.slice none 0 0)).run P w.drew = .ok (([] : List Value)).toArray w.drew := by simp [Builtin.firstCells]
        obtain ⟨cap, hcap, hrun⟩ := run_append_out (P := P) (w := w) (ty := o.type) (x := .slice yad ys.length ycap) (news := us) (base := none) (sLen := 0) (sCap := 0) hu hi hz lenOf_slice (by rw [hsz]; exact hu2 w.drew (fun _ => rfl)) hold (by omega)
          (by omega) (growslice_fits (by omega) (by rw [hby, Nat.zero_add]; simpa using hb1))
        rw [← he, ← hye] at hrun
        simp only [Nat.zero_add] at hrun hcap
        let cells := (us ++ (Builtin.zeroCells z.cells (cap - ys.length)).toList).toArray
        rw [List.nil_append] at hrun
        have hcs : cells.size = cap * sz := by
          simp only [cells, List.size_toArray, List.length_append, Array.length_toList, hzc, hu1, ← Nat.add_mul]
          congr 1; omega
        have hbel : Below w0.heap.size w (w.drew.alloc (.cells cells e)) := (Below.refl _ w).drew.alloc h.below.size _
        obtain ⟨β', r1, r2, r3⟩ := h.addObj (objs1 := objs.set q u none) (fun _ _ _ hm => (hdrop _ _ _ hm).1) rfl q { ob with elems := ob.elems ++ ys } (.at_ w.heap.size 0 cells.size sz) hbel (fun b hb => by
            have hlt : b < w.heap.size := by
              rcases hb with ⟨c, hb⟩ | ⟨o', v', ob1, hb1, hb2⟩
              · exact h.zlt hb
              · exact ((h.ho o' v' ob1 (hdrop _ _ _ hb1).1).block hb2).2
            exact heap_alloc_old w.drew _ b hlt) (fun β' hb hl => by
          unfold OR; rw [hl]
          rw [hor]
          refine ⟨hosz.symm, h.below.size, cells, e, heap_alloc_new w.drew _, rfl, ?_, by simpa using hyl, ?_, ?_⟩
          · rw [hcs]; simp; exact Nat.mul_le_mul_right _ hcap
          · have := appended_get (fm := fm) (Z := Z) (β := β) (olds := []) (news := us) (rest := (Builtin.zeroCells z.cells (cap - ys.length)).toList) (xs := []) (ys := ys) (sz := sz) (by simp) (fun i j y c hi => by simp at hi) hu4
            intro k j y c hk hj
            have := (this k j y c (by simpa using hk) hj).mono (fun _ _ h => h) hb
            simpa [cells] using this
          · rw [hfz]; simp only [Bool.false_eq_true, if_false]
            cases hzz : Z w.heap.size with
            | none => rfl
            | some c => have := h.zlt hzz; omega) (fun b hh o' v' ob1 hb1 hb2 => by
            simp only [Loc.place, Option.some.injEq] at hh
            have := ((h.ho o' v' ob1 (hdrop _ _ _ hb1).1).block hb2).2
            omega)
        exact ⟨_, _, Z, β', .inl (hexec _ _ hrun), ZExt.refl _ _, r1, r2, .s (.c (.rs r3 hcap (by rw [hcs]; simp) (fun _ => by simp)))⟩
    · -- in a block
      unfold OR at hor
      simp only [hβ] at hor
      obtain ⟨m1, m2, cells, e', m3, m4, m5, m6, m7, m8⟩ := hor
      have m8 : Z b = none := by simpa [hfz] using m8
      have hst' : (st + len) * sz = ob.elems.length * sz := by rw [hst]
      have hxsl : (ob.elems.drop st).length = len := by simp; omega
      have hxs : ∀ x, x ∈ ob.elems.drop st → x.length = sz := fun x hx => m6 x (List.mem_of_mem_drop hx)
      have hother : ∀ o' v' ob1, (objs.set q u none).m o' v' = some ob1 → anyOf β o' v' ≠ some b := by
        intro o' v' ob1 hb1 hb2
        obtain ⟨hb3, hb4⟩ := hdrop _ _ _ hb1
        exact hb4 (h.inj _ _ _ _ _ _ _ hb3 ho1 hb2 (anyOf_at hβ))
      have hget : ∀ (i j : Nat) (x : List C) (c : C), (ob.elems.drop st)[i]? = some x → x[j]? = some c → VR fm Z β (cells.getD (base + st * sz + (i * sz + j)) undef) c := by
        intro i j x c hi hj
        rw [List.getElem?_drop] at hi
        have := m7 (st + i) j x c hi hj
        rw [Nat.add_mul] at this
        rw [show base + st * sz + (i * sz + j) = base + (st * sz + i * sz) + j by omega]
        exact this
      by_cases hroom : len + ys.length ≤ cap
      · by_cases hc0 : cap = 0
        · have hl0 : len = 0 := by omega
          have hy0 : ys.length = 0 := by omega
          obtain rfl : ys = [] := List.eq_nil_of_length_eq_zero hy0
          subst hl0 hc0
          have hus : us = [] := by simpa using hu1
          subst hus
          have hn := hu2 w (fun _ => rfl)
          simp only [List.length_nil] at hn hye
          have hrun : (Builtin.append_ #[t, t] o.type #[a.eval x', a.eval y']).run P w = .ok (.slice (some ad) 0 0) w := by
            rw [he, hye]
            simp [Builtin.append_, run_underlying hu, sizeOf, typeInfo, hi, Builtin.lenOf, hsz, hn, storeCells]
          have hxn : ob.elems.drop st = [] := List.eq_nil_of_length_eq_zero hxsl
          obtain ⟨β', r1, r2, r3⟩ := h.addObj (objs1 := objs.set q u none) (fun _ _ _ hm => (hdrop _ _ _ hm).1) rfl q { ob with elems := ob.elems.drop st ++ [] } (.at_ b (base + st * sz) n sz) (Below.refl _ _) (fun _ _ => rfl) (fun β' hb hl => by
            unfold OR; rw [hl]
            refine ⟨hosz.symm, m2, cells, e', m3, m4, ?_, ?_, ?_, ?_⟩
            · simp only [Nat.add_zero] at k2
              simpa [hxn] using k2
            · simp [hxn]
            · intro i j x c hi; simp [hxn] at hi
            · rw [hfz]; simpa using m8) (fun b' hh o' v' ob1 hb1 => by cases hh; exact hother o' v' ob1 hb1)
          exact ⟨_, _, Z, β', .inl (hexec _ _ hrun), ZExt.refl _ _, r1, r2, .s (.c (.rs r3 (Nat.le_refl _) (by simp only [Nat.add_zero, Nat.zero_mul]; simp only [Nat.add_zero] at k2; exact k2) (fun h => (h rfl).elim)))⟩
        · have had := k3 hc0
          subst had
          have hn : (Builtin.firstCells i.size ys.length (a.eval y')).run P w = .ok us.toArray w := by rw [hsz, hye]; exact hu2 w (fun _ => rfl)
          have hlo : (Builtin.lenOf (a.eval y')).run P w = .ok ys.length w := by rw [hye]; rfl
          have hcapm : (len + ys.length) * sz ≤ cap * sz := Nat.mul_le_mul_right _ hroom
          have hk2 := k2
          rw [Nat.add_mul] at hk2
          have hfit : base + st * sz + (len + ys.length) * i.size ≤ cells.size := by rw [hsz, m4]; omega
          have hrun : ∃ w', w' = w.setRow b (setAt cells.toList (base + st * sz + len * sz) us).toArray ∧ (Builtin.append_ #[t, t] o.type #[a.eval x', a.eval y']).run P w = .ok (.slice (some ⟨b, base + st * sz, none⟩) (len + ys.length) cap) w' := by
            refine ⟨_, rfl, ?_⟩
            have hst2 := run_storeCells_at (P := P) b (base + st * sz + len * sz) e' us 0 cells w m3 (by rw [hu1, m4]; rw [Nat.add_mul] at hcapm; omega) hu3
            simp only [Nat.add_zero] at hst2
            rw [he]
            simp [Builtin.append_, run_underlying hu, sizeOf, typeInfo, hi, hlo, hroom, add_none, hsz]
            have hn2 : (Builtin.firstCells sz ys.length (a.eval y')).run P w = .ok us.toArray w := by rw [← hsz]; exact hn
            simp [hn2]
            rw [hst2]
            simp [setAt]
          obtain ⟨w', rfl, hrun⟩ := hrun
          let cells' := (setAt cells.toList (base + st * sz + len * sz) us).toArray
          have hle2 : base + st * sz + len * sz + us.length ≤ cells.toList.length := by
            have e9 : cells.toList.length = n := by simpa using m4
            rw [e9, hu1]; rw [Nat.add_mul] at hcapm; omega
          have hsize : cells'.size = n := by
            simp only [cells', List.size_toArray]; rw [length_setAt hle2]; simpa using m4
          have hgetc : ∀ k : Nat, cells'.getD k undef = if k < base + st * sz + len * sz then cells.getD k undef else if k < base + st * sz + len * sz + us.length then (us[k - (base + st * sz + len * sz)]?).getD undef else cells.getD k undef := by
            intro k
            have e1 : cells'.getD k undef = ((setAt cells.toList (base + st * sz + len * sz) us)[k]?).getD undef := by simp [cells']
            rw [e1, getElem?_setAt hle2]
            split
            · simp
            · split <;> simp
          have hbel : Below w0.heap.size w (w.setRow b cells') := ⟨rfl, rfl, rfl, by simp, fun k hk => setRow_other w b k _ (by omega)⟩
          obtain ⟨β', r1, r2, r3⟩ := h.addObj (objs1 := objs.set q u none) (fun _ _ _ hm => (hdrop _ _ _ hm).1) rfl q { ob with elems := ob.elems.drop st ++ ys } (.at_ b (base + st * sz) n sz) hbel (fun b' hb' => by
              refine setRow_other w b b' _ ?_
              rintro rfl
              rcases hb' with ⟨c, hb'⟩ | ⟨o', v', ob1, h2, h3⟩
              · rw [m8] at hb'; cases hb'
              · exact hother o' v' ob1 h2 h3) (fun β' hb hl => by
            unfold OR; rw [hl]
            refine ⟨hosz.symm, m2, cells', e', setRow_heap w b cells _ e' _ m3, hsize, ?_, ?_, ?_, ?_⟩
            · show base + st * sz + (ob.elems.drop st ++ ys).length * sz ≤ n
              rw [List.length_append, hxsl]; omega
            · intro x hx
              rcases List.mem_append.1 hx with hx | hx
              · exact hxs x hx
              · exact hyl x hx
            · intro i j x c hi hj
              rw [List.getElem?_append] at hi
              rw [hgetc]
              split at hi
              · rename_i hil
                rw [hxsl] at hil
                have hxx := hxs x (List.mem_of_getElem? hi)
                have hjl := lt_of_get hj
                have hm : (i + 1) * sz ≤ len * sz := Nat.mul_le_mul_right _ (by omega)
                rw [Nat.add_mul, Nat.one_mul] at hm
                rw [if_pos (by omega), Nat.add_assoc (base + st * sz)]
                exact (hget i j x c hi hj).mono (fun _ _ h => h) hb
              · rename_i hil
                rw [hxsl] at hil hi
                obtain ⟨u, g1, g2⟩ := hu4 _ j x c hi hj
                have hul := lt_of_get g1
                have hie : i * sz = len * sz + (i - len) * sz := by rw [← Nat.add_mul]; congr 1; omega
                rw [if_neg (by omega), if_pos (by omega), show base + st * sz + i * sz + j - (base + st * sz + len * sz) = (i - len) * sz + j by omega, g1]
                exact g2.mono (fun _ _ h => h) hb
            · rw [hfz]; simpa using m8) (fun b' hh o' v' ob1 hb1 => by cases hh; exact hother o' v' ob1 hb1)
          refine ⟨_, _, Z, β', .inl (hexec _ _ hrun), ZExt.refl _ _, r1, r2, .s (.c (.rs r3 hroom ?_ (fun _ => by simp)))⟩
          rw [Nat.zero_add]; omega
      · -- a new block
        have hmold : ∀ (i j : Nat) (y : List C) (c : C), (ob.elems.drop st)[i]? = some y → y[j]? = some c → ∃ u, w.cell? (ad.add (i * sz + j)) = some u ∧ VR fm Z β u c := by
          intro i j y c hi hj
          have hil := lt_of_get hi
          rw [hxsl] at hil
          have hxx := hxs y (List.mem_of_getElem? hi)
          have hjl := lt_of_get hj
          have hm : (i + 1) * sz ≤ len * sz := Nat.mul_le_mul_right _ (by omega)
          rw [Nat.add_mul, Nat.one_mul] at hm
          have hk2 := k2
          rw [Nat.add_mul] at hk2
          have hcl : len * sz ≤ cap * sz := Nat.mul_le_mul_right _ k1
          rw [k3 (by omega), add_none]
          exact ⟨_, cell_of m3 (by omega), hget i j y c hi hj⟩
        obtain ⟨os, ho3, ho4, ho5, ho6⟩ := firstCells_of (P := P) (fm := fm) (Z := Z) (β := β) (w := w) (ad := some ad) (cap := cap) hxs (.inr ⟨ad, rfl, hmold⟩)
        rw [hxsl] at ho3 ho4
        obtain ⟨cap', hcap, hrun⟩ := run_append_out (P := P) (w := w) (ty := o.type) (x := .slice yad ys.length ycap) (news := us) (olds := os) (base := some ad) (sLen := len) (sCap := cap) hu hi hz lenOf_slice
          (by rw [hsz]; exact hu2 w.drew (fun _ => rfl)) (by rw [hsz]; exact ho4 w.drew (fun _ => rfl)) (by omega) (by omega) (growslice_fits (by omega) (by rw [hby]; exact hb1))
        rw [← he, ← hye] at hrun
        let cells' := (os ++ us ++ (Builtin.zeroCells z.cells (cap' - (len + ys.length))).toList).toArray
        have hcs : cells'.size = cap' * sz := by
          simp only [cells', List.size_toArray, List.length_append, Array.length_toList, hzc, hu1, ho3, ← Nat.add_mul]
          congr 1; omega
        have hbel : Below w0.heap.size w (w.drew.alloc (.cells cells' e)) := (Below.refl _ w).drew.alloc h.below.size _
        obtain ⟨β', r1, r2, r3⟩ := h.addObj (objs1 := objs.set q u none) (fun _ _ _ hm => (hdrop _ _ _ hm).1) rfl q { ob with elems := ob.elems.drop st ++ ys } (.at_ w.heap.size 0 cells'.size sz) hbel (fun b hb => by
            have hlt : b < w.heap.size := by
              rcases hb with ⟨c, hb⟩ | ⟨o', v', ob1, hb1, hb2⟩
              · exact h.zlt hb
              · exact ((h.ho o' v' ob1 (hdrop _ _ _ hb1).1).block hb2).2
            exact heap_alloc_old w.drew _ b hlt) (fun β' hb hl => by
          unfold OR; rw [hl]
          refine ⟨hosz.symm, h.below.size, cells', e, heap_alloc_new w.drew _, rfl, ?_, ?_, ?_, ?_⟩
          · show 0 + (ob.elems.drop st ++ ys).length * sz ≤ _
            rw [hcs, List.length_append, hxsl, Nat.zero_add]; exact Nat.mul_le_mul_right _ hcap
          · intro x hx
            rcases List.mem_append.1 hx with hx | hx
            · exact hxs x hx
            · exact hyl x hx
          · have := appended_get (fm := fm) (Z := Z) (β := β) (olds := os) (news := us) (rest := (Builtin.zeroCells z.cells (cap' - (len + ys.length))).toList) (xs := ob.elems.drop st) (ys := ys) (sz := sz) (by rw [hxsl]; exact ho3) ho6 hu4
            intro k j y c hk hj
            have := (this k j y c hk hj).mono (fun _ _ h => h) hb
            simpa [cells'] using this
          · rw [hfz]; simp only [Bool.false_eq_true, if_false]
            cases hzz : Z w.heap.size with
            | none => rfl
            | some c => have := h.zlt hzz; omega) (fun b hh o' v' ob1 hb1 hb2 => by
            simp only [Loc.place, Option.some.injEq] at hh
            have := ((h.ho o' v' ob1 (hdrop _ _ _ hb1).1).block hb2).2
            omega)
        exact ⟨_, _, Z, β', .inl (hexec _ _ hrun), ZExt.refl _ _, r1, r2, .s (.c (.rs r3 hcap (by rw [hcs]; simp) (fun _ => by simp)))⟩
end Go.Av
