/- The abstract machine of the Av files, thirteenth part: every operation, in one word. No condition. -/
import Derived.Test.YthdilnjdkniofaaGreatAvOpM
namespace Go.Av
open Go Go.RowKit

variable {P : Program} {fm : Nat → Nat} {Z : ZM} {β : BM} {objs : Objs} {w0 w : World} {a : Act} {s : St}

theorem PR.clo_inv {v : Value} {f : Nat} {cs : List PC} (h : PR fm Z v (.clo f cs)) : ∃ caps : Array Value, v = .func (.func (fm f)) #[] caps ∧ caps.size = cs.length ∧
    ∀ (j : Nat) (c : PC), cs[j]? = some c → PR fm Z (caps.getD j undef) c := by
  cases h with | clo hl h => exact ⟨_, rfl, hl, h⟩

theorem sound_nck {x : Operand} {y : Opd} {v : AV} {o : Oper} (ho : o.op = .nilCheck x) (hx : opdOK fm x y = true) (hs : SlR fm Z β a s) (h : WR fm Z β objs w0 w) (hy : s.ev y = v)
    (hv : (∃ cs, v = vp (.pref cs)) ∨ (∃ q u i f, v = .s (.c (.ptr q u i f))) ∨ (∃ g l, v = vp (.clo g l))) : OpS fm Z β w0 ((execOp a.eval o).run P w) objs v := by
  have g1 := opdOK_AR hx hs
  rw [hy] at g1
  refine OpS.same (x := a.eval x) h ?_ g1
  rcases hv with ⟨cs, rfl⟩ | ⟨q, u, i, f, rfl⟩ | ⟨g, l, rfl⟩
  · obtain ⟨b, off, cells, he, _⟩ := g1.pr.pref_inv
    simp [execOp, ho, he]
  · obtain ⟨b, base, n, sz, he, _⟩ := g1.vr.ptr_inv
    simp [execOp, ho, he]
  · obtain ⟨caps, he, _⟩ := g1.pr.clo_inv
    simp [execOp, ho, he]

theorem sound_mkf {fn : Fn} {first captured : Array Operand} {g : Nat} {caps : List Opd} {l : List PC} {o : Oper} (ho : o.op = .makeFunc fn first captured) (hf : fn = .func (fm g)) (h0 : first.size = 0)
    (hc : opdsOK fm captured.toList caps = true) (hs : SlR fm Z β a s) (h : WR fm Z β objs w0 w)
    (hl : allSome (caps.map fun x => (s.ev x).pc?) = some l) : OpS fm Z β w0 ((execOp a.eval o).run P w) objs (vp (.clo g l)) := by
  obtain ⟨h1, h2⟩ := opdsOK_AR hc hs
  obtain ⟨h3, h4⟩ := allSome_get hl
  have hf0 : first = #[] := Array.eq_empty_of_size_eq_zero h0
  subst hf hf0
  refine OpS.same (x := .func (.func (fm g)) #[] (captured.map a.eval)) h ?_ (.s (.c (.p (.clo (by simp at h1 ⊢; omega) fun j c hj => ?_))))
  · simp [execOp, ho, Instr.makeFunc]
  · obtain ⟨y, hy, hy2⟩ := h4 j c hj
    obtain ⟨x, hx, hx2⟩ := h2 j y hy
    have hx' : captured[j]? = some x := by simpa using hx
    unfold AV.pc? at hy2
    split at hy2
    · rename_i z he
      cases hy2
      rw [he] at hx2
      have : (captured.map a.eval).getD j undef = a.eval x := by
        rw [Array.getD_eq_getD_getElem?, Array.getElem?_map, hx']; rfl
      rw [this]; exact hx2.pr
    · cases hy2

theorem sound_mkf1 {fn : Fn} {first captured : Array Operand} {g q u : Nat} {y : Opd} {o : Oper} (ho : o.op = .makeFunc fn first captured) (hf : fn = .func (fm g)) (h0 : first.size = 0)
    (hc : opdsOK fm captured.toList [y] = true) (hs : SlR fm Z β a s) (h : WR fm Z β objs w0 w) (hy : s.ev y = .s (.c (.ptr q u 0 0))) :
    OpS fm Z β w0 ((execOp a.eval o).run P w) objs (.s (.c (.clo1 g q u))) := by
  obtain ⟨h1, h2⟩ := opdsOK_AR hc hs
  have hf0 : first = #[] := Array.eq_empty_of_size_eq_zero h0
  subst hf hf0
  obtain ⟨x, hx, hx2⟩ := h2 0 y rfl
  rw [hy] at hx2
  obtain ⟨b, base, n, sz, hv, hβ⟩ := hx2.vr.ptr_inv
  have hcap : captured.map a.eval = #[a.eval x] := by
    have hx' : captured[0]? = some x := by simpa using hx
    have hs1 : captured.size = 1 := by simpa using h1
    apply Array.ext
    · simp [hs1]
    · intro i g1 g2
      have : i = 0 := by simp at g2; exact g2
      subst this
      have : captured[0] = x := by
        rw [Array.getElem?_eq_getElem (by omega)] at hx'; exact Option.some.inj hx'
      simp [this]
  refine OpS.same (x := .func (.func (fm g)) #[] (captured.map a.eval)) h ?_ ?_
  · simp [execOp, ho, Instr.makeFunc]
  · rw [hcap, hv]
    exact .s (.c (.clo1 hβ))

theorem map_some_objs {x : Option AV} {r : Objs × AV} (h : x.map (fun y => (objs, y)) = some r) : ∃ v, x = some v ∧ r = (objs, v) := by
  cases x with
  | none => cases h
  | some v => exact ⟨v, rfl, (Option.some.inj h).symm⟩

theorem load_val {t : TypeId} {agg : Bool} {sz : Nat} {x : Operand} {y : Opd} {objs' : Objs} {v : AV} (ht : tyOK P t agg sz = true) (hx : opdOK fm x y = true) (hs : SlR fm Z β a s)
    (h : WR fm Z β s.objs w0 w) (ha : aop (.load agg sz y) s = some (objs', v)) : objs' = s.objs ∧
    ∃ b off, a.eval x = .pointer (some ⟨b, off, none⟩) ∧ ∃ y, (Instr.loadAt t (.pointer (some ⟨b, off, none⟩))).run P w = .ok y w ∧ AR fm Z β y v := by
  simp only [aop] at ha
  split at ha
  · rename_i cs hc
    split at ha
    · rename_i hl
      have hv : (if agg then some (.s (.agg (cs.map C.p))) else (cs[0]?).map fun c => vp c) = some v ∧ objs' = s.objs := by
        cases agg
        · simp only [Bool.false_eq_true, if_false] at ha ⊢
          obtain ⟨v', hv, hr⟩ := map_some_objs ha
          cases hr; exact ⟨hv, rfl⟩
        · simp only [if_true] at ha ⊢
          obtain ⟨v', hv, hr⟩ := map_some_objs ha
          cases hr; exact ⟨hv, rfl⟩
      exact ⟨hv.2, load_valP ht hx hs h hc hl hv.1⟩
    · cases ha
  · rename_i q u i off hc
    split at ha
    · rename_i ob hob
      split at ha
      · rename_i el hel
        split at ha
        · rename_i hle
          have hv : (if agg then some (.s (.agg ((el.drop off).take sz))) else (el[off]?).map fun c => AV.s (.c c)) = some v ∧ objs' = s.objs := by
            cases agg
            · simp only [Bool.false_eq_true, if_false] at ha ⊢
              obtain ⟨v', hv, hr⟩ := map_some_objs ha
              cases hr; exact ⟨hv, rfl⟩
            · simp only [if_true] at ha ⊢
              obtain ⟨v', hv, hr⟩ := map_some_objs ha
              cases hr; exact ⟨hv, rfl⟩
          exact ⟨hv.2, load_valO ht hx hs h hc hob hel hle hv.1⟩
        · cases ha
      · cases ha
    · cases ha
  · cases ha

set_option maxHeartbeats 1000000 in
theorem aop_sound {o : Oper} {a0 : AOp} {objs' : Objs} {v : AV} (hk : chkOp P fm o.op a0 = true) (hs : SlR fm Z β a s) (h : WR fm Z β s.objs w0 w)
    (ha : aop a0 s = some (objs', v)) : OpS fm Z β w0 ((execOp a.eval o).run P w) objs' v := by
  cases a0 with
  | mv y =>
    simp only [aop, Option.map_some, Option.some.injEq, Prod.mk.injEq] at ha
    obtain ⟨rfl, rfl⟩ := ha
    simp only [chkOp] at hk
    split at hk
    · rename_i x ho; exact sound_mv (.inl ho) hk hs h
    · rename_i x ho; exact sound_mv (.inr ho) hk hs h
    · cases hk
  | pick c x y =>
    simp only [chkOp] at hk
    split at hk
    · rename_i c' x' y' ho
      simp only [Bool.and_eq_true] at hk
      simp only [aop] at ha
      split at ha
      · rename_i t ht
        simp only [Option.map_some, Option.some.injEq, Prod.mk.injEq] at ha
        obtain ⟨rfl, rfl⟩ := ha
        exact sound_pick ho hk.1.1 hk.1.2 hk.2 hs h ht
      · cases ha
    · cases hk
  | alloc id zero =>
    simp only [chkOp] at hk
    split at hk
    · rename_i t ho
      simp only [aop, Option.some.injEq, Prod.mk.injEq] at ha
      obtain ⟨rfl, rfl⟩ := ha
      exact sound_alloc _ ho hk h
    · cases hk
  | boxP y =>
    simp only [chkOp] at hk
    split at hk
    · rename_i t x ho
      simp only [aop] at ha
      split at ha
      · rename_i cs hc
        obtain ⟨v', hv, hr⟩ := map_some_objs ha
        cases hl : allSome (cs.map C.pure?) with
        | none => simp [hl] at hv
        | some l =>
          simp only [hl, Option.map_some, Option.some.injEq] at hv
          subst hv
          cases hr
          exact sound_boxP ho hk hs h hc hl
      · cases ha
    · cases hk
  | boxO id y =>
    simp only [chkOp] at hk
    split at hk
    · rename_i t x ho
      simp only [aop] at ha
      split at ha
      · rename_i cs hc
        simp only [Option.some.injEq, Prod.mk.injEq] at ha
        obtain ⟨rfl, rfl⟩ := ha
        exact sound_boxO _ ho hk hs h hc
      · cases ha
    · cases hk
  | build zero parts =>
    simp only [chkOp] at hk
    split at hk
    · rename_i t ps ho
      simp only [Bool.and_eq_true] at hk
      simp only [aop] at ha
      split at ha
      · rename_i l hl
        obtain ⟨v', hv, hr⟩ := map_some_objs ha
        cases hf : fillA zero l with
        | none => simp [hf] at hv
        | some cs =>
          simp only [hf, Option.map_some, Option.some.injEq] at hv
          subst hv
          cases hr
          exact sound_build ho hk.1.1 hk.1.2 hk.2 hs h hl hf
      · cases ha
    · cases hk
  | slP n sz zero parts =>
    simp only [chkOp] at hk
    split at hk
    · rename_i t m ps ho
      simp only [Bool.and_eq_true, beq_iff_eq] at hk
      obtain ⟨rfl, hk⟩ := hk
      split at hk
      · rename_i e he
        simp only [Bool.and_eq_true] at hk
        simp only [aop] at ha
        split at ha
        · rename_i xs hxs
          obtain ⟨v', hv, hr⟩ := map_some_objs ha
          cases hf : allSome (xs.map fun x => allSome (x.map C.pure?)) with
          | none => simp [hf] at hv
          | some cs =>
            simp only [hf, Option.map_some, Option.some.injEq] at hv
            subst hv
            cases hr
            exact sound_slP ho he hk.1 hk.2 hs h hxs hf
        · cases ha
      · cases hk
    · cases hk
  | slO id n sz zero parts =>
    simp only [chkOp] at hk
    split at hk
    · rename_i t m ps ho
      simp only [Bool.and_eq_true, beq_iff_eq] at hk
      obtain ⟨rfl, hk⟩ := hk
      split at hk
      · rename_i e he
        simp only [Bool.and_eq_true] at hk
        simp only [aop] at ha
        split at ha
        · rename_i xs hxs
          simp only [Option.some.injEq, Prod.mk.injEq] at ha
          obtain ⟨rfl, rfl⟩ := ha
          exact sound_slO _ ho he hk.1 hk.2 hs h hxs
        · cases ha
      · cases hk
    · cases hk
  | nck y =>
    simp only [chkOp] at hk
    split at hk
    · rename_i x ho
      simp only [aop] at ha
      split at ha
      · rename_i cs hc
        simp only [Option.map_some, Option.some.injEq, Prod.mk.injEq] at ha
        obtain ⟨rfl, rfl⟩ := ha
        exact sound_nck ho hk hs h hc (.inl ⟨cs, rfl⟩)
      · rename_i q u i f hc
        simp only [Option.map_some, Option.some.injEq, Prod.mk.injEq] at ha
        obtain ⟨rfl, rfl⟩ := ha
        exact sound_nck ho hk hs h hc (.inr (.inl ⟨q, u, i, f, rfl⟩))
      · rename_i g l hc
        simp only [Option.map_some, Option.some.injEq, Prod.mk.injEq] at ha
        obtain ⟨rfl, rfl⟩ := ha
        exact sound_nck ho hk hs h hc (.inr (.inr ⟨g, l, rfl⟩))
      · cases ha
    · cases hk
  | load agg sz y =>
    simp only [chkOp] at hk
    split at hk
    · rename_i t x ho
      simp only [Bool.and_eq_true] at hk
      simp only [aop] at ha
      split at ha
      · rename_i cs hc
        split at ha
        · rename_i hl
          have hv : (if agg then some (.s (.agg (cs.map C.p))) else (cs[0]?).map fun c => vp c) = some v ∧ objs' = s.objs := by
            cases agg
            · simp only [Bool.false_eq_true, if_false] at ha ⊢
              obtain ⟨v', hv, hr⟩ := map_some_objs ha
              cases hr; exact ⟨hv, rfl⟩
            · simp only [if_true] at ha ⊢
              obtain ⟨v', hv, hr⟩ := map_some_objs ha
              cases hr; exact ⟨hv, rfl⟩
          obtain ⟨hv, rfl⟩ := hv
          exact sound_loadP ho hk.1 hk.2 hs h hc hl hv
        · cases ha
      · rename_i q u i off hc
        split at ha
        · rename_i ob hob
          split at ha
          · rename_i el hel
            split at ha
            · rename_i hle
              have hv : (if agg then some (.s (.agg ((el.drop off).take sz))) else (el[off]?).map fun c => AV.s (.c c)) = some v ∧ objs' = s.objs := by
                cases agg
                · simp only [Bool.false_eq_true, if_false] at ha ⊢
                  obtain ⟨v', hv, hr⟩ := map_some_objs ha
                  cases hr; exact ⟨hv, rfl⟩
                · simp only [if_true] at ha ⊢
                  obtain ⟨v', hv, hr⟩ := map_some_objs ha
                  cases hr; exact ⟨hv, rfl⟩
              obtain ⟨hv, rfl⟩ := hv
              exact sound_loadO ho hk.1 hk.2 hs h hc hob hel hle hv
            · cases ha
          · cases ha
        · cases ha
      · cases ha
    · cases hk
  | loadS n y =>
    simp only [chkOp] at hk
    split at hk
    · rename_i t x ho
      simp only [Bool.and_eq_true] at hk
      have ha := aop_loadS ha
      generalize false = agg at ha hk
      generalize 1 = sz at ha hk
      simp only [aop] at ha
      split at ha
      · rename_i cs hc
        split at ha
        · rename_i hl
          have hv : (if agg then some (.s (.agg (cs.map C.p))) else (cs[0]?).map fun c => vp c) = some v ∧ objs' = s.objs := by
            cases agg
            · simp only [Bool.false_eq_true, if_false] at ha ⊢
              obtain ⟨v', hv, hr⟩ := map_some_objs ha
              cases hr; exact ⟨hv, rfl⟩
            · simp only [if_true] at ha ⊢
              obtain ⟨v', hv, hr⟩ := map_some_objs ha
              cases hr; exact ⟨hv, rfl⟩
          obtain ⟨hv, rfl⟩ := hv
          exact sound_loadP ho hk.1 hk.2 hs h hc hl hv
        · cases ha
      · rename_i q u i off hc
        split at ha
        · rename_i ob hob
          split at ha
          · rename_i el hel
            split at ha
            · rename_i hle
              have hv : (if agg then some (.s (.agg ((el.drop off).take sz))) else (el[off]?).map fun c => AV.s (.c c)) = some v ∧ objs' = s.objs := by
                cases agg
                · simp only [Bool.false_eq_true, if_false] at ha ⊢
                  obtain ⟨v', hv, hr⟩ := map_some_objs ha
                  cases hr; exact ⟨hv, rfl⟩
                · simp only [if_true] at ha ⊢
                  obtain ⟨v', hv, hr⟩ := map_some_objs ha
                  cases hr; exact ⟨hv, rfl⟩
              obtain ⟨hv, rfl⟩ := hv
              exact sound_loadO ho hk.1 hk.2 hs h hc hob hel hle hv
            · cases ha
          · cases ha
        · cases ha
      · cases ha
    · cases hk
  | store sz y z =>
    simp only [chkOp] at hk
    split at hk
    · rename_i t x u ho
      simp only [Bool.and_eq_true] at hk
      simp only [aop] at ha
      split at ha
      · rename_i q ver i off cs hy hcs
        split at ha
        · rename_i ob hob
          split at ha
          · rename_i el hel
            split at ha
            · rename_i hc
              simp only [Option.some.injEq, Prod.mk.injEq] at ha
              obtain ⟨rfl, rfl⟩ := ha
              exact sound_store ho hk.1.1 hk.1.2 hk.2 hs h hy hcs hob hel hc.1 hc.2.1 hc.2.2
            · cases ha
          · cases ha
        · cases ha
      · cases ha
    · cases hk
  | bin op y z =>
    simp only [chkOp] at hk
    split at hk
    · rename_i op' t x u ty ho
      simp only [Bool.and_eq_true, beq_iff_eq] at hk
      obtain ⟨⟨rfl, h1⟩, h2⟩ := hk
      simp only [aop] at ha
      split at ha
      · rename_i p q hp hq
        obtain ⟨v', hv, hr⟩ := map_some_objs ha
        cases hf : abin op p q with
        | none => simp [hf] at hv
        | some c =>
          simp only [hf, Option.map_some, Option.some.injEq] at hv
          subst hv
          cases hr
          exact sound_bin ho h1 h2 hs h hp hq hf
      · cases ha
    · cases hk
  | binB op y z =>
    simp only [chkOp] at hk
    split at hk
    · rename_i op' t x u ty ho
      simp only [Bool.and_eq_true, beq_iff_eq] at hk
      obtain ⟨⟨⟨rfl, h1⟩, h2⟩, h3⟩ := hk
      have ht : P.underlying t = some .bool := by
        split at h3
        · assumption
        · cases h3
      simp only [aop] at ha
      split at ha
      · rename_i p q hp hq
        obtain ⟨v', hv, hr⟩ := map_some_objs ha
        cases hf : abinB op p q with
        | none => simp [hf] at hv
        | some c =>
          simp only [hf, Option.map_some, Option.some.injEq] at hv
          subst hv
          cases hr
          exact sound_binB ho h1 h2 ht hs h hp hq hf
      · cases ha
    · cases hk
  | un op y =>
    simp only [chkOp] at hk
    split at hk
    · rename_i op' t x ho
      simp only [Bool.and_eq_true, beq_iff_eq] at hk
      obtain ⟨rfl, h1⟩ := hk
      simp only [aop] at ha
      split at ha
      · rename_i p hp
        obtain ⟨v', hv, hr⟩ := map_some_objs ha
        cases hf : aun op p with
        | none => simp [hf] at hv
        | some c =>
          simp only [hf, Option.map_some, Option.some.injEq] at hv
          subst hv
          cases hr
          exact sound_un ho h1 hs h hp hf
      · cases ha
    · cases hk
  | conv k y =>
    simp only [chkOp] at hk
    split at hk
    · rename_i src dst x ho
      simp only [Bool.and_eq_true, beq_iff_eq] at hk
      obtain ⟨⟨h1, h2⟩, h3⟩ := hk
      obtain ⟨k0, h1⟩ := Option.isSome_iff_exists.1 h1
      simp only [aop] at ha
      split at ha
      · rename_i k1 n hp
        simp only [Option.map_some, Option.some.injEq, Prod.mk.injEq] at ha
        obtain ⟨rfl, rfl⟩ := ha
        exact sound_conv ho h1 h2 h3 hs h hp
      · cases ha
    · cases hk
  | mk id sz bytes zero y z =>
    simp only [chkOp] at hk
    split at hk
    · rename_i t x u ho
      simp only [Bool.and_eq_true] at hk
      obtain ⟨⟨h1, h2⟩, h3⟩ := hk
      split at h1
      · rename_i e he
        simp only [Bool.and_eq_true] at h1
        simp only [aop] at ha
        split at ha
        · rename_i l c hl hc
          split at ha
          · rename_i hh
            simp only [Option.some.injEq, Prod.mk.injEq] at ha
            obtain ⟨rfl, rfl⟩ := ha
            exact sound_mk _ ho he h1.1.1 h1.1.2 h1.2 h2 h3 hs h hl hc hh.1 hh.2.1 hh.2.2.1 hh.2.2.2.1 hh.2.2.2.2
          · cases ha
        · cases ha
      · cases h1
    · cases hk
  | slice sz y lo hi mx =>
    simp only [chkOp] at hk
    split at hk
    · rename_i t x lo' hi' mx' ho
      simp only [Bool.and_eq_true] at hk
      obtain ⟨v', hv, hr⟩ := map_some_objs ha
      cases hr
      exact sound_slice ho hk.1.1.1.1 hk.1.1.1.2 hk.1.1.2 hk.1.2 hk.2 hs h hv
    · cases hk
  | fa off sz y =>
    simp only [chkOp] at hk
    split at hk
    · rename_i t x f ho
      simp only [Bool.and_eq_true] at hk
      simp only [aop] at ha
      split at ha
      · rename_i cs hc
        split at ha
        · rename_i hle
          simp only [Option.map_some, Option.some.injEq, Prod.mk.injEq] at ha
          obtain ⟨rfl, rfl⟩ := ha
          exact sound_faP ho hk.1 hk.2 hs h hc hle
        · cases ha
      · rename_i q u i k hc
        simp only [Option.map_some, Option.some.injEq, Prod.mk.injEq] at ha
        obtain ⟨rfl, rfl⟩ := ha
        exact sound_faO ho hk.1 hk.2 hs h hc
      · cases ha
    · cases hk
  | fld agg off sz y =>
    simp only [chkOp] at hk
    split at hk
    · rename_i t x f ho
      simp only [Bool.and_eq_true] at hk
      simp only [aop] at ha
      split at ha
      · rename_i cs hc
        split at ha
        · rename_i hle
          have hv : (if agg then some (.s (.agg ((cs.drop off).take sz))) else (cs[off]?).map fun c => AV.s (.c c)) = some v ∧ objs' = s.objs := by
            cases agg
            · simp only [Bool.false_eq_true, if_false] at ha ⊢
              obtain ⟨v', hv, hr⟩ := map_some_objs ha
              cases hr; exact ⟨hv, rfl⟩
            · simp only [if_true] at ha ⊢
              obtain ⟨v', hv, hr⟩ := map_some_objs ha
              cases hr; exact ⟨hv, rfl⟩
          obtain ⟨hv, rfl⟩ := hv
          exact sound_fld ho hk.1 hk.2 hs h hc hle hv
        · cases ha
      · cases ha
    · cases hk
  | ia sz y z =>
    simp only [chkOp] at hk
    split at hk
    · rename_i t x i ho
      simp only [Bool.and_eq_true] at hk
      simp only [aop] at ha
      split at ha
      · rename_i xs n hc hn
        split at ha
        · rename_i hh
          obtain ⟨v', hv, hr⟩ := map_some_objs ha
          cases hr
          cases hel : xs[n.toNat]? with
          | none => simp [hel] at hv
          | some el =>
            simp only [hel, Option.bind_some] at hv
            split at hv
            · rename_i hl
              cases hv
              exact sound_iaP ho hk.1.1 hk.1.2 hk.2 hs h hc hn hh.1 hh.2 hel hl
            · cases hv
        · cases ha
      · rename_i q u sz' st len n hc hn
        split at ha
        · rename_i hh
          simp only [Option.map_some, Option.some.injEq, Prod.mk.injEq] at ha
          obtain ⟨rfl, rfl⟩ := ha
          obtain ⟨rfl, hh1, hh2⟩ := hh
          exact sound_iaO ho hk.1.1 hk.1.2 hk.2 hs h hc hn hh1 hh2
        · cases ha
      · cases ha
    · cases hk
  | iaA m sz y z =>
    simp only [chkOp] at hk
    split at hk
    · rename_i t x i ho
      simp only [Bool.and_eq_true] at hk
      simp only [aop] at ha
      split at ha
      · rename_i cs n hc hn
        split at ha
        · rename_i hh
          simp only [Option.map_some, Option.some.injEq, Prod.mk.injEq] at ha
          obtain ⟨rfl, rfl⟩ := ha
          exact sound_iaAP ho hk.1.1 hk.1.2 hk.2 hs h hc hn hh.1 hh.2.1 hh.2.2
        · cases ha
      · rename_i q u j off n hc hn
        split at ha
        · rename_i hh
          simp only [Option.map_some, Option.some.injEq, Prod.mk.injEq] at ha
          obtain ⟨rfl, rfl⟩ := ha
          exact sound_iaAO ho hk.1.1 hk.1.2 hk.2 hs h hc hn hh.1 hh.2
        · cases ha
      · cases ha
    · cases hk
  | ext i y =>
    simp only [chkOp] at hk
    split at hk
    · rename_i x j ho
      simp only [Bool.and_eq_true, beq_iff_eq] at hk
      obtain ⟨rfl, hk⟩ := hk
      simp only [aop] at ha
      split at ha
      · rename_i l hl
        obtain ⟨v', hv, hr⟩ := map_some_objs ha
        cases hr
        cases hg : l[i]? with
        | none => simp [hg] at hv
        | some x =>
          simp only [hg, Option.map_some, Option.some.injEq] at hv
          subst hv
          exact sound_ext ho hk hs h hl hg
      · cases ha
    · cases hk
  | len y =>
    simp only [chkOp] at hk
    split at hk
    · rename_i c ho
      split at hk
      · rename_i hcal
        simp only [Bool.and_eq_true] at hk
        obtain ⟨hk1, hk2⟩ := hk
        split at hk1
        · rename_i t ht
          simp only [aop] at ha
          split at ha
          · rename_i xs hx
            simp only [Option.map_some, Option.some.injEq, Prod.mk.injEq] at ha
            obtain ⟨rfl, rfl⟩ := ha
            exact sound_len ho hcal ht hk1 hk2 hs h hx (.inl ⟨xs, rfl, rfl⟩)
          · rename_i hx
            simp only [Option.map_some, Option.some.injEq, Prod.mk.injEq] at ha
            obtain ⟨rfl, rfl⟩ := ha
            exact sound_len ho hcal ht hk1 hk2 hs h hx (.inr (.inl ⟨rfl, rfl⟩))
          · rename_i q u sz st len hx
            simp only [Option.map_some, Option.some.injEq, Prod.mk.injEq] at ha
            obtain ⟨rfl, rfl⟩ := ha
            exact sound_len ho hcal ht hk1 hk2 hs h hx (.inr (.inr ⟨q, u, sz, st, len, rfl, rfl⟩))
          · cases ha
        · cases hk1
      · cases hk
    · cases hk
  | app id sz bytes y z =>
    simp only [chkOp] at hk
    split at hk
    · rename_i c ho
      split at hk
      · rename_i hcal
        simp only [Bool.and_eq_true] at hk
        obtain ⟨hk1, hk2⟩ := hk
        split at hk1
        · rename_i t t' ht
          simp only [Bool.and_eq_true, beq_iff_eq] at hk1
          obtain ⟨rfl, hk1⟩ := hk1
          split at hk1
          · rename_i e he
            split at hk1
            · rename_i i hi
              simp only [Bool.and_eq_true, beq_iff_eq] at hk1
              obtain ⟨⟨h1, h2⟩, h3⟩ := hk1
              split at h3
              · rename_i zv hz
                simp only [beq_iff_eq] at h3
                simp only [aop] at ha
                split at ha
                · cases ha
                · rename_i ys hys
                  obtain ⟨s1, s2, s3⟩ := sound_app (o := o) ho hcal ht he hi h1 h2 hz h3 hk2 hs h hys
                  split at ha
                  · rename_i hx
                    split at ha
                    · rename_i h0
                      simp only [Option.map_some, Option.some.injEq, Prod.mk.injEq] at ha
                      obtain ⟨rfl, rfl⟩ := ha
                      exact s2 hx h0
                    · rename_i h0
                      split at ha
                      · rename_i hb
                        simp only [Option.some.injEq, Prod.mk.injEq] at ha
                        obtain ⟨rfl, rfl⟩ := ha
                        exact s1 _ hx h0 hb.1 hb.2
                      · cases ha
                  · rename_i q u sz' st len hx
                    split at ha
                    · rename_i ob hob
                      split at ha
                      · rename_i hh
                        simp only [Option.some.injEq, Prod.mk.injEq] at ha
                        obtain ⟨rfl, rfl⟩ := ha
                        obtain ⟨g1, rfl, g3, g4, g5, g6⟩ := hh
                        exact s3 q u st len ob hx hob g1 g3 g4 g5 g6
                      · cases ha
                    · cases ha
                  · cases ha
              · cases h3
            · cases hk1
          · cases hk1
        · cases hk1
      · cases hk
    · cases hk
  | mkf g caps =>
    simp only [chkOp] at hk
    split at hk
    · rename_i fn first captured ho
      simp only [Bool.and_eq_true, beq_iff_eq] at hk
      obtain ⟨⟨h1, h2⟩, h3⟩ := hk
      have hf : fn = .func (fm g) := by
        cases fn <;> simp at h1 ⊢
        exact h1.symm
      simp only [aop] at ha
      split at ha
      · rename_i l hl
        simp only [Option.map_some, Option.some.injEq, Prod.mk.injEq] at ha
        obtain ⟨rfl, rfl⟩ := ha
        exact sound_mkf ho hf h2 h3 hs h hl
      · cases ha
    · cases hk
  | bad => simp [aop] at ha
  | mkf1 g y =>
    simp only [chkOp] at hk
    split at hk
    · rename_i fn first captured ho
      simp only [Bool.and_eq_true, beq_iff_eq] at hk
      obtain ⟨⟨h1, h2⟩, h3⟩ := hk
      have hf : fn = .func (fm g) := by
        cases fn <;> simp at h1 ⊢
        exact h1.symm
      simp only [aop] at ha
      split at ha
      · rename_i q u hl
        simp only [Option.map_some, Option.some.injEq, Prod.mk.injEq] at ha
        obtain ⟨rfl, rfl⟩ := ha
        exact sound_mkf1 ho hf h2 h3 hs h hl
      · cases ha
    · cases hk
  | mkfO g caps =>
    simp only [chkOp] at hk
    split at hk
    · rename_i fn first captured ho
      simp only [Bool.and_eq_true, beq_iff_eq] at hk
      obtain ⟨⟨h1, h2⟩, h3⟩ := hk
      have hf : fn = .func (fm g) := by
        cases fn <;> simp at h1 ⊢
        exact h1.symm
      simp only [aop] at ha
      split at ha
      · rename_i sv hsv
        split at ha
        · rename_i pv hpv
          split at ha
          · rename_i l hl
            simp only [Option.some.injEq, Prod.mk.injEq] at ha
            obtain ⟨rfl, rfl⟩ := ha
            exact sound_mkfO ho hf h2 h3 hs h hsv hpv hl
          · cases ha
        · cases ha
      · cases ha
    · cases hk
  | minI y z =>
    simp only [chkOp] at hk
    split at hk
    · rename_i c ho
      split at hk
      · rename_i hc
        simp only [aop] at ha
        split at ha
        · rename_i k m k' n hm hn
          split at ha
          · rename_i hkk
            subst hkk
            simp only [Option.map_some, Option.some.injEq, Prod.mk.injEq] at ha
            obtain ⟨rfl, rfl⟩ := ha
            exact sound_minI ho hc hk hs h hm hn
          · cases ha
        · cases ha
      · cases hk
    · cases hk
  | maxI y z =>
    simp only [chkOp] at hk
    split at hk
    · rename_i c ho
      split at hk
      · rename_i hc
        simp only [aop] at ha
        split at ha
        · rename_i k m k' n hm hn
          split at ha
          · rename_i hkk
            subst hkk
            simp only [Option.map_some, Option.some.injEq, Prod.mk.injEq] at ha
            obtain ⟨rfl, rfl⟩ := ha
            exact sound_maxI ho hc hk hs h hm hn
          · cases ha
        · cases ha
      · cases hk
    · cases hk
  | sidx y z =>
    simp only [chkOp] at hk
    split at hk
    · rename_i t x i ho
      simp only [Bool.and_eq_true] at hk
      simp only [aop] at ha
      split at ha
      · rename_i b n hb hn
        split at ha
        · rename_i h0
          obtain ⟨v', hv, hr⟩ := map_some_objs ha
          cases hr
          cases hc : b[n.toNat]? with
          | none => simp [hc] at hv
          | some c =>
            simp only [hc, Option.map_some, Option.some.injEq] at hv
            subst hv
            exact sound_sidx ho hk.1.1 hk.1.2 hk.2 hs h hb hn h0 hc
        · cases ha
      · cases ha
    · cases hk
  | toStr y =>
    simp only [chkOp] at hk
    split at hk
    · rename_i src dst x ho
      simp only [Bool.and_eq_true] at hk
      simp only [aop] at ha
      split at ha
      · rename_i ys hys
        obtain ⟨v', hv, hr⟩ := map_some_objs ha
        cases hr
        cases hc : allSome (ys.map byteOf) with
        | none => simp [hc] at hv
        | some ns =>
          simp only [hc, Option.map_some, Option.some.injEq] at hv
          subst hv
          exact sound_toStr ho hk.1.1 hk.1.2 hk.2 hs h hys hc
      · cases ha
    · cases hk
  | isNil neg y =>
    simp only [chkOp] at hk
    split at hk
    · rename_i op t x t' ho
      simp only [Bool.and_eq_true, beq_iff_eq] at hk
      obtain ⟨⟨k1, k2⟩, k3⟩ := hk
      have g1 := opdOK_AR k3 hs
      simp only [aop] at ha
      split at ha
      · rename_i q u sz st len he
        split at ha
        · rename_i hlen
          simp only [Option.map_some, Option.some.injEq, Prod.mk.injEq] at ha
          obtain ⟨rfl, rfl⟩ := ha
          rw [he] at g1
          rcases g1.vr.rs_inv with ⟨_, _, h0, _⟩ | ⟨b, base, m, cap, ad, hx, _⟩
          · omega
          · exact sound_isNil ho k1 k2 h hx
        · cases ha
      · rename_i xs he
        split at ha
        · rename_i hlen
          simp only [Option.map_some, Option.some.injEq, Prod.mk.injEq] at ha
          obtain ⟨rfl, rfl⟩ := ha
          rw [he] at g1
          rcases g1.pr.sl_inv with ⟨ad, cap, _, rfl⟩ | ⟨b, off, cap, sz', cells, hx, _⟩
          · simp at hlen
          · exact sound_isNil ho k1 k2 h hx
        · cases ha
      · cases ha
    · cases hk
  | mkM id sz =>
    simp only [chkOp] at hk
    split at hk
    · rename_i t r ho
      have : r = none := by simpa using hk
      subst this
      simp only [aop, Option.some.injEq, Prod.mk.injEq] at ha
      obtain ⟨rfl, rfl⟩ := ha
      exact sound_mkM _ _ ho h
    · cases hk
  | lkp str comma agg zero y z =>
    simp only [chkOp] at hk
    split at hk
    · rename_i t x k cm ho
      simp only [Bool.and_eq_true, beq_iff_eq] at hk
      obtain ⟨⟨⟨⟨rfl, k2⟩, k3⟩, k4⟩, k5⟩ := hk
      split at k5
      · rename_i e he
        simp only [aop] at ha
        split at ha
        · rename_i q u pk hy hpk
          split at ha
          · rename_i ob hob
            split at ha
            · rename_i hik
              split at ha
              · rename_i i vs hf
                obtain ⟨v', hv, hr⟩ := map_some_objs ha
                cases hr
                cases hm : mapVal ob.sz vs with
                | none => simp [hm] at hv
                | some sv =>
                  simp only [hm, Option.map_some, Option.some.injEq] at hv
                  subst hv
                  exact sound_lkp (r := some (i, vs)) ho k2 k3 k4 he k5 hs h hy hpk hob hik hf hm
              · rename_i hf
                obtain ⟨v', hv, hr⟩ := map_some_objs ha
                cases hr
                cases hm : mapVal (if agg = true then zero.length + 1 else 0) zero with
                | none => rw [hm] at hv; cases hv
                | some sv =>
                  rw [hm] at hv
                  simp only [Option.map_some, Option.some.injEq] at hv
                  subst hv
                  exact sound_lkp (r := none) ho k2 k3 k4 he k5 hs h hy hpk hob hik hf hm
              · cases ha
            · cases ha
          · cases ha
        · cases ha
      · cases k5
    · cases hk
  | updM str y z u =>
    simp only [chkOp] at hk
    split at hk
    · rename_i t x k x' ho
      simp only [Bool.and_eq_true] at hk
      obtain ⟨⟨⟨k1, k2⟩, k3⟩, k4⟩ := hk
      simp only [aop] at ha
      split at ha
      · rename_i q i0 pk sv hy hpk hsv
        split at ha
        · rename_i ob hob
          split at ha
          · rename_i hik
            split at ha
            · cases ha
            · rename_i sv' hm
              have hcell : ∀ c c', sv = .c c → sv' = .c c' → sv' = sv := by
                intro c c' e1 e2
                subst e1 e2
                simp only [SV.cells] at hm
                unfold mapVal at hm
                split at hm <;> simp_all
              have hagg : ∀ c c', sv = .agg c → sv' = .agg c' → sv' = sv := by
                intro c c' e1 e2
                subst e1 e2
                simp only [SV.cells] at hm
                unfold mapVal at hm
                split at hm <;> simp_all
              have hsame : ∀ r, sv' = sv → findRow str pk ob.elems 0 = some r →
                  OpS fm Z β w0 ((execOp a.eval o).run P w)
                    (s.objs.set q i0 (some { ob with elems := match (generalizing := false) r with | some (i, _) => ob.elems.set i (.p pk :: sv.cells) | none => ob.elems ++ [.p pk :: sv.cells] })) (.tup []) := by
                intro r e hf
                rw [e] at hm
                exact sound_updM ho k1 k2 k3 k4 hs h hy hpk hsv hob hik hm hf
              split at ha
              · rename_i c c'
                have e := hcell _ _ rfl rfl
                split at ha
                · rename_i i vs hf
                  simp only [Option.some.injEq, Prod.mk.injEq] at ha
                  obtain ⟨rfl, rfl⟩ := ha
                  exact hsame (some (i, vs)) e hf
                · rename_i hf
                  simp only [Option.some.injEq, Prod.mk.injEq] at ha
                  obtain ⟨rfl, rfl⟩ := ha
                  exact hsame none e hf
                · cases ha
              · rename_i c c'
                have e := hagg _ _ rfl rfl
                split at ha
                · rename_i i vs hf
                  simp only [Option.some.injEq, Prod.mk.injEq] at ha
                  obtain ⟨rfl, rfl⟩ := ha
                  exact hsame (some (i, vs)) e hf
                · rename_i hf
                  simp only [Option.some.injEq, Prod.mk.injEq] at ha
                  obtain ⟨rfl, rfl⟩ := ha
                  exact hsame none e hf
                · cases ha
              · cases ha
          · cases ha
        · cases ha
      · cases ha
    · cases hk
  | lenM y =>
    simp only [chkOp] at hk
    split at hk
    · rename_i c ho
      split at hk
      · rename_i hc
        simp only [Bool.and_eq_true] at hk
        obtain ⟨k1, k2⟩ := hk
        split at k1
        · rename_i t ht
          simp only [aop] at ha
          split at ha
          · rename_i q u hy
            split at ha
            · rename_i ob hob
              simp only [Option.map_some, Option.some.injEq, Prod.mk.injEq] at ha
              obtain ⟨rfl, rfl⟩ := ha
              exact sound_lenM ho hc ht k1 k2 hs h hy hob
            · cases ha
          · cases ha
        · cases k1
      · cases hk
    · cases hk
  | call g args => simp [aop] at ha
  | callP g args => simp [aop] at ha
  | callR b g args => simp [aop] at ha
  | callV f args => simp [aop] at ha
end Go.Av
