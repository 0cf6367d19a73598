/- The abstract machine of the Av files: maps, strings, the least of two numbers. No condition. -/
import Derived.Test.YthdilnjdkniofaaGreatAvOpX
import Derived.MapKept
namespace Go.Av
open Go Go.RowKit

variable {P : Program} {fm : Nat → Nat} {Z : ZM} {β : BM} {objs : Objs} {w0 w : World} {a : Act} {s : St}

theorem aop_loadS {n : Nat} {y : Opd} {s : St} {r : Objs × AV} (h : aop (.loadS n y) s = some r) : aop (.load false 1 y) s = some r := by
  simp only [aop] at h ⊢
  split at h
  · exact h
  · cases h
theorem PR.str_inv {v : Value} {b : ByteArray} (h : PR fm Z v (.str b)) : v = .string b := by cases h; rfl
theorem VR.mp_inv {v : Value} {o u : Nat} (h : VR fm Z β v (.mp o u)) : ∃ r, v = .map (some r) ∧ β o u = some (.map r) := by cases h with | mp h => exact ⟨_, rfl, h⟩

theorem sound_minI {c : Go.Call} {x y : Opd} {k : IntKind} {m n : Int} {o : Oper} (ho : o.op = .call c) (hc : c.callee = .builtin .min) (hx : opdsOK fm c.args.toList [x, y] = true)
    (hs : SlR fm Z β a s) (h : WR fm Z β objs w0 w) (hm : s.ev x = vi k m) (hn : s.ev y = vi k n) : OpS fm Z β w0 ((execOp a.eval o).run P w) objs (vi k (if n < m then n else m)) := by
  obtain ⟨p, q, hl, hp, hq⟩ := opds2 hx
  have h1 := opdOK_AR hp hs
  have h2 := opdOK_AR hq hs
  rw [hm] at h1; rw [hn] at h2
  have h1 := h1.pr.int_inv
  have h2 := h2.pr.int_inv
  refine OpS.same (x := .int k (if n < m then n else m)) h ?_ (.s (.c (.p .int)))
  have hargs : c.args = #[p, q] := by rw [← hl]
  simp [execOp, ho, resolve, hc, hargs, invoke, builtin, h1, h2, Builtin.min_, Builtin.min2]

theorem sound_maxI {c : Go.Call} {x y : Opd} {k : IntKind} {m n : Int} {o : Oper} (ho : o.op = .call c) (hc : c.callee = .builtin .max) (hx : opdsOK fm c.args.toList [x, y] = true)
    (hs : SlR fm Z β a s) (h : WR fm Z β objs w0 w) (hm : s.ev x = vi k m) (hn : s.ev y = vi k n) : OpS fm Z β w0 ((execOp a.eval o).run P w) objs (vi k (if m < n then n else m)) := by
  obtain ⟨p, q, hl, hp, hq⟩ := opds2 hx
  have h1 := opdOK_AR hp hs
  have h2 := opdOK_AR hq hs
  rw [hm] at h1; rw [hn] at h2
  have h1 := h1.pr.int_inv
  have h2 := h2.pr.int_inv
  refine OpS.same (x := .int k (if m < n then n else m)) h ?_ (.s (.c (.p .int)))
  have hargs : c.args = #[p, q] := by rw [← hl]
  simp [execOp, ho, resolve, hc, hargs, invoke, builtin, h1, h2, Builtin.max_, Builtin.max2]

theorem sound_sidx {t : TypeId} {x i : Operand} {y z : Opd} {b : ByteArray} {n : Int} {c : UInt8} {o : Oper} (ho : o.op = .index t x i) (ht : isStrTy P t = true) (hx : opdOK fm x y = true)
    (hi : opdOK fm i z = true) (hs : SlR fm Z β a s) (h : WR fm Z β objs w0 w) (hy : s.ev y = vp (.str b)) (hz : (s.ev z).int? = some n) (h0 : 0 ≤ n) (hc : b[n.toNat]? = some c) :
    OpS fm Z β w0 ((execOp a.eval o).run P w) objs (vi .u8 c.toNat) := by
  have h1 := opdOK_AR hx hs
  rw [hy] at h1
  have h1 := h1.pr.str_inv
  obtain ⟨k, h2⟩ := AV.int?_inv (opdOK_AR hi hs) hz
  have hu : P.underlying t = some .string := by
    unfold isStrTy at ht
    split at ht
    · assumption
    · cases ht
  refine OpS.same (x := .int .u8 c.toNat) h ?_ (.s (.c (.p .int)))
  simp [execOp, ho, h1, h2, Instr.index, asIntOf, run_underlying hu, h0, hc]

theorem run_equal_nil {t e : TypeId} {ad : Addr} {n cap : Nat} (ht : P.underlying t = some (.slice e)) : (Op.equal t (.slice (some ad) n cap) (.slice none 0 0)).run P w = .ok false w := by
  have h1 : ∀ d, (Op.equalIn (d + 1) t (.slice (some ad) n cap) (.slice none 0 0)).run P w = .ok false w := by
    intro d
    simp only [Op.equalIn, Sem.run_bind, run_underlying ht, Result.andThen_ok, Sem.run_pure]
  exact h1 9999

theorem sound_isNil {op : BinOp} {t t' : TypeId} {x : Operand} {neg : Bool} {ad : Addr} {n cap : Nat} {o : Oper} (ho : o.op = .binOp op t x (.const (.slice none 0 0)) t')
    (hop : op = if neg then .neq else .eql) (ht : (sliceTy P t).isSome = true) (h : WR fm Z β objs w0 w) (hx : a.eval x = .slice (some ad) n cap) :
    OpS fm Z β w0 ((execOp a.eval o).run P w) objs (vb neg) := by
  obtain ⟨e, he⟩ := Option.isSome_iff_exists.1 ht
  have hu := sliceTy_spec he
  refine OpS.same (x := .bool neg) h ?_ (.s (.c (.p .bool)))
  have hg : ∀ op' t y z, (eqGuard op' t y z (.slice (some ad) n cap) (.slice none 0 0)).run P w = .ok () w := by
    intro op' t y z
    unfold eqGuard
    split <;> simp
  have hb : (binOp op t (.slice (some ad) n cap) (.slice none 0 0)).run P w = .ok (.bool neg) w := by
    cases neg <;> simp only [Bool.false_eq_true, if_true, if_false] at hop <;> subst hop <;> simp only [binOp, Sem.run_bind, run_equal_nil hu, Result.andThen_ok, Sem.run_pure] <;> rfl
  have hc : a.eval (.const (.slice none 0 0)) = .slice none 0 0 := rfl
  simp [execOp, ho, hx, hc, hg, hb]

theorem allSome_bytes : ∀ {ys : List (List C)} {ns : List Int}, allSome (ys.map byteOf) = some ns → ns.length = ys.length ∧ ∀ (i : Nat) (n : Int), ns[i]? = some n → ys[i]? = some [.p (.int .u8 n)] := by
  intro ys ns h
  obtain ⟨h1, h2⟩ := allSome_get h
  refine ⟨h1, fun i n hi => ?_⟩
  obtain ⟨c, hc, hb⟩ := h2 i n hi
  unfold byteOf at hb
  split at hb
  · cases hb; exact hc
  · cases hb

theorem sound_toStr {src dst : TypeId} {x : Operand} {y : Opd} {ys : List (List C)} {ns : List Int} {o : Oper} (ho : o.op = .convert src dst x) (h0 : bytesTy P src = true) (h1 : isStrTy P dst = true)
    (hx : opdOK fm x y = true) (hs : SlR fm Z β a s) (h : WR fm Z β objs w0 w) (hy : sliceElems objs 1 (s.ev y) = some ys) (hn : allSome (ys.map byteOf) = some ns) :
    OpS fm Z β w0 ((execOp a.eval o).run P w) objs (vp (.str (strOfNums ns))) := by
  have g1 := opdOK_AR hx hs
  obtain ⟨ad, cap, he, _, hcases⟩ := sliceElems_mem g1 h hy
  obtain ⟨hl, hb⟩ := allSome_bytes hn
  have hd : P.underlying dst = some .string := by
    unfold isStrTy at h1
    split at h1
    · assumption
    · cases h1
  obtain ⟨e, hsrc, hu8⟩ : ∃ e, P.underlying src = some (.slice e) ∧ P.underlying e = some (.int .u8) := by
    unfold bytesTy at h0
    split at h0
    · rename_i e hq
      simp only [Bool.and_eq_true] at h0
      have h0 := h0.1
      split at h0
      · rename_i hq2; exact ⟨e, hq, hq2⟩
      · cases h0
    · cases h0
  refine OpS.same (x := .string (strOfNums ns)) h ?_ (.s (.c (.p .str)))
  rcases hcases with ⟨rfl, rfl⟩ | ⟨q, rfl, hc⟩
  · have : ns = [] := by simpa using hl
    subst this
    have := run_convert_bytes_nil (P := P) w src e hsrc hu8 0 cap dst hd
    simp only [List.length_nil] at he
    simp [execOp, ho, he, this]
    rfl
  · have hlc : (loadCells q ys.length).run P w = .ok (ns.map (Value.int .u8)).toArray w := by
      have := run_loadCells_list (P := P) w q (ns.map (Value.int .u8)) (fun j v hj => by
        rw [List.getElem?_map] at hj
        cases hnj : ns[j]? with
        | none => simp [hnj] at hj
        | some n =>
          simp only [hnj, Option.map_some, Option.some.injEq] at hj
          subst hj
          obtain ⟨u, hu1, hu2⟩ := hc j 0 _ _ (hb j n hnj) rfl
          have := hu2.p_inv.int_inv
          subst this
          simpa using hu1)
      simpa [hl] using this
    have hrun : (convert src dst (.slice (some q) ys.length cap)).run P w = .ok (.string (strOfNums ns)) w := by
      rw [run_convert_bytes_string w src dst e _ ys.length cap hsrc hu8 hd, run_bytesToString w _ ys.length cap ns hlc, foldl_push_bytes]
      simp [strOfNums, ByteArray.empty, ByteArray.emptyWithCapacity]
      rfl
    simp [execOp, ho, he, hrun]

/-! Maps. -/

theorem mapKeyOK_spec {t : TypeId} {str : Option IntKind} (h : mapKeyOK P t str = true) : ∃ k e d, P.underlying t = some (.map k e) ∧ P.underlying k = some d ∧
    ((∃ j, str = some j ∧ d = .int j) ∨ (str = none ∧ d = .string)) := by
  unfold mapKeyOK at h
  split at h
  · rename_i k e hq
    split at h
    · rename_i j hj; exact ⟨k, e, _, hq, hj, .inl ⟨j, by simpa using h, rfl⟩⟩
    · rename_i hj; exact ⟨k, e, _, hq, hj, .inr ⟨by simpa using h, rfl⟩⟩
    · cases h
  · cases h

theorem keyIs_key {str : Option IntKind} {d : TypeDesc} {pk : PC} {kv : Value} (hd : (∃ j, str = some j ∧ d = .int j) ∨ (str = none ∧ d = .string)) (hk : keyIs str pk = true) (hv : keyVal pk = some kv) :
    MapKept.IsKey d kv := by
  rcases hd with ⟨j, rfl, rfl⟩ | ⟨rfl, rfl⟩ <;> cases pk <;> simp_all [keyIs, keyVal] <;> subst hv <;> simp_all [MapKept.IsKey]

theorem sameNow_keys {str : Option IntKind} {d : TypeDesc} {p q : PC} {pv qv : Value} {r : Bool} (hd : (∃ j, str = some j ∧ d = .int j) ∨ (str = none ∧ d = .string)) (hp : keyIs str p = true) (hq : keyIs str q = true)
    (hpv : keyVal p = some pv) (hqv : keyVal q = some qv) (h : keyEq p q = some r) : Instr.sameNow d pv qv = some r := by
  rcases hd with ⟨j, rfl, rfl⟩ | ⟨rfl, rfl⟩ <;> cases p <;> cases q <;> simp_all [keyIs, keyVal, keyEq] <;> subst hpv <;> subst hqv <;> simp_all [Instr.sameNow]

theorem findRow_spec {str : Option IntKind} {d : TypeDesc} {pk : PC} {kv : Value} {sz : Nat} (hd : (∃ j, str = some j ∧ d = .int j) ∨ (str = none ∧ d = .string)) (hp : keyIs str pk = true) (hpv : keyVal pk = some kv) :
    ∀ (es : List MapEntry) (rows : List (List C)) (i : Nat) (r : Option (Nat × List C)), es.length = rows.length → (∀ (j : Nat) (x : List C), rows[j]? = some x → ∃ e, es[j]? = some e ∧ EntR fm Z β sz e x) →
      findRow str pk rows i = some r → (r = none ∧ Instr.findNow d kv es i = some none) ∨
        (∃ j vs e k', r = some (i + j, vs) ∧ rows[j]? = some (.p k' :: vs) ∧ es[j]? = some e ∧ EntR fm Z β sz e (.p k' :: vs) ∧ e.key = kv ∧ Instr.findNow d kv es i = some (some (i + j, e.val)))
  | [], [], i, r, _, _, h => by
    simp only [findRow, Option.some.injEq] at h
    subst h
    exact .inl ⟨rfl, rfl⟩
  | [], _ :: _, _, _, hl, _, _ => by simp at hl
  | _ :: _, [], _, _, hl, _, _ => by simp at hl
  | e :: es, x :: rows, i, r, hl, hr, h => by
    obtain ⟨e', he', hx⟩ := hr 0 x rfl
    simp only [List.getElem?_cons_zero, Option.some.injEq] at he'
    subst he'
    obtain ⟨k', vs, sv, rfl, hkv, hmv, hsv⟩ := hx
    simp only [findRow] at h
    split at h
    · rename_i hk'
      split at h
      · rename_i heq
        have hs := sameNow_keys hd hp hk' hpv hkv heq
        simp only [Option.some.injEq] at h
        subst h
        refine .inr ⟨0, vs, e, k', rfl, rfl, rfl, ⟨k', vs, sv, rfl, hkv, hmv, hsv⟩, ?_, by simp [Instr.findNow, hs]⟩
        have hik := keyIs_key hd hp hpv
        have hik' := keyIs_key hd hk' hkv
        obtain ⟨r, h1, h2⟩ := MapKept.sameNow_of_keys hik hik'
        rw [hs] at h1
        cases h1
        exact (h2.1 rfl).symm
      · rename_i heq
        have hs := sameNow_keys hd hp hk' hpv hkv heq
        rcases findRow_spec hd hp hpv es rows (i + 1) r (by simpa using hl) (fun j x hj => hr (j + 1) x (by simpa using hj)) h with ⟨rfl, h1⟩ | ⟨j, vs', e', k'', h1, h2, h3, h4, h5, h6⟩
        · exact .inl ⟨rfl, by simp [Instr.findNow, hs, h1]⟩
        · exact .inr ⟨j + 1, vs', e', k'', by rw [h1, Nat.add_right_comm, Nat.add_assoc], by simpa using h2, by simpa using h3, h4, h5, by simp only [Instr.findNow, hs]; rw [h6, Nat.add_right_comm, Nat.add_assoc]⟩
      · cases h
    · cases h

theorem zeroSV_spec {t : TypeId} {agg : Bool} {zero : List C} {sv : SV} (h : zeroSV P t agg zero = true) (hm : mapVal (if agg then zero.length + 1 else 0) zero = some sv) :
    ∃ z, (∀ w, (zeroValue t).run P w = .ok z w) ∧ SR fm Z β z sv := by
  unfold zeroSV at h
  split at h
  · rename_i i hi
    split at h
    · rename_i z hz
      refine ⟨z, fun w => by simp [zeroValue, typeInfo, hi, hz], ?_⟩
      cases agg with
      | true =>
        simp only [if_true] at h hm
        simp only [mapVal, if_true, Option.some.injEq] at hm
        subst hm
        split at h
        · rename_i vs
          obtain ⟨h1, h2⟩ := eqConsts_VR (fm := fm) (Z := Z) (β := β) h
          refine .agg (by simpa using h1) fun j c hj => ?_
          obtain ⟨v, h3, h4⟩ := h2 j c hj
          have : vs.getD j undef = v := by
            have : vs[j]? = some v := by simpa using h3
            simp [this]
          rw [this]; exact h4
        · cases h
      | false =>
        simp only [Bool.false_eq_true, if_false] at h hm
        split at h
        · rename_i c
          simp only [mapVal, Option.some.injEq] at hm
          subst hm
          exact .c (eqConst_VR h)
        · cases h
    · cases h
  · cases h

theorem commaV_AR {v : Value} {x : SV} (comma ok : Bool) (h : SR fm Z β v x) : AR fm Z β (if comma then .tuple #[v, .bool ok] else v) (commaV comma x ok) := by
  cases comma
  · exact .s h
  · refine .tup rfl fun j y hj => ?_
    cases j with
    | zero => simp at hj; subst hj; exact h
    | succ j =>
      cases j with
      | zero => simp at hj; subst hj; exact .c (.p .bool)
      | succ j => simp at hj

theorem map_obj {o u r : Nat} {ob : Obj} (h : WR fm Z β objs w0 w) (ho : objs.m o u = some ob) (hβ : β o u = some (.map r)) :
    w0.heap.size ≤ r ∧ ∃ es clk, w.heap[r]? = some (.map es clk) ∧ es.size = ob.elems.length ∧ ∀ (i : Nat) (x : List C), ob.elems[i]? = some x → ∃ e, es[i]? = some e ∧ EntR fm Z β ob.sz e x := by
  have := h.ho o u ob ho
  unfold OR at this
  simpa [hβ] using this

theorem sound_lkp {t : TypeId} {x k : Operand} {y z : Opd} {str : Option IntKind} {comma agg : Bool} {zero : List C} {q u : Nat} {pk : PC} {ob : Obj} {r : Option (Nat × List C)} {sv : SV} {o : Oper}
    (ho : o.op = .lookup t x k comma) (ht : mapKeyOK P t str = true) (hx : opdOK fm x y = true) (hk : opdOK fm k z = true) {e : TypeId} (he : mapElem P t = some e) (hz : zeroSV P e agg zero = true)
    (hs : SlR fm Z β a s) (h : WR fm Z β objs w0 w) (hy : s.ev y = .s (.c (.mp q u))) (hpk : s.ev z = vp pk) (hob : objs.m q u = some ob) (hik : keyIs str pk = true) (hf : findRow str pk ob.elems 0 = some r)
    (hr : match (generalizing := false) r with | some (_, vs) => mapVal ob.sz vs = some sv | none => mapVal (if agg then zero.length + 1 else 0) zero = some sv) :
    OpS fm Z β w0 ((execOp a.eval o).run P w) objs (commaV comma sv r.isSome) := by
  have g1 := opdOK_AR hx hs
  rw [hy] at g1
  obtain ⟨r', hr1, hr2⟩ := g1.vr.mp_inv
  have g2 := opdOK_AR hk hs
  rw [hpk] at g2
  obtain ⟨kt, et, d, hu, hd, hdd⟩ := mapKeyOK_spec ht
  have het : et = e := by simp [mapElem, hu] at he; exact he
  subst het
  obtain ⟨kv, hkv⟩ : ∃ kv, keyVal pk = some kv ∧ a.eval k = kv := by
    cases pk with
    | int j n => exact ⟨_, rfl, g2.pr.int_inv⟩
    | str b => exact ⟨_, rfl, g2.pr.str_inv⟩
    | bool b => cases str <;> simp [keyIs] at hik
    | sl xs => cases str <;> simp [keyIs] at hik
    | pref cs => cases str <;> simp [keyIs] at hik
    | clo f cs => cases str <;> simp [keyIs] at hik
  obtain ⟨hkv, hke⟩ := hkv
  have hkey := keyIs_key hdd hik hkv
  obtain ⟨_, es, clk, hh, hsize, hrows⟩ := map_obj h hob hr2
  have hspec := findRow_spec (fm := fm) (Z := Z) (β := β) (sz := ob.sz) hdd hik hkv es.toList ob.elems 0 r (by simpa using hsize) (fun j x hj => by simpa using hrows j x hj) hf
  rcases hspec with ⟨rfl, hfn⟩ | ⟨j, vs, e, k', rfl, _, _, hent, _, hfn⟩
  · obtain ⟨zv, hzv, hsv⟩ := zeroSV_spec (fm := fm) (Z := Z) (β := β) hz hr
    refine OpS.same (x := if comma then .tuple #[zv, .bool false] else zv) h ?_ (commaV_AR comma false hsv)
    have hfk := MapKept.run_findKey (w := w) hd hfn
    simp [execOp, ho, hr1, hke, Instr.lookup, run_underlying hu, MapKept.run_getObj_map hh, MapKept.run_checkKey hd hkey, hfk, hzv]
  · obtain ⟨k'', vs', sv', hxx, _, hmv, hsr⟩ := hent
    simp only [List.cons.injEq] at hxx
    obtain ⟨_, rfl⟩ := hxx
    simp only at hr
    rw [hmv] at hr
    cases hr
    refine OpS.same (x := if comma then .tuple #[e.val, .bool true] else e.val) h ?_ (commaV_AR comma true hsr)
    have hfk := MapKept.run_findKey (w := w) hd hfn
    simp [execOp, ho, hr1, hke, Instr.lookup, run_underlying hu, MapKept.run_getObj_map hh, MapKept.run_checkKey hd hkey, hfk]

theorem sound_lenM {c : Go.Call} {y : Opd} {q u : Nat} {ob : Obj} {t : TypeId} {o : Oper} (ho : o.op = .call c) (hc : c.callee = .builtin .len) (ht : c.argTypes[0]? = some t)
    (hu : (mapElem P t).isSome = true) (ha : opdsOK fm c.args.toList [y] = true) (hs : SlR fm Z β a s) (h : WR fm Z β objs w0 w) (hy : s.ev y = .s (.c (.mp q u))) (hob : objs.m q u = some ob) :
    OpS fm Z β w0 ((execOp a.eval o).run P w) objs (vi .i64 ob.elems.length) := by
  obtain ⟨x, hx, hx1⟩ := opds1 ha
  have g1 := opdOK_AR hx1 hs
  rw [hy] at g1
  obtain ⟨r, hr1, hr2⟩ := g1.vr.mp_inv
  have harg : c.args = #[x] := by rw [← hx]
  obtain ⟨e, hse⟩ := Option.isSome_iff_exists.1 hu
  obtain ⟨k, hut⟩ : ∃ k, P.underlying t = some (.map k e) := by
    unfold mapElem at hse
    split at hse
    · rename_i k' e' hq; cases hse; exact ⟨_, hq⟩
    · cases hse
  obtain ⟨_, es, clk, hh, hsize, _⟩ := map_obj h hob hr2
  refine OpS.same (x := .int .i64 ob.elems.length) h ?_ (.s (.c (.p .int)))
  simp [execOp, ho, resolve, hc, harg, invoke, builtin, Builtin.len_, ht, run_underlying hut, hr1, goInt, MapKept.run_getObj_map hh, hsize]

theorem sound_mkM {t : TypeId} {o : Oper} (id sz : Nat) (ho : o.op = .makeMap t none) (h : WR fm Z β objs w0 w) :
    OpS fm Z β w0 ((execOp a.eval o).run P w) (newObj objs id sz []).1 (.s (.c (.mp id (newObj objs id sz []).2))) := by
  obtain ⟨β', r1, r2, r3⟩ := h.addObj (objs1 := objs) (fun _ _ _ h => h) rfl id { sz := sz, elems := [], frozen := false } (.map w.heap.size) ((Below.refl _ w).alloc h.below.size (.map #[] 0)) (fun b hb => by
      refine heap_alloc_old w _ b ?_
      rcases hb with ⟨c, hb⟩ | ⟨o', v', ob1, hb1, hb2⟩
      · exact h.zlt hb
      · exact ((h.ho o' v' ob1 hb1).block hb2).2) (fun β' hb hl => by
      unfold OR; rw [hl]
      exact ⟨h.below.size, #[], 0, heap_alloc_new w _, rfl, fun i x hi => by simp at hi⟩) (fun b hh o' v' ob1 hb1 hb2 => by
      simp only [Loc.place, Option.some.injEq] at hh
      have := ((h.ho o' v' ob1 hb1).block hb2).2
      omega)
  refine ⟨.map (some w.heap.size), w.alloc (.map #[] 0), Z, β', .inl ?_, ZExt.refl _ _, r1, r2, .s (.c (.mp r3))⟩
  simp [execOp, ho, Instr.makeMap]

/-- A map that is written: its entries, and its rows, are others now. -/
theorem WR.setMap (h : WR fm Z β objs w0 w) {o v r : Nat} {ob : Obj} (ho : objs.m o v = some ob) (hl : β o v = some (.map r))
    (elems : List (List C)) (es : Array MapEntry) (clk : Nat) (hsz : es.size = elems.length)
    (hr : ∀ (i : Nat) (x : List C), elems[i]? = some x → ∃ e, es[i]? = some e ∧ EntR fm Z β ob.sz e x) :
    WR fm Z β (objs.set o v (some { ob with elems := elems })) w0 { w with heap := w.heap.setIfInBounds r (.map es clk) } := by
  obtain ⟨h2, es0, clk0, h3, h4, h5⟩ := map_obj h ho hl
  obtain ⟨hs1, hs2⟩ := MapKept.heap_set (o' := .map es clk) h3
  have hm : ∀ q u, (objs.set o v (some { ob with elems := elems })).m q u = if q = o ∧ u = v then some { ob with elems := elems } else objs.m q u := fun _ _ => rfl
  have hzr : Z r = none := by
    cases hz : Z r with
    | none => rfl
    | some c =>
      obtain ⟨e, f, hzz⟩ := h.hz r c hz
      rw [h3] at hzz; cases hzz
  refine ⟨h.below.trans ⟨rfl, rfl, rfl, by simp, fun k hk => hs2 k (by omega)⟩, ?_, ?_, ?_, ?_⟩
  · intro b' c hb'
    have hbb : b' ≠ r := by rintro rfl; rw [hzr] at hb'; cases hb'
    show ∃ e f, (w.heap.setIfInBounds r (.map es clk))[b']? = _
    rw [hs2 b' hbb]; exact h.hz b' c hb'
  · intro o' v' ob' ho'
    rw [hm] at ho'
    by_cases hoo : o' = o ∧ v' = v
    · rw [if_pos hoo] at ho'
      obtain ⟨rfl, rfl⟩ := hoo
      cases ho'
      unfold OR
      simp only [hl]
      exact ⟨h2, es, clk, hs1, hsz, hr⟩
    · rw [if_neg hoo] at ho'
      refine (h.ho o' v' ob' ho').keep (BExt.refl _) (fun _ _ h => h) fun b' hb' => ⟨rfl, ?_⟩
      refine hs2 b' ?_
      rintro rfl
      exact hoo (h.inj _ _ _ _ _ _ _ ho' ho hb' (anyOf_map hl))
  · intro o1 v1 ob1 o2 v2 ob2 b1 g1 g2 k1 k2
    have key : ∀ o1 v1 ob1, (objs.set o v (some { ob with elems := elems })).m o1 v1 = some ob1 → ∃ ob2, objs.m o1 v1 = some ob2 := by
      intro o1 v1 ob1 g
      rw [hm] at g
      by_cases hoo : o1 = o ∧ v1 = v
      · obtain ⟨rfl, rfl⟩ := hoo; exact ⟨ob, ho⟩
      · rw [if_neg hoo] at g; exact ⟨ob1, g⟩
    obtain ⟨x1, y1⟩ := key _ _ _ g1
    obtain ⟨x2, y2⟩ := key _ _ _ g2
    exact h.inj _ _ _ _ _ _ _ y1 y2 k1 k2
  · exact h.hβ

theorem keyVal_of {v : Value} {pk : PC} {str : Option IntKind} (hik : keyIs str pk = true) (h : PR fm Z v pk) : keyVal pk = some v := by
  cases pk with
  | int j n => rw [h.int_inv]; rfl
  | str b => rw [h.str_inv]; rfl
  | bool b => cases str <;> simp [keyIs] at hik
  | sl xs => cases str <;> simp [keyIs] at hik
  | pref cs => cases str <;> simp [keyIs] at hik
  | clo f cs => cases str <;> simp [keyIs] at hik

theorem sound_updM {t : TypeId} {x k v : Operand} {y z u : Opd} {str : Option IntKind} {q i0 : Nat} {pk : PC} {ob : Obj} {r : Option (Nat × List C)} {sv : SV} {o : Oper}
    (ho : o.op = .mapUpdate t x k v) (ht : mapKeyOK P t str = true) (hx : opdOK fm x y = true) (hk : opdOK fm k z = true) (hv : opdOK fm v u = true)
    (hs : SlR fm Z β a s) (h : WR fm Z β objs w0 w) (hy : s.ev y = .s (.c (.mp q i0))) (hpk : s.ev z = vp pk) (hsv : s.ev u = .s sv) (hob : objs.m q i0 = some ob) (hik : keyIs str pk = true)
    (hmv : mapVal ob.sz sv.cells = some sv) (hf : findRow str pk ob.elems 0 = some r) :
    OpS fm Z β w0 ((execOp a.eval o).run P w)
      (objs.set q i0 (some { ob with elems := match (generalizing := false) r with | some (i, _) => ob.elems.set i (.p pk :: sv.cells) | none => ob.elems ++ [.p pk :: sv.cells] })) (.tup []) := by
  have g1 := opdOK_AR hx hs
  rw [hy] at g1
  obtain ⟨r', hr1, hr2⟩ := g1.vr.mp_inv
  have g2 := opdOK_AR hk hs
  rw [hpk] at g2
  have g3 := opdOK_AR hv hs
  rw [hsv] at g3
  obtain ⟨kt, et, d, hu, hd, hdd⟩ := mapKeyOK_spec ht
  have hkv := keyVal_of hik g2.pr
  have hkey := keyIs_key hdd hik hkv
  obtain ⟨_, es, clk, hh, hsize, hrows⟩ := map_obj h hob hr2
  have hspec := findRow_spec (fm := fm) (Z := Z) (β := β) (sz := ob.sz) hdd hik hkv es.toList ob.elems 0 r (by simpa using hsize) (fun j x hj => by simpa using hrows j x hj) hf
  rcases hspec with ⟨rfl, hfn⟩ | ⟨j, vs, e, k', rfl, hrow, hes, hent, hkeq, hfn⟩
  · have hfk := MapKept.run_findKey (w := w) hd hfn
    refine ⟨undef, { w with heap := w.heap.setIfInBounds r' (.map (es.push { key := a.eval k, val := a.eval v, born := clk }) (clk + 1)) }, Z, β, .inr ⟨?_, rfl⟩, ZExt.refl _ _, BExt.refl _,
      h.setMap hob hr2 _ _ _ (by simp [hsize]) ?_, .tup rfl fun j x hj => by simp at hj⟩
    · simp [execOp, ho, hr1, Instr.mapUpdate, run_underlying hu, MapKept.run_getObj_map hh, MapKept.run_checkKey hd hkey, hfk, MapKept.run_setObj_map _ hh]
    · intro i x hi
      rw [List.getElem?_append] at hi
      split at hi
      · rename_i hlt
        obtain ⟨e, h1, h2⟩ := hrows i x hi
        refine ⟨e, ?_, h2⟩
        rw [Array.getElem?_push, if_neg (by omega)]; exact h1
      · rename_i hlt
        have hi0 : i - ob.elems.length = 0 := by
          rcases Nat.eq_zero_or_pos (i - ob.elems.length) with h | h
          · exact h
          · rw [List.getElem?_eq_none (by simp; omega)] at hi; cases hi
        rw [hi0] at hi
        simp only [List.getElem?_cons_zero, Option.some.injEq] at hi
        subst hi
        refine ⟨_, by rw [Array.getElem?_push, if_pos (by omega)], pk, sv.cells, sv, rfl, hkv, hmv, g3.sv⟩
  · simp only [Nat.zero_add] at hfn
    have hfk := MapKept.run_findKey (w := w) hd hfn
    have hj : es[j]? = some e := by simpa using hes
    have hstay := MapKept.run_keyThatStays (P := P) (w := w) hkey
    refine ⟨undef, { w with heap := w.heap.setIfInBounds r' (.map (es.modify j fun e => { e with key := a.eval k, val := a.eval v }) clk) }, Z, β, .inr ⟨?_, rfl⟩, ZExt.refl _ _, BExt.refl _,
      h.setMap hob hr2 _ _ _ (by simp [hsize]) ?_, .tup rfl fun j x hj => by simp at hj⟩
    · simp [execOp, ho, hr1, Instr.mapUpdate, run_underlying hu, MapKept.run_getObj_map hh, MapKept.run_checkKey hd hkey, hfk, hj, hkeq, hstay, MapKept.run_setObj_map _ hh]
    · intro i x hi
      simp only [Nat.zero_add] at hi
      rw [List.getElem?_set] at hi
      rw [Array.getElem?_modify]
      by_cases hij : j = i
      · subst hij
        rw [if_pos rfl] at hi ⊢
        have hlt := lt_of_get hrow
        rw [if_pos hlt] at hi
        simp only [Option.some.injEq] at hi
        subst hi
        exact ⟨_, by rw [hj]; rfl, pk, sv.cells, sv, rfl, hkv, hmv, g3.sv⟩
      · rw [if_neg hij] at hi ⊢
        exact hrows i x hi

theorem sound_mkfO {fn : Fn} {first captured : Array Operand} {g : Nat} {caps : List Opd} {sv : List SV} {pv : List PSV} {l : List PC} {o : Oper} (ho : o.op = .makeFunc fn first captured) (hf : fn = .func (fm g))
    (h0 : first.size = 0) (hc : opdsOK fm captured.toList caps = true) (hs : SlR fm Z β a s) (h : WR fm Z β objs w0 w) (h1 : allSome (caps.map fun x => (s.ev x).sv1?) = some sv)
    (h2 : allSome (sv.map (purSV objs)) = some pv) (h3 : allSome (pv.map PSV.cell?) = some l) :
    OpS fm Z β w0 ((execOp a.eval o).run P w) (fzIds (sv.flatMap (rchSV objs)) objs) (vp (.clo g l)) := by
  obtain ⟨Zf, hfz⟩ := FZ.exists_ h (sv.flatMap (rchSV objs))
  obtain ⟨hl1, hg1⟩ := allSome_get h1
  obtain ⟨hl2, hg2⟩ := allSome_get h2
  obtain ⟨hl3, hg3⟩ := allSome_get h3
  obtain ⟨hlen, hops⟩ := opdsOK_AR hc hs
  have hZf : ZExt w0.heap.size Z Zf := ⟨hfz.old, fun b c hb => (hfz.only b c hb).imp id fun ⟨o, u, ob, _, q1, q2⟩ => ((h.ho o u ob q1).block (blockOf_any q2)).1⟩
  have hfirst : first = #[] := Array.eq_empty_of_size_eq_zero h0
  refine ⟨.func (.func (fm g)) #[] (captured.map a.eval), w, Zf, β, .inl ?_, hZf, BExt.refl _, hfz.wr h, .s (.c (.p (.clo ?_ fun j c hj => ?_)))⟩
  · simp [execOp, ho, hf, hfirst, Instr.makeFunc]
  · have : captured.size = captured.toList.length := by simp
    simp; omega
  · obtain ⟨p, hp1, hp2⟩ := hg3 j c hj
    obtain ⟨x, hx1, hx2⟩ := hg2 j p hp1
    obtain ⟨y, hy1, hy2⟩ := hg1 j x hx1
    obtain ⟨z, hz1, hz2⟩ := hops j y hy1
    have hsr : SR fm Z β (a.eval z) x := by
      unfold AV.sv1? at hy2
      split at hy2
      · rename_i x' he; cases hy2; rw [he] at hz2; exact hz2.sv
      · cases hy2
    have hup := purSV_up hfz h β hsr hx2 fun o ho => List.mem_flatMap.2 ⟨x, List.mem_of_getElem? hx1, ho⟩
    have hpc : p = .c c := by
      unfold PSV.cell? at hp2
      split at hp2
      · cases hp2; rfl
      · cases hp2
    subst hpc
    have hz1' : captured[j]? = some z := by simpa using hz1
    have : (captured.map a.eval).getD j undef = a.eval z := by simp [Array.getD_eq_getD_getElem?, hz1']
    rw [this]
    exact hup.vr.p_inv
end Go.Av
