/- A part of the proof (own method: an abstract machine). No condition. -/
import Derived.Test.YthdilnjdkniofaaGreatCvB
import Derived.Test.YthdilnjdkniofaaGreatCvD
namespace Go.Av
open Go
variable {ext : Calls0}

/-- A gate of a circuit. -/
structure GA where
  kind : Int
  block : Int
  ins : List Int
instance : Inhabited GA := ⟨⟨0, 0, []⟩⟩
def encZ (l : List Int) : List (List PC) := l.map fun x => [.int .i64 x]
def GA.row (g : GA) : List PC := [.int .i64 g.kind, .int .i64 g.block, .sl (encZ g.ins)]
/-- A circuit as a struct. -/
def crc (G : List GA) : List PC := [.sl (G.map GA.row)]
theorem encZ_len (l : List Int) : (encZ l).length = l.length := List.length_map ..
theorem encZ_get {l : List Int} {k : Nat} {x : Int} (h : l[k]? = some x) : (encZ l)[k]? = some [.int .i64 x] := by unfold encZ; rw [List.getElem?_map, h]; rfl

/-- The choices of a block, one less. -/
def pl (S : List (List FA)) (b : Nat) : Nat := (S.getD b []).length
/-- The union of the sets of the first k inputs. -/
def orW (W : List Nat) (l : List Int) : Nat → Nat
  | 0 => 0
  | k + 1 => orW W l k ||| W.getD (l.getD k 0).toNat 0
/-- The set of a gate. -/
def gW (W : List Nat) (g : GA) : Nat := if g.kind = 2 then orW W g.ins g.ins.length ||| 2 ^ g.block.toNat else orW W g.ins g.ins.length
/-- The sets of the first gates. -/
def words (G : List GA) : Nat → List Nat
  | 0 => []
  | i + 1 => words G i ++ [gW (words G i) (G.getD i default)]
theorem words_len (G : List GA) : ∀ i, (words G i).length = i
  | 0 => rfl
  | i + 1 => by simp [words, words_len G i]
/-- What a valid circuit asks of a gate. -/
structure gOK (S : List (List FA)) (i : Nat) (W : List Nat) (g : GA) : Prop where
  ins : ∀ (k : Nat) (x : Int), g.ins[k]? = some x → 0 ≤ x ∧ x < i
  kd : 0 ≤ g.kind ∧ g.kind ≤ 5
  cs : g.kind = 2 → 0 ≤ g.block ∧ g.block < S.length ∧ g.ins.length = pl S g.block.toNat + 1 ∧ (orW W g.ins g.ins.length).testBit g.block.toNat = false
  nb : g.kind ≠ 2 → g.block = 0
  leaf : g.kind = 0 ∨ g.kind = 1 → g.ins.length = 0
  dj : g.kind = 3 ∨ g.kind = 4 → ∀ k, k < g.ins.length → orW W g.ins k &&& W.getD (g.ins.getD k 0).toNat 0 = 0
  nt : g.kind = 5 → g.ins.length = 1

theorem Ln.or {L a c : Nat} (ha : Ln L a) (hc : Ln L c) : Ln L (a ||| c) := by
  refine ⟨Nat.or_lt_two_pow (n := 64) ha.1 hc.1, ?_⟩
  rcases ha.2 with h | ⟨h, h2⟩
  · exact .inl h
  · rcases hc.2 with h3 | ⟨_, h3⟩
    · omega
    · exact .inr ⟨h, by rw [h2, h3]; rfl⟩
theorem Ln.orW {L : Nat} {W : List Nat} (hL : Ln L 0) (h : ∀ j, Ln L (W.getD j 0)) (l : List Int) : ∀ k, Ln L (orW W l k)
  | 0 => hL
  | k + 1 => (Ln.orW hL h l k).or (h _)

theorem endsR2 {t u : Nat} {s : St} {v w : SV} {P : Objs → AV → Prop} (h : s.slots t = .s v) (h2 : s.slots u = .s w) (hp : P s.objs (.tup [v, w])) : EndsR [.tmp t, .tmp u] P .ret s := by
  refine ⟨.inr rfl, .tup [v, w], ?_, hp⟩
  simp only [resultsA, List.map, resOf, h, h2, AV.sv?, allSome]
theorem purK1 {o : Objs} {k : IntKind} {oi ver n : Nat} {xs : List Nat} (hm : o.is oi ver k xs) (hl : xs.length = n) : purSV o (.c (.rs oi ver 1 0 n)) = some (.c (.sl (encK k xs))) := by
  have := purK hm (n := n) (by omega)
  rw [List.take_of_length_le (by omega)] at this
  exact this
theorem pur2 {o : Objs} {a c : SV} {p q : PSV} (h1 : purSV o a = some p) (h2 : purSV o c = some q) : allSome ([a, c].map (purSV o)) = some [p, q] := by
  show allSome [purSV o a, purSV o c] = _
  rw [h1, h2]; rfl

theorem purA2 {o : Objs} {c : C} {p q : PC} (h : purC o purDepth c = some p) : allSome ([SV.c c, SV.c (.p q)].map (purSV o)) = some [.c p, .c q] := by
  have e : purSV o (.c c) = some (.c p) := by show (purC o purDepth c).map PSV.c = _; rw [h]; rfl
  show allSome [purSV o (.c c), some (.c q)] = _
  rw [e]; rfl
/-- What validGate gives. -/
def VGP (o : Objs) (base L word : Nat) (t : Bool) (o' : Objs) (r : AV) : Prop :=
  (∀ o2 v2, ¬ (o2 = base ∧ v2 = o.nv base) → o'.m o2 v2 = o.m o2 v2) ∧ (∀ o2, o'.nv o2 = if o2 = base then o.nv base + 1 else o.nv o2) ∧
  ((t = false ∧ ∃ x, r = .tup [x, .c (.p (.bool false))]) ∨ (t = true ∧ r = .tup [.c (.rs base (o.nv base) 1 0 L), .c (.p (.bool true))] ∧ o'.is base (o.nv base) .u64 (wd L word)))

set_option maxHeartbeats 4000000 in
theorem vgate_ok {S : List (List FA)} (hS : S.length ≤ 40) (hSb : ∀ (j : Nat) (b : List FA), S[j]? = some b → b.length ≤ 40) {i n : Nat} {W : List Nat} {g : GA} (hi : i < n) (hn : n ≤ 65536) (hg60 : g.ins.length ≤ 60) {L : Nat} (hLe : L = (S.length + 63) / 64) (hW : ∀ j, Ln L (W.getD j 0))
    {o : Objs} {base oi ov : Nat} (hoi : oi ≠ base) {X : List (List C)} (hX : o.rws oi ov 1 X)
    (hsup : ∀ j, j < i → ∃ vj, X[j]? = some [.rs base vj 1 0 L] ∧ o.is base vj .u64 (wd L (W.getD j 0)) ∧ vj < o.nv base)
    {t : Bool} (h1 : gOK S i W g → t = true) (h2 : ¬ gOK S i W g → t = false) :
    ∃ o' r, Call env ext 41 base o [.agg ((spc S).map C.p), .agg (g.row.map C.p), .c (.p (.int .i64 (i : Nat))), .c (.rs oi ov 1 0 n)] o' r ∧ VGP o base L (gW W g) t o' r := by
  have hSl : (S.map brow).length = S.length := List.length_map ..
  have hzl := encZ_len g.ins
  have hL0 : Ln L 0 := ⟨by omega, by omega⟩
  have hor := Ln.orW hL0 hW g.ins
  obtain ⟨kind, block, ins⟩ := g
  simp only at hg60 hzl hor
  unfold spc GA.row
  refine Call.walk (env := env) (g := 41) rfl rfl ?_
  (repeat' first | refine st ?_ | refine s2 (fun _ => ?_) (fun _ => ?_) | refine s4 fun _ _ _ _ => ?_ | fail)
  rw [hSl]
  (repeat' first | refine st ?_ | refine s2 (fun _ => ?_) (fun _ => ?_) | refine s4 fun _ _ _ _ => ?_ | fail)
  rename_i o1 g1 g2 g3
  rw [hzl]
  rw [hSl] at g1
  rw [← hLe] at g1 ⊢
  simp only [Nat.add_zero] at g1 g2 g3 ⊢
  generalize hw : o.nv base = w at *
  have hn1 : ∀ (P : Prop), (gOK S i W ⟨kind, block, ins⟩ → P) → ¬ P → t = false := fun P h hp => h2 fun h3 => hp (h h3)
  refine w_loopUp (fun k sl o' => k ≤ ins.length ∧ Hd (∀ (j : Nat) (x : Int), j < k → ins[j]? = some x → 0 ≤ x ∧ x < i) ∧ Hd (kind = 3 ∨ kind = 4 → ∀ j, j < k → orW W ins j &&& W.getD (ins.getD j 0).toNat 0 = 0) ∧
    o'.is base w .u64 (wd L (orW W ins k)) ∧ Hd (∀ o2 v2, ¬ (o2 = base ∧ v2 = w) → o'.m o2 v2 = o.m o2 v2) ∧ Hd (∀ o2, o'.nv o2 = if o2 = base then w + 1 else o.nv o2) ∧
    sl 2 = vn .i64 i ∧ sl 3 = .s (.c (.rs oi ov 1 0 n)) ∧ sl 4 = vp (.pref [.sl (S.map brow)]) ∧ sl 5 = vp (.pref [.int .i64 kind, .int .i64 block, .sl (encZ ins)]) ∧ sl 10 = .s (.c (.rs base w 1 0 L)) ∧
    sl 20 = vs (encZ ins) ∧ sl 21 = vn .i64 ins.length ∧ sl 22 = vn .i64 k) 0 ins.length
    ⟨by omega, ⟨fun j x h => by omega⟩, ⟨fun _ j h => by omega⟩, g1, ⟨g2⟩, ⟨g3⟩, rfl, rfl, rfl, rfl, rfl, rfl, rfl, rfl⟩ (fun i sl o h => h.1) ?_
  clear g1 g2 g3 o1
  rintro k sl o' ⟨hk, hin, hdj, hown, hkm, hkn, s2, s3, s4, s5, s10, s20, s21, s22⟩
  rw [upd8 s2 s3 s4 s5 s10 s20 s21 s22]
  clear s2 s3 s4 s5 s10 s20 s21 s22
  by_cases hki : k < ins.length
  · have hx : ins[k]? = some ins[k] := List.getElem?_eq_getElem hki
    generalize ins[k] = x at hx
    have hxr := encZ_get hx
    by_cases hx0 : x < 0
    · rw [hn1 (0 ≤ x) (fun h => (h.ins k x hx).1) (by omega)]
      clear h1 h2 hn1 hsup hW hor
      (repeat' first | refine st ?_ | refine s2 (fun _ => ?_) (fun _ => ?_) | refine s4 fun _ _ _ _ => ?_ | fail)
      refine r_iaS rfl rfl (by first | with_reducible exact cself _ | exact nlit _) hxr rfl ?_
      (repeat' first | refine st ?_ | refine s2 (fun _ => ?_) (fun _ => ?_) | refine s4 fun _ _ _ _ => ?_ | fail)
      exact endsR2 rfl rfl ⟨by rw [hw]; exact hkm.h, by rw [hw]; exact hkn.h, .inl ⟨rfl, _, rfl⟩⟩
    · by_cases hxi : x < i
      · obtain ⟨m, rfl⟩ := Int.eq_ofNat_of_zero_le (show 0 ≤ x by omega)
        have hm : m < i := by omega
        obtain ⟨vj, e1, e2, e3⟩ := hsup m hm
        have e2 : o'.is base vj .u64 (wd L (W.getD m 0)) := by unfold Objs.is; rw [hkm.h _ _ (by omega)]; exact e2
        have hX' : o'.rws oi ov 1 X := rws_keep hX (hkm.h _ _ (by omega))
        have hm1 := meets_ok (ext := ext) (hor k) (hW m)
        have hr := sadd_ok (ext := ext) (base := base + 100) (hor k) (hW m) hown e2
        have eg : (ins.getD k 0).toNat = m := by rw [List.getD_eq_getElem?_getD, hx]; rfl
        have eo : orW W ins (k + 1) = orW W ins k ||| W.getD m 0 := by simp only [orW]; rw [eg]
        have pm := pur2 (purK1 hown (wd_len _ _)) (purK1 e2 (wd_len _ _))
        have hin' : ∀ (j : Nat) (y : Int), j < k + 1 → ins[j]? = some y → 0 ≤ y ∧ y < i := by
          intro j y hj hy
          by_cases hjk : j < k
          · exact hin.h j y hjk hy
          · have : j = k := by omega
            subst this
            rw [hx] at hy; cases hy; omega
        have fin : ∀ oB : Objs, oB.is base w .u64 (wd L (orW W ins k ||| W.getD m 0)) → (∀ o2 v2, ¬ (o2 = base ∧ v2 = w) → oB.m o2 v2 = o'.m o2 v2) → oB.nv = o'.nv →
            oB.is base w .u64 (wd L (orW W ins (k + 1))) ∧ Hd (∀ o2 v2, ¬ (o2 = base ∧ v2 = w) → oB.m o2 v2 = o.m o2 v2) ∧ Hd (∀ o2, oB.nv o2 = if o2 = base then w + 1 else o.nv o2) :=
          fun oB k1 k2 k3 => ⟨by rw [eo]; exact k1, ⟨fun o2 v2 h => by rw [k2 _ _ h]; exact hkm.h _ _ h⟩, ⟨fun o2 => by rw [k3]; exact hkn.h o2⟩⟩
        by_cases h34 : kind = 3 ∨ kind = 4
        · by_cases hd : orW W ins k &&& W.getD m 0 = 0
          · rw [decide_eq_false (fun h => h hd)] at hm1
            have hdj' : kind = 3 ∨ kind = 4 → ∀ j, j < k + 1 → orW W ins j &&& W.getD (ins.getD j 0).toNat 0 = 0 := by
              intro h j hj
              by_cases hjk : j < k
              · exact hdj.h h j hjk
              · have : j = k := by omega
                subst this
                rw [eg]; exact hd
            clear h1 h2 hn1 hsup hor hin hdj
            rcases h34 with h34 | h34
            · (repeat' first | refine st ?_ | refine s2 (fun _ => ?_) (fun _ => ?_) | refine s4 fun _ _ _ _ => ?_ | fail)
              refine r_iaS rfl rfl (by first | with_reducible exact cself _ | exact nlit _) hxr rfl ?_
              (repeat' first | refine st ?_ | refine s2 (fun _ => ?_) (fun _ => ?_) | refine s4 fun _ _ _ _ => ?_ | fail)
              refine gr_ldF rfl hX' e1 rfl ?_
              (repeat' first | refine st ?_ | refine s2 (fun _ => ?_) (fun _ => ?_) | refine s4 fun _ _ _ _ => ?_ | fail)
              refine r_callS hm1 rfl rfl pm ?_
              (repeat' first | refine st ?_ | refine s2 (fun _ => ?_) (fun _ => ?_) | refine s4 fun _ _ _ _ => ?_ | fail)
              refine gr_ldF rfl hX' e1 rfl ?_
              (repeat' first | refine st ?_ | refine s2 (fun _ => ?_) (fun _ => ?_) | refine s4 fun _ _ _ _ => ?_ | fail)
              refine r_callR hr rfl ?_
              rintro oB r ⟨k1, k2, k3⟩
              (repeat' first | refine st ?_ | refine s2 (fun _ => ?_) (fun _ => ?_) | refine s4 fun _ _ _ _ => ?_ | fail)
              obtain ⟨f1, f2, f3⟩ := fin oB k1 k2 k3
              exact ⟨⟨by omega, ⟨hin'⟩, ⟨hdj'⟩, f1, f2, f3, rfl, rfl, rfl, rfl, rfl, rfl, rfl, rfl⟩, rfl⟩
            · (repeat' first | refine st ?_ | refine s2 (fun _ => ?_) (fun _ => ?_) | refine s4 fun _ _ _ _ => ?_ | fail)
              refine r_iaS rfl rfl (by first | with_reducible exact cself _ | exact nlit _) hxr rfl ?_
              (repeat' first | refine st ?_ | refine s2 (fun _ => ?_) (fun _ => ?_) | refine s4 fun _ _ _ _ => ?_ | fail)
              refine gr_ldF rfl hX' e1 rfl ?_
              (repeat' first | refine st ?_ | refine s2 (fun _ => ?_) (fun _ => ?_) | refine s4 fun _ _ _ _ => ?_ | fail)
              refine r_callS hm1 rfl rfl pm ?_
              (repeat' first | refine st ?_ | refine s2 (fun _ => ?_) (fun _ => ?_) | refine s4 fun _ _ _ _ => ?_ | fail)
              refine gr_ldF rfl hX' e1 rfl ?_
              (repeat' first | refine st ?_ | refine s2 (fun _ => ?_) (fun _ => ?_) | refine s4 fun _ _ _ _ => ?_ | fail)
              refine r_callR hr rfl ?_
              rintro oB r ⟨k1, k2, k3⟩
              (repeat' first | refine st ?_ | refine s2 (fun _ => ?_) (fun _ => ?_) | refine s4 fun _ _ _ _ => ?_ | fail)
              obtain ⟨f1, f2, f3⟩ := fin oB k1 k2 k3
              exact ⟨⟨by omega, ⟨hin'⟩, ⟨hdj'⟩, f1, f2, f3, rfl, rfl, rfl, rfl, rfl, rfl, rfl, rfl⟩, rfl⟩
          · rw [decide_eq_true hd] at hm1
            rw [hn1 _ (fun h => h.dj h34 k hki) (by show ¬ (orW W ins k &&& W.getD (ins.getD k 0).toNat 0 = 0); rw [eg]; exact hd)]
            clear h1 h2 hn1 hsup hor hin hdj
            rcases h34 with h34 | h34
            · (repeat' first | refine st ?_ | refine s2 (fun _ => ?_) (fun _ => ?_) | refine s4 fun _ _ _ _ => ?_ | fail)
              refine r_iaS rfl rfl (by first | with_reducible exact cself _ | exact nlit _) hxr rfl ?_
              (repeat' first | refine st ?_ | refine s2 (fun _ => ?_) (fun _ => ?_) | refine s4 fun _ _ _ _ => ?_ | fail)
              refine gr_ldF rfl hX' e1 rfl ?_
              (repeat' first | refine st ?_ | refine s2 (fun _ => ?_) (fun _ => ?_) | refine s4 fun _ _ _ _ => ?_ | fail)
              refine r_callS hm1 rfl rfl pm ?_
              (repeat' first | refine st ?_ | refine s2 (fun _ => ?_) (fun _ => ?_) | refine s4 fun _ _ _ _ => ?_ | fail)
              exact endsR2 rfl rfl ⟨by rw [hw]; exact hkm.h, by rw [hw]; exact hkn.h, .inl ⟨rfl, _, rfl⟩⟩
            · (repeat' first | refine st ?_ | refine s2 (fun _ => ?_) (fun _ => ?_) | refine s4 fun _ _ _ _ => ?_ | fail)
              refine r_iaS rfl rfl (by first | with_reducible exact cself _ | exact nlit _) hxr rfl ?_
              (repeat' first | refine st ?_ | refine s2 (fun _ => ?_) (fun _ => ?_) | refine s4 fun _ _ _ _ => ?_ | fail)
              refine gr_ldF rfl hX' e1 rfl ?_
              (repeat' first | refine st ?_ | refine s2 (fun _ => ?_) (fun _ => ?_) | refine s4 fun _ _ _ _ => ?_ | fail)
              refine r_callS hm1 rfl rfl pm ?_
              (repeat' first | refine st ?_ | refine s2 (fun _ => ?_) (fun _ => ?_) | refine s4 fun _ _ _ _ => ?_ | fail)
              exact endsR2 rfl rfl ⟨by rw [hw]; exact hkm.h, by rw [hw]; exact hkn.h, .inl ⟨rfl, _, rfl⟩⟩
        · have n3 : kind ≠ 3 := fun h => h34 (.inl h)
          have n4 : kind ≠ 4 := fun h => h34 (.inr h)
          clear h1 h2 hn1 hsup hor hin hdj
          (repeat' first | refine st ?_ | refine s2 (fun _ => ?_) (fun _ => ?_) | refine s4 fun _ _ _ _ => ?_ | fail)
          refine r_iaS rfl rfl (by first | with_reducible exact cself _ | exact nlit _) hxr rfl ?_
          (repeat' first | refine st ?_ | refine s2 (fun _ => ?_) (fun _ => ?_) | refine s4 fun _ _ _ _ => ?_ | fail)
          refine gr_ldF rfl hX' e1 rfl ?_
          (repeat' first | refine st ?_ | refine s2 (fun _ => ?_) (fun _ => ?_) | refine s4 fun _ _ _ _ => ?_ | fail)
          refine r_callR hr rfl ?_
          rintro oB r ⟨k1, k2, k3⟩
          (repeat' first | refine st ?_ | refine s2 (fun _ => ?_) (fun _ => ?_) | refine s4 fun _ _ _ _ => ?_ | fail)
          obtain ⟨f1, f2, f3⟩ := fin oB k1 k2 k3
          exact ⟨⟨by omega, ⟨hin'⟩, ⟨fun h => absurd h h34⟩, f1, f2, f3, rfl, rfl, rfl, rfl, rfl, rfl, rfl, rfl⟩, rfl⟩
      · rw [hn1 (x < i) (fun h => (h.ins k x hx).2) (by omega)]
        clear h1 h2 hn1 hsup hW hor
        (repeat' first | refine st ?_ | refine s2 (fun _ => ?_) (fun _ => ?_) | refine s4 fun _ _ _ _ => ?_ | fail)
        refine r_iaS rfl rfl (by first | with_reducible exact cself _ | exact nlit _) hxr rfl ?_
        (repeat' first | refine st ?_ | refine s2 (fun _ => ?_) (fun _ => ?_) | refine s4 fun _ _ _ _ => ?_ | fail)
        exact endsR2 rfl rfl ⟨by rw [hw]; exact hkm.h, by rw [hw]; exact hkn.h, .inl ⟨rfl, _, rfl⟩⟩
  · have hke : k = ins.length := by omega
    subst hke
    have hok : ∀ (k : Nat) (x : Int), ins[k]? = some x → 0 ≤ x ∧ x < i := fun k x hx => hin.h k x (List.getElem?_eq_some_iff.1 hx).1 hx
    have hdj := hdj.h
    clear hin hsup hX
    have fin : ∀ (s : St) (word : Nat), s.slots 8 = .s (.c (.rs base w 1 0 L)) → s.slots 9 = vb true → (∀ o2 v2, ¬ (o2 = base ∧ v2 = w) → s.objs.m o2 v2 = o.m o2 v2) → (∀ o2, s.objs.nv o2 = if o2 = base then w + 1 else o.nv o2) →
        s.objs.is base w .u64 (wd L word) → gW W ⟨kind, block, ins⟩ = word → gOK S i W ⟨kind, block, ins⟩ → EndsR [.tmp 8, .tmp 9] (VGP o base L (gW W ⟨kind, block, ins⟩) t) .ret s := by
      intro s word s8 s9 m1 m2 m3 e hg
      refine endsR2 s8 s9 ⟨by rw [hw]; exact m1, by rw [hw]; exact m2, .inr ⟨h1 hg, by rw [hw], by rw [hw, e]; exact m3⟩⟩
    by_cases hk2 : kind = 2
    · by_cases hb0 : block < 0
      · rw [hn1 (0 ≤ block) (fun h => (h.cs hk2).1) (by omega)]
        clear h1 h2 hn1 hor fin
        (repeat' first | refine st ?_ | refine s2 (fun _ => ?_) (fun _ => ?_) | refine s4 fun _ _ _ _ => ?_ | fail)
        exact endsR2 rfl rfl ⟨by rw [hw]; exact hkm.h, by rw [hw]; exact hkn.h, .inl ⟨rfl, _, rfl⟩⟩
      · by_cases hbS : block < S.length
        · obtain ⟨q, rfl⟩ := Int.eq_ofNat_of_zero_le (show 0 ≤ block by omega)
          have hq : q < S.length := by omega
          have hb : S[q]? = some S[q] := List.getElem?_eq_getElem hq
          have hpl : pl S q = (S[q]).length := by unfold pl; rw [List.getD_eq_getElem?_getD, hb]; rfl
          generalize S[q] = b at hb hpl
          have hrow : (S.map brow)[q]? = some [.sl (b.map FA.row)] := by rw [List.getElem?_map, hb]; rfl
          have hbl : (b.map FA.row).length = b.length := List.length_map ..
          have hb40 := hSb q b hb
          by_cases hlen : ins.length = b.length + 1
          · obtain rfl : L = 1 := by omega
            have hhas := has_ok (ext := ext) (w := orW W ins ins.length) (q := q) (hor ins.length).1 (by omega)
            by_cases hbit : (orW W ins ins.length).testBit q = true
            · rw [hbit] at hhas
              rw [hn1 _ (fun h => (h.cs hk2).2.2.2) (by show ¬ (orW W ins ins.length).testBit q = false; rw [hbit]; simp)]
              have pp : allSome ([SV.c (.rs base w 1 0 1), SV.c (.p (.int .i64 (q : Nat)))].map (purSV o')) = some [pW 1 (orW W ins ins.length), .c (.int .i64 (q : Nat))] := pur2 (purK1 hown (wd_len _ _)) rfl
              clear h1 h2 hn1 hor fin
              (repeat' first | refine st ?_ | refine s2 (fun _ => ?_) (fun _ => ?_) | refine s4 fun _ _ _ _ => ?_ | fail)
              refine r_iaS rfl rfl (by first | with_reducible exact cself _ | exact nlit _) hrow rfl ?_
              (repeat' first | refine st ?_ | refine s2 (fun _ => ?_) (fun _ => ?_) | refine s4 fun _ _ _ _ => ?_ | fail)
              rw [hbl]
              (repeat' first | refine st ?_ | refine s2 (fun _ => ?_) (fun _ => ?_) | refine s4 fun _ _ _ _ => ?_ | fail)
              refine r_callS hhas rfl rfl pp ?_
              (repeat' first | refine st ?_ | refine s2 (fun _ => ?_) (fun _ => ?_) | refine s4 fun _ _ _ _ => ?_ | fail)
              exact endsR2 rfl rfl ⟨by rw [hw]; exact hkm.h, by rw [hw]; exact hkn.h, .inl ⟨rfl, _, rfl⟩⟩
            · have hbit : (orW W ins ins.length).testBit q = false := by simpa using hbit
              rw [hbit] at hhas
              have pp : allSome ([SV.c (.rs base w 1 0 1), SV.c (.p (.int .i64 (q : Nat)))].map (purSV o')) = some [pW 1 (orW W ins ins.length), .c (.int .i64 (q : Nat))] := pur2 (purK1 hown (wd_len _ _)) rfl
              have hgo : gOK S i W ⟨kind, (q : Nat), ins⟩ := ⟨hok, by simp only; omega, fun _ => ⟨by simp only; omega, by simp only; omega, by show ins.length = pl S (Int.toNat (q : Nat)) + 1; rw [Int.toNat_natCast, hpl]; exact hlen, by show (orW W ins ins.length).testBit (Int.toNat (q : Nat)) = false; rw [Int.toNat_natCast]; exact hbit⟩,
                fun h => absurd hk2 h, fun h => by simp only at h; omega, fun h => by simp only at h; omega, fun h => by simp only at h; omega⟩
              have hgw : gW W ⟨kind, (q : Nat), ins⟩ = orW W ins ins.length ||| 2 ^ q := by unfold gW; rw [if_pos hk2]; rfl
              have hwl := (hor ins.length).1
              have b1 : (wd 1 (orW W ins ins.length)).getD (q / 64) 0 < 18446744073709551616 := by rw [Nat.div_eq_of_lt (show q < 64 by omega)]; exact hwl
              clear h1 h2 hn1 hor
              (repeat' first | refine st ?_ | refine s2 (fun _ => ?_) (fun _ => ?_) | refine s4 fun _ _ _ _ => ?_ | fail)
              refine r_iaS rfl rfl (by first | with_reducible exact cself _ | exact nlit _) hrow rfl ?_
              (repeat' first | refine st ?_ | refine s2 (fun _ => ?_) (fun _ => ?_) | refine s4 fun _ _ _ _ => ?_ | fail)
              rw [hbl]
              (repeat' first | refine st ?_ | refine s2 (fun _ => ?_) (fun _ => ?_) | refine s4 fun _ _ _ _ => ?_ | fail)
              refine r_callS hhas rfl rfl pp ?_
              (repeat' first | refine st ?_ | refine s2 (fun _ => ?_) (fun _ => ?_) | refine s4 fun _ _ _ _ => ?_ | fail)
              rename_i oB k1 k2 k3
              refine fin _ (orW W ins ins.length ||| 2 ^ q) rfl rfl (fun o2 v2 h => by rw [k2 _ _ h]; exact hkm.h _ _ h) (fun o2 => by rw [k3]; exact hkn.h o2) ?_ hgw hgo
              have p2 : 2 ^ q < 18446744073709551616 := Nat.lt_of_lt_of_eq (Nat.pow_lt_pow_right (show 1 < 2 by decide) (show q < 64 by omega)) rfl
              have ew : (1 : Nat) * 2 ^ min (q % 64) 64 % 18446744073709551616 = 2 ^ q := by
                rw [Nat.mod_eq_of_lt (show q < 64 by omega), Nat.min_eq_left (by omega), Nat.one_mul, Nat.mod_eq_of_lt p2]
              rw [ew, Nat.div_eq_of_lt (show q < 64 by omega)] at k1
              exact k1
          · rw [hn1 (ins.length = b.length + 1) (fun h => by have := (h.cs hk2).2.2.1; simp only [Int.toNat_natCast] at this; omega) hlen]
            clear h1 h2 hn1 hor fin
            (repeat' first | refine st ?_ | refine s2 (fun _ => ?_) (fun _ => ?_) | refine s4 fun _ _ _ _ => ?_ | fail)
            refine r_iaS rfl rfl (by first | with_reducible exact cself _ | exact nlit _) hrow rfl ?_
            (repeat' first | refine st ?_ | refine s2 (fun _ => ?_) (fun _ => ?_) | refine s4 fun _ _ _ _ => ?_ | fail)
            rw [hbl]
            (repeat' first | refine st ?_ | refine s2 (fun _ => ?_) (fun _ => ?_) | refine s4 fun _ _ _ _ => ?_ | fail)
            exact endsR2 rfl rfl ⟨by rw [hw]; exact hkm.h, by rw [hw]; exact hkn.h, .inl ⟨rfl, _, rfl⟩⟩
        · rw [hn1 (block < S.length) (fun h => (h.cs hk2).2.1) hbS]
          clear h1 h2 hn1 hor fin
          (repeat' first | refine st ?_ | refine s2 (fun _ => ?_) (fun _ => ?_) | refine s4 fun _ _ _ _ => ?_ | fail)
          rw [hSl]
          (repeat' first | refine st ?_ | refine s2 (fun _ => ?_) (fun _ => ?_) | refine s4 fun _ _ _ _ => ?_ | fail)
          exact endsR2 rfl rfl ⟨by rw [hw]; exact hkm.h, by rw [hw]; exact hkn.h, .inl ⟨rfl, _, rfl⟩⟩
    · have hgw : gW W ⟨kind, block, ins⟩ = orW W ins ins.length := by unfold gW; rw [if_neg hk2]
      by_cases hb0 : block = 0
      · by_cases h01 : kind = 0 ∨ kind = 1
        · by_cases hl0 : ins.length = 0
          · have hgo : gOK S i W ⟨kind, block, ins⟩ := ⟨hok, by simp only; omega, fun h => absurd h hk2, fun _ => hb0, fun _ => hl0, hdj, fun h => by simp only at h; omega⟩
            have fin := fun s a b c d e => fin s (orW W ins ins.length) a b c d e hgw hgo
            clear h1 h2 hn1 hor hdj hok
            rcases h01 with h01 | h01
            · (repeat' first | refine st ?_ | refine s2 (fun _ => ?_) (fun _ => ?_) | refine s4 fun _ _ _ _ => ?_ | fail)
              rw [hzl]
              (repeat' first | refine st ?_ | refine s2 (fun _ => ?_) (fun _ => ?_) | refine s4 fun _ _ _ _ => ?_ | fail)
              exact fin _ rfl rfl hkm.h hkn.h hown
            · (repeat' first | refine st ?_ | refine s2 (fun _ => ?_) (fun _ => ?_) | refine s4 fun _ _ _ _ => ?_ | fail)
              rw [hzl]
              (repeat' first | refine st ?_ | refine s2 (fun _ => ?_) (fun _ => ?_) | refine s4 fun _ _ _ _ => ?_ | fail)
              exact fin _ rfl rfl hkm.h hkn.h hown
          · rw [hn1 _ (fun h => h.leaf h01) hl0]
            clear h1 h2 hn1 hor fin hdj hok
            rcases h01 with h01 | h01
            · (repeat' first | refine st ?_ | refine s2 (fun _ => ?_) (fun _ => ?_) | refine s4 fun _ _ _ _ => ?_ | fail)
              rw [hzl]
              (repeat' first | refine st ?_ | refine s2 (fun _ => ?_) (fun _ => ?_) | refine s4 fun _ _ _ _ => ?_ | fail)
              exact endsR2 rfl rfl ⟨by rw [hw]; exact hkm.h, by rw [hw]; exact hkn.h, .inl ⟨rfl, _, rfl⟩⟩
            · (repeat' first | refine st ?_ | refine s2 (fun _ => ?_) (fun _ => ?_) | refine s4 fun _ _ _ _ => ?_ | fail)
              rw [hzl]
              (repeat' first | refine st ?_ | refine s2 (fun _ => ?_) (fun _ => ?_) | refine s4 fun _ _ _ _ => ?_ | fail)
              exact endsR2 rfl rfl ⟨by rw [hw]; exact hkm.h, by rw [hw]; exact hkn.h, .inl ⟨rfl, _, rfl⟩⟩
        · have n0 : kind ≠ 0 := fun h => h01 (.inl h)
          have n1 : kind ≠ 1 := fun h => h01 (.inr h)
          by_cases h5 : kind = 5
          · by_cases hl1 : ins.length = 1
            · have hgo : gOK S i W ⟨kind, block, ins⟩ := ⟨hok, by simp only; omega, fun h => absurd h hk2, fun _ => hb0, fun h => absurd h h01, hdj, fun _ => hl1⟩
              have fin := fun s a b c d e => fin s (orW W ins ins.length) a b c d e hgw hgo
              clear h1 h2 hn1 hor hdj hok
              (repeat' first | refine st ?_ | refine s2 (fun _ => ?_) (fun _ => ?_) | refine s4 fun _ _ _ _ => ?_ | fail)
              rw [hzl]
              (repeat' first | refine st ?_ | refine s2 (fun _ => ?_) (fun _ => ?_) | refine s4 fun _ _ _ _ => ?_ | fail)
              exact fin _ rfl rfl hkm.h hkn.h hown
            · rw [hn1 _ (fun h => h.nt h5) hl1]
              clear h1 h2 hn1 hor fin hdj hok
              (repeat' first | refine st ?_ | refine s2 (fun _ => ?_) (fun _ => ?_) | refine s4 fun _ _ _ _ => ?_ | fail)
              rw [hzl]
              (repeat' first | refine st ?_ | refine s2 (fun _ => ?_) (fun _ => ?_) | refine s4 fun _ _ _ _ => ?_ | fail)
              exact endsR2 rfl rfl ⟨by rw [hw]; exact hkm.h, by rw [hw]; exact hkn.h, .inl ⟨rfl, _, rfl⟩⟩
          · by_cases h34 : kind = 3 ∨ kind = 4
            · have hgo : gOK S i W ⟨kind, block, ins⟩ := ⟨hok, by simp only; omega, fun h => absurd h hk2, fun _ => hb0, fun h => absurd h h01, hdj, fun h => absurd h h5⟩
              have fin := fun s a b c d e => fin s (orW W ins ins.length) a b c d e hgw hgo
              clear h1 h2 hn1 hor hdj hok
              rcases h34 with h34 | h34
              · (repeat' first | refine st ?_ | refine s2 (fun _ => ?_) (fun _ => ?_) | refine s4 fun _ _ _ _ => ?_ | fail)
                exact fin _ rfl rfl hkm.h hkn.h hown
              · (repeat' first | refine st ?_ | refine s2 (fun _ => ?_) (fun _ => ?_) | refine s4 fun _ _ _ _ => ?_ | fail)
                exact fin _ rfl rfl hkm.h hkn.h hown
            · have n3 : kind ≠ 3 := fun h => h34 (.inl h)
              have n4 : kind ≠ 4 := fun h => h34 (.inr h)
              rw [hn1 (0 ≤ kind ∧ kind ≤ 5) (fun h => h.kd) (by omega)]
              clear h1 h2 hn1 hor fin hdj hok
              (repeat' first | refine st ?_ | refine s2 (fun _ => ?_) (fun _ => ?_) | refine s4 fun _ _ _ _ => ?_ | fail)
              exact endsR2 rfl rfl ⟨by rw [hw]; exact hkm.h, by rw [hw]; exact hkn.h, .inl ⟨rfl, _, rfl⟩⟩
      · rw [hn1 _ (fun h => h.nb hk2) hb0]
        clear h1 h2 hn1 hor fin hdj hok
        (repeat' first | refine st ?_ | refine s2 (fun _ => ?_) (fun _ => ?_) | refine s4 fun _ _ _ _ => ?_ | fail)
        exact endsR2 rfl rfl ⟨by rw [hw]; exact hkm.h, by rw [hw]; exact hkn.h, .inl ⟨rfl, _, rfl⟩⟩
end Go.Av
