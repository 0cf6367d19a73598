/- The abstract machine of the Av files, run by computation. No condition. -/
import Derived.Test.YthdilnjdkniofaaGreatAvFast
namespace Go.Av
open Go

inductive T (α : Type) where
  | leaf
  | node (l : T α) (v : Option α) (r : T α)

variable {α : Type}
def T.get : T α → Nat → Option α
  | .leaf, _ => none
  | .node _ v _, 0 => v
  | .node l _ r, n + 1 => match n % 2 with
    | 0 => l.get (n / 2)
    | _ => r.get (n / 2)
def T.l : T α → T α
  | .leaf => .leaf
  | .node l _ _ => l
def T.r : T α → T α
  | .leaf => .leaf
  | .node _ _ r => r
def T.v : T α → Option α
  | .leaf => none
  | .node _ v _ => v
def T.setAt : Nat → T α → Nat → α → T α
  | 0, t, _, _ => t
  | _ + 1, t, 0, a => .node t.l (some a) t.r
  | d + 1, t, n + 1, a => match n % 2 with
    | 0 => .node (T.setAt d t.l (n / 2) a) t.v t.r
    | _ => .node t.l t.v (T.setAt d t.r (n / 2) a)
def T.put (t : T α) (n : Nat) (a : α) : T α := T.setAt (n + 1) t n a

theorem T.get_node (t : T α) : ∀ m, T.get (.node t.l t.v t.r) m = t.get m := by
  intro m
  cases t with
  | leaf => cases m with
    | zero => rfl
    | succ m => simp only [T.get, T.l, T.r]; split <;> rfl
  | node => rfl

theorem T.get_setAt : ∀ (d : Nat) (t : T α) (n : Nat) (a : α) (m : Nat), n < d → (T.setAt d t n a).get m = if m = n then some a else t.get m
  | 0, _, _, _, _, h => by omega
  | d + 1, t, 0, a, m, _ => by
    cases m with
    | zero => simp [T.setAt, T.get]
    | succ m =>
      rw [← T.get_node t]
      simp [T.setAt, T.get]
  | d + 1, t, n + 1, a, m, h => by
    rw [← T.get_node t]
    cases m with
    | zero =>
      simp only [T.setAt]
      split <;> simp [T.get]
    | succ m =>
      have ih := fun (t : T α) => T.get_setAt d t (n / 2) a (m / 2) (by omega)
      simp only [T.setAt]
      split
      · rename_i hn
        simp only [T.get]
        split
        · rename_i hm
          rw [ih]
          have : (m / 2 = n / 2) ↔ (m + 1 = n + 1) := by omega
          simp only [this]
        · rename_i hm
          rw [if_neg (by intro e; apply hm; have : m = n := by omega
                         rw [this]; exact hn)]
      · rename_i hn
        simp only [T.get]
        split
        · rename_i hm
          rw [if_neg (by intro e; apply hn; have : m = n := by omega
                         rw [← this]; exact hm)]
        · rename_i hm
          rw [ih]
          have : (m / 2 = n / 2) ↔ (m + 1 = n + 1) := by
            have h1 : m % 2 ≠ 0 := hm
            have h2 : n % 2 ≠ 0 := hn
            omega
          simp only [this]

theorem T.get_put (t : T α) (n : Nat) (a : α) (m : Nat) : (t.put n a).get m = if m = n then some a else t.get m := T.get_setAt _ _ _ _ _ (by omega)

abbrev XO := T (Nat × List (Option Obj))

def XO.m (x : XO) (o v : Nat) : Option Obj := match x.get o with
  | some (n, l) => if v < n then (match l[n - 1 - v]? with
      | some r => r
      | none => none) else none
  | none => none
def XO.nv (x : XO) (o : Nat) : Nat := match x.get o with
  | some (n, _) => n
  | none => 0
def XO.objs (x : XO) : Objs := ⟨XO.m x, XO.nv x⟩
def XO.new (x : XO) (o : Nat) (ob : Obj) : XO := match x.get o with
  | some (n, l) => x.put o (n + 1, some ob :: l)
  | none => x.put o (1, [some ob])
def XO.setv (x : XO) (o v : Nat) (ob : Option Obj) : XO := match x.get o with
  | some (n, l) => x.put o (n, l.set (n - 1 - v) ob)
  | none => x

theorem XO.objs_leaf : XO.objs .leaf = Objs.empty := rfl

theorem XO.objs_new (x : XO) (o : Nat) (ob : Obj) : (x.new o ob).objs = x.objs.new o ob := by
  unfold XO.objs Objs.new
  congr 1
  · funext o' v'
    unfold XO.new XO.m
    by_cases ho : o' = o
    · subst ho
      cases h : x.get o' with
      | none =>
        simp only [T.get_put, if_true, XO.nv, h]
        cases v' <;> simp
      | some p =>
        obtain ⟨n, l⟩ := p
        simp only [T.get_put, if_true, XO.nv, h]
        by_cases hv : v' = n
        · subst hv; simp
        · by_cases hl : v' < n
          · have e : n + 1 - 1 - v' = (n - 1 - v') + 1 := by omega
            rw [if_pos (show v' < n + 1 by omega), if_pos hl, e]
            simp [hv]
          · rw [if_neg (show ¬ v' < n + 1 by omega), if_neg hl]
            simp [hv]
    · cases h : x.get o <;> simp [T.get_put, ho]
  · funext o'
    unfold XO.new XO.nv
    by_cases ho : o' = o
    · subst ho
      cases h : x.get o' <;> simp [T.get_put, XO.nv, h]
    · cases h : x.get o <;> simp [T.get_put, ho]

theorem XO.objs_setv (x : XO) (o v : Nat) (ob : Option Obj) {ob0 : Obj} (h0 : XO.m x o v = some ob0) : (x.setv o v ob).objs = x.objs.set o v ob := by
  unfold XO.objs Objs.set
  congr 1
  · funext o' v'
    unfold XO.setv XO.m
    unfold XO.m at h0
    cases h : x.get o with
    | none => simp [h] at h0
    | some p =>
      obtain ⟨n, l⟩ := p
      simp only [h] at h0
      have hv : v < n := by
        by_cases hv : v < n
        · exact hv
        · simp [hv] at h0
      simp only [if_pos hv] at h0
      have hl : n - 1 - v < l.length := by
        by_cases hl : n - 1 - v < l.length
        · exact hl
        · rw [List.getElem?_eq_none (Nat.le_of_not_lt hl)] at h0; simp at h0
      by_cases ho : o' = o
      · subst ho
        simp only [T.get_put, if_true, h, true_and]
        by_cases e : v' = v
        · subst e
          simp [hv, hl]
        · by_cases hv' : v' < n
          · rw [if_pos hv', if_pos hv', if_neg e, List.getElem?_set, if_neg (show ¬ (n - 1 - v = n - 1 - v') by omega)]
          · rw [if_neg hv', if_neg hv', if_neg e]
      · simp [T.get_put, ho]
  · funext o'
    unfold XO.setv XO.nv
    cases h : x.get o with
    | none => rfl
    | some p =>
      by_cases ho : o' = o
      · subst ho; simp [T.get_put, h]
      · simp [T.get_put, ho]

def XO.fz : XO → List (Nat × Nat) → XO
  | x, [] => x
  | x, (o, v) :: r => match XO.m x o v with
    | some ob => XO.fz (x.setv o v (some { ob with frozen := true })) r
    | none => XO.fz x r

theorem XO.objs_fz : ∀ (ids : List (Nat × Nat)) (x : XO), (XO.fz x ids).objs = fzIds ids x.objs
  | [], x => by simp [XO.fz]
  | (o, v) :: r, x => by
    unfold XO.fz
    cases h : XO.m x o v with
    | none =>
      simp only [XO.objs_fz r x]
      unfold fzIds
      congr 1
      funext o' v'
      by_cases e : o' = o ∧ v' = v
      · obtain ⟨rfl, rfl⟩ := e
        simp [XO.objs, h]
      · cases hm : x.objs.m o' v' with
        | none => rfl
        | some ob =>
          have : ((o, v) :: r).contains (o', v') = r.contains (o', v') := by
            simp only [List.contains_cons]
            have : ((o', v') == (o, v)) = false := by simpa using e
            simp [this]
          simp only [this]
    | some ob =>
      simp only [XO.objs_fz r, XO.objs_setv x o v _ h]
      unfold fzIds Objs.set
      congr 1
      funext o' v'
      by_cases e : o' = o ∧ v' = v
      · obtain ⟨rfl, rfl⟩ := e
        have : x.objs.m o' v' = some ob := h
        simp [this]
      · simp only [e, if_false]
        cases hm : x.objs.m o' v' with
        | none => rfl
        | some ob =>
          have : ((o, v) :: r).contains (o', v') = r.contains (o', v') := by
            simp only [List.contains_cons]
            have : ((o', v') == (o, v)) = false := by simpa using e
            simp [this]
          simp only [this]

structure XS where
  slots : T AV
  objs : XO
  base : Nat

def XS.slot (x : XS) (n : Nat) : AV := match x.slots.get n with
  | some v => v
  | none => .u
def XS.st (x : XS) : St := { slots := XS.slot x, objs := x.objs.objs, base := x.base }
def XS.put (x : XS) (d : Option Nat) (v : AV) : XS := match d with
  | some d => { x with slots := x.slots.put d v }
  | none => x

theorem XS.st_put (x : XS) (d : Option Nat) (v : AV) : (x.put d v).st = x.st.put d v := by
  cases d with
  | none => rfl
  | some d =>
    simp only [XS.put, XS.st, St.put]
    congr 1
    funext n
    simp only [XS.slot, T.get_put, upd_apply]
    by_cases e : n = d <;> simp [e]

def xnew (x : XS) (id sz : Nat) (elems : List (List C)) : XO := x.objs.new (x.base + id) { sz := sz, elems := elems, frozen := false }

def AOp.writes : AOp → Bool
  | .alloc .. | .boxO .. | .slO .. | .mk .. | .store .. | .app .. | .mkM .. | .updM .. | .mkfO .. => true
  | _ => false

/-! Each operation by itself: what is substituted stays small. -/

def oV (o : Option AV) : Option AV := o
def fPick (c a b : AV) : Option AV := match c with
  | .s (.c (.p (.bool t))) => some (match t with | true => a | false => b)
  | _ => none
def fBoxP (x : AV) : Option AV := match x.cells? with
  | some cs => (allSome (cs.map C.pure?)).map fun l => vp (.pref l)
  | none => none
def fBuild (s : St) (zero : List C) (parts : List (Nat × Nat × Opd)) : Option AV := match partsOf s parts with
  | some l => (fillA zero l).map fun cs => .s (.agg cs)
  | none => none
def fSlP (s : St) (n sz : Nat) (zero : List C) (parts : List (Nat × Nat × Opd)) : Option AV := match rowOf s n sz zero parts with
  | some xs => (allSome (xs.map fun x => allSome (x.map C.pure?))).map vs
  | none => none
def fLoadC (agg : Bool) (sz off : Nat) (x : List C) : Option AV :=
  match Nat.ble (off + sz) x.length with
  | true => match agg with
    | true => some (.s (.agg ((x.drop off).take sz)))
    | false => match x[off]? with
      | some c => some (.s (.c c))
      | none => none
  | false => none
def fLoadP (agg : Bool) (sz : Nat) (cs : List PC) : Option AV :=
  match Nat.beq cs.length sz with
  | true => match agg with
    | true => some (.s (.agg (cs.map C.p)))
    | false => match cs with
      | c :: _ => some (vp c)
      | [] => none
  | false => none
def fLoad (m : Nat → Nat → Option Obj) (agg : Bool) (sz : Nat) (a : AV) : Option AV := match a with
  | .s (.c (.p (.pref cs))) => fLoadP agg sz cs
  | .s (.c (.ptr o ver i off)) => match m o ver with
    | some ob => match ob.elems[i]? with
      | some x => fLoadC agg sz off x
      | none => none
    | none => none
  | _ => none
def fBin (op : BinOp) (a b : AV) : Option AV := match a, b with
  | .s (.c (.p a)), .s (.c (.p b)) => match abinF op a b with
    | some c => some (vp c)
    | none => none
  | _, _ => none
def fBinB (op : BinOp) (a b : AV) : Option AV := match a, b with
  | .s (.c (.p a)), .s (.c (.p b)) => match abinB op a b with
    | some c => some (vp c)
    | none => none
  | _, _ => none
def fUn (op : UnOp) (a : AV) : Option AV := match a with
  | .s (.c (.p a)) => match aun op a with
    | some c => some (vp c)
    | none => none
  | _ => none
def fConv (k : IntKind) (a : AV) : Option AV := match a with
  | .s (.c (.p (.int _ n))) => some (vi k (wrapF k n))
  | _ => none
def fFa (off sz : Nat) (a : AV) : Option AV := match a with
  | .s (.c (.p (.pref cs))) => match Nat.ble (off + sz) cs.length with
    | true => some (vp (.pref ((cs.drop off).take sz)))
    | false => none
  | .s (.c (.ptr o ver i f)) => some (.s (.c (.ptr o ver i (f + off))))
  | _ => none
def fFld (agg : Bool) (off sz : Nat) (a : AV) : Option AV := match a with
  | .s (.agg cs) => fLoadC agg sz off cs
  | _ => none
def fIaP (sz : Nat) (xs : List (List PC)) (n : Nat) : Option AV := match xs[n]? with
  | some y => match Nat.beq y.length sz with
    | true => some (vp (.pref y))
    | false => none
  | none => none
def fIa (sz : Nat) (a i : AV) : Option AV := match a, i with
  | .s (.c (.p (.sl xs))), .s (.c (.p (.int _ (.ofNat n)))) => fIaP sz xs n
  | .s (.c (.rs o ver sz' st len)), .s (.c (.p (.int _ (.ofNat n)))) => match Nat.beq sz' sz with
    | true => match Nat.blt n len with
      | true => some (.s (.c (.ptr o ver (st + n) 0)))
      | false => none
    | false => none
  | _, _ => none
def fLen (a : AV) : Option AV := match a with
  | .s (.c (.p (.sl xs))) => some (vi .i64 (.ofNat xs.length))
  | .s (.c .e0) => some (vi .i64 0)
  | .s (.c (.rs _ _ _ _ len)) => some (vi .i64 (.ofNat len))
  | _ => none
def fExt (i : Nat) (a : AV) : Option AV := match a with
  | .tup l => match l[i]? with
    | some x => some (.s x)
    | none => none
  | _ => none
def fNck (a : AV) : Option AV := match a with
  | .s (.c (.p (.pref cs))) => some (vp (.pref cs))
  | .s (.c (.ptr o ver i f)) => some (.s (.c (.ptr o ver i f)))
  | .s (.c (.p (.clo g l))) => some (vp (.clo g l))
  | _ => none
def fGen (op : AOp) (s : St) : Option AV := match aop op s with
  | some (_, v) => some v
  | none => none

/-- An operation that writes no object. -/
def fop (op : AOp) (x : XS) : Option AV :=
  match op with
  | .mv y => some (x.st.ev y)
  | .pick c y z => fPick (x.st.ev c) (x.st.ev y) (x.st.ev z)
  | .load agg sz y => fLoad (XO.m x.objs) agg sz (x.st.ev y)
  | .bin op y z => fBin op (x.st.ev y) (x.st.ev z)
  | .binB op y z => fBinB op (x.st.ev y) (x.st.ev z)
  | .un op y => fUn op (x.st.ev y)
  | .conv k y => fConv k (x.st.ev y)
  | .fa off sz y => fFa off sz (x.st.ev y)
  | .fld agg off sz y => fFld agg off sz (x.st.ev y)
  | .ia sz y z => fIa sz (x.st.ev y) (x.st.ev z)
  | .len y => fLen (x.st.ev y)
  | .ext i y => fExt i (x.st.ev y)
  | .nck y => fNck (x.st.ev y)
  | .boxP y => fBoxP (x.st.ev y)
  | .build z ps => fBuild x.st z ps
  | .slP n sz z ps => fSlP x.st n sz z ps
  | .alloc .. => none
  | .boxO .. => none
  | .slO .. => none
  | .mk .. => none
  | .store .. => none
  | .app .. => none
  | .mkM .. => none
  | .updM .. => none
  | .mkfO .. => none
  | .call .. => none
  | .callP .. => none
  | .callR .. => none
  | .callV .. => none
  | .bad => none
  | .slice sz y lo hi mx => asl sz (x.st.ev y) x.st lo hi mx
  | .iaA n sz y z => fGen (.iaA n sz y z) x.st
  | .mkf g l => fGen (.mkf g l) x.st
  | .minI y z => fGen (.minI y z) x.st
  | .maxI y z => fGen (.maxI y z) x.st
  | .loadS n y => fGen (.loadS n y) x.st
  | .mkf1 g y => fGen (.mkf1 g y) x.st
  | .sidx y z => fGen (.sidx y z) x.st
  | .toStr y => fGen (.toStr y) x.st
  | .isNil n y => fGen (.isNil n y) x.st
  | .lkp a b c d e f => fGen (.lkp a b c d e f) x.st
  | .lenM y => fGen (.lenM y) x.st

def xAlloc (x : XS) (id : Nat) (zero : List C) : Option (XO × AV) := some (xnew x id zero.length [zero], .s (.c (.ptr (x.base + id) (XO.nv x.objs (x.base + id)) 0 0)))
def xBoxO (x : XS) (id : Nat) (y : AV) : Option (XO × AV) := match y.cells? with
  | some cs => some (xnew x id cs.length [cs], .s (.c (.ptr (x.base + id) (XO.nv x.objs (x.base + id)) 0 0)))
  | none => none
def xSlO (x : XS) (id n sz : Nat) (zero : List C) (parts : List (Nat × Nat × Opd)) : Option (XO × AV) := match rowOf x.st n sz zero parts with
  | some xs => some (xnew x id sz xs, .s (.c (.rs (x.base + id) (XO.nv x.objs (x.base + id)) sz 0 xs.length)))
  | none => none
def xMk (x : XS) (id sz bytes : Nat) (zero : List C) (len cap : AV) : Option (XO × AV) := match len.int?, cap.int? with
  | some l, some c => if 0 ≤ l ∧ l ≤ c ∧ c ≤ 9223372036854775807 ∧ bytes * c ≤ 281474976710656 ∧ zero.length = sz then
      some (xnew x id sz (List.replicate l.toNat zero), .s (.c (.rs (x.base + id) (XO.nv x.objs (x.base + id)) sz 0 l.toNat))) else none
  | _, _ => none
def xStoreC (x : XS) (o ver i off sz : Nat) (ob : Obj) (y cs : List C) : Option (XO × AV) :=
  match ob.frozen with
  | true => none
  | false => match Nat.beq cs.length sz with
    | false => none
    | true => match Nat.ble (off + sz) y.length with
      | false => none
      | true => some (x.objs.setv o ver (some { ob with elems := ob.elems.set i (setAt y off cs) }), .tup [])
def xStore (x : XS) (sz : Nat) (a y : AV) : Option (XO × AV) := match a with
  | .s (.c (.ptr o ver i off)) => match y.cells? with
    | some cs => match XO.m x.objs o ver with
      | some ob => match ob.elems[i]? with
        | some y => xStoreC x o ver i off sz ob y cs
        | none => none
      | none => none
    | none => none
  | _ => none
def xAppO (x : XS) (sz bytes o ver sz' st len : Nat) (ob : Obj) (ys : List (List C)) : Option (XO × AV) :=
  if ob.frozen = false ∧ sz' = sz ∧ ob.sz = sz ∧ st + len = ob.elems.length ∧ (len + ys.length) * bytes ≤ 140737488355328 ∧ len + ys.length ≤ 140737488355328 then
    some (XO.new (x.objs.setv o ver none) o { ob with elems := ob.elems.drop st ++ ys }, .s (.c (.rs o (XO.nv x.objs o) sz 0 (len + ys.length)))) else none
def xApp0 (x : XS) (id sz bytes : Nat) (ys : List (List C)) : Option (XO × AV) :=
  if ys.length = 0 then some (x.objs, .s (.c .e0))
  else if ys.length * bytes ≤ 140737488355328 ∧ ys.length ≤ 140737488355328 then
    some (xnew x id sz ys, .s (.c (.rs (x.base + id) (XO.nv x.objs (x.base + id)) sz 0 ys.length))) else none
def xApp (x : XS) (id sz bytes : Nat) (y z : AV) : Option (XO × AV) := match sliceElems x.st.objs sz z with
  | none => none
  | some ys => match y with
    | .s (.c .e0) => xApp0 x id sz bytes ys
    | .s (.c (.rs o ver sz' st len)) => match XO.m x.objs o ver with
      | some ob => xAppO x sz bytes o ver sz' st len ob ys
      | none => none
    | _ => none
def xMkM (x : XS) (id sz : Nat) : Option (XO × AV) := some (xnew x id sz [], .s (.c (.mp (x.base + id) (XO.nv x.objs (x.base + id)))))
def xUpdM (x : XS) (str : Option IntKind) (y k z : AV) : Option (XO × AV) := match y, k, z with
  | .s (.c (.mp o ver)), .s (.c (.p pk)), .s sv => match XO.m x.objs o ver with
    | some ob => if keyIs str pk = true then match mapVal ob.sz sv.cells with
        | none => none
        | some sv' => match sv, sv' with
          | .c _, .c _ | .agg _, .agg _ => match findRow str pk ob.elems 0 with
            | some (some (i, _)) => some (x.objs.setv o ver (some { ob with elems := ob.elems.set i (.p pk :: sv.cells) }), .tup [])
            | some none => some (x.objs.setv o ver (some { ob with elems := ob.elems ++ [.p pk :: sv.cells] }), .tup [])
            | none => none
          | _, _ => none
      else none
    | none => none
  | _, _, _ => none

def xMkfO (x : XS) (g : Nat) (caps : List Opd) : Option (XO × AV) := match allSome (caps.map fun y => (x.st.ev y).sv1?) with
  | some sv => match allSome (sv.map (purSV x.st.objs)) with
    | some pv => match allSome (pv.map PSV.cell?) with
      | some l => some (x.objs.fz (sv.flatMap (rchSV x.st.objs)), vp (.clo g l))
      | none => none
    | none => none
  | none => none

def xW (op : AOp) (x : XS) : Option (XO × AV) :=
  match op with
  | .alloc id zero => xAlloc x id zero
  | .boxO id y => xBoxO x id (x.st.ev y)
  | .slO id n sz zero parts => xSlO x id n sz zero parts
  | .mk id sz bytes zero len cap => xMk x id sz bytes zero (x.st.ev len) (x.st.ev cap)
  | .store sz a y => xStore x sz (x.st.ev a) (x.st.ev y)
  | .app id sz bytes y z => xApp x id sz bytes (x.st.ev y) (x.st.ev z)
  | .mkM id sz => xMkM x id sz
  | .updM str y k z => xUpdM x str (x.st.ev y) (x.st.ev k) (x.st.ev z)
  | .mkfO g caps => xMkfO x g caps
  | _ => none

def xN (op : AOp) (x : XS) : Option (XO × AV) := match fop op x with
  | some v => some (x.objs, v)
  | none => none

def xaop (op : AOp) (x : XS) : Option (XO × AV) :=
  match op.writes with
  | true => xW op x
  | false => xN op x

theorem aop_objs {op : AOp} {s : St} {o : Objs} {v : AV} (hw : op.writes = false) (h : aop op s = some (o, v)) : o = s.objs := by
  cases op <;> first | (cases hw; done) | (simp only [aop] at h; repeat' (split at h)) <;> simp_all <;> (try (obtain ⟨_, _, h, _⟩ := h; exact h.symm)) <;> grind

theorem fLoadC_eq {agg : Bool} {sz off : Nat} {x : List C} {v : AV} (h : fLoadC agg sz off x = some v) : off + sz ≤ x.length ∧
    (if agg then some (.s (.agg ((x.drop off).take sz))) else (x[off]?).map fun c => AV.s (.c c)) = some v := by
  unfold fLoadC at h
  split at h
  · rename_i hb
    refine ⟨Nat.le_of_ble_eq_true hb, ?_⟩
    cases agg with
    | true => simpa using h
    | false =>
      simp only [Bool.false_eq_true, if_false] at h ⊢
      split at h
      · rename_i c hc; rw [hc]; exact h
      · cases h
  · cases h

theorem vmap {s : St} {o : Option AV} {v : AV} (h : o = some v) : (o.map fun x => (s.objs, x)) = some (s.objs, v) := by rw [h]; rfl

theorem fop_sound {op : AOp} {x : XS} {v : AV} (h : fop op x = some v) : aop op x.st = some (x.st.objs, v) := by
  have gen : ∀ op, AOp.writes op = false → fGen op x.st = some v → aop op x.st = some (x.st.objs, v) := by
    intro op hw h
    unfold fGen at h
    split at h
    · rename_i o v' ha
      cases h
      rw [ha, aop_objs hw ha]
    · cases h
  cases op with
  | mv y => simp only [fop, Option.some.injEq] at h; subst h; rfl
  | pick c y z =>
    simp only [fop, fPick] at h
    split at h
    · rename_i t ht
      simp only [Option.some.injEq] at h; subst h
      simp only [aop, ht]
      cases t <;> rfl
    · cases h
  | load agg sz y =>
    simp only [fop, fLoad] at h
    split at h
    · rename_i cs hc
      simp only [aop, hc]
      unfold fLoadP at h
      split at h
      · rename_i hl
        rw [if_pos (Nat.eq_of_beq_eq_true hl)]
        cases agg with
        | true => simp only [if_true]; exact vmap h
        | false =>
          simp only [Bool.false_eq_true, if_false] at h ⊢
          cases cs with
          | nil => cases h
          | cons c r => exact vmap (by simpa using h)
      · cases h
    · rename_i o ver i off ha
      split at h
      · rename_i ob hm
        have hm' : x.st.objs.m o ver = some ob := hm
        split at h
        · rename_i row hrow
          obtain ⟨h1, h2⟩ := fLoadC_eq h
          simp only [aop, ha, hm', hrow, if_pos h1]
          cases agg with
          | true => simp only [if_true] at h2 ⊢; exact vmap h2
          | false => simp only [Bool.false_eq_true, if_false] at h2 ⊢; exact vmap h2
        · cases h
      · cases h
    · cases h
  | bin op y z =>
    simp only [fop, fBin] at h
    split at h
    · rename_i p q hp hq
      split at h
      · rename_i c hc; cases h; simp only [aop, hp, hq, abinF_some hc]; rfl
      · cases h
    · cases h
  | binB op y z =>
    simp only [fop, fBinB] at h
    split at h
    · rename_i p q hp hq
      split at h
      · rename_i c hc; cases h; simp only [aop, hp, hq, hc]; rfl
      · cases h
    · cases h
  | un op y =>
    simp only [fop, fUn] at h
    split at h
    · rename_i p hp
      split at h
      · rename_i c hc; cases h; simp only [aop, hp, hc]; rfl
      · cases h
    · cases h
  | conv k y =>
    simp only [fop, fConv] at h
    split at h
    · rename_i k' n hp; cases h; simp only [aop, hp, wrapF_eq]; rfl
    · cases h
  | fa off sz y =>
    simp only [fop, fFa] at h
    split at h
    · rename_i cs hp
      split at h
      · rename_i hb; cases h; simp only [aop, hp, if_pos (Nat.le_of_ble_eq_true hb)]; rfl
      · cases h
    · rename_i o ver i f hp; cases h; simp only [aop, hp]; rfl
    · cases h
  | fld agg off sz y =>
    simp only [fop, fFld] at h
    split at h
    · rename_i cs hp
      obtain ⟨h1, h2⟩ := fLoadC_eq h
      simp only [aop, hp, if_pos h1]
      cases agg with
      | true => simp only [if_true] at h2 ⊢; exact vmap h2
      | false => simp only [Bool.false_eq_true, if_false] at h2 ⊢; exact vmap h2
    · cases h
  | ia sz y z =>
    simp only [fop, fIa] at h
    split at h
    · rename_i xs k n hp hq
      unfold fIaP at h
      split at h
      · rename_i row hrow
        split at h
        · rename_i hb
          cases h
          have hlt : n < xs.length := by
            rcases Nat.lt_or_ge n xs.length with h | h
            · exact h
            · rw [List.getElem?_eq_none h] at hrow; cases hrow
          have hi : (x.st.ev z).int? = some (Int.ofNat n) := by rw [hq]; rfl
          simp only [aop, hp, hi]
          rw [if_pos ⟨Int.natCast_nonneg n, by simpa using hlt⟩]
          simp only [Int.ofNat_eq_natCast, Int.toNat_natCast, hrow, Option.bind_some, if_pos (Nat.eq_of_beq_eq_true hb)]
          rfl
        · cases h
      · cases h
    · rename_i o ver sz' st len k n hp hq
      split at h
      · rename_i hb
        split at h
        · rename_i hlt
          cases h
          have hi : (x.st.ev z).int? = some (Int.ofNat n) := by rw [hq]; rfl
          simp only [aop, hp, hi]
          have hlt' : n < len := by simpa [Nat.blt_eq] using hlt
          rw [if_pos ⟨Nat.eq_of_beq_eq_true hb, Int.natCast_nonneg n, by simpa using hlt'⟩]
          rfl
        · cases h
      · cases h
    · cases h
  | len y =>
    simp only [fop, fLen] at h
    split at h
    · rename_i xs hp; cases h; simp only [aop, hp]; rfl
    · rename_i hp; cases h; simp only [aop, hp]; rfl
    · rename_i hp; cases h; simp only [aop, hp]; rfl
    · cases h
  | ext i y =>
    simp only [fop, fExt] at h
    split at h
    · rename_i l hp
      split at h
      · rename_i c hc; cases h; simp only [aop, hp, hc]; rfl
      · cases h
    · cases h
  | nck y =>
    simp only [fop, fNck] at h
    split at h
    · rename_i hp; cases h; simp only [aop, hp]; rfl
    · rename_i hp; cases h; simp only [aop, hp]; rfl
    · rename_i hp; cases h; simp only [aop, hp]; rfl
    · cases h
  | boxP y =>
    simp only [fop, fBoxP] at h
    split at h
    · rename_i cs hc; simp only [aop, hc]; exact vmap h
    · cases h
  | build z ps =>
    simp only [fop, fBuild] at h
    split at h
    · rename_i cs hc; simp only [aop, hc]; exact vmap h
    · cases h
  | slP n sz z ps =>
    simp only [fop, fSlP] at h
    split at h
    · rename_i cs hc; simp only [aop, hc]; exact vmap h
    · cases h
  | slice sz y lo hi mx =>
    simp only [fop] at h
    simp only [aop]; exact vmap h
  | iaA n sz y z => exact gen _ rfl h
  | mkf g l => exact gen _ rfl h
  | minI y z => exact gen _ rfl h
  | maxI y z => exact gen _ rfl h
  | loadS n y => exact gen _ rfl h
  | mkf1 g y => exact gen _ rfl h
  | sidx y z => exact gen _ rfl h
  | toStr y => exact gen _ rfl h
  | isNil n y => exact gen _ rfl h
  | lkp a b c d e f => exact gen _ rfl h
  | lenM y => exact gen _ rfl h
  | _ => simp only [fop] at h; cases h

theorem xW_sound {op : AOp} {x : XS} {xo : XO} {v : AV} (h : xW op x = some (xo, v)) : aop op x.st = some (xo.objs, v) := by
  cases op with
  | alloc id zero =>
    simp only [xW, xAlloc, Option.some.injEq, Prod.mk.injEq] at h
    obtain ⟨rfl, rfl⟩ := h
    simp only [aop, newObj, xnew, XO.objs_new]; rfl
  | boxO id y =>
    simp only [xW, xBoxO] at h
    split at h
    · rename_i cs hc
      simp only [Option.some.injEq, Prod.mk.injEq] at h
      obtain ⟨rfl, rfl⟩ := h
      simp only [aop, hc, newObj, xnew, XO.objs_new]; rfl
    · cases h
  | slO id n sz zero parts =>
    simp only [xW, xSlO] at h
    split at h
    · rename_i cs hc
      simp only [Option.some.injEq, Prod.mk.injEq] at h
      obtain ⟨rfl, rfl⟩ := h
      simp only [aop, hc, newObj, xnew, XO.objs_new]; rfl
    · cases h
  | mk id sz bytes zero len cap =>
    simp only [xW, xMk] at h
    split at h
    · rename_i l c hl hc
      split at h
      · rename_i hi
        simp only [Option.some.injEq, Prod.mk.injEq] at h
        obtain ⟨rfl, rfl⟩ := h
        simp only [aop, hl, hc, if_pos hi, newObj, xnew, XO.objs_new]; rfl
      · cases h
    · cases h
  | store sz a y =>
    simp only [xW, xStore] at h
    split at h
    · rename_i o ver i off ha
      split at h
      · rename_i cs hc
        split at h
        · rename_i ob hm
          split at h
          · rename_i row hrow
            unfold xStoreC at h
            split at h
            · cases h
            · rename_i hfz
              split at h
              · cases h
              · rename_i hb
                split at h
                · cases h
                · rename_i hb2
                  simp only [Option.some.injEq, Prod.mk.injEq] at h
                  obtain ⟨rfl, rfl⟩ := h
                  have hm' : x.st.objs.m o ver = some ob := hm
                  simp only [aop, ha, hc, hm', hrow, if_pos (show ob.frozen = false ∧ cs.length = sz ∧ off + sz ≤ row.length from ⟨hfz, Nat.eq_of_beq_eq_true hb, Nat.le_of_ble_eq_true hb2⟩),
                    XO.objs_setv _ _ _ _ hm]; rfl
          · cases h
        · cases h
      · cases h
    · cases h
  | app id sz bytes y z =>
    simp only [xW, xApp] at h
    split at h
    · cases h
    · rename_i ys hy
      split at h
      · rename_i he
        unfold xApp0 at h
        split at h
        · rename_i h0
          simp only [Option.some.injEq, Prod.mk.injEq] at h
          obtain ⟨rfl, rfl⟩ := h
          simp only [aop, hy, he, if_pos h0]; rfl
        · rename_i h0
          split at h
          · rename_i hi
            simp only [Option.some.injEq, Prod.mk.injEq] at h
            obtain ⟨rfl, rfl⟩ := h
            simp only [aop, hy, he, if_neg h0, if_pos hi, newObj, xnew, XO.objs_new]; rfl
          · cases h
      · rename_i o ver sz' st len he
        split at h
        · rename_i ob hm
          unfold xAppO at h
          split at h
          · rename_i hi
            simp only [Option.some.injEq, Prod.mk.injEq] at h
            obtain ⟨rfl, rfl⟩ := h
            have hm' : x.st.objs.m o ver = some ob := hm
            simp only [aop, hy, he, hm', if_pos hi, XO.objs_new, XO.objs_setv _ _ _ _ hm]; rfl
          · cases h
        · cases h
      · cases h
  | mkM id sz =>
    simp only [xW, xMkM, Option.some.injEq, Prod.mk.injEq] at h
    obtain ⟨rfl, rfl⟩ := h
    simp only [aop, newObj, xnew, XO.objs_new]; rfl
  | mkfO g caps =>
    simp only [xW, xMkfO] at h
    split at h
    · rename_i sv hsv
      split at h
      · rename_i pv hpv
        split at h
        · rename_i l hl
          simp only [Option.some.injEq, Prod.mk.injEq] at h
          obtain ⟨rfl, rfl⟩ := h
          simp only [aop, hsv, hpv, hl, XO.objs_fz]; rfl
        · cases h
      · cases h
    · cases h
  | updM str y k z =>
    simp only [xW, xUpdM] at h
    split at h
    · rename_i o ver pk sv hy hk hz
      split at h
      · rename_i ob hm
        have hm' : x.st.objs.m o ver = some ob := hm
        split at h
        · rename_i hik
          split at h
          · cases h
          · rename_i sv' hmv
            split at h
            · split at h
              · rename_i i vs hf
                simp only [Option.some.injEq, Prod.mk.injEq] at h
                obtain ⟨rfl, rfl⟩ := h
                simp only [aop, hy, hk, hz, hm', if_pos hik, hmv, hf, XO.objs_setv _ _ _ _ hm]; rfl
              · rename_i hf
                simp only [Option.some.injEq, Prod.mk.injEq] at h
                obtain ⟨rfl, rfl⟩ := h
                simp only [aop, hy, hk, hz, hm', if_pos hik, hmv, hf, XO.objs_setv _ _ _ _ hm]; rfl
              · cases h
            · split at h
              · rename_i i vs hf
                simp only [Option.some.injEq, Prod.mk.injEq] at h
                obtain ⟨rfl, rfl⟩ := h
                simp only [aop, hy, hk, hz, hm', if_pos hik, hmv, hf, XO.objs_setv _ _ _ _ hm]; rfl
              · rename_i hf
                simp only [Option.some.injEq, Prod.mk.injEq] at h
                obtain ⟨rfl, rfl⟩ := h
                simp only [aop, hy, hk, hz, hm', if_pos hik, hmv, hf, XO.objs_setv _ _ _ _ hm]; rfl
              · cases h
            · cases h
        · cases h
      · cases h
    · cases h
  | _ => simp only [xW] at h; cases h

theorem xaop_sound {op : AOp} {x : XS} {xo : XO} {v : AV} (h : xaop op x = some (xo, v)) : aop op x.st = some (xo.objs, v) := by
  unfold xaop at h
  split at h
  · exact xW_sound h
  · unfold xN at h
    split at h
    · rename_i v' hv
      cases h
      exact fop_sound hv
    · cases h

/-- Calls by contract: on simple values, and on pure values. -/
structure XExt where
  sv : Nat → List SV → Option AV
  ps : Nat → List PSV → Option PAV
abbrev XRun := ACode → XS → Option (Ex × XS)

def xargs : Nat → List SV → T AV → T AV
  | _, [], t => t
  | i, a :: r, t => xargs (i + 1) r (t.put i (.s a))

theorem get_xargs : ∀ (l : List SV) (i : Nat) (t : T AV) (m : Nat), (xargs i l t).get m = if m < i then t.get m else match l[m - i]? with
    | some x => some (.s x)
    | none => t.get m
  | [], i, t, m => by simp [xargs]
  | a :: r, i, t, m => by
    unfold xargs
    rw [get_xargs r (i + 1)]
    by_cases h : m < i
    · rw [if_pos (by omega), if_pos h, T.get_put, if_neg (by omega)]
    · rw [if_neg h]
      by_cases e : m = i
      · subst e; simp [T.get_put]
      · rw [if_neg (by omega), T.get_put, if_neg e]
        have : m - i = (m - (i + 1)) + 1 := by omega
        rw [this]; simp

def xinit (args : List SV) (objs : XO) (base : Nat) : XS := { slots := xargs 0 args .leaf, objs, base }
theorem xinit_st (args : List SV) (objs : XO) (base : Nat) : (xinit args objs base).st = { slots := initSlots args, objs := objs.objs, base } := by
  unfold xinit XS.st
  congr 1
  funext n
  simp only [XS.slot, get_xargs, initSlots]
  simp only [Nat.not_lt_zero, if_false, Nat.sub_zero]
  cases args[n]? <;> rfl

def Ex.ends : Ex → Bool
  | .normal | .ret => true
  | .exit _ => false

def runF (env : Nat → Option AFun) (xe : XExt) (run : XRun) (g base : Nat) (objs : XO) (args : List SV) : Option (XO × AV) :=
  match xe.sv g args with
  | some r => some (objs, r)
  | none => match env g with
  | none => none
  | some f => match Nat.beq args.length f.nargs with
    | false => none
    | true => match run f.body (xinit args objs base) with
      | none => none
      | some (e, x) => match e.ends with
        | false => none
        | true => match resultsA f.results x.st with
          | none => none
          | some r => some (x.objs, r)

def runP (env : Nat → Option AFun) (xe : XExt) (run : XRun) (g : Nat) (args : List PSV) : Option PAV :=
  match xe.ps g args with
  | some r => some r
  | none => match runF env xe run g 0 .leaf (args.map PSV.up) with
    | none => none
    | some (o, r) => purAV o.objs r

def xbehind (x : XS) (args : List SV) (res : PAV) : XO :=
  match res.scalar with
  | true => x.objs
  | false => x.objs.fz (args.flatMap (rchSV x.st.objs))

def xop (env : Nat → Option AFun) (xe : XExt) (run : XRun) (a : AO) (x : XS) : Option XS :=
  match guardV x.st a.guard with
  | none => none
  | some false => some (x.put a.dst (.tup []))
  | some true => match a.op with
    | .call g args => match argsOf x.st args with
      | none => none
      | some sv => match allSome (sv.map (purSV x.st.objs)) with
        | none => none
        | some pv => match runP env xe run g pv with
          | none => none
          | some res => some (XS.put { x with objs := xbehind x sv res } a.dst res.up)
    | .callP g args => match argsOf x.st args with
      | none => none
      | some sv => match allSome (sv.map SV.pure?) with
        | none => none
        | some pv => match runP env xe run g pv with
          | none => none
          | some res => some (x.put a.dst res.up)
    | .callV f args => match argsOf x.st args with
      | none => none
      | some sv => match callee x.st f sv with
        | none => none
        | some (g, sv') => match allSome (sv'.map (purSV x.st.objs)) with
          | none => none
          | some pv => match runP env xe run g pv with
            | none => none
            | some res => some (XS.put { x with objs := xbehind x sv' res } a.dst res.up)
    | .callR b g args => match argsOf x.st args with
      | none => none
      | some sv => match runF env xe run g (x.base + b) x.objs sv with
        | none => none
        | some (o, r) => some (XS.put { x with objs := o } a.dst r)
    | op => match xaop op x with
      | none => none
      | some (o, v) => some (XS.put { x with objs := o } a.dst v)

def xops (env : Nat → Option AFun) (xe : XExt) (run : XRun) : List AO → XS → Option XS
  | [], x => some x
  | a :: l, x => match xop env xe run a x with
    | none => none
    | some x => xops env xe run l x

def xstep (env : Nat → Option AFun) (xe : XExt) (run : XRun) : XRun
  | .skip, x => some (.normal, x)
  | .ret, x => some (.ret, x)
  | .exit i, x => some (.exit i, x)
  | .region ops _, x => match xops env xe run ops x with
    | none => none
    | some x => some (.normal, x)
  | .seq a b, x => match run a x with
    | some (.normal, x) => run b x
    | r => r
  | .cond c a b, x => match x.st.ev c with
    | .s (.c (.p (.bool true))) => run a x
    | .s (.c (.p (.bool false))) => run b x
    | _ => none
  | .block i c, x => match run c x with
    | some (.exit j, x) => match Nat.beq j i with
      | true => some (.normal, x)
      | false => some (.exit j, x)
    | r => r
  | .loop c, x => match run c x with
    | some (.normal, x) => run (.loop c) x
    | r => r

def exec (env : Nat → Option AFun) (xe : XExt) : Nat → XRun
  | 0 => fun _ _ => none
  | n + 1 => xstep env xe (exec env xe n)

def XEOK (env : Nat → Option AFun) (xe : XExt) (ext : Calls0) : Prop := (∀ g args r, xe.sv g args = some r → ∀ base objs, ext g base objs args objs r) ∧
  ∀ g args res, xe.ps g args = some res → PCall env ext g args res

def XOK (env : Nat → Option AFun) (ext : Calls0) (run : XRun) : Prop := ∀ c x e x', run c x = some (e, x') → BS (Call env ext) c x.st e x'.st

variable {env : Nat → Option AFun} {xe : XExt} {ext : Calls0} {run : XRun}

theorem runF_sound (hx : XEOK env xe ext) (H : XOK env ext run) {g base : Nat} {objs : XO} {args : List SV} {o : XO} {r : AV} (h : runF env xe run g base objs args = some (o, r)) :
    Call env ext g base objs.objs args o.objs r := by
  unfold runF at h
  split at h
  · rename_i r' hr
    simp only [Option.some.injEq, Prod.mk.injEq] at h
    obtain ⟨rfl, rfl⟩ := h
    exact ⟨0, hx.1 _ _ _ hr _ _⟩
  split at h
  · simp at h
  rename_i f hf
  split at h
  · simp at h
  rename_i hl
  split at h
  · simp at h
  rename_i e x hx
  split at h
  · simp at h
  rename_i he
  split at h
  · simp at h
  rename_i r' hr
  simp only [Option.some.injEq, Prod.mk.injEq] at h
  obtain ⟨rfl, rfl⟩ := h
  have := H _ _ _ _ hx
  rw [xinit_st] at this
  have he : e = .normal ∨ e = .ret := by cases e <;> simp_all [Ex.ends]
  exact Call.of_body hf (Nat.eq_of_beq_eq_true hl) this he hr

theorem runP_sound (hx : XEOK env xe ext) (H : XOK env ext run) {g : Nat} {args : List PSV} {res : PAV} (h : runP env xe run g args = some res) : PCall env ext g args res := by
  unfold runP at h
  split at h
  · rename_i r hr
    cases h
    exact hx.2 _ _ _ hr
  split at h
  · simp at h
  rename_i o r hr
  exact ⟨_, _, runF_sound hx H hr, h⟩

theorem xbehind_st (x : XS) (sv : List SV) (res : PAV) : (xbehind x sv res).objs = behind x.st sv res := by
  unfold xbehind behind
  cases res.scalar
  · simp only [XO.objs_fz]; rfl
  · rfl

theorem xop_sound (hx : XEOK env xe ext) (H : XOK env ext run) {a : AO} {x x' : XS} (h : xop env xe run a x = some x') : BO (Call env ext) a x.st x'.st := by
  unfold xop at h
  split at h
  · simp at h
  · rename_i hg
    simp only [Option.some.injEq] at h
    subst h
    rw [XS.st_put]; exact .skip hg
  rename_i hg
  split at h
  · rename_i g args ho
    split at h
    · simp at h
    rename_i sv ha
    split at h
    · simp at h
    rename_i pv hp
    split at h
    · simp at h
    rename_i res hr
    simp only [Option.some.injEq] at h
    subst h
    have := BO.call hg ho ha hp (runP_sound hx H hr)
    rw [← xbehind_st] at this
    rw [XS.st_put]; exact this
  · rename_i g args ho
    split at h
    · simp at h
    rename_i sv ha
    split at h
    · simp at h
    rename_i pv hp
    split at h
    · simp at h
    rename_i res hr
    simp only [Option.some.injEq] at h
    subst h
    rw [XS.st_put]; exact BO.callP hg ho ha hp (runP_sound hx H hr)
  · rename_i f args ho
    split at h
    · simp at h
    rename_i sv ha
    split at h
    · simp at h
    rename_i g sv' hc
    split at h
    · simp at h
    rename_i pv hp
    split at h
    · simp at h
    rename_i res hr
    simp only [Option.some.injEq] at h
    subst h
    have := BO.callV hg ho ha hc hp (runP_sound hx H hr)
    rw [← xbehind_st] at this
    rw [XS.st_put]; exact this
  · rename_i b g args ho
    split at h
    · simp at h
    rename_i sv ha
    split at h
    · simp at h
    rename_i o r hr
    simp only [Option.some.injEq] at h
    subst h
    rw [XS.st_put]; exact BO.callR hg ho ha (runF_sound hx H hr)
  · split at h
    · simp at h
    rename_i o v hx
    simp only [Option.some.injEq] at h
    subst h
    rw [XS.st_put]; exact BO.op hg (xaop_sound hx)

theorem xops_sound (hx : XEOK env xe ext) (H : XOK env ext run) : ∀ {l : List AO} {x x' : XS}, xops env xe run l x = some x' → BOs (Call env ext) l x.st x'.st
  | [], x, x', h => by simp only [xops, Option.some.injEq] at h; subst h; exact .nil
  | a :: l, x, x', h => by
    unfold xops at h
    split at h
    · simp at h
    · rename_i y hy
      exact .cons (xop_sound hx H hy) (xops_sound hx H h)

theorem xstep_sound (hx : XEOK env xe ext) (H : XOK env ext run) : XOK env ext (xstep env xe run) := by
  intro c x e x' h
  cases c with
  | skip => simp only [xstep, Option.some.injEq, Prod.mk.injEq] at h; obtain ⟨rfl, rfl⟩ := h; exact .skip
  | ret => simp only [xstep, Option.some.injEq, Prod.mk.injEq] at h; obtain ⟨rfl, rfl⟩ := h; exact .ret
  | exit i => simp only [xstep, Option.some.injEq, Prod.mk.injEq] at h; obtain ⟨rfl, rfl⟩ := h; exact .exit
  | region ops d =>
    simp only [xstep] at h
    split at h
    · simp at h
    · rename_i y hy
      simp only [Option.some.injEq, Prod.mk.injEq] at h; obtain ⟨rfl, rfl⟩ := h
      exact .region (xops_sound hx H hy)
  | seq a b =>
    simp only [xstep] at h
    split at h
    · rename_i y hy; exact .seq (H _ _ _ _ hy) (H _ _ _ _ h)
    · rename_i hn
      exact .seqX (H _ _ _ _ h) (fun e' => by subst e'; exact hn _ h)
  | cond c a b =>
    simp only [xstep] at h
    split at h
    · rename_i hc; exact .condT hc (H _ _ _ _ h)
    · rename_i hc; exact .condF hc (H _ _ _ _ h)
    · simp at h
  | block i c =>
    simp only [xstep] at h
    split at h
    · rename_i j y hy
      split at h
      · rename_i hj
        simp only [Option.some.injEq, Prod.mk.injEq] at h; obtain ⟨rfl, rfl⟩ := h
        have := Nat.eq_of_beq_eq_true hj; subst this
        exact .blockX (H _ _ _ _ hy)
      · rename_i hj
        simp only [Option.some.injEq, Prod.mk.injEq] at h; obtain ⟨rfl, rfl⟩ := h
        exact .blockO (H _ _ _ _ hy) (by simp) (by intro e; simp only [Ex.exit.injEq] at e; subst e; simp at hj)
    · rename_i hn
      cases e with
      | normal => exact .blockN (H _ _ _ _ h)
      | ret => exact .blockO (H _ _ _ _ h) (by simp) (by simp)
      | exit j => exact (hn _ _ h).elim
  | loop c =>
    simp only [xstep] at h
    split at h
    · rename_i y hy; exact .loopN (H _ _ _ _ hy) (H _ _ _ _ h)
    · rename_i hn
      exact .loopX (H _ _ _ _ h) (fun e' => by subst e'; exact hn _ h)

theorem exec_sound (hx : XEOK env xe ext) : ∀ n, XOK env ext (exec env xe n)
  | 0 => fun _ _ _ _ h => by simp [exec] at h
  | n + 1 => xstep_sound hx (exec_sound hx n)

/-- A pure call, by computation. -/
theorem PCall.of_exec (hx : XEOK env xe ext) (n : Nat) {g : Nat} {args : List PSV} {res : PAV} (h : runP env xe (exec env xe n) g args = some res) : PCall env ext g args res := runP_sound hx (exec_sound hx n) h
end Go.Av
