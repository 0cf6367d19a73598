/- The abstract machine of the Av files, run by quicker computation: each operation is made ready once. No condition. -/
import Derived.Test.YthdilnjdkniofaaGreatAvExec
namespace Go.Av
open Go

inductive Pth where
  | e
  | l (p : Pth)
  | r (p : Pth)

variable {α : Type}
def pathF : Nat → Nat → Pth
  | 0, _ => .e
  | _ + 1, 0 => .e
  | d + 1, n + 1 => match Nat.mod n 2 with
    | 0 => .l (pathF d (Nat.div n 2))
    | _ => .r (pathF d (Nat.div n 2))
def pathOf (n : Nat) : Pth := pathF (n + 1) n

noncomputable def getP (p : Pth) : T α → Option α := Pth.rec (motive := fun _ => T α → Option α) (fun t => t.v) (fun _ ih t => ih t.l) (fun _ ih t => ih t.r) p
noncomputable def setP (p : Pth) : T α → α → T α := Pth.rec (motive := fun _ => T α → α → T α) (fun t a => .node t.l (some a) t.r) (fun _ ih t a => .node (ih t.l a) t.v t.r)
  (fun _ ih t a => .node t.l t.v (ih t.r a)) p

theorem getP_F : ∀ (d n : Nat) (t : T α), n < d → getP (pathF d n) t = t.get n
  | 0, _, _, h => by omega
  | d + 1, 0, t, _ => by cases t <;> rfl
  | d + 1, n + 1, t, h => by
    rw [← T.get_node t]
    simp only [pathF, T.get]
    rw [show Nat.mod n 2 = n % 2 from rfl, show Nat.div n 2 = n / 2 from rfl]
    cases hn : n % 2 with
    | zero =>
      show getP (pathF d (n / 2)) t.l = _
      rw [getP_F d (n / 2) t.l (by omega)]
      rfl
    | succ k =>
      show getP (pathF d (n / 2)) t.r = _
      rw [getP_F d (n / 2) t.r (by omega)]
      rfl
theorem getP_eq (n : Nat) (t : T α) : getP (pathOf n) t = t.get n := getP_F _ _ _ (by omega)
theorem setP_F : ∀ (d n : Nat) (t : T α) (a : α), n < d → setP (pathF d n) t a = T.setAt d t n a
  | 0, _, _, _, h => by omega
  | d + 1, 0, t, _, _ => rfl
  | d + 1, n + 1, t, a, h => by
    simp only [pathF, T.setAt]
    rw [show Nat.mod n 2 = n % 2 from rfl, show Nat.div n 2 = n / 2 from rfl]
    cases hn : n % 2 with
    | zero =>
      show T.node (setP (pathF d (n / 2)) t.l a) t.v t.r = _
      rw [setP_F d (n / 2) t.l a (by omega)]
      rfl
    | succ k =>
      show T.node t.l t.v (setP (pathF d (n / 2)) t.r a) = _
      rw [setP_F d (n / 2) t.r a (by omega)]
      rfl
theorem setP_eq (n : Nat) (t : T α) (a : α) : setP (pathOf n) t a = t.put n a := setP_F _ _ _ _ (by omega)

inductive OP where
  | slot (p : Pth)
  | val (v : AV)
def compO : Opd → OP
  | .t n => .slot (pathOf n)
  | .k x => .val (.s (.c x))
  | .ka cs => .val (.s (.agg cs))
  | .fn g => .val (.s (.c (.p (.clo g []))))

noncomputable def slotP (p : Pth) (x : XS) : AV := match getP p x.slots with
  | some v => v
  | none => .u
noncomputable def evO (o : OP) (x : XS) : AV := match o with
  | .slot p => slotP p x
  | .val v => v
theorem slotP_eq (n : Nat) (x : XS) : slotP (pathOf n) x = x.st.slots n := by
  unfold slotP; rw [getP_eq]; rfl
theorem evO_eq (y : Opd) (x : XS) : evO (compO y) x = x.st.ev y := by
  cases y with
  | t n => exact slotP_eq n x
  | _ => rfl

inductive OPth where
  | some (p : Pth)
  | none
def compD : Option Nat → OPth
  | some n => .some (pathOf n)
  | none => .none
noncomputable def putP (d : OPth) (v : AV) (x : XS) : XS := match d with
  | .some p => match x with
    | ⟨sl, ob, b⟩ => ⟨setP p sl v, ob, b⟩
  | .none => x
theorem putP_eq (d : Option Nat) (v : AV) (x : XS) : putP (compD d) v x = x.put d v := by
  cases d with
  | none => rfl
  | some d => cases x; simp only [compD, putP, XS.put, setP_eq]

inductive GP where
  | none
  | some (p : Pth) (want : Bool)
def compG : Option (Nat × Bool) → GP
  | .none => .none
  | .some (t, w) => .some (pathOf t) w
noncomputable def sG (g : GP) (d : OPth) (k : XS → Option XS) (x : XS) : Option XS := match g with
  | .none => k x
  | .some p want => match slotP p x with
    | .s (.c (.p (.bool b))) => match b, want with
      | true, true => k x
      | false, false => k x
      | true, false => Option.some (putP d (.tup []) x)
      | false, true => Option.some (putP d (.tup []) x)
    | .tup [] => Option.some (putP d (.tup []) x)
    | _ => Option.none

theorem sG_eq (g : Option (Nat × Bool)) (d : Option Nat) (k : XS → Option XS) (x : XS) : sG (compG g) (compD d) k x = match guardV x.st g with
    | none => none
    | some false => some (x.put d (.tup []))
    | some true => k x := by
  cases g with
  | none => rfl
  | some g =>
    obtain ⟨t, want⟩ := g
    simp only [compG, sG, slotP_eq, putP_eq]
    split
    · rename_i b hb
      have : guardV x.st (some (t, want)) = some (b == want) := by simp [guardV, hb]
      rw [this]
      cases b <;> cases want <;> rfl
    · rename_i hb
      have : guardV x.st (some (t, want)) = some false := by simp [guardV, hb]
      rw [this]
    · rename_i h1 h2
      have : guardV x.st (some (t, want)) = none := by
        unfold guardV
        split
        · rename_i h; cases h
        · rename_i h; cases h
          split
          · rename_i b hb; exact (h1 _ hb).elim
          · rename_i hb; exact (h2 hb).elim
          · rfl
      rw [this]

noncomputable def stepV (d : OPth) (o : Option AV) (x : XS) : Option XS := match o with
  | some v => some (putP d v x)
  | none => none
noncomputable def stepW (d : OPth) (o : Option (XO × AV)) (x : XS) : Option XS := match o with
  | some (o, v) => match x with
    | ⟨sl, _, b⟩ => some (putP d v ⟨sl, o, b⟩)
  | none => none

abbrev XOp := XRun → XS → Option XS
inductive Step where
  | mk (f : XOp)

def sCall (env : Nat → Option AFun) (xe : XExt) (d : Option Nat) (g : Nat) (args : List Opd) (run : XRun) (x : XS) : Option XS := match argsOf x.st args with
  | none => none
  | some sv => match allSome (sv.map (purSV x.st.objs)) with
    | none => none
    | some pv => match runP env xe run g pv with
      | none => none
      | some res => some (XS.put { x with objs := xbehind x sv res } d res.up)
def sCallP (env : Nat → Option AFun) (xe : XExt) (d : Option Nat) (g : Nat) (args : List Opd) (run : XRun) (x : XS) : Option XS := match argsOf x.st args with
  | none => none
  | some sv => match allSome (sv.map SV.pure?) with
    | none => none
    | some pv => match runP env xe run g pv with
      | none => none
      | some res => some (x.put d res.up)
def sCallV (env : Nat → Option AFun) (xe : XExt) (d : Option Nat) (f : Opd) (args : List Opd) (run : XRun) (x : XS) : Option XS := match argsOf x.st args with
  | none => none
  | some sv => match callee x.st f sv with
    | none => none
    | some (g, sv') => match allSome (sv'.map (purSV x.st.objs)) with
      | none => none
      | some pv => match runP env xe run g pv with
        | none => none
        | some res => some (XS.put { x with objs := xbehind x sv' res } d res.up)
def sCallR (env : Nat → Option AFun) (xe : XExt) (d : Option Nat) (b g : Nat) (args : List Opd) (run : XRun) (x : XS) : Option XS := match argsOf x.st args with
  | none => none
  | some sv => match runF env xe run g (x.base + b) x.objs sv with
    | none => none
    | some (o, r) => some (XS.put { x with objs := o } d r)

/-- An operation, made ready. -/
noncomputable def coreS (env : Nat → Option AFun) (xe : XExt) (d : Option Nat) (p : OPth) : AOp → Step
  | .mv y => .mk fun _ x => stepV p (some (evO (compO y) x)) x
  | .pick c y z => .mk fun _ x => stepV p (fPick (evO (compO c) x) (evO (compO y) x) (evO (compO z) x)) x
  | .load agg sz y => .mk fun _ x => stepV p (fLoad (XO.m x.objs) agg sz (evO (compO y) x)) x
  | .bin op y z => .mk fun _ x => stepV p (fBin op (evO (compO y) x) (evO (compO z) x)) x
  | .binB op y z => .mk fun _ x => stepV p (fBinB op (evO (compO y) x) (evO (compO z) x)) x
  | .un op y => .mk fun _ x => stepV p (fUn op (evO (compO y) x)) x
  | .conv k y => .mk fun _ x => stepV p (fConv k (evO (compO y) x)) x
  | .fa off sz y => .mk fun _ x => stepV p (fFa off sz (evO (compO y) x)) x
  | .fld agg off sz y => .mk fun _ x => stepV p (fFld agg off sz (evO (compO y) x)) x
  | .ia sz y z => .mk fun _ x => stepV p (fIa sz (evO (compO y) x) (evO (compO z) x)) x
  | .len y => .mk fun _ x => stepV p (fLen (evO (compO y) x)) x
  | .ext i y => .mk fun _ x => stepV p (fExt i (evO (compO y) x)) x
  | .nck y => .mk fun _ x => stepV p (fNck (evO (compO y) x)) x
  | .boxP y => .mk fun _ x => stepV p (fBoxP (evO (compO y) x)) x
  | .build z ps => .mk fun _ x => stepV p (fBuild x.st z ps) x
  | .slP n sz z ps => .mk fun _ x => stepV p (fSlP x.st n sz z ps) x
  | .slice sz y lo hi mx => .mk fun _ x => stepV p (asl sz (evO (compO y) x) x.st lo hi mx) x
  | .iaA n sz y z => .mk fun _ x => stepV p (fGen (.iaA n sz y z) x.st) x
  | .mkf g l => .mk fun _ x => stepV p (fGen (.mkf g l) x.st) x
  | .minI y z => .mk fun _ x => stepV p (fGen (.minI y z) x.st) x
  | .maxI y z => .mk fun _ x => stepV p (fGen (.maxI y z) x.st) x
  | .loadS n y => .mk fun _ x => stepV p (fGen (.loadS n y) x.st) x
  | .mkf1 g y => .mk fun _ x => stepV p (fGen (.mkf1 g y) x.st) x
  | .sidx y z => .mk fun _ x => stepV p (fGen (.sidx y z) x.st) x
  | .toStr y => .mk fun _ x => stepV p (fGen (.toStr y) x.st) x
  | .isNil n y => .mk fun _ x => stepV p (fGen (.isNil n y) x.st) x
  | .lkp a b c e f g => .mk fun _ x => stepV p (fGen (.lkp a b c e f g) x.st) x
  | .lenM y => .mk fun _ x => stepV p (fGen (.lenM y) x.st) x
  | .bad => .mk fun _ _ => none
  | .alloc id zero => .mk fun _ x => stepW p (xAlloc x id zero) x
  | .boxO id y => .mk fun _ x => stepW p (xBoxO x id (evO (compO y) x)) x
  | .slO id n sz zero parts => .mk fun _ x => stepW p (xSlO x id n sz zero parts) x
  | .mk id sz bytes zero len cap => .mk fun _ x => stepW p (xMk x id sz bytes zero (evO (compO len) x) (evO (compO cap) x)) x
  | .store sz a y => .mk fun _ x => stepW p (xStore x sz (evO (compO a) x) (evO (compO y) x)) x
  | .app id sz bytes y z => .mk fun _ x => stepW p (xApp x id sz bytes (evO (compO y) x) (evO (compO z) x)) x
  | .mkM id sz => .mk fun _ x => stepW p (xMkM x id sz) x
  | .updM str y k z => .mk fun _ x => stepW p (xUpdM x str (evO (compO y) x) (evO (compO k) x) (evO (compO z) x)) x
  | .mkfO g caps => .mk fun _ x => stepW p (xMkfO x g caps) x
  | .call g args => .mk <| sCall env xe d g args
  | .callP g args => .mk <| sCallP env xe d g args
  | .callV f args => .mk <| sCallV env xe d f args
  | .callR b g args => .mk <| sCallR env xe d b g args

noncomputable def Step.run (s : Step) : XOp := match s with
  | .mk f => f
noncomputable def core (env : Nat → Option AFun) (xe : XExt) (d : Option Nat) (p : OPth) (op : AOp) : XOp := (coreS env xe d p op).run

noncomputable def comp (env : Nat → Option AFun) (xe : XExt) (a : AO) : Step := match a with
  | ⟨d, op, g⟩ => match g with
    | none => coreS env xe d (compD d) op
    | some g => match coreS env xe d (compD d) op with
      | .mk f => .mk fun run x => sG (compG (some g)) (compD d) (f run) x

noncomputable def qop (env : Nat → Option AFun) (xe : XExt) (run : XRun) (a : AO) (x : XS) : Option XS := match comp env xe a with
  | .mk f => f run x

theorem stepV_eq (d : Option Nat) (o : Option AV) (x : XS) : stepV (compD d) o x = match o with
    | some v => some (XS.put { x with objs := x.objs } d v)
    | none => none := by
  cases o with
  | none => rfl
  | some v => simp only [stepV, putP_eq]
theorem stepW_eq (d : Option Nat) (o : Option (XO × AV)) (x : XS) : stepW (compD d) o x = match o with
    | some (o, v) => some (XS.put { x with objs := o } d v)
    | none => none := by
  cases o with
  | none => rfl
  | some q => obtain ⟨o, v⟩ := q; cases x; simp only [stepW, putP_eq]

theorem core_eq (env : Nat → Option AFun) (xe : XExt) (run : XRun) (d : Option Nat) (op : AOp) (x : XS) : core env xe d (compD d) op run x = match op with
    | .call g args => sCall env xe d g args run x
    | .callP g args => sCallP env xe d g args run x
    | .callV f args => sCallV env xe d f args run x
    | .callR b g args => sCallR env xe d b g args run x
    | op => match xaop op x with
      | none => none
      | some (o, v) => some (XS.put { x with objs := o } d v) := by
  have hV : ∀ op, op.writes = false → (stepV (compD d) (fop op x) x = match xaop op x with
      | none => none
      | some (o, v) => some (XS.put { x with objs := o } d v)) := by
    intro op hw
    rw [stepV_eq]
    unfold xaop
    rw [hw]
    unfold xN
    cases fop op x <;> rfl
  have hW : ∀ op, op.writes = true → (stepW (compD d) (xW op x) x = match xaop op x with
      | none => none
      | some (o, v) => some (XS.put { x with objs := o } d v)) := by
    intro op hw
    rw [stepW_eq]
    unfold xaop
    rw [hw]
    cases xW op x <;> rfl
  cases op with
  | call => rfl
  | callP => rfl
  | callV => rfl
  | callR => rfl
  | bad => rfl
  | alloc id zero => exact hW (.alloc id zero) rfl
  | boxO id y => simp only [core, coreS, Step.run, evO_eq]; exact hW (.boxO id y) rfl
  | slO id n sz zero parts => exact hW (.slO id n sz zero parts) rfl
  | mk id sz bytes zero len cap => simp only [core, coreS, Step.run, evO_eq]; exact hW (.mk id sz bytes zero len cap) rfl
  | store sz a y => simp only [core, coreS, Step.run, evO_eq]; exact hW (.store sz a y) rfl
  | app id sz bytes y z => simp only [core, coreS, Step.run, evO_eq]; exact hW (.app id sz bytes y z) rfl
  | mkM id sz => exact hW (.mkM id sz) rfl
  | mkfO g caps => exact hW (.mkfO g caps) rfl
  | updM str y k z => simp only [core, coreS, Step.run, evO_eq]; exact hW (.updM str y k z) rfl
  | mv y => simp only [core, coreS, Step.run, evO_eq]; exact hV (.mv y) rfl
  | pick c y z => simp only [core, coreS, Step.run, evO_eq]; exact hV (.pick c y z) rfl
  | load agg sz y => simp only [core, coreS, Step.run, evO_eq]; exact hV (.load agg sz y) rfl
  | bin op y z => simp only [core, coreS, Step.run, evO_eq]; exact hV (.bin op y z) rfl
  | binB op y z => simp only [core, coreS, Step.run, evO_eq]; exact hV (.binB op y z) rfl
  | un op y => simp only [core, coreS, Step.run, evO_eq]; exact hV (.un op y) rfl
  | conv k y => simp only [core, coreS, Step.run, evO_eq]; exact hV (.conv k y) rfl
  | fa off sz y => simp only [core, coreS, Step.run, evO_eq]; exact hV (.fa off sz y) rfl
  | fld agg off sz y => simp only [core, coreS, Step.run, evO_eq]; exact hV (.fld agg off sz y) rfl
  | ia sz y z => simp only [core, coreS, Step.run, evO_eq]; exact hV (.ia sz y z) rfl
  | len y => simp only [core, coreS, Step.run, evO_eq]; exact hV (.len y) rfl
  | ext i y => simp only [core, coreS, Step.run, evO_eq]; exact hV (.ext i y) rfl
  | nck y => simp only [core, coreS, Step.run, evO_eq]; exact hV (.nck y) rfl
  | boxP y => simp only [core, coreS, Step.run, evO_eq]; exact hV (.boxP y) rfl
  | build z ps => exact hV (.build z ps) rfl
  | slP n sz z ps => exact hV (.slP n sz z ps) rfl
  | slice sz y lo hi mx => simp only [core, coreS, Step.run, evO_eq]; exact hV (.slice sz y lo hi mx) rfl
  | iaA n sz y z => exact hV (.iaA n sz y z) rfl
  | mkf g l => exact hV (.mkf g l) rfl
  | minI y z => exact hV (.minI y z) rfl
  | maxI y z => exact hV (.maxI y z) rfl
  | loadS n y => exact hV (.loadS n y) rfl
  | mkf1 g y => exact hV (.mkf1 g y) rfl
  | sidx y z => exact hV (.sidx y z) rfl
  | toStr y => exact hV (.toStr y) rfl
  | isNil n y => exact hV (.isNil n y) rfl
  | lkp a b c e f g => exact hV (.lkp a b c e f g) rfl
  | lenM y => exact hV (.lenM y) rfl

theorem qop_eq (env : Nat → Option AFun) (xe : XExt) (run : XRun) (a : AO) (x : XS) : qop env xe run a x = xop env xe run a x := by
  obtain ⟨d, op, g⟩ := a
  have hx : xop env xe run ⟨d, op, g⟩ x = match guardV x.st g with
      | none => none
      | some false => some (x.put d (.tup []))
      | some true => core env xe d (compD d) op run x := by
    rw [core_eq]
    unfold xop
    cases guardV x.st g with
    | none => rfl
    | some b => cases b <;> rfl
  rw [hx]
  cases g with
  | none =>
    show qop env xe run ⟨d, op, none⟩ x = core env xe d (compD d) op run x
    unfold qop comp core Step.run
    rfl
  | some g =>
    have : qop env xe run ⟨d, op, some g⟩ x = sG (compG (some g)) (compD d) (core env xe d (compD d) op run) x := by
      unfold qop comp core Step.run
      simp only []
    rw [this]
    exact sG_eq (some g) d _ x

noncomputable def qops (env : Nat → Option AFun) (xe : XExt) (run : XRun) : List AO → XS → Option XS
  | [], x => some x
  | a :: l, x => match qop env xe run a x with
    | none => none
    | some x => qops env xe run l x
theorem qops_eq (env : Nat → Option AFun) (xe : XExt) (run : XRun) : ∀ (l : List AO) (x : XS), qops env xe run l x = xops env xe run l x
  | [], x => rfl
  | a :: l, x => by
    unfold qops xops
    rw [qop_eq]
    cases xop env xe run a x with
    | none => rfl
    | some y => exact qops_eq env xe run l y

noncomputable def qstep (env : Nat → Option AFun) (xe : XExt) (run : XRun) : XRun := fun c x => match c with
  | .skip => some (.normal, x)
  | .ret => some (.ret, x)
  | .exit i => some (.exit i, x)
  | .region ops _ => match qops env xe run ops x with
    | none => none
    | some x => some (.normal, x)
  | .seq a b => match run a x with
    | some (.normal, x) => run b x
    | r => r
  | .cond c a b => match evO (compO c) x with
    | .s (.c (.p (.bool true))) => run a x
    | .s (.c (.p (.bool false))) => run b x
    | _ => none
  | .block i c => match run c x with
    | some (.exit j, x) => match Nat.beq j i with
      | true => some (.normal, x)
      | false => some (.exit j, x)
    | r => r
  | .loop c => match run c x with
    | some (.normal, x) => run (.loop c) x
    | r => r
theorem qstep_eq (env : Nat → Option AFun) (xe : XExt) (run : XRun) : qstep env xe run = xstep env xe run := by
  funext c x
  cases c with
  | region ops d => simp only [qstep, xstep, qops_eq]; rfl
  | cond c a b => simp only [qstep, xstep, evO_eq]; rfl
  | _ => rfl

noncomputable def qexec (env : Nat → Option AFun) (xe : XExt) (n : Nat) : XRun := Nat.rec (motive := fun _ => XRun) (fun _ _ => none) (fun _ ih => qstep env xe ih) n
theorem qexec_eq (env : Nat → Option AFun) (xe : XExt) : ∀ n, qexec env xe n = exec env xe n
  | 0 => rfl
  | n + 1 => by
    show qstep env xe (qexec env xe n) = xstep env xe (exec env xe n)
    rw [qstep_eq, qexec_eq env xe n]

/-- A pure call, by quick computation. -/
theorem PCall.of_quick {env : Nat → Option AFun} {xe : XExt} {ext : Calls0} (hx : XEOK env xe ext) (n : Nat) {g : Nat} {args : List PSV} {res : PAV} (h : runP env xe (qexec env xe n) g args = some res) : PCall env ext g args res := by
  rw [qexec_eq] at h
  exact PCall.of_exec hx n h
end Go.Av
