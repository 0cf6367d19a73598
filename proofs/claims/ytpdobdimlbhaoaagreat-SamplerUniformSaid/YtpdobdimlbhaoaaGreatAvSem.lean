/- The abstract machine of the Av files, third part: code, calls. No condition. -/
import Derived.Test.YtpdobdimlbhaoaaGreatAvOps
namespace Go.Av
open Go

inductive Ex where
  | normal
  | exit (id : Nat)
  | ret
  deriving DecidableEq

abbrev Calls0 := Nat → Nat → Objs → List SV → Objs → AV → Prop

def PureC (Γ : Calls0) (g : Nat) (args : List PSV) (res : PAV) : Prop :=
  ∃ objs' r, Γ g 0 Objs.empty (args.map PSV.up) objs' r ∧ purAV objs' r = some res

def AV.sv? : AV → Option SV
  | .s x => some x
  | _ => none

def argsOf (s : St) (args : List Opd) : Option (List SV) := allSome (args.map fun x => (s.ev x).sv?)

def guardV (s : St) : Option (Nat × Bool) → Option Bool
  | none => some true
  | some (t, want) => match s.slots t with
    | .s (.c (.p (.bool b))) => some (b == want)
    | .tup [] => some false
    | _ => none

def PC.scalar : PC → Bool
  | .int .. | .bool _ | .str _ => true
  | _ => false
def PSV.scalar : PSV → Bool
  | .c x => x.scalar
  | .agg cs => cs.all PC.scalar
def PAV.scalar : PAV → Bool
  | .s x => x.scalar
  | .tup l => l.all PSV.scalar

/-- The objects behind a pure call. -/
def behind (s : St) (args : List SV) (res : PAV) : Objs :=
  if res.scalar then s.objs else fzIds (args.flatMap (rchSV s.objs)) s.objs

/-- What a call by a function value calls. -/
def callee (s : St) (f : Opd) (args : List SV) : Option (Nat × List SV) :=
  match s.ev f with
  | .s (.c (.p (.clo g caps))) => some (g, args ++ caps.map fun c => SV.c (.p c))
  | _ => none

inductive BO (Γ : Calls0) : AO → St → St → Prop
  | skip {a s} (h : guardV s a.guard = some false) : BO Γ a s (s.put a.dst (.tup []))
  | op {a s objs' v} (h : guardV s a.guard = some true) (ho : aop a.op s = some (objs', v)) : BO Γ a s (St.put { s with objs := objs' } a.dst v)
  | call {a s g args sv pv res} (h : guardV s a.guard = some true) (ho : a.op = .call g args) (ha : argsOf s args = some sv)
      (hp : allSome (sv.map (purSV s.objs)) = some pv) (hc : PureC Γ g pv res) : BO Γ a s (St.put { s with objs := behind s sv res } a.dst res.up)
  | callP {a s g args sv pv res} (h : guardV s a.guard = some true) (ho : a.op = .callP g args) (ha : argsOf s args = some sv)
      (hp : allSome (sv.map SV.pure?) = some pv) (hc : PureC Γ g pv res) : BO Γ a s (s.put a.dst res.up)
  | callV {a s f args sv g sv' pv res} (h : guardV s a.guard = some true) (ho : a.op = .callV f args) (ha : argsOf s args = some sv)
      (hf : callee s f sv = some (g, sv'))
      (hp : allSome (sv'.map (purSV s.objs)) = some pv) (hc : PureC Γ g pv res) : BO Γ a s (St.put { s with objs := behind s sv' res } a.dst res.up)
  | callR {a s b g args sv objs' r} (h : guardV s a.guard = some true) (ho : a.op = .callR b g args) (ha : argsOf s args = some sv)
      (hc : Γ g (s.base + b) s.objs sv objs' r) : BO Γ a s (St.put { s with objs := objs' } a.dst r)

inductive BOs (Γ : Calls0) : List AO → St → St → Prop
  | nil {s} : BOs Γ [] s s
  | cons {a l s s1 s2} (h : BO Γ a s s1) (t : BOs Γ l s1 s2) : BOs Γ (a :: l) s s2

inductive BS (Γ : Calls0) : ACode → St → Ex → St → Prop
  | skip {s} : BS Γ .skip s .normal s
  | ret {s} : BS Γ .ret s .ret s
  | exit {id s} : BS Γ (.exit id) s (.exit id) s
  | region {ops d s s'} (h : BOs Γ ops s s') : BS Γ (.region ops d) s .normal s'
  | seq {a b s s1 e s2} (h : BS Γ a s .normal s1) (k : BS Γ b s1 e s2) : BS Γ (.seq a b) s e s2
  | seqX {a b s e s1} (h : BS Γ a s e s1) (he : e ≠ .normal) : BS Γ (.seq a b) s e s1
  | condT {c a b s e s1} (hc : s.ev c = vb true) (h : BS Γ a s e s1) : BS Γ (.cond c a b) s e s1
  | condF {c a b s e s1} (hc : s.ev c = vb false) (h : BS Γ b s e s1) : BS Γ (.cond c a b) s e s1
  | blockN {id c s s1} (h : BS Γ c s .normal s1) : BS Γ (.block id c) s .normal s1
  | blockX {id c s s1} (h : BS Γ c s (.exit id) s1) : BS Γ (.block id c) s .normal s1
  | blockO {id c s e s1} (h : BS Γ c s e s1) (he : e ≠ .normal) (hx : e ≠ .exit id) : BS Γ (.block id c) s e s1
  | loopN {c s s1 e s2} (h : BS Γ c s .normal s1) (k : BS Γ (.loop c) s1 e s2) : BS Γ (.loop c) s e s2
  | loopX {c s e s1} (h : BS Γ c s e s1) (he : e ≠ .normal) : BS Γ (.loop c) s e s1

inductive ARes where
  | tmp (t : Nat)
  | cell (agg : Bool) (sz : Nat) (t : Nat)

structure AFun where
  nargs : Nat
  ntmps : Nat
  results : List ARes
  body : ACode

def resOf (s : St) : ARes → Option SV
  | .tmp t => (s.slots t).sv?
  | .cell agg sz t => match aop (.load agg sz (.t t)) s with
    | some (_, v) => v.sv?
    | none => none

def resultsA (rs : List ARes) (s : St) : Option AV :=
  match allSome (rs.map (resOf s)) with
  | some [x] => some (.s x)
  | some l => some (.tup l)
  | none => none

def initSlots (args : List SV) : Nat → AV := fun t => match args[t]? with
  | some x => .s x
  | none => .u

def CallN (env : Nat → Option AFun) (ext : Calls0) : Nat → Calls0
  | 0 => ext
  | n + 1 => fun g base objs args objs' r => ext g base objs args objs' r ∨
      ∃ f, env g = some f ∧ args.length = f.nargs ∧ ∃ e s', BS (CallN env ext n) f.body { slots := initSlots args, objs, base } e s' ∧ (e = .normal ∨ e = .ret) ∧
        objs' = s'.objs ∧ resultsA f.results s' = some r

/-- A call, at whatever depth. -/
def Call (env : Nat → Option AFun) (ext : Calls0) : Calls0 := fun g base objs args objs' r => ∃ n, CallN env ext n g base objs args objs' r

abbrev PCall (env : Nat → Option AFun) (ext : Calls0) : Nat → List PSV → PAV → Prop := PureC (Call env ext)

def Calls0.le (Γ Γ' : Calls0) : Prop := ∀ g base objs args objs' r, Γ g base objs args objs' r → Γ' g base objs args objs' r

theorem PureC.mono {Γ Γ' : Calls0} (h : Γ.le Γ') {g args res} (k : PureC Γ g args res) : PureC Γ' g args res := by
  obtain ⟨o, r, a, b⟩ := k; exact ⟨o, r, h _ _ _ _ _ _ a, b⟩

theorem BO.mono {Γ Γ' : Calls0} (h : Γ.le Γ') {a s s'} (k : BO Γ a s s') : BO Γ' a s s' := by
  cases k with
  | skip hg => exact .skip hg
  | op hg ho => exact .op hg ho
  | call hg ho ha hp hc => exact .call hg ho ha hp (hc.mono h)
  | callP hg ho ha hp hc => exact .callP hg ho ha hp (hc.mono h)
  | callV hg ho ha hf hp hc => exact .callV hg ho ha hf hp (hc.mono h)
  | callR hg ho ha hc => exact .callR hg ho ha (h _ _ _ _ _ _ hc)

theorem BOs.mono {Γ Γ' : Calls0} (h : Γ.le Γ') {l s s'} (k : BOs Γ l s s') : BOs Γ' l s s' := by
  induction k with
  | nil => exact .nil
  | cons a _ ih => exact .cons (a.mono h) ih

theorem BS.mono {Γ Γ' : Calls0} (h : Γ.le Γ') {c s e s'} (k : BS Γ c s e s') : BS Γ' c s e s' := by
  induction k with
  | skip => exact .skip
  | ret => exact .ret
  | exit => exact .exit
  | region k => exact .region (k.mono h)
  | seq _ _ a b => exact .seq a b
  | seqX _ he a => exact .seqX a he
  | condT hc _ a => exact .condT hc a
  | condF hc _ a => exact .condF hc a
  | blockN _ a => exact .blockN a
  | blockX _ a => exact .blockX a
  | blockO _ he hx a => exact .blockO a he hx
  | loopN _ _ a b => exact .loopN a b
  | loopX _ he a => exact .loopX a he

theorem CallN.succ (env : Nat → Option AFun) (ext : Calls0) : ∀ n, (CallN env ext n).le (CallN env ext (n + 1))
  | 0 => fun _ _ _ _ _ _ h => Or.inl h
  | n + 1 => fun g base objs args objs' r h => by
    rcases h with h | ⟨f, hf, hl, e, s', hb, he, ho, hr⟩
    · exact Or.inl h
    · exact Or.inr ⟨f, hf, hl, e, s', hb.mono (CallN.succ env ext n), he, ho, hr⟩

theorem CallN.le (env : Nat → Option AFun) (ext : Calls0) {n m : Nat} (h : n ≤ m) : (CallN env ext n).le (CallN env ext m) := by
  induction h with
  | refl => exact fun _ _ _ _ _ _ h => h
  | step _ ih => exact fun _ _ _ _ _ _ h => CallN.succ env ext _ _ _ _ _ _ _ (ih _ _ _ _ _ _ h)

theorem PureC.bound {env : Nat → Option AFun} {ext : Calls0} {g args res} (k : PureC (Call env ext) g args res) : ∃ n, PureC (CallN env ext n) g args res := by
  obtain ⟨o, r, ⟨n, a⟩, b⟩ := k; exact ⟨n, o, r, a, b⟩

theorem BO.bound {env : Nat → Option AFun} {ext : Calls0} {a s s'} (k : BO (Call env ext) a s s') : ∃ n, BO (CallN env ext n) a s s' := by
  cases k with
  | skip hg => exact ⟨0, .skip hg⟩
  | op hg ho => exact ⟨0, .op hg ho⟩
  | call hg ho ha hp hc => obtain ⟨n, hc⟩ := hc.bound; exact ⟨n, .call hg ho ha hp hc⟩
  | callP hg ho ha hp hc => obtain ⟨n, hc⟩ := hc.bound; exact ⟨n, .callP hg ho ha hp hc⟩
  | callV hg ho ha hf hp hc => obtain ⟨n, hc⟩ := hc.bound; exact ⟨n, .callV hg ho ha hf hp hc⟩
  | callR hg ho ha hc => obtain ⟨n, hc⟩ := hc; exact ⟨n, .callR hg ho ha hc⟩

theorem BOs.bound {env : Nat → Option AFun} {ext : Calls0} {l s s'} (k : BOs (Call env ext) l s s') : ∃ n, BOs (CallN env ext n) l s s' := by
  induction k with
  | nil => exact ⟨0, .nil⟩
  | cons a _ ih =>
    obtain ⟨n, a⟩ := a.bound
    obtain ⟨m, t⟩ := ih
    exact ⟨n + m, .cons (a.mono (CallN.le env ext (Nat.le_add_right n m))) (t.mono (CallN.le env ext (Nat.le_add_left m n)))⟩

theorem BS.bound {env : Nat → Option AFun} {ext : Calls0} {c s e s'} (k : BS (Call env ext) c s e s') : ∃ n, BS (CallN env ext n) c s e s' := by
  induction k with
  | skip => exact ⟨0, .skip⟩
  | ret => exact ⟨0, .ret⟩
  | exit => exact ⟨0, .exit⟩
  | region k => obtain ⟨n, k⟩ := k.bound; exact ⟨n, .region k⟩
  | seq _ _ a b =>
    obtain ⟨n, a⟩ := a
    obtain ⟨m, b⟩ := b
    exact ⟨n + m, .seq (a.mono (CallN.le env ext (Nat.le_add_right n m))) (b.mono (CallN.le env ext (Nat.le_add_left m n)))⟩
  | seqX _ he a => obtain ⟨n, a⟩ := a; exact ⟨n, .seqX a he⟩
  | condT hc _ a => obtain ⟨n, a⟩ := a; exact ⟨n, .condT hc a⟩
  | condF hc _ a => obtain ⟨n, a⟩ := a; exact ⟨n, .condF hc a⟩
  | blockN _ a => obtain ⟨n, a⟩ := a; exact ⟨n, .blockN a⟩
  | blockX _ a => obtain ⟨n, a⟩ := a; exact ⟨n, .blockX a⟩
  | blockO _ he hx a => obtain ⟨n, a⟩ := a; exact ⟨n, .blockO a he hx⟩
  | loopN _ _ a b =>
    obtain ⟨n, a⟩ := a
    obtain ⟨m, b⟩ := b
    exact ⟨n + m, .loopN (a.mono (CallN.le env ext (Nat.le_add_right n m))) (b.mono (CallN.le env ext (Nat.le_add_left m n)))⟩
  | loopX _ he a => obtain ⟨n, a⟩ := a; exact ⟨n, .loopX a he⟩

/-- How a function's call is shown: by a run of its body. -/
theorem Call.of_body {env : Nat → Option AFun} {ext : Calls0} {g base : Nat} {objs : Objs} {args : List SV} {f : AFun} (hf : env g = some f) (hl : args.length = f.nargs)
    {e : Ex} {s' : St} (hb : BS (Call env ext) f.body { slots := initSlots args, objs, base } e s') (he : e = .normal ∨ e = .ret) {r : AV} (hr : resultsA f.results s' = some r) :
    Call env ext g base objs args s'.objs r := by
  obtain ⟨n, hb⟩ := hb.bound
  exact ⟨n + 1, Or.inr ⟨f, hf, hl, e, s', hb, he, rfl, hr⟩⟩

theorem PCall.of_body {env : Nat → Option AFun} {ext : Calls0} {g : Nat} {args : List PSV} {f : AFun} (hf : env g = some f) (hl : args.length = f.nargs)
    {e : Ex} {s' : St} (hb : BS (Call env ext) f.body { slots := initSlots (args.map PSV.up), objs := Objs.empty, base := 0 } e s') (he : e = .normal ∨ e = .ret)
    {r : AV} (hr : resultsA f.results s' = some r) {res : PAV} (hp : purAV s'.objs r = some res) : PCall env ext g args res :=
  ⟨_, _, Call.of_body hf (by simpa using hl) hb he hr, hp⟩

/-- The same, what comes behind in one word. -/
def Wp (Γ : Calls0) (c : ACode) (Q : Ex → St → Prop) (s : St) : Prop := ∃ e s', BS Γ c s e s' ∧ Q e s'
end Go.Av
