/- The abstract machine of the Av files: how a run is shown, step by step. No condition. -/
import Derived.Test.YthdilnjdkniofaaGreatAvBase
namespace Go.Av
open Go

def thenO {α : Type} : Option α → (α → Prop) → Prop
  | some x, K => K x
  | none, _ => False

theorem thenO_iff {α : Type} {x : Option α} {K : α → Prop} : thenO x K ↔ ∃ y, x = some y ∧ K y := by
  cases x <;> simp [thenO]

/-- A region's operations, and what is to hold behind them. -/
def WpO (Γ : Calls0) : List AO → (St → Prop) → St → Prop
  | [], K, s => K s
  | a :: l, K, s => match guardV s a.guard with
    | some false => WpO Γ l K (s.put a.dst (.tup []))
    | some true => (match a.op with
      | .call g args => thenO (argsOf s args) fun sv => thenO (allSome (sv.map (purSV s.objs))) fun pv => ∃ res, PureC Γ g pv res ∧ WpO Γ l K (St.put { s with objs := behind s sv res } a.dst res.up)
      | .callP g args => thenO (argsOf s args) fun sv => thenO (allSome (sv.map SV.pure?)) fun pv => ∃ res, PureC Γ g pv res ∧ WpO Γ l K (s.put a.dst res.up)
      | .callV f args => thenO (argsOf s args) fun sv => thenO (callee s f sv) fun q => thenO (allSome (q.2.map (purSV s.objs))) fun pv => ∃ res, PureC Γ q.1 pv res ∧
          WpO Γ l K (St.put { s with objs := behind s q.2 res } a.dst res.up)
      | .callR b g args => thenO (argsOf s args) fun sv => ∃ objs' r, Γ g (s.base + b) s.objs sv objs' r ∧ WpO Γ l K (St.put { s with objs := objs' } a.dst r)
      | op => thenO (aop op s) fun q => WpO Γ l K (St.put { s with objs := q.1 } a.dst q.2))
    | none => False

theorem WpO.sound {Γ : Calls0} : ∀ {l : List AO} {K : St → Prop} {s : St}, WpO Γ l K s → ∃ s', BOs Γ l s s' ∧ K s'
  | [], K, s, h => ⟨s, .nil, h⟩
  | a :: l, K, s, h => by
    unfold WpO at h
    split at h
    · rename_i hg
      obtain ⟨s', h1, h2⟩ := WpO.sound h
      exact ⟨s', .cons (.skip hg) h1, h2⟩
    · rename_i hg
      split at h
      · rename_i g args ho
        obtain ⟨sv, h1, h⟩ := thenO_iff.1 h
        obtain ⟨pv, h2, res, h3, h4⟩ := thenO_iff.1 h
        obtain ⟨s', h5, h6⟩ := WpO.sound h4
        exact ⟨s', .cons (.call hg ho h1 h2 h3) h5, h6⟩
      · rename_i g args ho
        obtain ⟨sv, h1, h⟩ := thenO_iff.1 h
        obtain ⟨pv, h2, res, h3, h4⟩ := thenO_iff.1 h
        obtain ⟨s', h5, h6⟩ := WpO.sound h4
        exact ⟨s', .cons (.callP hg ho h1 h2 h3) h5, h6⟩
      · rename_i f args ho
        obtain ⟨sv, h1, h⟩ := thenO_iff.1 h
        obtain ⟨⟨g, sv'⟩, h7, h⟩ := thenO_iff.1 h
        obtain ⟨pv, h2, res, h3, h4⟩ := thenO_iff.1 h
        obtain ⟨s', h5, h6⟩ := WpO.sound h4
        exact ⟨s', .cons (.callV hg ho h1 h7 h2 h3) h5, h6⟩
      · rename_i b g args ho
        obtain ⟨sv, h1, objs', r, h3, h4⟩ := thenO_iff.1 h
        obtain ⟨s', h5, h6⟩ := WpO.sound h4
        exact ⟨s', .cons (.callR hg ho h1 h3) h5, h6⟩
      · obtain ⟨⟨objs', v⟩, h1, h2⟩ := thenO_iff.1 h
        obtain ⟨s', h5, h6⟩ := WpO.sound h2
        exact ⟨s', .cons (.op hg h1) h5, h6⟩
    · exact h.elim

def Ex.then (K : St → Prop) (Q : Ex → St → Prop) : Ex → St → Prop
  | .normal, s => K s
  | e, s => Q e s

def Ex.inBlock (id : Nat) (Q : Ex → St → Prop) : Ex → St → Prop
  | .exit i, s => if i = id then Q .normal s else Q (.exit i) s
  | e, s => Q e s

variable {Γ : Calls0} {Q : Ex → St → Prop} {s : St}

theorem Wp.mono {c : ACode} {Q' : Ex → St → Prop} (h : Wp Γ c Q s) (hq : ∀ e s, Q e s → Q' e s) : Wp Γ c Q' s := by
  obtain ⟨e, s', h1, h2⟩ := h; exact ⟨e, s', h1, hq _ _ h2⟩
theorem Wp.skip (h : Q .normal s) : Wp Γ .skip Q s := ⟨_, _, .skip, h⟩
theorem Wp.ret (h : Q .ret s) : Wp Γ .ret Q s := ⟨_, _, .ret, h⟩
theorem Wp.exit {id : Nat} (h : Q (.exit id) s) : Wp Γ (.exit id) Q s := ⟨_, _, .exit, h⟩
theorem Wp.region {l : List AO} {d : Bool} (h : WpO Γ l (Q .normal) s) : Wp Γ (.region l d) Q s := by
  obtain ⟨s', h1, h2⟩ := h.sound; exact ⟨_, s', .region h1, h2⟩
theorem Wp.seq {a b : ACode} (h : Wp Γ a (Ex.then (Wp Γ b Q) Q) s) : Wp Γ (.seq a b) Q s := by
  obtain ⟨e, s', h1, h2⟩ := h
  cases e with
  | normal => obtain ⟨e2, s2, h3, h4⟩ := h2; exact ⟨e2, s2, .seq h1 h3, h4⟩
  | exit i => exact ⟨_, s', .seqX h1 (by simp), h2⟩
  | ret => exact ⟨_, s', .seqX h1 (by simp), h2⟩
theorem Wp.cond {c : Opd} {a b : ACode} {t : Bool} (hc : s.ev c = vb t) (h : if t then Wp Γ a Q s else Wp Γ b Q s) : Wp Γ (.cond c a b) Q s := by
  cases t with
  | true => obtain ⟨e, s', h1, h2⟩ := h; exact ⟨e, s', .condT hc h1, h2⟩
  | false => obtain ⟨e, s', h1, h2⟩ := h; exact ⟨e, s', .condF hc h1, h2⟩
theorem Wp.block {id : Nat} {c : ACode} (h : Wp Γ c (Ex.inBlock id Q) s) : Wp Γ (.block id c) Q s := by
  obtain ⟨e, s', h1, h2⟩ := h
  cases e with
  | normal => exact ⟨_, s', .blockN h1, h2⟩
  | ret => exact ⟨_, s', .blockO h1 (by simp) (by simp), h2⟩
  | exit i =>
    by_cases hi : i = id
    · subst hi; exact ⟨_, s', .blockX h1, by simpa [Ex.inBlock] using h2⟩
    · exact ⟨_, s', .blockO h1 (by simp) (by simpa using hi), by simpa [Ex.inBlock, hi] using h2⟩
/-- A loop, by what is left to do. -/
theorem Wp.loop {c : ACode} (I : Nat → St → Prop) (n : Nat) (h0 : I n s) (h : ∀ k s, I k s → Wp Γ c (Ex.then (fun s' => ∃ j, j < k ∧ I j s') Q) s) : Wp Γ (.loop c) Q s := by
  induction n using Nat.strongRecOn generalizing s with
  | _ n ih =>
    obtain ⟨e, s', h1, h2⟩ := h n s h0
    cases e with
    | normal =>
      obtain ⟨j, hj, hI⟩ := h2
      obtain ⟨e2, s2, h3, h4⟩ := ih j hj hI
      exact ⟨e2, s2, .loopN h1 h3, h4⟩
    | exit i => exact ⟨_, s', .loopX h1 (by simp), h2⟩
    | ret => exact ⟨_, s', .loopX h1 (by simp), h2⟩

theorem Wp.seqK {a b : ACode} (h : ∀ K : St → Prop, (∀ s, Wp Γ b Q s → K s) → Wp Γ a (Ex.then K Q) s) : Wp Γ (.seq a b) Q s := Wp.seq (h _ fun _ h => h)
theorem Wp.blockK {id : Nat} {c : ACode} (h : ∀ K : St → Prop, (∀ s, Q .normal s → K s) → Wp Γ c (Ex.inBlock id (Ex.then K Q)) s) : Wp Γ (.block id c) Q s := by
  refine Wp.block ((h (Q .normal) fun _ h => h).mono fun e s h => ?_)
  cases e with
  | normal => exact h
  | ret => exact h
  | exit i =>
    simp only [Ex.inBlock] at h ⊢
    split
    · rename_i hi; rw [if_pos hi] at h; exact h
    · rename_i hi; rw [if_neg hi] at h; exact h
theorem Wp.loopK {c : ACode} (I : Nat → St → Prop) (n : Nat) (h0 : I n s) (h : ∀ k s, I k s → ∀ K : St → Prop, (∀ j s', j < k → I j s' → K s') → Wp Γ c (Ex.then K Q) s) : Wp Γ (.loop c) Q s :=
  Wp.loop I n h0 fun k s hI => h k s hI _ fun j s' hj hi => ⟨j, hj, hi⟩

/-- What is to hold at a pure call's end. -/
def Ends (rs : List ARes) (res : PAV) (e : Ex) (s : St) : Prop := (e = .normal ∨ e = .ret) ∧ thenO (resultsA rs s) fun r => purAV s.objs r = some res

/-- A pure call, by its body. -/
theorem PCall.of_wp {env : Nat → Option AFun} {ext : Calls0} {g : Nat} {args : List PSV} {n nt : Nat} {rs : List ARes} {b : ACode} {res : PAV} (hf : env g = some { nargs := n, ntmps := nt, results := rs, body := b }) (hl : args.length = n)
    (h : Wp (Call env ext) b (Ends rs res) { slots := initSlots (args.map PSV.up), objs := Objs.empty, base := 0 }) :
    PCall env ext g args res := by
  obtain ⟨e, s', h1, h2, h3⟩ := h
  obtain ⟨r, h3, h4⟩ := thenO_iff.1 h3
  exact PCall.of_body hf hl h1 h2 h3 h4
end Go.Av
