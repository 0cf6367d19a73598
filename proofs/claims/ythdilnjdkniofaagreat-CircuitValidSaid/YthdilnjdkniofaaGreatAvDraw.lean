/- The abstract machine of the Av files: regions whose order Go leaves open. No condition. -/
import Derived.Test.YthdilnjdkniofaaGreatAvStep
namespace Go.Av
open Go Go.RowKit

variable {P : Program} {fm : Nat → Nat} {Z : ZM} {β : BM} {objs : Objs} {w0 w : World} {a : Act} {s : St}

def AOp.opds : AOp → List Opd
  | .mv x | .boxP x | .boxO _ x | .load _ _ x | .loadS _ x | .mkf1 _ x | .un _ x | .conv _ x | .fa _ _ x | .fld _ _ _ x | .ext _ x | .len x | .nck x | .toStr x | .isNil _ x | .lenM x => [x]
  | .pick c a b => [c, a, b]
  | .alloc _ _ | .bad | .mkM _ _ => []
  | .build _ ps | .slP _ _ _ ps | .slO _ _ _ _ ps => ps.map (·.2.2)
  | .store _ a x | .bin _ a x | .binB _ a x | .mk _ _ _ _ a x | .ia _ a x | .iaA _ _ a x | .app _ _ _ a x | .minI a x | .maxI a x | .sidx a x | .lkp _ _ _ _ a x => [a, x]
  | .updM _ a b x => [a, b, x]
  | .slice _ x lo hi mx => x :: (lo.toList ++ hi.toList ++ mx.toList)
  | .call _ args | .callP _ args | .callR _ _ args | .mkf _ args | .mkfO _ args => args
  | .callV f args => f :: args

def AO.reads (b : AO) : List Nat := (b.op.opds.filterMap fun | .t n => some n | _ => none) ++ (match b.guard with | some (t, _) => [t] | none => [])

/-- What an operation has to do with the objects: nothing; it reads them; it reads them and may freeze some (a call); it makes the object of its own number; anything. -/
inductive Cls where
  | loc
  | rd
  | cal
  | fresh (id : Nat)
  | rdS (n : Nat)
  | ap (n : Nat)
  | wr

def AOp.cls : AOp → Cls
  | .load _ _ (.t _) => .rd
  | .loadS n (.t _) => .rdS n
  | .app _ sz _ _ _ => .ap sz
  | .call .. => .cal
  | .alloc id _ | .boxO id _ | .slO id _ _ _ _ | .mk id _ _ _ _ _ => .fresh id
  | .load .. | .loadS .. | .store .. | .callR .. | .callV .. | .bad | .toStr .. | .isNil .. | .mkM .. | .lkp .. | .updM .. | .lenM .. | .mkfO .. => .wr
  | _ => .loc

def Cls.ok : Cls → Cls → Bool
  | .loc, _ | _, .loc => true
  | .rd, .rd | .rd, .fresh _ | .fresh _, .rd | .cal, .rd | .rd, .cal => true
  | .fresh i, .fresh j => !(i == j)
  | .rd, .rdS _ | .rdS _, .rd | .rdS _, .rdS _ => true
  | .rdS i, .ap j => !(i == j)
  | _, _ => false

def indep (x y : AO) : Bool :=
  (match x.dst with | some d => !(y.reads.contains d) && !(y.dst == some d) | none => true) && (match y.dst with | some d => !(x.reads.contains d) | none => true) && x.op.cls.ok y.op.cls

/-- The effect of an operation: the objects behind it, and what it writes. -/
def Eff (Γ : Calls0) (b : AO) (s : St) (objs' : Objs) (v : AV) : Prop :=
  (guardV s b.guard = some false ∧ objs' = s.objs ∧ v = .tup []) ∨
  (guardV s b.guard = some true ∧
    (aop b.op s = some (objs', v) ∨
    (∃ g args sv pv res, b.op = .call g args ∧ argsOf s args = some sv ∧ allSome (sv.map (purSV s.objs)) = some pv ∧ PureC Γ g pv res ∧ objs' = behind s sv res ∧ v = res.up) ∨
    (∃ g args sv pv res, b.op = .callP g args ∧ argsOf s args = some sv ∧ allSome (sv.map SV.pure?) = some pv ∧ PureC Γ g pv res ∧ objs' = s.objs ∧ v = res.up) ∨
    (∃ f args sv g sv' pv res, b.op = .callV f args ∧ argsOf s args = some sv ∧ callee s f sv = some (g, sv') ∧ allSome (sv'.map (purSV s.objs)) = some pv ∧ PureC Γ g pv res ∧ objs' = behind s sv' res ∧ v = res.up) ∨
    (∃ bs g args sv, b.op = .callR bs g args ∧ argsOf s args = some sv ∧ Γ g (s.base + bs) s.objs sv objs' v)))

theorem BO_iff {Γ : Calls0} {b : AO} {s s' : St} : BO Γ b s s' ↔ ∃ objs' v, Eff Γ b s objs' v ∧ s' = St.put { s with objs := objs' } b.dst v := by
  constructor
  · intro h
    cases h with
    | skip hg => exact ⟨s.objs, _, .inl ⟨hg, rfl, rfl⟩, rfl⟩
    | op hg ho => exact ⟨_, _, .inr ⟨hg, .inl ho⟩, rfl⟩
    | call hg ho ha hp hc => exact ⟨_, _, .inr ⟨hg, .inr (.inl ⟨_, _, _, _, _, ho, ha, hp, hc, rfl, rfl⟩)⟩, rfl⟩
    | callP hg ho ha hp hc => exact ⟨s.objs, _, .inr ⟨hg, .inr (.inr (.inl ⟨_, _, _, _, _, ho, ha, hp, hc, rfl, rfl⟩))⟩, rfl⟩
    | callV hg ho ha hf hp hc => exact ⟨_, _, .inr ⟨hg, .inr (.inr (.inr (.inl ⟨_, _, _, _, _, _, _, ho, ha, hf, hp, hc, rfl, rfl⟩)))⟩, rfl⟩
    | callR hg ho ha hc => exact ⟨_, _, .inr ⟨hg, .inr (.inr (.inr (.inr ⟨_, _, _, _, ho, ha, hc⟩)))⟩, rfl⟩
  · rintro ⟨objs', v, he, rfl⟩
    rcases he with ⟨hg, rfl, rfl⟩ | ⟨hg, h | ⟨g, args, sv, pv, res, ho, ha, hp, hc, rfl, rfl⟩ | ⟨g, args, sv, pv, res, ho, ha, hp, hc, rfl, rfl⟩ | ⟨f, args, sv, g, sv', pv, res, ho, ha, hf, hp, hc, rfl, rfl⟩ | ⟨bs, g, args, sv, ho, ha, hc⟩⟩
    · exact .skip hg
    · exact .op hg h
    · exact .call hg ho ha hp hc
    · exact .callP hg ho ha hp hc
    · exact .callV hg ho ha hf hp hc
    · exact .callR hg ho ha hc

/-- Two states that agree on what an operation reads. -/
structure Agree (b : AO) (s s' : St) : Prop where
  slots : ∀ t, t ∈ b.reads → s'.slots t = s.slots t
  base : s'.base = s.base

theorem Agree.ev {b : AO} {s s' : St} (h : Agree b s s') {x : Opd} (hx : x ∈ b.op.opds) : s'.ev x = s.ev x := by
  cases x with
  | t n => exact h.slots n (by simp only [AO.reads, List.mem_append, List.mem_filterMap]; exact .inl ⟨.t n, hx, rfl⟩)
  | _ => rfl

theorem Agree.guard {b : AO} {s s' : St} (h : Agree b s s') : guardV s' b.guard = guardV s b.guard := by
  cases hg : b.guard with
  | none => rfl
  | some x =>
    obtain ⟨t, w⟩ := x
    have : s'.slots t = s.slots t := h.slots t (by simp [AO.reads, hg])
    simp only [guardV, this]

theorem argsOf_congr {s s' : St} : ∀ {args : List Opd}, (∀ x, x ∈ args → s'.ev x = s.ev x) → argsOf s' args = argsOf s args := by
  intro args h
  unfold argsOf
  rw [List.map_congr_left (g := fun x => (s.ev x).sv?) fun x hx => by rw [h x hx]]

theorem partsOf_congr {s s' : St} : ∀ {ps : List (Nat × Nat × Opd)}, (∀ x, x ∈ ps.map (·.2.2) → s'.ev x = s.ev x) → partsOf s' ps = partsOf s ps
  | [], _ => rfl
  | (i, sz, x) :: r, h => by
    simp only [partsOf]
    rw [h x (by simp), partsOf_congr (ps := r) fun y hy => h y (by simp at hy ⊢; exact .inr hy)]

theorem rowOf_congr {s s' : St} {n sz : Nat} {zero : List C} {ps : List (Nat × Nat × Opd)} (h : ∀ x, x ∈ ps.map (·.2.2) → s'.ev x = s.ev x) : rowOf s' n sz zero ps = rowOf s n sz zero ps := by
  unfold rowOf; rw [partsOf_congr h]

theorem bound_congr {s s' : St} {d : Int} {x : Option Opd} (h : ∀ y, y ∈ x.toList → s'.ev y = s.ev y) : bound s' d x = bound s d x := by
  cases x with
  | none => rfl
  | some y => simp only [bound]; rw [h y (by simp)]

theorem asl_congr {s s' : St} {sz : Nat} {x : AV} {lo hi mx : Option Opd} (h : ∀ y, y ∈ lo.toList ++ hi.toList ++ mx.toList → s'.ev y = s.ev y) : asl sz x s' lo hi mx = asl sz x s lo hi mx := by
  have h1 : ∀ d, bound s' d lo = bound s d lo := fun d => bound_congr fun y hy => h y (by simp only [List.mem_append]; exact .inl (.inl hy))
  have h2 : ∀ d, bound s' d hi = bound s d hi := fun d => bound_congr fun y hy => h y (by simp only [List.mem_append]; exact .inl (.inr hy))
  unfold asl
  cases mx with
  | none => simp only [h1, h2]
  | some m => simp only [h1, h2, h m (by simp)]

theorem map_objs {o o' : Objs} {x : Option AV} {r : Objs × AV} (h : x.map (fun y => (o, y)) = some r) : ∃ v, r = (o, v) ∧ x.map (fun y => (o', y)) = some (o', v) := by
  cases x with
  | none => cases h
  | some v => exact ⟨v, (Option.some.inj h).symm, rfl⟩

/-- An operation that has nothing to do with the objects. -/
theorem aop_loc {b : AO} {s s' : St} (hc : b.op.cls = .loc) (h : Agree b s s') {objs' : Objs} {v : AV} (ha : aop b.op s = some (objs', v)) : objs' = s.objs ∧ aop b.op s' = some (s'.objs, v) := by
  have hev := fun x hx => h.ev (x := x) hx
  generalize b.op = op at *
  have key : ∀ {x y : Option AV}, x.map (fun z => (s.objs, z)) = some (objs', v) → y = x → objs' = s.objs ∧ y.map (fun z => (s'.objs, z)) = some (s'.objs, v) := by
    intro x y hx hy
    subst hy
    obtain ⟨q, h1, h2⟩ := map_objs (o' := s'.objs) hx
    cases h1; exact ⟨rfl, h2⟩
  cases op <;> simp only [AOp.cls] at hc <;> (try (cases hc)) <;> simp only [aop] at ha ⊢
  case mv x => rw [hev x (by simp [AOp.opds])]; exact key ha rfl
  case pick c x y =>
    rw [hev c (by simp [AOp.opds]), hev x (by simp [AOp.opds]), hev y (by simp [AOp.opds])]
    split at ha
    · exact key ha rfl
    · cases ha
  case boxP x =>
    rw [hev x (by simp [AOp.opds])]
    split at ha
    · exact key ha rfl
    · cases ha
  case build zero ps =>
    rw [partsOf_congr (s := s) (s' := s') fun x hx => hev x (by simpa [AOp.opds] using hx)]
    split at ha
    · exact key ha rfl
    · cases ha
  case slP n sz zero ps =>
    rw [rowOf_congr (s := s) (s' := s') fun x hx => hev x (by simpa [AOp.opds] using hx)]
    split at ha
    · exact key ha rfl
    · cases ha
  case nck x =>
    rw [hev x (by simp [AOp.opds])]
    split at ha
    · exact key ha rfl
    · exact key ha rfl
    · exact key ha rfl
    · cases ha
  case load agg sz x => cases x <;> cases hc
  case loadS n x => cases x <;> cases hc
  case bin op x y =>
    rw [hev x (by simp [AOp.opds]), hev y (by simp [AOp.opds])]
    split at ha
    · exact key ha rfl
    · cases ha
  case binB op x y =>
    rw [hev x (by simp [AOp.opds]), hev y (by simp [AOp.opds])]
    split at ha
    · exact key ha rfl
    · cases ha
  case un op x =>
    rw [hev x (by simp [AOp.opds])]
    split at ha
    · exact key ha rfl
    · cases ha
  case conv k x =>
    rw [hev x (by simp [AOp.opds])]
    split at ha
    · exact key ha rfl
    · cases ha
  case slice sz x lo hi mx =>
    rw [hev x (by simp [AOp.opds]), asl_congr (s := s) (s' := s') fun y hy => hev y (by simp only [AOp.opds, List.mem_cons]; exact .inr hy)]
    exact key ha rfl
  case fa off sz x =>
    rw [hev x (by simp [AOp.opds])]
    split at ha
    · split at ha
      · rename_i hh; rw [if_pos hh]; exact key ha rfl
      · cases ha
    · exact key ha rfl
    · cases ha
  case fld agg off sz x =>
    rw [hev x (by simp [AOp.opds])]
    split at ha
    · split at ha
      · rename_i hh
        rw [if_pos hh]
        cases agg <;> simp only [if_true, Bool.false_eq_true, if_false] at ha ⊢ <;> exact key ha rfl
      · cases ha
    · cases ha
  case ia sz x i =>
    rw [hev x (by simp [AOp.opds]), hev i (by simp [AOp.opds])]
    split at ha
    · split at ha
      · rename_i hh; rw [if_pos hh]; exact key ha rfl
      · cases ha
    · split at ha
      · rename_i hh; rw [if_pos hh]; exact key ha rfl
      · cases ha
    · cases ha
  case iaA n sz x i =>
    rw [hev x (by simp [AOp.opds]), hev i (by simp [AOp.opds])]
    split at ha
    · split at ha
      · rename_i hh; rw [if_pos hh]; exact key ha rfl
      · cases ha
    · split at ha
      · rename_i hh; rw [if_pos hh]; exact key ha rfl
      · cases ha
    · cases ha
  case ext i x =>
    rw [hev x (by simp [AOp.opds])]
    split at ha
    · exact key ha rfl
    · cases ha
  case len x =>
    rw [hev x (by simp [AOp.opds])]
    split at ha
    · exact key ha rfl
    · exact key ha rfl
    · exact key ha rfl
    · cases ha
  case callP g args => cases ha
  case mkf1 g x =>
    rw [hev x (by simp [AOp.opds])]
    split at ha
    · exact key ha rfl
    · cases ha
  case minI x y =>
    rw [hev x (by simp [AOp.opds]), hev y (by simp [AOp.opds])]
    split at ha
    · split at ha
      · rename_i hh; rw [if_pos hh]; exact key ha rfl
      · cases ha
    · cases ha
  case maxI x y =>
    rw [hev x (by simp [AOp.opds]), hev y (by simp [AOp.opds])]
    split at ha
    · split at ha
      · rename_i hh; rw [if_pos hh]; exact key ha rfl
      · cases ha
    · cases ha
  case sidx x y =>
    rw [hev x (by simp [AOp.opds]), hev y (by simp [AOp.opds])]
    split at ha
    · split at ha
      · rename_i hh; rw [if_pos hh]; exact key ha rfl
      · cases ha
    · cases ha
  case mkf g args =>
    rw [List.map_congr_left (g := fun x => (s.ev x).pc?) fun x hx => by rw [hev x (by simpa [AOp.opds] using hx)]]
    split at ha
    · exact key ha rfl
    · cases ha

theorem pairs_ne {o v id nv : Nat} (h : v < nv) : ¬ (o = id ∧ v = nv) := by omega

/-- An effect depends on what is read alone. -/
theorem Eff.congr {Γ : Calls0} {b : AO} {s s' : St} (h : Agree b s s') (ho : s'.objs = s.objs) {objs' : Objs} {v : AV} (he : Eff Γ b s objs' v) : Eff Γ b s' objs' v := by
  have hev := fun x hx => h.ev (x := x) hx
  rcases he with ⟨hg, rfl, rfl⟩ | ⟨hg, ha | ⟨g, args, sv, pv, res, hop, ha, hp, hc, rfl, rfl⟩ | ⟨g, args, sv, pv, res, hop, ha, hp, hc, rfl, rfl⟩ | ⟨f, args, sv, g, sv', pv, res, hop, ha, hf, hp, hc, rfl, rfl⟩ | ⟨bs, g, args, sv, hop, ha, hc⟩⟩
  · exact .inl ⟨by rw [h.guard]; exact hg, ho.symm, rfl⟩
  · refine .inr ⟨by rw [h.guard]; exact hg, .inl ?_⟩
    have hse : ∀ x, x ∈ b.op.opds → s'.ev x = s.ev x := hev
    generalize b.op = op at *
    cases op <;> simp only [aop] at ha ⊢
    case mv x => rw [hse x (by simp [AOp.opds]), ho]; exact ha
    case pick c x y => rw [hse c (by simp [AOp.opds]), hse x (by simp [AOp.opds]), hse y (by simp [AOp.opds]), ho]; exact ha
    case alloc id zero => rw [ho, h.base]; exact ha
    case boxP x => rw [hse x (by simp [AOp.opds]), ho]; exact ha
    case boxO id x => rw [hse x (by simp [AOp.opds]), ho, h.base]; exact ha
    case build zero ps => rw [partsOf_congr (s := s) (s' := s') fun x hx => hse x (by simpa [AOp.opds] using hx), ho]; exact ha
    case slP n sz zero ps => rw [rowOf_congr (s := s) (s' := s') fun x hx => hse x (by simpa [AOp.opds] using hx), ho]; exact ha
    case slO id n sz zero ps => rw [rowOf_congr (s := s) (s' := s') fun x hx => hse x (by simpa [AOp.opds] using hx), ho, h.base]; exact ha
    case nck x => rw [hse x (by simp [AOp.opds]), ho]; exact ha
    case load agg sz x => rw [hse x (by simp [AOp.opds]), ho]; exact ha
    case store sz x y => rw [hse x (by simp [AOp.opds]), hse y (by simp [AOp.opds]), ho]; exact ha
    case bin op x y => rw [hse x (by simp [AOp.opds]), hse y (by simp [AOp.opds]), ho]; exact ha
    case binB op x y => rw [hse x (by simp [AOp.opds]), hse y (by simp [AOp.opds]), ho]; exact ha
    case un op x => rw [hse x (by simp [AOp.opds]), ho]; exact ha
    case conv k x => rw [hse x (by simp [AOp.opds]), ho]; exact ha
    case mk id sz bytes zero x y => rw [hse x (by simp [AOp.opds]), hse y (by simp [AOp.opds]), ho, h.base]; exact ha
    case slice sz x lo hi mx => rw [hse x (by simp [AOp.opds]), asl_congr (s := s) (s' := s') fun y hy => hse y (by simp only [AOp.opds, List.mem_cons]; exact .inr hy), ho]; exact ha
    case fa off sz x => rw [hse x (by simp [AOp.opds]), ho]; exact ha
    case fld agg off sz x => rw [hse x (by simp [AOp.opds]), ho]; exact ha
    case ia sz x y => rw [hse x (by simp [AOp.opds]), hse y (by simp [AOp.opds]), ho]; exact ha
    case iaA n sz x y => rw [hse x (by simp [AOp.opds]), hse y (by simp [AOp.opds]), ho]; exact ha
    case ext i x => rw [hse x (by simp [AOp.opds]), ho]; exact ha
    case len x => rw [hse x (by simp [AOp.opds]), ho]; exact ha
    case app id sz bytes x y => rw [hse x (by simp [AOp.opds]), hse y (by simp [AOp.opds]), ho, h.base]; exact ha
    case bad => cases ha
    case minI x y => rw [hse x (by simp [AOp.opds]), hse y (by simp [AOp.opds]), ho]; exact ha
    case maxI x y => rw [hse x (by simp [AOp.opds]), hse y (by simp [AOp.opds]), ho]; exact ha
    case loadS n x => rw [hse x (by simp [AOp.opds]), ho]; exact ha
    case mkf1 g x => rw [hse x (by simp [AOp.opds]), ho]; exact ha
    case sidx x y => rw [hse x (by simp [AOp.opds]), hse y (by simp [AOp.opds]), ho]; exact ha
    case toStr x => rw [hse x (by simp [AOp.opds]), ho]; exact ha
    case isNil n x => rw [hse x (by simp [AOp.opds]), ho]; exact ha
    case mkM id sz => rw [ho, h.base]; exact ha
    case lkp st cm ag z x y => rw [hse x (by simp [AOp.opds]), hse y (by simp [AOp.opds]), ho]; exact ha
    case updM st x y z => rw [hse x (by simp [AOp.opds]), hse y (by simp [AOp.opds]), hse z (by simp [AOp.opds]), ho]; exact ha
    case lenM x => rw [hse x (by simp [AOp.opds]), ho]; exact ha
    case mkfO g args => rw [List.map_congr_left (g := fun x => (s.ev x).sv1?) fun x hx => by rw [hse x (by simpa [AOp.opds] using hx)], ho]; exact ha
    case call g args => cases ha
    case callP g args => cases ha
    case callR bs g args => cases ha
    case callV f args => cases ha
    case mkf g args => rw [List.map_congr_left (g := fun x => (s.ev x).pc?) fun x hx => by rw [hse x (by simpa [AOp.opds] using hx)], ho]; exact ha
  · refine .inr ⟨by rw [h.guard]; exact hg, .inr (.inl ⟨g, args, sv, pv, res, hop, ?_, by rw [ho]; exact hp, hc, by unfold behind; rw [ho], rfl⟩)⟩
    rw [argsOf_congr (s := s) fun x hx => hev x (by simpa [hop, AOp.opds] using hx)]; exact ha
  · refine .inr ⟨by rw [h.guard]; exact hg, .inr (.inr (.inl ⟨g, args, sv, pv, res, hop, ?_, hp, hc, ho.symm, rfl⟩))⟩
    rw [argsOf_congr (s := s) fun x hx => hev x (by simpa [hop, AOp.opds] using hx)]; exact ha
  · refine .inr ⟨by rw [h.guard]; exact hg, .inr (.inr (.inr (.inl ⟨f, args, sv, g, sv', pv, res, hop, ?_, ?_, by rw [ho]; exact hp, hc, by unfold behind; rw [ho], rfl⟩)))⟩
    · rw [argsOf_congr (s := s) fun x hx => hev x (by simp [hop, AOp.opds, hx])]; exact ha
    · unfold callee at hf ⊢; rw [hev f (by simp [hop, AOp.opds])]; exact hf
  · refine .inr ⟨by rw [h.guard]; exact hg, .inr (.inr (.inr (.inr ⟨bs, g, args, sv, hop, ?_, by rw [h.base, ho]; exact hc⟩)))⟩
    rw [argsOf_congr (s := s) fun x hx => hev x (by simpa [hop, AOp.opds] using hx)]; exact ha

/-- An operation that has nothing to do with the objects, as an effect. -/
theorem Eff.loc {Γ : Calls0} {b : AO} {s s' : St} (hcl : b.op.cls = .loc) (h : Agree b s s') {objs' : Objs} {v : AV} (he : Eff Γ b s objs' v) : objs' = s.objs ∧ Eff Γ b s' s'.objs v := by
  have hev := fun x hx => h.ev (x := x) hx
  rcases he with ⟨hg, rfl, rfl⟩ | ⟨hg, ha | ⟨g, args, sv, pv, res, hop, ha, hp, hc, rfl, rfl⟩ | ⟨g, args, sv, pv, res, hop, ha, hp, hc, rfl, rfl⟩ | ⟨f, args, sv, g, sv', pv, res, hop, ha, hf, hp, hc, rfl, rfl⟩ | ⟨bs, g, args, sv, hop, ha, hc⟩⟩
  · exact ⟨rfl, .inl ⟨by rw [h.guard]; exact hg, rfl, rfl⟩⟩
  · obtain ⟨h1, h2⟩ := aop_loc hcl h ha
    exact ⟨h1, .inr ⟨by rw [h.guard]; exact hg, .inl h2⟩⟩
  · rw [hop] at hcl; cases hcl
  · refine ⟨rfl, .inr ⟨by rw [h.guard]; exact hg, .inr (.inr (.inl ⟨g, args, sv, pv, res, hop, ?_, hp, hc, rfl, rfl⟩))⟩⟩
    rw [argsOf_congr (s := s) fun x hx => hev x (by simpa [hop, AOp.opds] using hx)]; exact ha
  · rw [hop] at hcl; cases hcl
  · rw [hop] at hcl; cases hcl

/-- Of what is bounded, pointers have versions that were. -/
structure WF (s : St) : Prop where
  m : ∀ o v ob, s.objs.m o v = some ob → v < s.objs.nv o
  p : ∀ t o v i off, s.slots t = .s (.c (.ptr o v i off)) → v < s.objs.nv o

/-- A load, where another object is new. -/
theorem Eff.load {Γ : Calls0} {b : AO} {s s' : St} (hcl : b.op.cls = .rd) (h : Agree b s s')
    (hm : ∀ t, t ∈ b.reads → ∀ o v i off, s.slots t = .s (.c (.ptr o v i off)) → ∀ ob, s.objs.m o v = some ob → ∃ ob', s'.objs.m o v = some ob' ∧ ob'.elems = ob.elems) {objs' : Objs} {v : AV} (he : Eff Γ b s objs' v) :
    objs' = s.objs ∧ Eff Γ b s' s'.objs v := by
  have hop : ∃ agg sz t, b.op = .load agg sz (.t t) := by
    generalize b.op = op at hcl
    cases op <;> simp only [AOp.cls] at hcl <;> (try (cases hcl))
    case load agg sz x => cases x <;> first | exact ⟨_, _, _, rfl⟩ | cases hcl
    case loadS n x => cases x <;> cases hcl
  obtain ⟨agg, sz, t, hop⟩ := hop
  have htr : t ∈ b.reads := by simp [AO.reads, hop, AOp.opds]
  rcases he with ⟨hg, rfl, rfl⟩ | ⟨hg, ha | ⟨g, args, sv, pv, res, hop', _⟩ | ⟨g, args, sv, pv, res, hop', _⟩ | ⟨f, args, sv, g, sv', pv, res, hop', _⟩ | ⟨bs, g, args, sv, hop', _⟩⟩
  · exact ⟨rfl, .inl ⟨by rw [h.guard]; exact hg, rfl, rfl⟩⟩
  · rw [hop] at ha
    have hk : objs' = s.objs ∧ aop (.load agg sz (.t t)) s' = some (s'.objs, v) := by
      simp only [aop] at ha ⊢
      have hst : s'.ev (.t t) = s.ev (.t t) := h.slots t htr
      rw [hst]
      split at ha
      · rename_i cs hcs
        split at ha
        · rename_i hl
          rw [if_pos hl]
          cases agg <;> simp only [if_true, Bool.false_eq_true, if_false] at ha ⊢ <;> (obtain ⟨q, h1, h2⟩ := map_objs (o' := s'.objs) ha; cases h1; exact ⟨rfl, h2⟩)
        · cases ha
      · rename_i o ver i off hcs
        split at ha
        · rename_i ob hob
          obtain ⟨ob', e1, e2⟩ := hm t htr o ver i off hcs ob hob
          rw [e1]
          simp only [e2]
          split at ha
          · rename_i el hel
            split at ha
            · rename_i hl
              rw [if_pos hl]
              cases agg <;> simp only [if_true, Bool.false_eq_true, if_false] at ha ⊢ <;> (obtain ⟨q, h1, h2⟩ := map_objs (o' := s'.objs) ha; cases h1; exact ⟨rfl, h2⟩)
            · cases ha
          · cases ha
        · cases ha
      · cases ha
    exact ⟨hk.1, .inr ⟨by rw [h.guard]; exact hg, .inl (by rw [hop]; exact hk.2)⟩⟩
  · rw [hop] at hop'; cases hop'
  · rw [hop] at hop'; cases hop'
  · rw [hop] at hop'; cases hop'
  · rw [hop] at hop'; cases hop'

/-- A load of a cell of an object of a size. -/
theorem Eff.loadS {Γ : Calls0} {b : AO} {s s' : St} {n : Nat} (hcl : b.op.cls = .rdS n) (h : Agree b s s')
    (hm : ∀ t, t ∈ b.reads → ∀ o v i off, s.slots t = .s (.c (.ptr o v i off)) → ∀ ob, s.objs.m o v = some ob → ob.sz = n → s'.objs.m o v = some ob) {objs' : Objs} {v : AV} (he : Eff Γ b s objs' v) :
    objs' = s.objs ∧ Eff Γ b s' s'.objs v := by
  have hop : ∃ t, b.op = .loadS n (.t t) := by
    generalize b.op = op at hcl
    cases op <;> simp only [AOp.cls] at hcl <;> (try (cases hcl))
    case load agg sz x => cases x <;> cases hcl
    case loadS m x => cases x <;> first | (cases hcl; exact ⟨_, rfl⟩) | cases hcl
  obtain ⟨t, hop⟩ := hop
  have htr : t ∈ b.reads := by simp [AO.reads, hop, AOp.opds]
  rcases he with ⟨hg, rfl, rfl⟩ | ⟨hg, ha | ⟨g, args, sv, pv, res, hop', _⟩ | ⟨g, args, sv, pv, res, hop', _⟩ | ⟨f, args, sv, g, sv', pv, res, hop', _⟩ | ⟨bs, g, args, sv, hop', _⟩⟩
  · exact ⟨rfl, .inl ⟨by rw [h.guard]; exact hg, rfl, rfl⟩⟩
  · rw [hop] at ha
    have hk : objs' = s.objs ∧ aop (.loadS n (.t t)) s' = some (s'.objs, v) := by
      simp only [aop] at ha ⊢
      have hst : s'.ev (.t t) = s.ev (.t t) := h.slots t htr
      rw [hst]
      split at ha
      · rename_i hz
        have hz0 := hz
        unfold szOK at hz
        split at hz
        · rename_i o ver i off hcs
          rw [hcs] at ha ⊢
          simp only at ha ⊢
          split at hz
          · rename_i ob hob
            have hsz : ob.sz = n := by simpa using hz
            have e1 := hm t htr o ver i off hcs ob hob hsz
            rw [if_pos (by unfold szOK; simp only [e1]; exact hz)]
            rw [hob] at ha
            rw [e1]
            simp only at ha ⊢
            split at ha
            · rename_i el hel
              split at ha
              · rename_i hle
                rw [if_pos hle]
                simp only [Bool.false_eq_true, if_false] at ha ⊢
                obtain ⟨q, h1, h2⟩ := map_objs (o' := s'.objs) ha
                cases h1; exact ⟨rfl, h2⟩
              · cases ha
            · cases ha
          · cases hz
        · cases hz
      · cases ha
    exact ⟨hk.1, .inr ⟨by rw [h.guard]; exact hg, .inl (by rw [hop]; exact hk.2)⟩⟩
  · rw [hop] at hop'; cases hop'
  · rw [hop] at hop'; cases hop'
  · rw [hop] at hop'; cases hop'
  · rw [hop] at hop'; cases hop'

/-- An append leaves the objects of other sizes. -/
theorem Eff.app {Γ : Calls0} {b : AO} {s : St} {m : Nat} (hcl : b.op.cls = .ap m) {objs' : Objs} {v : AV} (he : Eff Γ b s objs' v) {o n : Nat} {ob : Obj} (hob : s.objs.m o n = some ob) (hn : n < s.objs.nv o) (hz : ob.sz ≠ m) :
    objs'.m o n = some ob := by
  have hop : ∃ id bytes x y, b.op = .app id m bytes x y := by
    generalize b.op = op at hcl
    cases op <;> simp only [AOp.cls] at hcl <;> (try (cases hcl))
    case load agg sz x => cases x <;> cases hcl
    case loadS n x => cases x <;> cases hcl
    case app id bytes x y => exact ⟨_, _, _, _, rfl⟩
  obtain ⟨id, bytes, x, y, hop⟩ := hop
  rcases he with ⟨hg, rfl, rfl⟩ | ⟨hg, ha | ⟨g, args, sv, pv, res, hop', _⟩ | ⟨g, args, sv, pv, res, hop', _⟩ | ⟨f, args, sv, g, sv', pv, res, hop', _⟩ | ⟨bs, g, args, sv, hop', _⟩⟩
  · exact hob
  · rw [hop] at ha
    simp only [aop] at ha
    split at ha
    · cases ha
    · split at ha
      · split at ha
        · simp only [Option.map_some, Option.some.injEq, Prod.mk.injEq] at ha
          obtain ⟨rfl, _⟩ := ha
          exact hob
        · split at ha
          · simp only [newObj, Option.some.injEq, Prod.mk.injEq] at ha
            obtain ⟨rfl, _⟩ := ha
            simp only [Objs.new]
            rw [if_neg (by rintro ⟨rfl, rfl⟩; omega)]
            exact hob
          · cases ha
      · rename_i q ver sz' st len hx
        split at ha
        · rename_i ob2 hob2
          split at ha
          · rename_i hh
            simp only [Option.some.injEq, Prod.mk.injEq] at ha
            obtain ⟨rfl, _⟩ := ha
            have hne : ¬ (o = q ∧ n = ver) := by
              rintro ⟨rfl, rfl⟩
              rw [hob] at hob2
              cases hob2
              exact hz hh.2.2.1
            simp only [Objs.new, Objs.set]
            split
            · rename_i h9
              obtain ⟨rfl, rfl⟩ := h9
              exact absurd hn (Nat.lt_irrefl _)
            · exact hob
          · cases ha
        · cases ha
      · cases ha
  · rw [hop] at hop'; cases hop'
  · rw [hop] at hop'; cases hop'
  · rw [hop] at hop'; cases hop'
  · rw [hop] at hop'; cases hop'

/-- A call leaves the elements of the objects. -/
theorem Eff.cal {Γ : Calls0} {b : AO} {s : St} (hcl : b.op.cls = .cal) {objs' : Objs} {v : AV} (he : Eff Γ b s objs' v) (o n : Nat) :
    (∀ ob, s.objs.m o n = some ob → ∃ ob', objs'.m o n = some ob' ∧ ob'.elems = ob.elems) ∧ (∀ ob, objs'.m o n = some ob → ∃ ob', s.objs.m o n = some ob' ∧ ob'.elems = ob.elems) := by
  have hop : ∃ g args, b.op = .call g args := by
    generalize b.op = op at hcl
    cases op <;> simp only [AOp.cls] at hcl <;> (try (cases hcl))
    case load agg sz x => cases x <;> cases hcl
    case loadS n x => cases x <;> cases hcl
    case call g args => exact ⟨_, _, rfl⟩
  obtain ⟨g, args, hop⟩ := hop
  rcases he with ⟨hg, rfl, rfl⟩ | ⟨hg, ha | ⟨g, args, sv, pv, res, hop', _, _, _, rfl, _⟩ | ⟨g, args, sv, pv, res, hop', _⟩ | ⟨f, args, sv, g, sv', pv, res, hop', _⟩ | ⟨bs, g, args, sv, hop', _⟩⟩
  · exact ⟨fun ob h => ⟨ob, h, rfl⟩, fun ob h => ⟨ob, h, rfl⟩⟩
  · rw [hop] at ha; simp [aop] at ha
  · unfold behind
    split
    · exact ⟨fun ob h => ⟨ob, h, rfl⟩, fun ob h => ⟨ob, h, rfl⟩⟩
    · refine ⟨fun ob h => ?_, fun ob h => ?_⟩
      · simp only [fzIds, h]; exact ⟨_, rfl, rfl⟩
      · simp only [fzIds] at h
        split at h
        · rename_i ob2 h2; cases h; exact ⟨ob2, h2, rfl⟩
        · cases h
  · rw [hop] at hop'; cases hop'
  · rw [hop] at hop'; cases hop'
  · rw [hop] at hop'; cases hop'

/-- What makes an object of its own number. -/
theorem Eff.fresh {Γ : Calls0} {b : AO} {s s' : St} {id : Nat} (hcl : b.op.cls = .fresh id) (h : Agree b s s') (hnv : s'.objs.nv (s.base + id) = s.objs.nv (s.base + id)) {objs' : Objs} {v : AV} (he : Eff Γ b s objs' v) :
    (objs' = s.objs ∧ Eff Γ b s' s'.objs v) ∨ ∃ ob, objs' = s.objs.new (s.base + id) ob ∧ Eff Γ b s' (s'.objs.new (s.base + id) ob) v := by
  have hev := fun x hx => h.ev (x := x) hx
  rcases he with ⟨hg, rfl, rfl⟩ | ⟨hg, ha | ⟨g, args, sv, pv, res, hop, _⟩ | ⟨g, args, sv, pv, res, hop, _⟩ | ⟨f, args, sv, g, sv', pv, res, hop, _⟩ | ⟨bs, g, args, sv, hop, _⟩⟩
  · exact .inl ⟨rfl, .inl ⟨by rw [h.guard]; exact hg, rfl, rfl⟩⟩
  · right
    have key : ∃ ob, objs' = s.objs.new (s.base + id) ob ∧ aop b.op s' = some (s'.objs.new (s.base + id) ob, v) := by
      generalize b.op = op at *
      cases op <;> simp only [AOp.cls] at hcl <;> (try (cases hcl))
      case load agg sz x => cases x <;> cases hcl
      case loadS n x => cases x <;> cases hcl
      case alloc zero =>
        simp only [aop, newObj, Option.some.injEq, Prod.mk.injEq] at ha ⊢
        obtain ⟨rfl, rfl⟩ := ha
        exact ⟨_, rfl, by rw [h.base], by rw [h.base, hnv]⟩
      case boxO x =>
        simp only [aop, newObj] at ha ⊢
        rw [hev x (by simp [AOp.opds])]
        split at ha
        · simp only [Option.some.injEq, Prod.mk.injEq] at ha ⊢
          obtain ⟨rfl, rfl⟩ := ha
          exact ⟨_, rfl, by rw [h.base], by rw [h.base, hnv]⟩
        · cases ha
      case slO n sz zero ps =>
        simp only [aop, newObj] at ha ⊢
        rw [rowOf_congr (s := s) (s' := s') fun x hx => hev x (by simpa [AOp.opds] using hx)]
        split at ha
        · simp only [Option.some.injEq, Prod.mk.injEq] at ha ⊢
          obtain ⟨rfl, rfl⟩ := ha
          exact ⟨_, rfl, by rw [h.base], by rw [h.base, hnv]⟩
        · cases ha
      case mk sz bytes zero x y =>
        simp only [aop, newObj] at ha ⊢
        rw [hev x (by simp [AOp.opds]), hev y (by simp [AOp.opds])]
        split at ha
        · split at ha
          · rename_i hh
            rw [if_pos hh]
            simp only [Option.some.injEq, Prod.mk.injEq] at ha ⊢
            obtain ⟨rfl, rfl⟩ := ha
            exact ⟨_, rfl, by rw [h.base], by rw [h.base, hnv]⟩
          · cases ha
        · cases ha
    obtain ⟨ob, h1, h2⟩ := key
    exact ⟨ob, h1, .inr ⟨by rw [h.guard]; exact hg, .inl h2⟩⟩
  · rw [hop] at hcl; cases hcl
  · rw [hop] at hcl; cases hcl
  · rw [hop] at hcl; cases hcl
  · rw [hop] at hcl; cases hcl

theorem Objs.new_comm {objs : Objs} {i j : Nat} (hij : i ≠ j) (x y : Obj) : (objs.new i x).new j y = (objs.new j y).new i x := by
  unfold Objs.new
  congr 1
  · funext o v
    simp only [if_neg hij, if_neg (Ne.symm hij)]
    by_cases h1 : o = i ∧ v = objs.nv i
    · rw [if_pos h1, if_neg (by omega), if_pos h1]
    · rw [if_neg h1]
      by_cases h2 : o = j ∧ v = objs.nv j
      · rw [if_pos h2, if_neg h1]
      · rw [if_neg h2, if_neg h1]
  · funext o
    simp only [if_neg hij, if_neg (Ne.symm hij)]
    by_cases h1 : o = i
    · subst h1; rw [if_neg hij]; simp
    · rw [if_neg h1]; simp [h1]

theorem put_objs (s : St) (d : Option Nat) (v : AV) : (s.put d v).objs = s.objs := by cases d <;> rfl
theorem put_base (s : St) (d : Option Nat) (v : AV) : (s.put d v).base = s.base := by cases d <;> rfl
theorem put_slots (s : St) (d : Option Nat) (v : AV) (t : Nat) (h : d ≠ some t) : (s.put d v).slots t = s.slots t := by
  cases d with
  | none => rfl
  | some d => exact upd_ne _ _ _ _ (fun e => h (by rw [e]))

theorem put_over (s : St) (o o2 : Objs) (d e : Option Nat) (v v' : AV) : St.put { (St.put { s with objs := o } d v) with objs := o2 } e v' = St.put { (St.put { s with objs := s.objs } d v) with objs := o2 } e v' := by
  cases d <;> rfl

theorem put_comm (s : St) (o : Objs) (d e : Option Nat) (v v' : AV) (h : ∀ k, d = some k → e ≠ some k) :
    St.put { (St.put { s with objs := s.objs } d v) with objs := o } e v' = St.put { (St.put { s with objs := s.objs } e v') with objs := o } d v := by
  cases d with
  | none => cases e <;> rfl
  | some d =>
    cases e with
    | none => rfl
    | some e =>
      have hne : d ≠ e := fun hh => h d rfl (by rw [hh])
      simp only [St.put]
      congr 1
      funext t
      simp only [upd]
      by_cases h1 : t = e
      · subst h1; rw [if_pos rfl, if_neg (Ne.symm hne), if_pos rfl]
      · rw [if_neg h1]; split <;> simp

/-- Two independent operations may change places. -/
theorem BO_swap {Γ : Calls0} {x y : AO} {s s1 s2 : St} (hi : indep x y = true) (wf : WF s) (hx : BO Γ x s s1) (hy : BO Γ y s1 s2) : ∃ s1', BO Γ y s s1' ∧ BO Γ x s1' s2 := by
  obtain ⟨o1, v1, e1, rfl⟩ := BO_iff.1 hx
  obtain ⟨o2, v2, e2, rfl⟩ := BO_iff.1 hy
  simp only [indep, Bool.and_eq_true] at hi
  obtain ⟨⟨i1, i2⟩, i3⟩ := hi
  have ny : ∀ t, t ∈ y.reads → x.dst ≠ some t := by
    intro t ht hd
    rw [hd] at i1
    simp only [Bool.and_eq_true, Bool.not_eq_true'] at i1
    have := i1.1
    rw [List.contains_eq_mem] at this
    simp [ht] at this
  have nx : ∀ t, t ∈ x.reads → y.dst ≠ some t := by
    intro t ht hd
    rw [hd] at i2
    simp only [Bool.not_eq_true'] at i2
    rw [List.contains_eq_mem] at i2
    simp [ht] at i2
  have nd : ∀ k, x.dst = some k → y.dst ≠ some k := by
    intro k hk hd
    rw [hk, hd] at i1
    simp at i1
  have agy : ∀ o, Agree y (St.put { s with objs := o } x.dst v1) s := fun o => ⟨fun t ht => (put_slots { s with objs := o } _ _ _ (ny t ht)).symm, (put_base { s with objs := o } _ _).symm⟩
  have agy' : ∀ o, Agree y s (St.put { s with objs := o } x.dst v1) := fun o => ⟨fun t ht => put_slots { s with objs := o } _ _ _ (ny t ht), put_base { s with objs := o } _ _⟩
  have agx : ∀ o, Agree x s (St.put { s with objs := o } y.dst v2) := fun o => ⟨fun t ht => put_slots { s with objs := o } _ _ _ (nx t ht), put_base { s with objs := o } _ _⟩
  -- how it ends, once the two effects are known
  have fin : ∀ oy, Eff Γ y s oy v2 → Eff Γ x (St.put { s with objs := oy } y.dst v2) o2 v1 → ∃ s1', BO Γ y s s1' ∧ BO Γ x s1' (St.put { (St.put { s with objs := o1 } x.dst v1) with objs := o2 } y.dst v2) := by
    intro oy h1 h2
    refine ⟨_, BO_iff.2 ⟨oy, v2, h1, rfl⟩, BO_iff.2 ⟨o2, v1, h2, ?_⟩⟩
    rw [put_over, put_over s oy]
    exact put_comm s o2 x.dst y.dst v1 v2 nd
  have hm1 : (St.put { s with objs := o1 } x.dst v1).objs = o1 := put_objs _ _ _
  have hb1 : (St.put { s with objs := o1 } x.dst v1).base = s.base := put_base _ _ _
  cases hcy : y.op.cls with
  | loc =>
    obtain ⟨h1, h2⟩ := Eff.loc hcy (agy o1) e2
    rw [hm1] at h1
    subst h1
    exact fin s.objs h2 (e1.congr (agx s.objs) (put_objs _ _ _))
  | rd =>
    cases hcx : x.op.cls with
    | loc =>
      obtain ⟨rfl, h2⟩ := Eff.loc hcx (agx o2) e1
      rw [put_objs] at h2
      exact fin o2 (e2.congr (agy s.objs) (by rw [put_objs])) h2
    | rd =>
      obtain ⟨rfl, h2⟩ := Eff.load hcx (agx s.objs) (fun t ht o v i off _ ob hob => ⟨ob, by rw [put_objs]; exact hob, rfl⟩) e1
      obtain ⟨h3, h4⟩ := Eff.load hcy (agy s.objs) (fun t ht o v i off _ ob hob => ⟨ob, by rw [put_objs] at hob; exact hob, rfl⟩) e2
      rw [put_objs] at h2 h3
      subst h3
      exact fin s.objs h4 h2
    | cal =>
      obtain ⟨h3, h4⟩ := Eff.load hcy (agy o1) (fun t ht o v i off _ ob hob => by rw [put_objs] at hob; exact (Eff.cal hcx e1 o v).2 ob hob) e2
      rw [put_objs] at h3
      subst h3
      exact fin s.objs h4 (e1.congr (agx s.objs) (put_objs _ _ _))
    | fresh id =>
      rcases Eff.fresh hcx (agx s.objs) (by rw [put_objs]) e1 with ⟨rfl, h2⟩ | ⟨ob, rfl, h2⟩
      · obtain ⟨h3, h4⟩ := Eff.load hcy (agy s.objs) (fun t ht o v i off _ ob hob => ⟨ob, by rw [put_objs] at hob; exact hob, rfl⟩) e2
        rw [put_objs] at h2 h3
        subst h3
        exact fin s.objs h4 h2
      · obtain ⟨h3, h4⟩ := Eff.load hcy (agy _) (fun t ht o v i off hs ob' hob => by
          refine ⟨ob', ?_, rfl⟩
          rw [put_objs] at hob
          rw [put_slots _ _ _ _ (ny t ht)] at hs
          have := wf.p t o v i off hs
          simp only [Objs.new] at hob
          split at hob
          · rename_i hh; obtain ⟨rfl, rfl⟩ := hh; omega
          · exact hob) e2
        rw [put_objs] at h2 h3
        subst h3
        exact fin s.objs h4 h2
    | rdS n =>
      obtain ⟨rfl, h2⟩ := Eff.loadS hcx (agx s.objs) (fun t ht o v i off _ ob hob _ => by rw [put_objs]; exact hob) e1
      obtain ⟨h3, h4⟩ := Eff.load hcy (agy s.objs) (fun t ht o v i off _ ob hob => ⟨ob, by rw [put_objs] at hob; exact hob, rfl⟩) e2
      rw [put_objs] at h2 h3
      subst h3
      exact fin s.objs h4 h2
    | ap n => rw [hcx, hcy] at i3; cases i3
    | wr => rw [hcx, hcy] at i3; cases i3
  | rdS m =>
    cases hcx : x.op.cls with
    | loc =>
      obtain ⟨rfl, h2⟩ := Eff.loc hcx (agx o2) e1
      rw [put_objs] at h2
      exact fin o2 (e2.congr (agy s.objs) (by rw [put_objs])) h2
    | rd =>
      obtain ⟨rfl, h2⟩ := Eff.load hcx (agx s.objs) (fun t ht o v i off _ ob hob => ⟨ob, by rw [put_objs]; exact hob, rfl⟩) e1
      obtain ⟨h3, h4⟩ := Eff.loadS hcy (agy s.objs) (fun t ht o v i off _ ob hob _ => by rw [put_objs] at hob; exact hob) e2
      rw [put_objs] at h2 h3
      subst h3
      exact fin s.objs h4 h2
    | rdS n =>
      obtain ⟨rfl, h2⟩ := Eff.loadS hcx (agx s.objs) (fun t ht o v i off _ ob hob _ => by rw [put_objs]; exact hob) e1
      obtain ⟨h3, h4⟩ := Eff.loadS hcy (agy s.objs) (fun t ht o v i off _ ob hob _ => by rw [put_objs] at hob; exact hob) e2
      rw [put_objs] at h2 h3
      subst h3
      exact fin s.objs h4 h2
    | cal => rw [hcx, hcy] at i3; cases i3
    | fresh _ => rw [hcx, hcy] at i3; cases i3
    | ap _ => rw [hcx, hcy] at i3; cases i3
    | wr => rw [hcx, hcy] at i3; cases i3
  | ap m =>
    cases hcx : x.op.cls with
    | loc =>
      obtain ⟨rfl, h2⟩ := Eff.loc hcx (agx o2) e1
      rw [put_objs] at h2
      exact fin o2 (e2.congr (agy s.objs) (by rw [put_objs])) h2
    | rdS n =>
      have hne : n ≠ m := by
        rw [hcx, hcy] at i3
        simpa [Cls.ok] using i3
      have hx0 : o1 = s.objs := (Eff.loadS hcx (agx s.objs) (fun t ht o v i off _ ob hob _ => by rw [put_objs]; exact hob) e1).1
      subst hx0
      have h4 := e2.congr (agy s.objs) (by rw [put_objs])
      have h2 := (Eff.loadS hcx (agx o2) (fun t ht o v i off _ ob hob hz => by rw [put_objs]; exact Eff.app hcy h4 hob (wf.m o v ob hob) (by omega)) e1).2
      rw [put_objs] at h2
      exact fin o2 h4 h2
    | rd => rw [hcx, hcy] at i3; cases i3
    | cal => rw [hcx, hcy] at i3; cases i3
    | fresh _ => rw [hcx, hcy] at i3; cases i3
    | ap _ => rw [hcx, hcy] at i3; cases i3
    | wr => rw [hcx, hcy] at i3; cases i3
  | cal =>
    cases hcx : x.op.cls with
    | loc =>
      obtain ⟨rfl, h2⟩ := Eff.loc hcx (agx o2) e1
      rw [put_objs] at h2
      exact fin o2 (e2.congr (agy s.objs) (by rw [put_objs])) h2
    | rd =>
      have hx0 : o1 = s.objs := (Eff.load hcx (agx s.objs) (fun t ht o v i off _ ob hob => ⟨ob, by rw [put_objs]; exact hob, rfl⟩) e1).1
      subst hx0
      have h4 := e2.congr (agy s.objs) (by rw [put_objs])
      have h2 := (Eff.load hcx (agx o2) (fun t ht o v i off _ ob hob => by rw [put_objs]; exact (Eff.cal hcy h4 o v).1 ob hob) e1).2
      rw [put_objs] at h2
      exact fin o2 h4 h2
    | cal => rw [hcx, hcy] at i3; cases i3
    | fresh _ => rw [hcx, hcy] at i3; cases i3
    | rdS _ => rw [hcx, hcy] at i3; cases i3
    | ap _ => rw [hcx, hcy] at i3; cases i3
    | wr => rw [hcx, hcy] at i3; cases i3
  | fresh id =>
    cases hcx : x.op.cls with
    | cal => rw [hcx, hcy] at i3; cases i3
    | loc =>
      obtain ⟨rfl, h2⟩ := Eff.loc hcx (agx o2) e1
      rw [put_objs] at h2
      exact fin o2 (e2.congr (agy s.objs) (by rw [put_objs])) h2
    | rd =>
      have hx0 : o1 = s.objs := (Eff.load hcx (agx s.objs) (fun t ht o v i off _ ob hob => ⟨ob, by rw [put_objs]; exact hob, rfl⟩) e1).1
      subst hx0
      rcases Eff.fresh hcy (agy s.objs) (by rw [put_objs]) e2 with ⟨h3, h4⟩ | ⟨ob, h3, h4⟩
      · rw [put_objs] at h3
        subst h3
        have h2 := (Eff.load hcx (agx s.objs) (fun t ht o v i off _ ob hob => ⟨ob, by rw [put_objs]; exact hob, rfl⟩) e1).2
        rw [put_objs] at h2
        exact fin s.objs h4 h2
      · rw [put_objs, put_base] at h3
        subst h3
        rw [put_base] at h4
        have h2 := (Eff.load hcx (agx (s.objs.new (s.base + id) ob)) (fun t ht o v i off _ ob' hob => by
          refine ⟨ob', ?_, rfl⟩
          rw [put_objs]
          have := wf.m o v ob' hob
          simp only [Objs.new]
          rw [if_neg (by rintro ⟨rfl, rfl⟩; omega)]; exact hob) e1).2
        rw [put_objs] at h2
        exact fin _ h4 h2
    | fresh id' =>
      have hne : id' ≠ id := by
        rw [hcx, hcy] at i3
        simpa [Cls.ok] using i3
      rcases Eff.fresh hcx (agx s.objs) (by rw [put_objs]) e1 with ⟨rfl, _⟩ | ⟨ob, rfl, _⟩
      · have ey := e2.congr (agy s.objs) (by rw [put_objs])
        rcases Eff.fresh hcy (agy s.objs) (by rw [put_objs]) e2 with ⟨h3, h4⟩ | ⟨ob, h3, h4⟩
        · rw [put_objs] at h3
          subst h3
          exact fin s.objs h4 (e1.congr (agx s.objs) (put_objs _ _ _))
        · rw [put_objs, put_base] at h3
          subst h3
          rw [put_base] at h4
          rcases Eff.fresh hcx (agx (s.objs.new (s.base + id) ob)) (by rw [put_objs]; simp only [Objs.new]; rw [if_neg (by omega)]) e1 with ⟨_, h5⟩ | ⟨ob2, h5, _⟩
          · rw [put_objs] at h5; exact fin _ h4 h5
          · exfalso
            have := congrArg (fun q : Objs => q.nv (s.base + id')) h5
            simp [Objs.new] at this
      · rcases Eff.fresh hcy (agy _) (by rw [put_objs, put_base]; simp only [Objs.new]; rw [if_neg (by omega)]) e2 with ⟨h3, h4⟩ | ⟨ob2, h3, h4⟩
        · rw [put_objs] at h3
          subst h3
          exact fin s.objs h4 (e1.congr (agx s.objs) (put_objs _ _ _))
        · rw [put_objs, put_base] at h3
          rw [put_base] at h4
          rcases Eff.fresh hcx (agx (s.objs.new (s.base + id) ob2)) (by rw [put_objs]; simp only [Objs.new]; rw [if_neg (by omega)]) e1 with ⟨h5, _⟩ | ⟨ob3, h5, h6⟩
          · exfalso
            have := congrArg (fun q : Objs => q.nv (s.base + id')) h5
            simp [Objs.new] at this
          · rw [put_objs] at h6
            have hob : ob3 = ob := by
              have := congrArg (fun q : Objs => q.m (s.base + id') (s.objs.nv (s.base + id'))) h5
              simpa [Objs.new] using this.symm
            subst hob
            have h3' : o2 = (s.objs.new (s.base + id) ob2).new (s.base + id') ob3 := by
              have h3 : o2 = (s.objs.new (s.base + id') ob3).new (s.base + id) ob2 := h3
              exact h3.trans (Objs.new_comm (by omega) _ _)
            rw [h3'] at fin ⊢
            exact fin _ h4 h6
    | rdS _ => rw [hcx, hcy] at i3; cases i3
    | ap _ => rw [hcx, hcy] at i3; cases i3
    | wr => rw [hcx, hcy] at i3; cases i3
  | wr =>
    cases hcx : x.op.cls with
    | loc =>
      obtain ⟨rfl, h2⟩ := Eff.loc hcx (agx o2) e1
      rw [put_objs] at h2
      exact fin o2 (e2.congr (agy s.objs) (by rw [put_objs])) h2
    | rd => rw [hcx, hcy] at i3; cases i3
    | cal => rw [hcx, hcy] at i3; cases i3
    | fresh _ => rw [hcx, hcy] at i3; cases i3
    | rdS _ => rw [hcx, hcy] at i3; cases i3
    | ap _ => rw [hcx, hcy] at i3; cases i3
    | wr => rw [hcx, hcy] at i3; cases i3

/-- What may be: a state that some memory and frame bear. -/
def Real (fm : Nat → Nat) (nt : Nat) (s : St) : Prop := ∃ Z β w0 w a, SlR fm Z β a s ∧ a.tmps.size = nt ∧ WR fm Z β s.objs w0 w

theorem Real.wf {nt : Nat} (h : Real fm nt s) : WF s := by
  obtain ⟨Z, β, w0, w, a, h1, _, h3⟩ := h
  refine ⟨fun o v ob ho => ?_, fun t o v i off ht => ?_⟩
  · have := h3.ho o v ob ho
    unfold OR at this
    cases hl : β o v with
    | none => simp [hl] at this
    | some l => exact h3.hβ _ _ _ hl
  · have := h1 t
    rw [ht] at this
    obtain ⟨b, base, n, sz, _, hβ⟩ := this.vr.ptr_inv
    exact h3.hβ _ _ _ hβ

theorem Real.step {Γ : Calls0} (hΓ : SoundF P fm Γ) {ops : Array Oper} {i nt : Nat} {o : Oper} {b : AO} {s' : St} (h : Real fm nt s) (hi : ops[i]? = some o) (hk : chkO P fm nt ops o b = true) (hb : BO Γ b s s') : Real fm nt s' := by
  obtain ⟨Z, β, w0, w, a, h1, h2, h3⟩ := h
  have := BO_sound (K := fun _ _ => Real fm nt s') (Q := fun _ _ _ => False) hΓ hi hk h2 h1 h3 hb fun Z' β' a' w' _ _ k3 k4 _ k6 => ⟨Z', β', w0, w', a', k3, k4, k6⟩
  unfold wpOp at this
  rw [hi] at this
  simp only at this
  split at this
  · rcases this with h | ⟨_, _, _, h⟩
    · unfold Oper.wp at h
      generalize (execOp a.eval o).run P w = r at h
      cases r with
      | ok n w' =>
        cases n <;> simp only [Oper.upon] at h
        case value v => exact h
        case skip => exact h
        case defer d => exact h
        case enter f args =>
          obtain ⟨e, w'', fr, hR, _⟩ := h []
          cases e with
          | returned v => exact hR
          | panicked c => exact hR.elim
          | outgrown => obtain ⟨_, _, hf⟩ := hR; exact hf.elim
        case row r args =>
          obtain ⟨v, w'', hR, _⟩ := h default []
          exact hR
      | halt x w' => cases x <;> simp only [Oper.upon] at h
    · exact h.elim
  · exact this

/-- The operations of these places, one behind the other. -/
def BOsI (Γ : Calls0) (bs : List AO) (R : List Nat) (s s' : St) : Prop := BOs Γ (R.filterMap (bs[·]?)) s s'

theorem BOs_front {Γ : Calls0} (hΓ : SoundF P fm Γ) {ops : Array Oper} {nt : Nat} {y : AO} : ∀ (l r : List AO) (s s' : St), (∀ x, x ∈ l → indep x y = true ∧ ∃ (i : Nat) (o : Oper), ops[i]? = some o ∧ chkO P fm nt ops o x = true) →
    Real fm nt s → BOs Γ (l ++ y :: r) s s' → ∃ s1, BO Γ y s s1 ∧ BOs Γ (l ++ r) s1 s'
  | [], r, s, s', _, _, h => by cases h with | cons h t => exact ⟨_, h, t⟩
  | x :: l, r, s, s', hi, hr, h => by
    cases h with
    | cons h t =>
      obtain ⟨hi1, i, o, ho, hk⟩ := hi x (by simp)
      obtain ⟨s1, h1, h2⟩ := BOs_front hΓ l r _ s' (fun z hz => hi z (by simp [hz])) (hr.step hΓ ho hk h) t
      obtain ⟨s2, h3, h4⟩ := BO_swap hi1 hr.wf h h1
      exact ⟨s2, h3, .cons h4 h2⟩

/-- The places that a place's operation waits for. -/
def preds (o : Oper) : List Nat := (o.after.toList.filter fun e => Region.binds .any e).map (·.on)

def isPred (ops : List Oper) : Nat → Nat → Oper → Bool
  | 0, j, o => (preds o).contains j
  | n + 1, j, o => (preds o).contains j || (preds o).any fun k => match ops[k]? with | some q => isPred ops n j q | none => false

def chkBack (ops : List Oper) : Bool := (List.range ops.length).all fun i => match ops[i]? with | some o => (preds o).all fun j => decide (j < i) | none => true

def chkPair (ops : List Oper) (bs : List AO) (i j : Nat) : Bool :=
  match ops[i]?, bs[i]?, bs[j]? with
  | some o, some y, some x => indep x y || isPred ops 8 j o
  | _, _, _ => true

def chkDraw (ops : List Oper) (bs : List AO) : Bool :=
  chkBack ops && (List.range ops.length).all fun i => (List.range i).all fun j => chkPair ops bs i j

def Closed (ops : Array Oper) (listed : Array Bool) : Prop := ∀ i o, ops[i]? = some o → listed.getD i false = true → ∀ j, j ∈ preds o → listed.getD j false = true

theorem isPred_listed {ops : Array Oper} {listed : Array Bool} (hc : Closed ops listed) : ∀ (n j : Nat) (o : Oper), isPred ops.toList n j o = true → (∀ k, k ∈ preds o → listed.getD k false = true) → listed.getD j false = true
  | 0, j, o, h, hp => hp j (by simpa [isPred] using h)
  | n + 1, j, o, h, hp => by
    simp only [isPred, Bool.or_eq_true, List.any_eq_true] at h
    rcases h with h | ⟨k, hk, h⟩
    · exact hp j (by simpa using h)
    · split at h
      · rename_i q hq
        have hq' : ops[k]? = some q := by simpa using hq
        exact isPred_listed hc n j q h fun m hm => hc k q hq' (hp k hk) m hm
      · cases h

theorem chkOps_get {ops : Array Oper} {nt : Nat} : ∀ {os : List Oper} {bs : List AO}, chkOps P fm nt ops os bs = true → os.length = bs.length ∧ ∀ (i : Nat) (o : Oper), os[i]? = some o → ∃ b, bs[i]? = some b ∧ chkO P fm nt ops o b = true
  | [], [], _ => ⟨rfl, fun i o h => by simp at h⟩
  | o :: os, b :: bs, h => by
    simp only [chkOps, Bool.and_eq_true] at h
    obtain ⟨h1, h2⟩ := chkOps_get h.2
    refine ⟨by simp [h1], fun i q hq => ?_⟩
    cases i with
    | zero => simp at hq; subst hq; exact ⟨b, by simp, h.1⟩
    | succ i => simpa using h2 i q (by simpa using hq)
  | [], _ :: _, h => by simp [chkOps] at h
  | _ :: _, [], h => by simp [chkOps] at h

theorem draw_sound {Γ : Calls0} (hΓ : SoundF P fm Γ) {ops : Array Oper} {bs : List AO} {nt : Nat} (hk : chkOps P fm nt ops ops.toList bs = true) (hd : chkDraw ops.toList bs = true) {Q : Exit → Act → World → Prop} {sf : St} :
    ∀ (fuel : Nat) (listed : Array Bool) (R : List Nat) (Z : ZM) (β : BM) (a : Act) (w : World) (s : St), listed.size = ops.size → R = (List.range ops.size).filter (fun i => !listed.getD i false) → R.length = fuel →
      Closed ops listed → a.tmps.size = nt → SlR fm Z β a s → WR fm Z β s.objs w0 w → BOsI Γ bs R s sf →
      (∀ Z' β' a' w', ZExt w0.heap.size Z Z' → BExt β β' → SlR fm Z' β' a' sf → a'.tmps.size = nt → a'.defers = a.defers → WR fm Z' β' sf.objs w0 w' → Q .normal a' w') →
      wpAny P .any ops Q fuel listed a w := by
  obtain ⟨hlen, hget⟩ := chkOps_get hk
  simp only [chkDraw, Bool.and_eq_true, List.all_eq_true, List.mem_range] at hd
  obtain ⟨hback, hpair⟩ := hd
  simp only [chkBack, List.all_eq_true, List.mem_range] at hback
  have hready : ∀ (listed : Array Bool) (i : Nat), listed.size = ops.size → (i ∈ Region.ready .any ops listed ↔ i < ops.size ∧ listed.getD i false = false ∧ ∃ o, ops[i]? = some o ∧ ∀ j, j ∈ preds o → listed.getD j false = true) := by
    intro listed i hsz
    simp only [Region.ready, List.mem_filter, List.mem_range, Bool.and_eq_true, Bool.not_eq_true']
    constructor
    · rintro ⟨h1, h2, h3⟩
      have hi : ops[i]? = some ops[i] := by simp [h1]
      rw [hi] at h3
      simp only [Option.map_some, Option.getD_some] at h3
      refine ⟨h1, ?_, _, hi, fun j hj => ?_⟩
      · have : i < listed.size := by omega
        simpa [this] using h2
      · simp only [preds, List.mem_map, List.mem_filter] at hj
        obtain ⟨e, ⟨he1, he2⟩, rfl⟩ := hj
        have := Array.all_eq_true_iff_forall_mem.1 h3 e (by simpa using he1)
        simpa [he2] using this
    · rintro ⟨h1, h2, o, ho, h3⟩
      refine ⟨h1, ?_, ?_⟩
      · have : i < listed.size := by omega
        simpa [this] using h2
      · rw [ho]
        simp only [Option.map_some, Option.getD_some]
        rw [Array.all_eq_true_iff_forall_mem]
        intro e he
        by_cases hb : Region.binds .any e = true
        · have := h3 e.on (by simp only [preds, List.mem_map, List.mem_filter]; exact ⟨e, ⟨by simpa using he, hb⟩, rfl⟩)
          simp [this]
        · simp [hb]
  intro fuel
  induction fuel with
  | zero =>
    intro listed R Z β a w s hsz hR hfl hc hn hs h hb hQ
    have hR0 : R = [] := List.eq_nil_of_length_eq_zero hfl
    subst hR0
    refine ⟨?_, ?_⟩
    · rw [List.eq_nil_iff_forall_not_mem]
      intro i hi
      obtain ⟨h1, h2, _⟩ := (hready listed i hsz).1 hi
      have : i ∈ (List.range ops.size).filter (fun i => !listed.getD i false) := List.mem_filter.2 ⟨List.mem_range.2 h1, by rw [h2]; rfl⟩
      rw [← hR] at this; cases this
    · cases hb
      exact hQ Z β a w (ZExt.refl _ _) (BExt.refl _) hs hn rfl h
  | succ fuel ih =>
    intro listed R Z β a w s hsz hR hfl hc hn hs h hb hQ
    refine ⟨fun hnil => ?_, fun i hi => ?_⟩
    · exfalso
      match R, hfl, hR with
      | i :: R', _, hR =>
        have him : i ∈ (List.range ops.size).filter (fun i => !listed.getD i false) := by rw [← hR]; simp
        simp only [List.mem_filter, List.mem_range, Bool.not_eq_true'] at him
        have hio : ops[i]? = some ops[i] := by simp [him.1]
        have hmin : ∀ j, j < i → listed.getD j false = true := by
          intro j hj
          cases hl : listed.getD j false with
          | true => rfl
          | false =>
            exfalso
            have hjm : j ∈ i :: R' := by rw [hR]; exact List.mem_filter.2 ⟨List.mem_range.2 (by omega), by rw [hl]; rfl⟩
            have hsorted : (i :: R').Pairwise (· < ·) := by rw [hR]; exact List.pairwise_lt_range.filter _
            simp only [List.mem_cons] at hjm
            rcases hjm with rfl | hjm
            · omega
            · have := (List.pairwise_cons.1 hsorted).1 j hjm
              omega
        have : i ∈ Region.ready .any ops listed := (hready listed i hsz).2 ⟨him.1, him.2, _, hio, fun j hj => by
          have hbk := hback i (by simpa using him.1)
          have hio' : ops.toList[i]? = some ops[i] := by simp [him.1]
          rw [hio'] at hbk
          simp only [List.all_eq_true, decide_eq_true_eq] at hbk
          exact hmin j (hbk j hj)⟩
        rw [hnil] at this; cases this
    · obtain ⟨h1, h2, o, ho, hp⟩ := (hready listed i hsz).1 hi
      have ho' : ops.toList[i]? = some o := by simpa using ho
      obtain ⟨y, hy, hky⟩ := hget i o ho'
      have hiR : i ∈ R := by rw [hR]; exact List.mem_filter.2 ⟨List.mem_range.2 h1, by rw [h2]; rfl⟩
      obtain ⟨R1, R2, hRs⟩ := List.append_of_mem hiR
      have hsorted : R.Pairwise (· < ·) := by rw [hR]; exact List.pairwise_lt_range.filter _
      have hR1 : ∀ j, j ∈ R1 → j < i ∧ listed.getD j false = false ∧ j < ops.size := by
        intro j hj
        rw [hRs] at hsorted
        have h5 := (List.pairwise_append.1 hsorted).2.2 j hj i (by simp)
        have h6 : j ∈ R := by rw [hRs]; simp [hj]
        rw [hR] at h6
        simp only [List.mem_filter, List.mem_range, Bool.not_eq_true'] at h6
        exact ⟨h5, h6.2, h6.1⟩
      have hb2 : BOs Γ (R1.filterMap (bs[·]?) ++ y :: R2.filterMap (bs[·]?)) s sf := by
        unfold BOsI at hb
        rw [hRs, List.filterMap_append, List.filterMap_cons, hy] at hb
        exact hb
      have hreal : Real fm nt s := ⟨Z, β, w0, w, a, hs, hn, h⟩
      obtain ⟨s1, hb3, hb4⟩ := BOs_front (P := P) (ops := ops) hΓ (R1.filterMap (bs[·]?)) (R2.filterMap (bs[·]?)) s sf (fun x hx => by
        obtain ⟨j, hj, hxj⟩ := List.mem_filterMap.1 hx
        obtain ⟨g1, g2, g3⟩ := hR1 j hj
        have hoj : ops[j]? = some ops[j] := by simp [g3]
        have hoj' : ops.toList[j]? = some ops[j] := by simp [g3]
        obtain ⟨x', hx', hkx⟩ := hget j _ hoj'
        rw [hx'] at hxj; cases hxj
        refine ⟨?_, j, _, hoj, hkx⟩
        have hpr := hpair i (by simpa using h1) j g1
        simp only [chkPair, ho', hy, hx', Bool.or_eq_true] at hpr
        rcases hpr with hpr | hpr
        · exact hpr
        · exfalso
          have := isPred_listed hc 8 j o hpr hp
          rw [g2] at this; cases this) hreal hb2
      refine BO_sound hΓ ho hky hn hs h hb3 fun Z' β' a' w' k1 k2 k3 k4 k5 k6 => ?_
      have hnot : i ∉ R1 ∧ i ∉ R2 := by
        rw [hRs] at hsorted
        have h5 := List.pairwise_append.1 hsorted
        refine ⟨fun hm => ?_, fun hm => ?_⟩
        · have := h5.2.2 i hm i (by simp); omega
        · have := (List.pairwise_cons.1 h5.2.1).1 i hm; omega
      have hg : ∀ j : Nat, (listed.setIfInBounds i true).getD j false = if j = i then true else listed.getD j false := by
        intro j
        rw [Array.getD_eq_getD_getElem?, Array.getElem?_setIfInBounds]
        by_cases hji : j = i
        · subst hji
          have : j < listed.size := by omega
          simp [this]
        · rw [if_neg (Ne.symm hji), if_neg hji, Array.getD_eq_getD_getElem?]
      refine ih (listed.setIfInBounds i true) (R1 ++ R2) Z' β' a' w' s1 (by simpa using hsz) ?_ ?_ ?_ k4 k3 k6 ?_ fun Z2 β2 a2 w2 q1 q2 q3 q4 q5 q6 => hQ Z2 β2 a2 w2 (k1.trans q1) (k2.trans q2) q3 q4 (q5.trans k5) q6
      · have e1 : (List.range ops.size).filter (fun j => !(listed.setIfInBounds i true).getD j false) = ((List.range ops.size).filter (fun j => !listed.getD j false)).filter (fun j => !(j == i)) := by
          rw [List.filter_filter]
          refine List.filter_congr fun j _ => ?_
          rw [hg]
          by_cases hji : j = i
          · simp [hji]
          · simp [hji]
        rw [e1, ← hR, hRs, List.filter_append, List.filter_cons]
        simp only [beq_self_eq_true, Bool.not_true, Bool.false_eq_true, if_false]
        congr 1
        · exact (List.filter_eq_self.2 fun j hj => by simp; rintro rfl; exact hnot.1 hj).symm
        · exact (List.filter_eq_self.2 fun j hj => by simp; rintro rfl; exact hnot.2 hj).symm
      · rw [hRs] at hfl; simp at hfl ⊢; omega
      · intro k q hq hlk j hj
        rw [hg] at hlk ⊢
        by_cases hki : k = i
        · subst hki
          rw [ho] at hq; cases hq
          rw [hp j hj]; simp
        · rw [if_neg hki] at hlk
          rw [hc k q hq hlk j hj]; simp
      · unfold BOsI; rw [List.filterMap_append]; exact hb4

theorem filterMap_range (bs : List AO) : (List.range bs.length).filterMap (bs[·]?) = bs := by
  apply List.ext_getElem?
  intro i
  have : ∀ (n : Nat), n ≤ bs.length → (List.range n).filterMap (bs[·]?) = bs.take n := by
    intro n
    induction n with
    | zero => simp
    | succ n ih =>
      intro hn
      rw [List.range_succ, List.filterMap_append, ih (by omega), List.take_add_one]
      simp [List.getElem?_eq_getElem (show n < bs.length by omega)]
  rw [this _ (Nat.le_refl _), List.take_length]

theorem region_draw_sound {Γ : Calls0} (hΓ : SoundF P fm Γ) (hm : P.follows .mixedOrders = true) {id : Nat} {ops : Array Oper} {bs : List AO} {nt : Nat} (hk : chkOps P fm nt ops ops.toList bs = true) (hd : chkDraw ops.toList bs = true)
    {Q : Exit → Act → World → Prop} {s sf : St} (hn : a.tmps.size = nt) (hs : SlR fm Z β a s) (h : WR fm Z β s.objs w0 w) (hb : BOs Γ bs s sf)
    (hQ : ∀ Z' β' a' w', ZExt w0.heap.size Z Z' → BExt β β' → SlR fm Z' β' a' sf → a'.tmps.size = nt → a'.defers = a.defers → WR fm Z' β' sf.objs w0 w' → Q .normal a' w') :
    (Code.region id ops true).wp P Q a w := by
  refine wp_region_any hm ?_
  have hlen := (chkOps_get hk).1
  have hR : List.range ops.size = (List.range ops.size).filter (fun i => !(Array.replicate ops.size false).getD i false) := by
    refine (List.filter_eq_self.2 fun i hi => ?_).symm
    rw [Array.getD_eq_getD_getElem?, Array.getElem?_replicate]
    split <;> rfl
  refine draw_sound hΓ hk hd ops.size _ (List.range ops.size) Z β a _ s (by simp) hR (by simp) (fun i o _ hl => ?_) hn hs (h.heapEq rfl rfl rfl rfl) ?_ hQ
  · exfalso
    rw [Array.getD_eq_getD_getElem?, Array.getElem?_replicate] at hl
    split at hl <;> simp at hl
  · unfold BOsI
    have : ops.size = bs.length := by simpa using hlen
    rw [this, filterMap_range]; exact hb
end Go.Av
