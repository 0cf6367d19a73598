/- The abstract machine of the Av files: rules by which a run is walked, operation by operation. No condition. -/
import Derived.Test.YthdilnjdkniofaaGreatAvWp
import Derived.Test.YthdilnjdkniofaaGreatAvFast
namespace Go.Av
open Go

theorem nlit (n : Nat) : @OfNat.ofNat Int n _ = ((@OfNat.ofNat Nat n _ : Nat) : Int) := rfl
theorem cself (n : Nat) : (n : Int) = (n : Int) := rfl

/-- What waits behind the code that runs. -/
inductive Fr where
  | seq (b : ACode)
  | blk (id : Nat)
  | inv (I : St → Prop)

def cont (Γ : Calls0) : List Fr → (Ex → St → Prop) → Ex → St → Prop
  | [], Q, e, s => Q e s
  | .seq b :: k, Q, .normal, s => Wp Γ b (cont Γ k Q) s
  | .seq _ :: k, Q, .exit i, s => cont Γ k Q (.exit i) s
  | .seq _ :: k, Q, .ret, s => cont Γ k Q .ret s
  | .blk _ :: k, Q, .normal, s => cont Γ k Q .normal s
  | .blk i :: k, Q, .exit j, s => if j = i then cont Γ k Q .normal s else cont Γ k Q (.exit j) s
  | .blk _ :: k, Q, .ret, s => cont Γ k Q .ret s
  | .inv I :: _, _, .normal, s => I s
  | .inv _ :: k, Q, .exit i, s => cont Γ k Q (.exit i) s
  | .inv _ :: k, Q, .ret, s => cont Γ k Q .ret s

/-- The same, closed: nothing lays them open by itself. -/
structure CC (Γ : Calls0) (F : List Fr) (Q : Ex → St → Prop) (e : Ex) (s : St) : Prop where
  h : cont Γ F Q e s
structure WC (Γ : Calls0) (c : ACode) (F : List Fr) (Q : Ex → St → Prop) (s : St) : Prop where
  h : Wp Γ c (cont Γ F Q) s
structure WO (Γ : Calls0) (l : List AO) (F : List Fr) (Q : Ex → St → Prop) (s : St) : Prop where
  h : WpO Γ l (cont Γ F Q .normal) s

section
variable {Γ : Calls0} {F : List Fr} {Q : Ex → St → Prop} {s : St}

theorem w_seq {a b : ACode} (h : WC Γ a (.seq b :: F) Q s) : WC Γ (.seq a b) F Q s := by
  refine ⟨Wp.seq (h.h.mono fun e s' h => ?_)⟩
  cases e with
  | normal => exact h
  | exit i => exact h
  | ret => exact h
theorem w_block {id : Nat} {c : ACode} (h : WC Γ c (.blk id :: F) Q s) : WC Γ (.block id c) F Q s := by
  refine ⟨Wp.block (h.h.mono fun e s' h => ?_)⟩
  cases e with
  | normal => exact h
  | exit i => exact h
  | ret => exact h
theorem w_condT {c : Opd} {a b : ACode} (hc : s.ev c = vb true) (h : WC Γ a F Q s) : WC Γ (.cond c a b) F Q s := ⟨Wp.cond hc h.h⟩
theorem w_condF {c : Opd} {a b : ACode} (hc : s.ev c = vb false) (h : WC Γ b F Q s) : WC Γ (.cond c a b) F Q s := ⟨Wp.cond hc h.h⟩
theorem w_cond {c : Opd} {a b : ACode} {t : Bool} (hc : s.ev c = vb t) (hT : t = true → WC Γ a F Q s) (hF : t = false → WC Γ b F Q s) : WC Γ (.cond c a b) F Q s := by
  cases t with
  | true => exact ⟨Wp.cond hc (hT rfl).h⟩
  | false => exact ⟨Wp.cond hc (hF rfl).h⟩
theorem w_region {l : List AO} {d : Bool} (h : WO Γ l F Q s) : WC Γ (.region l d) F Q s := ⟨Wp.region h.h⟩
theorem w_skip (h : CC Γ F Q .normal s) : WC Γ .skip F Q s := ⟨Wp.skip h.h⟩
theorem w_ret (h : CC Γ F Q .ret s) : WC Γ .ret F Q s := ⟨Wp.ret h.h⟩
theorem w_exit {i : Nat} (h : CC Γ F Q (.exit i) s) : WC Γ (.exit i) F Q s := ⟨Wp.exit h.h⟩
theorem w_loop {c : ACode} (I : Nat → St → Prop) (n : Nat) (h0 : I n s) (h : ∀ k sl o b, I k ⟨sl, o, b⟩ → WC Γ c (.inv (fun s' => ∃ j, j < k ∧ I j s') :: F) Q ⟨sl, o, b⟩) : WC Γ (.loop c) F Q s := by
  refine ⟨Wp.loop I n h0 fun k s hI => (h k s.slots s.objs s.base hI).h.mono fun e s' h => ?_⟩
  cases e with
  | normal => exact h
  | exit i => exact h
  | ret => exact h
theorem c_seqN {b : ACode} (h : WC Γ b F Q s) : CC Γ (.seq b :: F) Q .normal s := ⟨h.h⟩
theorem c_seqE {b : ACode} {i : Nat} (h : CC Γ F Q (.exit i) s) : CC Γ (.seq b :: F) Q (.exit i) s := ⟨h.h⟩
theorem c_seqR {b : ACode} (h : CC Γ F Q .ret s) : CC Γ (.seq b :: F) Q .ret s := ⟨h.h⟩
theorem c_blkN {i : Nat} (h : CC Γ F Q .normal s) : CC Γ (.blk i :: F) Q .normal s := ⟨h.h⟩
theorem c_blkS {i : Nat} (h : CC Γ F Q .normal s) : CC Γ (.blk i :: F) Q (.exit i) s := ⟨by simp only [cont, if_true]; exact h.h⟩
theorem c_blkE {i j : Nat} (hne : Nat.beq j i = false) (h : CC Γ F Q (.exit j) s) : CC Γ (.blk i :: F) Q (.exit j) s := by
  have : j ≠ i := fun e => by subst e; simp at hne
  exact ⟨by simp only [cont, if_neg this]; exact h.h⟩
theorem c_blkR {i : Nat} (h : CC Γ F Q .ret s) : CC Γ (.blk i :: F) Q .ret s := ⟨h.h⟩
theorem c_invN {I : St → Prop} (h : I s) : CC Γ (.inv I :: F) Q .normal s := ⟨h⟩
theorem c_invE {I : St → Prop} {i : Nat} (h : CC Γ F Q (.exit i) s) : CC Γ (.inv I :: F) Q (.exit i) s := ⟨h.h⟩
theorem c_invR {I : St → Prop} (h : CC Γ F Q .ret s) : CC Γ (.inv I :: F) Q .ret s := ⟨h.h⟩
theorem c_nil {e : Ex} (h : Q e s) : CC Γ [] Q e s := ⟨h⟩
end

/-- A slot that holds a natural number. -/
abbrev vn (k : IntKind) (n : Nat) : AV := .s (.c (.p (.int k (n : Int))))

section
variable {Γ : Calls0} {l : List AO} {F : List Fr} {Q : Ex → St → Prop} {sl : Nat → AV} {o : Objs} {b : Nat} {d : Nat}

theorem r_nil {s : St} (h : CC Γ F Q .normal s) : WO Γ [] F Q s := ⟨h.h⟩
theorem r_gT {op : AOp} {D : Option Nat} {t : Nat} {w : Bool} (hg : sl t = vb w) (h : WO Γ (⟨D, op, none⟩ :: l) F Q ⟨sl, o, b⟩) : WO Γ (⟨D, op, some (t, w)⟩ :: l) F Q ⟨sl, o, b⟩ := by
  have h := h.h
  constructor
  unfold WpO at h ⊢
  simp only [guardV, hg, beq_self_eq_true] at h ⊢
  exact h
theorem r_gF {op : AOp} {t : Nat} {w : Bool} (hg : sl t = vb (!w)) (h : WO Γ l F Q ⟨upd sl d (.tup []), o, b⟩) : WO Γ (⟨some d, op, some (t, w)⟩ :: l) F Q ⟨sl, o, b⟩ := by
  have h := h.h
  constructor
  cases w <;> (unfold WpO; simp only [guardV, hg, St.put]; exact h)
theorem r_gF0 {op : AOp} {t : Nat} {w : Bool} (hg : sl t = vb (!w)) (h : WO Γ l F Q ⟨sl, o, b⟩) : WO Γ (⟨none, op, some (t, w)⟩ :: l) F Q ⟨sl, o, b⟩ := by
  have h := h.h
  constructor
  cases w <;> (unfold WpO; simp only [guardV, hg, St.put]; exact h)
theorem r_gN {op : AOp} {t : Nat} {w : Bool} (hg : sl t = .tup []) (h : WO Γ l F Q ⟨upd sl d (.tup []), o, b⟩) : WO Γ (⟨some d, op, some (t, w)⟩ :: l) F Q ⟨sl, o, b⟩ := by
  have h := h.h
  constructor
  unfold WpO; simp only [guardV, hg, St.put]; exact h
theorem r_gN0 {op : AOp} {t : Nat} {w : Bool} (hg : sl t = .tup []) (h : WO Γ l F Q ⟨sl, o, b⟩) : WO Γ (⟨none, op, some (t, w)⟩ :: l) F Q ⟨sl, o, b⟩ := by
  have h := h.h
  constructor
  unfold WpO; simp only [guardV, hg, St.put]; exact h

/-- An operation that calls nothing, by its value. -/
theorem r_op {op : AOp} {o' : Objs} {v : AV} (hn : (match op with | .call .. | .callP .. | .callR .. | .callV .. => false | _ => true) = true)
    (ho : aop op ⟨sl, o, b⟩ = some (o', v)) (h : WO Γ l F Q ⟨upd sl d v, o', b⟩) : WO Γ (⟨some d, op, none⟩ :: l) F Q ⟨sl, o, b⟩ := by
  have h := h.h
  constructor
  unfold WpO
  cases op <;> first
    | (simp only [guardV, ho, thenO, St.put]; exact h)
    | (simp at hn)
theorem r_op0 {op : AOp} {o' : Objs} {v : AV} (hn : (match op with | .call .. | .callP .. | .callR .. | .callV .. => false | _ => true) = true)
    (ho : aop op ⟨sl, o, b⟩ = some (o', v)) (h : WO Γ l F Q ⟨sl, o', b⟩) : WO Γ (⟨none, op, none⟩ :: l) F Q ⟨sl, o, b⟩ := by
  have h := h.h
  constructor
  unfold WpO
  cases op <;> first
    | (simp only [guardV, ho, thenO, St.put]; exact h)
    | (simp at hn)

variable {x y z : Opd}
theorem r_mv {v : SV} (hv : St.ev ⟨sl, o, b⟩ x = .s v) (h : WO Γ l F Q ⟨upd sl d (.s v), o, b⟩) : WO Γ (⟨some d, .mv x, none⟩ :: l) F Q ⟨sl, o, b⟩ :=
  r_op (o' := o) (v := .s v) rfl (by simp only [aop, hv, Option.map_some]) h
theorem r_mvT {L : List SV} (hv : St.ev ⟨sl, o, b⟩ x = .tup L) (h : WO Γ l F Q ⟨upd sl d (.tup L), o, b⟩) : WO Γ (⟨some d, .mv x, none⟩ :: l) F Q ⟨sl, o, b⟩ :=
  r_op (o' := o) (v := .tup L) rfl (by simp only [aop, hv, Option.map_some]) h
theorem r_mvV {v : AV} (hv : St.ev ⟨sl, o, b⟩ x = v) (h : WO Γ l F Q ⟨upd sl d v, o, b⟩) : WO Γ (⟨some d, .mv x, none⟩ :: l) F Q ⟨sl, o, b⟩ :=
  r_op (o' := o) (v := v) rfl (by simp only [aop, hv, Option.map_some]) h
theorem r_pickT {v : SV} (hc : St.ev ⟨sl, o, b⟩ x = vb true) (hv : St.ev ⟨sl, o, b⟩ y = .s v) (h : WO Γ l F Q ⟨upd sl d (.s v), o, b⟩) : WO Γ (⟨some d, .pick x y z, none⟩ :: l) F Q ⟨sl, o, b⟩ :=
  r_op (o' := o) (v := .s v) rfl (by simp only [aop, hc, hv, Option.map_some, if_true]) h
theorem r_pickF {v : SV} (hc : St.ev ⟨sl, o, b⟩ x = vb false) (hv : St.ev ⟨sl, o, b⟩ z = .s v) (h : WO Γ l F Q ⟨upd sl d (.s v), o, b⟩) : WO Γ (⟨some d, .pick x y z, none⟩ :: l) F Q ⟨sl, o, b⟩ :=
  r_op (o' := o) (v := .s v) rfl (by simp only [aop, hc, hv, Option.map_some, Bool.false_eq_true, if_false]) h
theorem r_not {t : Bool} (hv : St.ev ⟨sl, o, b⟩ x = vb t) (h : WO Γ l F Q ⟨upd sl d (vb !t), o, b⟩) : WO Γ (⟨some d, .un .not x, none⟩ :: l) F Q ⟨sl, o, b⟩ :=
  r_op (o' := o) (v := vb !t) rfl (by simp only [aop, hv, aun, Option.map_some]) h

theorem r_minI {k : IntKind} {a c : Int} (hx : St.ev ⟨sl, o, b⟩ x = .s (.c (.p (.int k a)))) (hy : St.ev ⟨sl, o, b⟩ y = .s (.c (.p (.int k c)))) (h : WO Γ l F Q ⟨upd sl d (vi k (if c < a then c else a)), o, b⟩) :
    WO Γ (⟨some d, .minI x y, none⟩ :: l) F Q ⟨sl, o, b⟩ :=
  r_op (o' := o) (v := vi k (if c < a then c else a)) rfl (by simp only [aop, hx, hy, if_true, Option.map_some]) h
theorem r_minIL {k : IntKind} {a c : Int} (hx : St.ev ⟨sl, o, b⟩ x = .s (.c (.p (.int k a)))) (hy : St.ev ⟨sl, o, b⟩ y = .s (.c (.p (.int k c)))) (hl : a ≤ c) (h : WO Γ l F Q ⟨upd sl d (vi k a), o, b⟩) :
    WO Γ (⟨some d, .minI x y, none⟩ :: l) F Q ⟨sl, o, b⟩ := r_minI hx hy (by rw [if_neg (by omega)]; exact h)
theorem r_minIG {k : IntKind} {a c : Int} (hx : St.ev ⟨sl, o, b⟩ x = .s (.c (.p (.int k a)))) (hy : St.ev ⟨sl, o, b⟩ y = .s (.c (.p (.int k c)))) (hl : c ≤ a) (h : WO Γ l F Q ⟨upd sl d (vi k c), o, b⟩) :
    WO Γ (⟨some d, .minI x y, none⟩ :: l) F Q ⟨sl, o, b⟩ := r_minI hx hy (by rw [show (if c < a then c else a) = c by omega]; exact h)
theorem r_maxI {k : IntKind} {a c : Int} (hx : St.ev ⟨sl, o, b⟩ x = .s (.c (.p (.int k a)))) (hy : St.ev ⟨sl, o, b⟩ y = .s (.c (.p (.int k c)))) (h : WO Γ l F Q ⟨upd sl d (vi k (if a < c then c else a)), o, b⟩) :
    WO Γ (⟨some d, .maxI x y, none⟩ :: l) F Q ⟨sl, o, b⟩ :=
  r_op (o' := o) (v := vi k (if a < c then c else a)) rfl (by simp only [aop, hx, hy, if_true, Option.map_some]) h
theorem r_maxIL {k : IntKind} {a c : Int} (hx : St.ev ⟨sl, o, b⟩ x = .s (.c (.p (.int k a)))) (hy : St.ev ⟨sl, o, b⟩ y = .s (.c (.p (.int k c)))) (hl : c ≤ a) (h : WO Γ l F Q ⟨upd sl d (vi k a), o, b⟩) :
    WO Γ (⟨some d, .maxI x y, none⟩ :: l) F Q ⟨sl, o, b⟩ := r_maxI hx hy (by rw [if_neg (by omega)]; exact h)
theorem r_maxIG {k : IntKind} {a c : Int} (hx : St.ev ⟨sl, o, b⟩ x = .s (.c (.p (.int k a)))) (hy : St.ev ⟨sl, o, b⟩ y = .s (.c (.p (.int k c)))) (hl : a ≤ c) (h : WO Γ l F Q ⟨upd sl d (vi k c), o, b⟩) :
    WO Γ (⟨some d, .maxI x y, none⟩ :: l) F Q ⟨sl, o, b⟩ := r_maxI hx hy (by rw [show (if a < c then c else a) = c by omega]; exact h)
theorem r_lenP {xs : List (List PC)} (hv : St.ev ⟨sl, o, b⟩ x = vs xs) (h : WO Γ l F Q ⟨upd sl d (vn .i64 xs.length), o, b⟩) : WO Γ (⟨some d, .len x, none⟩ :: l) F Q ⟨sl, o, b⟩ :=
  r_op (o' := o) (v := vn .i64 xs.length) rfl (by simp only [aop, hv, Option.map_some]) h
theorem r_lenR {oi ver sz st n : Nat} (hv : St.ev ⟨sl, o, b⟩ x = .s (.c (.rs oi ver sz st n))) (h : WO Γ l F Q ⟨upd sl d (vn .i64 n), o, b⟩) : WO Γ (⟨some d, .len x, none⟩ :: l) F Q ⟨sl, o, b⟩ :=
  r_op (o' := o) (v := vn .i64 n) rfl (by simp only [aop, hv, Option.map_some]) h
theorem r_len0 (hv : St.ev ⟨sl, o, b⟩ x = .s (.c .e0)) (h : WO Γ l F Q ⟨upd sl d (vn .i64 0), o, b⟩) : WO Γ (⟨some d, .len x, none⟩ :: l) F Q ⟨sl, o, b⟩ :=
  r_op (o' := o) (v := vn .i64 0) rfl (by simp only [aop, hv, Option.map_some]; rfl) h

/-- A slice of digits, and the like: rows of one number. -/
def encK (k : IntKind) (xs : List Nat) : List (List PC) := xs.map fun (n : Nat) => [PC.int k (n : Int)]
def encO (k : IntKind) (xs : List Nat) : List (List C) := xs.map fun (n : Nat) => [C.p (PC.int k (n : Int))]
theorem encK_len (k : IntKind) (xs : List Nat) : (encK k xs).length = xs.length := by simp [encK]
theorem encO_len (k : IntKind) (xs : List Nat) : (encO k xs).length = xs.length := by simp [encO]
abbrev vk (k : IntKind) (xs : List Nat) : AV := .s (.c (.p (.sl (encK k xs))))
/-- Of an object: it is a list of numbers of one kind. -/
def Objs.is (o : Objs) (id ver : Nat) (k : IntKind) (xs : List Nat) : Prop := o.m id ver = some ⟨1, encO k xs, false⟩

theorem r_lenK {k : IntKind} {xs : List Nat} (hv : St.ev ⟨sl, o, b⟩ x = vk k xs) (h : WO Γ l F Q ⟨upd sl d (vn .i64 xs.length), o, b⟩) : WO Γ (⟨some d, .len x, none⟩ :: l) F Q ⟨sl, o, b⟩ :=
  r_lenP hv (by rw [encK_len]; exact h)

theorem r_lenKL {k : IntKind} {xs : List Nat} {n : Nat} (hv : St.ev ⟨sl, o, b⟩ x = vk k xs) (hl : xs.length = n) (h : WO Γ l F Q ⟨upd sl d (vn .i64 n), o, b⟩) : WO Γ (⟨some d, .len x, none⟩ :: l) F Q ⟨sl, o, b⟩ :=
  r_lenK hv (by rw [hl]; exact h)
theorem len_1 (x : Nat) : [x].length = 1 := rfl
theorem len_2 (x y : Nat) : [x, y].length = 2 := rfl
theorem r_iaK {k k' : IntKind} {xs : List Nat} {a : Int} {n : Nat} (hx : St.ev ⟨sl, o, b⟩ x = vk k xs) (hi : St.ev ⟨sl, o, b⟩ y = .s (.c (.p (.int k' a)))) (ha : a = (n : Int)) (hn : n < xs.length)
    (h : WO Γ l F Q ⟨upd sl d (vp (.pref [.int k (xs.getD n 0 : Nat)])), o, b⟩) : WO Γ (⟨some d, .ia 1 x y, none⟩ :: l) F Q ⟨sl, o, b⟩ := by
  refine r_op (o' := o) (v := vp (.pref [.int k (xs.getD n 0 : Nat)])) rfl ?_ h
  subst ha
  simp only [aop, hx, hi, AV.int?, encK_len, Int.toNat_natCast]
  rw [if_pos (by omega)]
  simp [encK, hn]
theorem r_iaR {oi ver sz st len : Nat} {k' : IntKind} {a : Int} {n : Nat} (hx : St.ev ⟨sl, o, b⟩ x = .s (.c (.rs oi ver sz st len))) (hi : St.ev ⟨sl, o, b⟩ y = .s (.c (.p (.int k' a)))) (ha : a = (n : Int)) (hn : n < len)
    (h : WO Γ l F Q ⟨upd sl d (.s (.c (.ptr oi ver (st + n) 0))), o, b⟩) : WO Γ (⟨some d, .ia sz x y, none⟩ :: l) F Q ⟨sl, o, b⟩ := by
  refine r_op (o' := o) (v := .s (.c (.ptr oi ver (st + n) 0))) rfl ?_ h
  subst ha
  simp only [aop, hx, hi, AV.int?, Int.toNat_natCast]
  rw [if_pos ⟨trivial, by omega, by omega⟩, Option.map_some]
theorem r_iaR0 {oi ver sz len : Nat} {k' : IntKind} {a : Int} {n : Nat} (hx : St.ev ⟨sl, o, b⟩ x = .s (.c (.rs oi ver sz 0 len))) (hi : St.ev ⟨sl, o, b⟩ y = .s (.c (.p (.int k' a)))) (ha : a = (n : Int)) (hn : n < len)
    (h : WO Γ l F Q ⟨upd sl d (.s (.c (.ptr oi ver n 0))), o, b⟩) : WO Γ (⟨some d, .ia sz x y, none⟩ :: l) F Q ⟨sl, o, b⟩ :=
  r_iaR hx hi ha hn (by rw [Nat.zero_add]; exact h)
theorem r_slcR2 {oi ver sz len : Nat} {k' k2 : IntKind} {a c : Int} {m n : Nat} (hx : St.ev ⟨sl, o, b⟩ x = .s (.c (.rs oi ver sz 0 len))) (hi : St.ev ⟨sl, o, b⟩ y = .s (.c (.p (.int k' a)))) (hj : St.ev ⟨sl, o, b⟩ z = .s (.c (.p (.int k2 c)))) (ha : a = (m : Int)) (hc : c = (n : Int)) (hm : m ≤ n) (hn : n ≤ len)
    (h : WO Γ l F Q ⟨upd sl d (.s (.c (.rs oi ver sz m (n - m)))), o, b⟩) : WO Γ (⟨some d, .slice sz x (some y) (some z) none, none⟩ :: l) F Q ⟨sl, o, b⟩ := by
  refine r_op (o' := o) (v := .s (.c (.rs oi ver sz m (n - m)))) rfl ?_ h
  subst ha hc
  simp only [aop, asl, hx, bound, hi, hj, AV.int?]
  rw [if_pos ⟨trivial, by omega, by omega, by omega⟩]
  simp
theorem r_ldP {c : PC} (hx : St.ev ⟨sl, o, b⟩ x = vp (.pref [c])) (h : WO Γ l F Q ⟨upd sl d (vp c), o, b⟩) : WO Γ (⟨some d, .load false 1 x, none⟩ :: l) F Q ⟨sl, o, b⟩ := by
  refine r_op (o' := o) (v := vp c) rfl ?_ h
  simp [aop, hx]
theorem r_ldK {oi ver i : Nat} {k : IntKind} {xs : List Nat} (hx : St.ev ⟨sl, o, b⟩ x = .s (.c (.ptr oi ver i 0))) (hm : o.is oi ver k xs) (hi : i < xs.length)
    (h : WO Γ l F Q ⟨upd sl d (vn k (xs.getD i 0)), o, b⟩) : WO Γ (⟨some d, .load false 1 x, none⟩ :: l) F Q ⟨sl, o, b⟩ := by
  refine r_op (o' := o) (v := vn k (xs.getD i 0)) rfl ?_ h
  unfold Objs.is at hm
  have : (encO k xs)[i]? = some [C.p (PC.int k ((xs.getD i 0 : Nat) : Int))] := by simp [encO, hi]
  simp only [aop, hx, hm, this]
  simp
theorem r_stK {oi ver i : Nat} {k : IntKind} {xs : List Nat} {v : Nat} (hx : St.ev ⟨sl, o, b⟩ x = .s (.c (.ptr oi ver i 0))) {a : Int} (hy : St.ev ⟨sl, o, b⟩ y = .s (.c (.p (.int k a)))) (ha : a = (v : Int)) (hm : o.is oi ver k xs) (hi : i < xs.length)
    (h : ∀ o', o'.is oi ver k (xs.set i v) → (∀ o2 v2, ¬ (o2 = oi ∧ v2 = ver) → o'.m o2 v2 = o.m o2 v2) → o'.nv = o.nv → WO Γ l F Q ⟨sl, o', b⟩) : WO Γ (⟨none, .store 1 x y, none⟩ :: l) F Q ⟨sl, o, b⟩ := by
  subst ha
  unfold Objs.is at hm
  refine r_op0 (o' := o.set oi ver (some ⟨1, encO k (xs.set i v), false⟩)) (v := .tup []) rfl ?_ (h _ (by simp [Objs.is, Objs.set]) (fun o2 v2 hne => by simp only [Objs.set, if_neg hne]) rfl)
  have e1 : (encO k xs)[i]? = some [C.p (PC.int k ((xs.getD i 0 : Nat) : Int))] := by simp [encO, hi]
  have e2 : encO k (xs.set i v) = (encO k xs).set i [C.p (PC.int k (v : Int))] := by simp [encO, List.map_set]
  simp only [aop, hx, hy, hm, e1, AV.cells?, SV.cells, e2]
  simp [setAt]
theorem r_mkK {id bytes sz : Nat} {k : IntKind} {a : Int} {n : Nat} (hx : St.ev ⟨sl, o, b⟩ x = .s (.c (.p (.int .i64 a)))) (ha : a = (n : Int)) (hb : bytes * n ≤ 281474976710656) (hn : n ≤ 9223372036854775807) (hs : sz = 1)
    (h : ∀ o', o'.is (b + id) (o.nv (b + id)) k (List.replicate n 0) → (∀ o2 v2, ¬ (o2 = b + id ∧ v2 = o.nv (b + id)) → o'.m o2 v2 = o.m o2 v2) →
      (∀ o2, o'.nv o2 = if o2 = b + id then o.nv (b + id) + 1 else o.nv o2) → WO Γ l F Q ⟨upd sl d (.s (.c (.rs (b + id) (o.nv (b + id)) 1 0 n))), o', b⟩) :
    WO Γ (⟨some d, .mk id sz bytes [.p (.int k 0)] x x, none⟩ :: l) F Q ⟨sl, o, b⟩ := by
  subst ha hs
  refine r_op (o' := o.new (b + id) ⟨1, encO k (List.replicate n 0), false⟩) (v := .s (.c (.rs (b + id) (o.nv (b + id)) 1 0 n))) rfl ?_ (h _ (by simp [Objs.is, Objs.new]) (fun o2 v2 hne => by simp only [Objs.new, if_neg hne]) (fun o2 => rfl))
  simp only [aop, hx, AV.int?]
  rw [if_pos ⟨by omega, by omega, by omega, by omega, rfl⟩]
  simp [newObj, encO]

theorem r_slcK {k : IntKind} {xs : List Nat} {k' : IntKind} {a : Int} {n : Nat} (hx : St.ev ⟨sl, o, b⟩ x = vk k xs) (hi : St.ev ⟨sl, o, b⟩ y = .s (.c (.p (.int k' a)))) (ha : a = (n : Int)) (hn : n ≤ xs.length)
    (h : WO Γ l F Q ⟨upd sl d (vk k (xs.take n)), o, b⟩) : WO Γ (⟨some d, .slice 1 x none (some y) none, none⟩ :: l) F Q ⟨sl, o, b⟩ := by
  refine r_op (o' := o) (v := vk k (xs.take n)) rfl ?_ h
  subst ha
  simp only [aop, asl, hx, bound, hi, AV.int?, encK_len]
  rw [if_pos ⟨by omega, by omega, by omega, by simp [encK]⟩]
  simp [encK, List.map_take]
theorem r_slcK2 {k : IntKind} {xs : List Nat} {k' k2 : IntKind} {a c : Int} {m n : Nat} (hx : St.ev ⟨sl, o, b⟩ x = vk k xs) (hi : St.ev ⟨sl, o, b⟩ y = .s (.c (.p (.int k' a)))) (hj : St.ev ⟨sl, o, b⟩ z = .s (.c (.p (.int k2 c)))) (ha : a = (m : Int)) (hc : c = (n : Int)) (hm : m ≤ n) (hn : n ≤ xs.length)
    (h : WO Γ l F Q ⟨upd sl d (vk k ((xs.take n).drop m)), o, b⟩) : WO Γ (⟨some d, .slice 1 x (some y) (some z) none, none⟩ :: l) F Q ⟨sl, o, b⟩ := by
  refine r_op (o' := o) (v := vk k ((xs.take n).drop m)) rfl ?_ h
  subst ha hc
  simp only [aop, asl, hx, bound, hi, hj, AV.int?, encK_len]
  rw [if_pos ⟨by omega, by omega, by omega, by simp [encK]⟩]
  simp [encK, List.map_take, List.map_drop]
theorem r_slcR {oi ver sz st len : Nat} {k' : IntKind} {a : Int} {n : Nat} (hx : St.ev ⟨sl, o, b⟩ x = .s (.c (.rs oi ver sz st len))) (hi : St.ev ⟨sl, o, b⟩ y = .s (.c (.p (.int k' a)))) (ha : a = (n : Int)) (hn : n ≤ len)
    (h : WO Γ l F Q ⟨upd sl d (.s (.c (.rs oi ver sz st n))), o, b⟩) : WO Γ (⟨some d, .slice sz x none (some y) none, none⟩ :: l) F Q ⟨sl, o, b⟩ := by
  refine r_op (o' := o) (v := .s (.c (.rs oi ver sz st n))) rfl ?_ h
  subst ha
  simp only [aop, asl, hx, bound, hi, AV.int?]
  rw [if_pos ⟨trivial, by omega, by omega, by omega⟩]
  simp
end
end Go.Av
namespace Go.Av
/-- A pure call, walked. -/
theorem PCall.walk {env : Nat → Option AFun} {ext : Calls0} {g : Nat} {args : List PSV} {n nt : Nat} {rs : List ARes} {c : ACode} {res : PAV} (hf : env g = some { nargs := n, ntmps := nt, results := rs, body := c }) (hl : args.length = n)
    (h : WC (Call env ext) c [] (Ends rs res) ⟨initSlots (args.map PSV.up), Objs.empty, 0⟩) : PCall env ext g args res :=
  PCall.of_wp hf hl h.h
theorem w_loopS {Γ : Calls0} {F : List Fr} {Q : Ex → St → Prop} {sl0 : Nat → AV} {o0 : Objs} {b0 : Nat} {c : ACode} (I : Nat → (Nat → AV) → Objs → Prop) (n : Nat) (h0 : I n sl0 o0)
    (h : ∀ k sl o, I k sl o → WC Γ c (.inv (fun s' => ∃ j, j < k ∧ I j s'.slots s'.objs ∧ s'.base = b0) :: F) Q ⟨sl, o, b0⟩) : WC Γ (.loop c) F Q ⟨sl0, o0, b0⟩ := by
  refine w_loop (fun k s => I k s.slots s.objs ∧ s.base = b0) n ⟨h0, rfl⟩ ?_
  rintro k sl o b ⟨hI, rfl⟩
  exact h k sl o hI
theorem upd1 {sl : Nat → AV} {a : Nat} {v : AV} (h : sl a = v) : sl = upd sl a v := by
  funext j; by_cases hj : j = a
  · subst hj; simp [h]
  · rw [upd_ne _ _ _ _ hj]
end Go.Av
namespace Go.Av
section
variable {Γ : Calls0} {l : List AO} {F : List Fr} {Q : Ex → St → Prop} {s : St} {D : Option Nat} {G : Option (Nat × Bool)} {x y : Opd} {c : ACode} {e : Ex} {L : List AO}
theorem g_WO (h : WO Γ L F Q s) : WO Γ L F Q s := h
theorem g_WC (h : WC Γ c F Q s) : WC Γ c F Q s := h
theorem g_CC (h : CC Γ F Q e s) : CC Γ F Q e s := h
theorem g_N {op : AOp} (h : WO Γ (⟨D, op, none⟩ :: l) F Q s) : WO Γ (⟨D, op, none⟩ :: l) F Q s := h
theorem g_bin {op : BinOp} (h : WO Γ (⟨D, .bin op x y, G⟩ :: l) F Q s) : WO Γ (⟨D, .bin op x y, G⟩ :: l) F Q s := h
theorem g_len (h : WO Γ (⟨D, .len x, G⟩ :: l) F Q s) : WO Γ (⟨D, .len x, G⟩ :: l) F Q s := h
theorem g_conv {k : IntKind} (h : WO Γ (⟨D, .conv k x, G⟩ :: l) F Q s) : WO Γ (⟨D, .conv k x, G⟩ :: l) F Q s := h
theorem g_ia {sz : Nat} (h : WO Γ (⟨D, .ia sz x y, G⟩ :: l) F Q s) : WO Γ (⟨D, .ia sz x y, G⟩ :: l) F Q s := h
theorem g_convU (h : WO Γ (⟨D, .conv .u64 x, G⟩ :: l) F Q s) : WO Γ (⟨D, .conv .u64 x, G⟩ :: l) F Q s := h
theorem g_convW (h : WO Γ (⟨D, .conv .u32 x, G⟩ :: l) F Q s) : WO Γ (⟨D, .conv .u32 x, G⟩ :: l) F Q s := h
theorem g_convI (h : WO Γ (⟨D, .conv .i64 x, G⟩ :: l) F Q s) : WO Γ (⟨D, .conv .i64 x, G⟩ :: l) F Q s := h
theorem g_convB (h : WO Γ (⟨D, .conv .u8 x, G⟩ :: l) F Q s) : WO Γ (⟨D, .conv .u8 x, G⟩ :: l) F Q s := h
theorem g_load {t : Bool} {sz : Nat} (h : WO Γ (⟨D, .load t sz x, G⟩ :: l) F Q s) : WO Γ (⟨D, .load t sz x, G⟩ :: l) F Q s := h
theorem g_pick {z : Opd} (h : WO Γ (⟨D, .pick x y z, G⟩ :: l) F Q s) : WO Γ (⟨D, .pick x y z, G⟩ :: l) F Q s := h
theorem g_store {sz : Nat} (h : WO Γ (⟨D, .store sz x y, G⟩ :: l) F Q s) : WO Γ (⟨D, .store sz x y, G⟩ :: l) F Q s := h
theorem g_slice {sz : Nat} {lo hi mx : Option Opd} (h : WO Γ (⟨D, .slice sz x lo hi mx, G⟩ :: l) F Q s) : WO Γ (⟨D, .slice sz x lo hi mx, G⟩ :: l) F Q s := h
theorem g_mk {id sz bytes : Nat} {zero : List C} (h : WO Γ (⟨D, .mk id sz bytes zero x y, G⟩ :: l) F Q s) : WO Γ (⟨D, .mk id sz bytes zero x y, G⟩ :: l) F Q s := h
theorem g_un {op : UnOp} (h : WO Γ (⟨D, .un op x, G⟩ :: l) F Q s) : WO Γ (⟨D, .un op x, G⟩ :: l) F Q s := h
theorem g_ext {i : Nat} (h : WO Γ (⟨D, .ext i x, G⟩ :: l) F Q s) : WO Γ (⟨D, .ext i x, G⟩ :: l) F Q s := h
theorem g_slP {n sz : Nat} {zero : List C} {ps : List (Nat × Nat × Opd)} (h : WO Γ (⟨D, .slP n sz zero ps, G⟩ :: l) F Q s) : WO Γ (⟨D, .slP n sz zero ps, G⟩ :: l) F Q s := h
theorem g_slO {id n sz : Nat} {zero : List C} {ps : List (Nat × Nat × Opd)} (h : WO Γ (⟨D, .slO id n sz zero ps, G⟩ :: l) F Q s) : WO Γ (⟨D, .slO id n sz zero ps, G⟩ :: l) F Q s := h
theorem g_app {id sz bytes : Nat} (h : WO Γ (⟨D, .app id sz bytes x y, G⟩ :: l) F Q s) : WO Γ (⟨D, .app id sz bytes x y, G⟩ :: l) F Q s := h
theorem g_minI (h : WO Γ (⟨D, .minI x y, G⟩ :: l) F Q s) : WO Γ (⟨D, .minI x y, G⟩ :: l) F Q s := h
theorem g_maxI (h : WO Γ (⟨D, .maxI x y, G⟩ :: l) F Q s) : WO Γ (⟨D, .maxI x y, G⟩ :: l) F Q s := h
theorem g_fa {off sz : Nat} (h : WO Γ (⟨D, .fa off sz x, G⟩ :: l) F Q s) : WO Γ (⟨D, .fa off sz x, G⟩ :: l) F Q s := h
theorem g_fld {t : Bool} {off sz : Nat} (h : WO Γ (⟨D, .fld t off sz x, G⟩ :: l) F Q s) : WO Γ (⟨D, .fld t off sz x, G⟩ :: l) F Q s := h
theorem g_build {zero : List C} {ps : List (Nat × Nat × Opd)} (h : WO Γ (⟨D, .build zero ps, G⟩ :: l) F Q s) : WO Γ (⟨D, .build zero ps, G⟩ :: l) F Q s := h
theorem g_alloc {id : Nat} {zero : List C} (h : WO Γ (⟨D, .alloc id zero, G⟩ :: l) F Q s) : WO Γ (⟨D, .alloc id zero, G⟩ :: l) F Q s := h
theorem g_box (h : WO Γ (⟨D, .boxP x, G⟩ :: l) F Q s) : WO Γ (⟨D, .boxP x, G⟩ :: l) F Q s := h
theorem g_binB {op : BinOp} (h : WO Γ (⟨D, .binB op x y, G⟩ :: l) F Q s) : WO Γ (⟨D, .binB op x y, G⟩ :: l) F Q s := h
theorem g_guard {op : AOp} {q : Nat × Bool} (h : WO Γ (⟨D, op, some q⟩ :: l) F Q s) : WO Γ (⟨D, op, some q⟩ :: l) F Q s := h
theorem g_mv (h : WO Γ (⟨D, .mv x, G⟩ :: l) F Q s) : WO Γ (⟨D, .mv x, G⟩ :: l) F Q s := h
theorem g_lss (h : WO Γ (⟨D, .bin .lss x y, G⟩ :: l) F Q s) : WO Γ (⟨D, .bin .lss x y, G⟩ :: l) F Q s := h
theorem g_leq (h : WO Γ (⟨D, .bin .leq x y, G⟩ :: l) F Q s) : WO Γ (⟨D, .bin .leq x y, G⟩ :: l) F Q s := h
theorem g_gtr (h : WO Γ (⟨D, .bin .gtr x y, G⟩ :: l) F Q s) : WO Γ (⟨D, .bin .gtr x y, G⟩ :: l) F Q s := h
theorem g_geq (h : WO Γ (⟨D, .bin .geq x y, G⟩ :: l) F Q s) : WO Γ (⟨D, .bin .geq x y, G⟩ :: l) F Q s := h
theorem g_eql (h : WO Γ (⟨D, .bin .eql x y, G⟩ :: l) F Q s) : WO Γ (⟨D, .bin .eql x y, G⟩ :: l) F Q s := h
theorem g_neq (h : WO Γ (⟨D, .bin .neq x y, G⟩ :: l) F Q s) : WO Γ (⟨D, .bin .neq x y, G⟩ :: l) F Q s := h
theorem g_shl (h : WO Γ (⟨D, .bin .shl x y, G⟩ :: l) F Q s) : WO Γ (⟨D, .bin .shl x y, G⟩ :: l) F Q s := h
theorem g_shr (h : WO Γ (⟨D, .bin .shr x y, G⟩ :: l) F Q s) : WO Γ (⟨D, .bin .shr x y, G⟩ :: l) F Q s := h
end
end Go.Av
namespace Go.Av
/-- A loop that counts up. -/
theorem w_loopUp {Γ : Calls0} {F : List Fr} {Q : Ex → St → Prop} {sl0 : Nat → AV} {o0 : Objs} {b0 : Nat} {c : ACode} (I : Nat → (Nat → AV) → Objs → Prop) (i0 N : Nat) (h0 : I i0 sl0 o0) (hN : ∀ i sl o, I i sl o → i ≤ N)
    (h : ∀ i sl o, I i sl o → WC Γ c (.inv (fun s' => I (i + 1) s'.slots s'.objs ∧ s'.base = b0) :: F) Q ⟨sl, o, b0⟩) : WC Γ (.loop c) F Q ⟨sl0, o0, b0⟩ := by
  refine w_loopS (fun n sl o => ∃ i, n + i = N ∧ I i sl o) (N - i0) ⟨i0, by have := hN _ _ _ h0; omega, h0⟩ ?_
  rintro n sl o ⟨i, hi, hI⟩
  refine ⟨(h i sl o hI).h.mono fun e s' hs => ?_⟩
  cases e with
  | normal => exact ⟨N - (i + 1), by have := hN _ _ _ hs.1; omega, ⟨i + 1, by have := hN _ _ _ hs.1; omega, hs.1⟩, hs.2⟩
  | exit => exact hs
  | ret => exact hs
theorem upd2 {sl : Nat → AV} {a b : Nat} {v w : AV} (h : sl a = v) (h2 : sl b = w) : sl = upd (upd sl a v) b w := by
  rw [← upd1 h]; exact upd1 h2
theorem upd3 {sl : Nat → AV} {a b c : Nat} {v w x : AV} (h : sl a = v) (h2 : sl b = w) (h3 : sl c = x) : sl = upd (upd (upd sl a v) b w) c x := by
  rw [← upd2 h h2]; exact upd1 h3
theorem upd4 {sl : Nat → AV} {a b c d : Nat} {v w x y : AV} (h : sl a = v) (h2 : sl b = w) (h3 : sl c = x) (h4 : sl d = y) : sl = upd (upd (upd (upd sl a v) b w) c x) d y := by
  rw [← upd3 h h2 h3]; exact upd1 h4
theorem upd5 {sl : Nat → AV} {a b c d e : Nat} {v w x y z : AV} (h : sl a = v) (h2 : sl b = w) (h3 : sl c = x) (h4 : sl d = y) (h5 : sl e = z) : sl = upd (upd (upd (upd (upd sl a v) b w) c x) d y) e z := by
  rw [← upd4 h h2 h3 h4]; exact upd1 h5
theorem upd6 {sl : Nat → AV} {a b c d e f : Nat} {v w x y z m : AV} (h : sl a = v) (h2 : sl b = w) (h3 : sl c = x) (h4 : sl d = y) (h5 : sl e = z) (h6 : sl f = m) : sl = upd (upd (upd (upd (upd (upd sl a v) b w) c x) d y) e z) f m := by
  rw [← upd5 h h2 h3 h4 h5]; exact upd1 h6
theorem upd7 {sl : Nat → AV} {a b c d e f g : Nat} {v w x y z m t : AV} (h : sl a = v) (h2 : sl b = w) (h3 : sl c = x) (h4 : sl d = y) (h5 : sl e = z) (h6 : sl f = m) (h7 : sl g = t) :
    sl = upd (upd (upd (upd (upd (upd (upd sl a v) b w) c x) d y) e z) f m) g t := by
  rw [← upd6 h h2 h3 h4 h5 h6]; exact upd1 h7
theorem upd8 {sl : Nat → AV} {a b c d e f g i : Nat} {v w x y z m t r : AV} (h : sl a = v) (h2 : sl b = w) (h3 : sl c = x) (h4 : sl d = y) (h5 : sl e = z) (h6 : sl f = m) (h7 : sl g = t) (h8 : sl i = r) :
    sl = upd (upd (upd (upd (upd (upd (upd (upd sl a v) b w) c x) d y) e z) f m) g t) i r := by
  rw [← upd7 h h2 h3 h4 h5 h6 h7]; exact upd1 h8
end Go.Av
namespace Go.Av
/-- A loop, one round. -/
theorem w_unroll {Γ : Calls0} {F : List Fr} {Q : Ex → St → Prop} {s : St} {c : ACode} (h : WC Γ c (.seq (.loop c) :: F) Q s) : WC Γ (.loop c) F Q s := by
  obtain ⟨e, s', h1, h2⟩ := h.h
  constructor
  cases e with
  | normal => obtain ⟨e2, s2, h3, h4⟩ := h2; exact ⟨e2, s2, .loopN h1 h3, h4⟩
  | exit i => exact ⟨_, s', .loopX h1 (by simp), h2⟩
  | ret => exact ⟨_, s', .loopX h1 (by simp), h2⟩
end Go.Av
namespace Go.Av
/-- What is to hold where a block ends, stated: the rest is shown from that alone. -/
theorem w_cut {Γ : Calls0} {F : List Fr} {Q : Ex → St → Prop} {s : St} {c X : ACode} {i : Nat} (Ψ : (Nat → AV) → Objs → Nat → Prop) (k : WC Γ c (.blk i :: .inv (fun s => Ψ s.slots s.objs s.base) :: F) Q s) (h : ∀ sl o b, Ψ sl o b → WC Γ X F Q ⟨sl, o, b⟩) :
    WC Γ c (.blk i :: .seq X :: F) Q s := by
  refine ⟨k.h.mono fun e s' hs => ?_⟩
  cases e with
  | normal => exact (h s'.slots s'.objs s'.base hs).h
  | ret => exact hs
  | exit j =>
    simp only [cont] at hs ⊢
    split
    · rename_i hj; rw [if_pos hj] at hs; exact (h s'.slots s'.objs s'.base hs).h
    · rename_i hj; rw [if_neg hj] at hs; exact hs
end Go.Av
