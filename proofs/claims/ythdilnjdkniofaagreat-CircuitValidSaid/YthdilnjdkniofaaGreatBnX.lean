/- A part of the proof (own method: an abstract machine). No condition. -/
import Derived.Test.YthdilnjdkniofaaGreatBnF
import Derived.Test.YthdilnjdkniofaaGreatAvExt
namespace Go.Av
open Go

/-- Digits, read back. -/
def decN : List (List PC) → Option (List Nat)
  | [] => some []
  | x :: r => match x with
    | [.int .u32 (.ofNat d)] => match Nat.blt d 4294967296 with
      | true => match decN r with
        | some l => some (d :: l)
        | none => none
      | false => none
    | _ => none
theorem decN_ok : ∀ {xs : List (List PC)} {l : List Nat}, decN xs = some l → xs = encK .u32 l ∧ Dg l
  | [], l, h => by cases h; exact ⟨rfl, Dg.nil⟩
  | x :: r, l, h => by
    unfold decN at h
    split at h
    · rename_i d
      split at h
      · rename_i hd
        split at h
        · rename_i l' hr
          cases h
          obtain ⟨h1, h2⟩ := decN_ok hr
          subst h1
          exact ⟨rfl, Dg.cons (blt_lt hd) h2⟩
        · cases h
      · cases h
    · cases h
def decS (xs : List (List PC)) : Option (List Nat) := match decN xs with
  | some l => match Nat.blt l.length 1099511627776 with
    | true => some l
    | false => none
  | none => none
theorem decS_ok {xs : List (List PC)} {l : List Nat} (h : decS xs = some l) : xs = encK .u32 l ∧ Dg l ∧ Sh l := by
  unfold decS at h
  split at h
  · rename_i l' hl
    split at h
    · rename_i hb
      cases h
      exact ⟨(decN_ok hl).1, (decN_ok hl).2, blt_lt hb⟩
    · cases h
  · cases h

def x1 (f : List Nat → Option PAV) (args : List PSV) : Option PAV := match args with
  | [.c (.sl xs)] => match decS xs with
    | some l => f l
    | none => none
  | _ => none
def x2 (f : List Nat → List Nat → Option PAV) (args : List PSV) : Option PAV := match args with
  | [.c (.sl xs), .c (.sl ys)] => match decS xs with
    | some a => match decS ys with
      | some b => f a b
      | none => none
    | none => none
  | _ => none
def xU (f : Nat → Option PAV) (args : List PSV) : Option PAV := match args with
  | [.c (.int .u64 (.ofNat n))] => match Nat.blt n 18446744073709551616 with
    | true => f n
    | false => none
  | _ => none
theorem x1_ok {f : List Nat → Option PAV} {args : List PSV} {res : PAV} (h : x1 f args = some res) : ∃ l, args = [pN l] ∧ Dg l ∧ Sh l ∧ f l = some res := by
  unfold x1 at h
  split at h
  · split at h
    · rename_i l hl
      obtain ⟨h1, h2, h3⟩ := decS_ok hl
      subst h1
      exact ⟨l, rfl, h2, h3, h⟩
    · cases h
  · cases h
theorem x2_ok {f : List Nat → List Nat → Option PAV} {args : List PSV} {res : PAV} (h : x2 f args = some res) : ∃ a b, args = [pN a, pN b] ∧ Dg a ∧ Dg b ∧ Sh a ∧ Sh b ∧ f a b = some res := by
  unfold x2 at h
  split at h
  · split at h
    · rename_i a hl
      obtain ⟨h1, h2, h3⟩ := decS_ok hl
      subst h1
      split at h
      · rename_i b hl
        obtain ⟨h4, h5, h6⟩ := decS_ok hl
        subst h4
        exact ⟨a, b, rfl, h2, h5, h3, h6, h⟩
      · cases h
    · cases h
  · cases h
theorem xU_ok {f : Nat → Option PAV} {args : List PSV} {res : PAV} (h : xU f args = some res) : ∃ n : Nat, args = [.c (.int .u64 (n : Int))] ∧ n < 18446744073709551616 ∧ f n = some res := by
  unfold xU at h
  split at h
  · split at h
    · rename_i hb
      exact ⟨_, rfl, blt_lt hb, h⟩
    · cases h
  · cases h

def xNorm : List PSV → Option PAV := x1 fun l => some (.s (pN (ofN (val l))))
def xBitLen : List PSV → Option PAV := x1 fun l => some (.s (.c (.int .i64 (bl (val l) : Nat))))
def xUint64 : List PSV → Option PAV := x1 fun l => match Nat.blt (val l) 18446744073709551616 with
  | true => some (.tup [.c (.int .u64 (val l : Nat)), .c (.bool true)])
  | false => some (.tup [.c (.int .u64 0), .c (.bool false)])
def cmpF (x y : Nat) : Int := match Nat.blt x y with
  | true => -1
  | false => match Nat.blt y x with
    | true => 1
    | false => 0
theorem cmpF_eq (x y : Nat) : cmpF x y = cmpI x y := by
  unfold cmpF cmpI
  split
  · rename_i h; rw [if_pos (blt_lt h)]
  · rename_i h; rw [if_neg (blt_ge h)]
    split
    · rename_i h; rw [if_pos (blt_lt h)]
    · rename_i h; rw [if_neg (blt_ge h)]
def xCmp : List PSV → Option PAV := x2 fun a b => some (.s (.c (.int .i64 (cmpF (val a) (val b)))))
def xMul : List PSV → Option PAV := x2 fun a b => some (.s (pN (ofN (Nat.mul (val a) (val b)))))
def xAdd : List PSV → Option PAV := x2 fun a b => some (.s (pN (ofN (Nat.add (val a) (val b)))))
def xSub : List PSV → Option PAV := x2 fun a b => match Nat.ble (val b) (val a) with
  | true => some (.tup [pN (ofN (Nat.sub (val a) (val b))), .c (.bool true)])
  | false => none
def xDiv : List PSV → Option PAV := x2 fun a b => match Nat.blt 0 (val b) with
  | true => match Nat.blt (val b) 4294967296 with
    | true => some (.tup [pN (ofN (Nat.div (val a) (val b))), pN (ofN (Nat.mod (val a) (val b))), .c (.bool true)])
    | false => none
  | false => none
def xGCD : List PSV → Option PAV := x2 fun a b => match Nat.blt (val a) 18446744073709551616 with
  | true => match Nat.blt (val b) 18446744073709551616 with
    | true => some (.s (pN (ofN (Nat.gcd (val a) (val b)))))
    | false => none
  | false => none
def xFromU : List PSV → Option PAV := xU fun n => some (.s (pN (ofN n)))

def peL : List (Nat × (List PSV → Option PAV)) := [(7, xNorm), (16, xNorm), (17, xNorm), (58, xNorm), (9, xBitLen), (18, xUint64), (13, xCmp), (14, xMul), (15, xAdd), (30, xSub), (27, xDiv), (28, xGCD), (19, xFromU), (59, xFromU)]
def peT : T (List PSV → Option PAV) := List.foldl (fun t q => T.put t q.1 q.2) .leaf peL
def peN (g : Nat) (args : List PSV) : Option PAV := match T.get peT g with
  | some f => f args
  | none => none
variable {ext : Calls0}
theorem foldT {α : Type} : ∀ (L : List (Nat × α)) (t : T α) (g : Nat) (f : α), T.get (List.foldl (fun t q => T.put t q.1 q.2) t L) g = some f → (g, f) ∈ L ∨ T.get t g = some f
  | [], _, _, _, h => .inr h
  | q :: L, t, g, f, h => by
    rcases foldT L _ g f h with h | h
    · exact .inl (List.mem_cons_of_mem _ h)
    · rw [T.get_put] at h
      by_cases hg : g = q.1
      · rw [if_pos hg] at h
        cases h
        subst hg
        exact .inl (List.mem_cons_self ..)
      · rw [if_neg hg] at h; exact .inr h
theorem peT_all (P : Nat → (List PSV → Option PAV) → Prop) (h : ∀ q, q ∈ peL → P q.1 q.2) (g : Nat) (f : List PSV → Option PAV) (hf : T.get peT g = some f) : P g f := by
  rcases foldT _ _ _ _ hf with h1 | h1
  · exact h _ h1
  · cases h1
theorem peN_ok : ∀ g args res, peN g args = some res → PCall env ext g args res := by
  intro g args res h
  unfold peN at h
  split at h
  · rename_i f hf
    refine peT_all (fun g f => ∀ args res, f args = some res → PCall env ext g args res) ?_ g f hf args res h
    clear h hf
    intro q hq args res h
    simp only [peL, List.mem_cons, List.not_mem_nil, or_false] at hq
    rcases hq with rfl | rfl | rfl | rfl | rfl | rfl | rfl | rfl | rfl | rfl | rfl | rfl | rfl | rfl
    · obtain ⟨l, rfl, h1, h2, h⟩ := x1_ok h; cases h; exact trim_ok h1 h2
    · obtain ⟨l, rfl, h1, h2, h⟩ := x1_ok h; cases h; exact clone_ok h1 h2
    · obtain ⟨l, rfl, h1, h2, h⟩ := x1_ok h; cases h; exact normalize_ok h1 h2
    · obtain ⟨l, rfl, h1, h2, h⟩ := x1_ok h; cases h; exact natNorm_ok h1 h2
    · obtain ⟨l, rfl, h1, h2, h⟩ := x1_ok h; cases h; exact bitLen_ok h1 h2
    · obtain ⟨l, rfl, h1, h2, h⟩ := x1_ok h
      have := uint64_ok (ext := ext) h1 h2
      split at h
      · rename_i hb; rw [if_pos (blt_lt hb)] at this; cases h; exact this
      · rename_i hb; rw [if_neg (blt_ge hb)] at this; cases h; exact this
    · obtain ⟨a, b, rfl, h1, h2, h3, h4, h⟩ := x2_ok h; cases h; rw [cmpF_eq]; exact cmp_ok h1 h2 h3 h4
    · obtain ⟨a, b, rfl, h1, h2, h3, h4, h⟩ := x2_ok h; cases h; exact mul_ok h1 h2 h3 h4
    · obtain ⟨a, b, rfl, h1, h2, h3, h4, h⟩ := x2_ok h; cases h; exact add_ok h1 h2 h3 h4
    · obtain ⟨a, b, rfl, h1, h2, h3, h4, h⟩ := x2_ok h
      split at h
      · rename_i hb; cases h; exact sub_ok h1 h2 h3 h4 (Nat.le_of_ble_eq_true hb)
      · cases h
    · obtain ⟨a, b, rfl, h1, h2, h3, h4, h⟩ := x2_ok h
      split at h
      · rename_i hb
        split at h
        · rename_i hc; cases h; exact divMod1_ok h1 h2 h3 h4 (blt_lt hb) (blt_lt hc)
        · cases h
      · cases h
    · obtain ⟨a, b, rfl, h1, h2, h3, h4, h⟩ := x2_ok h
      split at h
      · rename_i hb
        split at h
        · rename_i hc; cases h; exact gcd_ok h1 h2 h3 h4 (blt_lt hb) (blt_lt hc)
        · cases h
      · cases h
    · obtain ⟨n, rfl, h1, h⟩ := xU_ok h; cases h; exact fromUint64_ok h1
    · obtain ⟨n, rfl, h1, h⟩ := xU_ok h; cases h; exact natOf_ok h1
  · cases h

def xeN (ids : List Nat) : XExt := { sv := cloneX ids, ps := peN }
theorem xeN_ok (ids : List Nat) : XEOK env (xeN ids) (cloneExt ids) := ⟨cloneX_ok ids, peN_ok⟩
end Go.Av
