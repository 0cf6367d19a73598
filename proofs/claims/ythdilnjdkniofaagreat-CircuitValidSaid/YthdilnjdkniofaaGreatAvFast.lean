/- The abstract machine of the Av files: its arithmetic, in a form that is quickly computed. No condition. -/
import Derived.Test.YthdilnjdkniofaaGreatAvWp
namespace Go.Av
open Go

def modN : IntKind → Nat
  | .i8 | .u8 => 256
  | .i16 | .u16 => 65536
  | .i32 | .u32 => 4294967296
  | .i64 | .u64 => 18446744073709551616
def topN : IntKind → Nat
  | .i8 => 128 | .u8 => 256
  | .i16 => 32768 | .u16 => 65536
  | .i32 => 2147483648 | .u32 => 4294967296
  | .i64 => 9223372036854775808 | .u64 => 18446744073709551616

def wrapP (k : IntKind) (n : Nat) : Int := match Nat.blt n (topN k) with
  | true => .ofNat n
  | false => match k.signed with
    | false => .ofNat (Nat.mod n (modN k))
    | true => k.wrap (.ofNat n)
def wrapM (k : IntKind) (n : Nat) : Int := match k.signed with
  | false => .ofNat (Nat.sub (Nat.sub (modN k) 1) (Nat.mod n (modN k)))
  | true => match Nat.blt n (topN k) with
    | true => .negSucc n
    | false => k.wrap (.negSucc n)
def wrapF (k : IntKind) : Int → Int
  | .ofNat n => wrapP k n
  | .negSucc n => wrapM k n

theorem blt_lt {a b : Nat} (h : Nat.blt a b = true) : a < b := by rw [Nat.blt_eq] at h; exact h
theorem blt_of {a b : Nat} (h : a < b) : Nat.blt a b = true := by rw [Nat.blt_eq]; exact h
theorem blt_ge {a b : Nat} (h : Nat.blt a b = false) : ¬ a < b := fun h' => by rw [blt_of h'] at h; cases h

theorem wrapF_eq (k : IntKind) (n : Int) : wrapF k n = k.wrap n := by
  cases n with
  | ofNat n =>
    simp only [wrapF, wrapP]
    split
    · rename_i h
      have h : n < topN k := blt_lt h
      cases k <;> simp [topN, IntKind.wrap, IntKind.signed, IntKind.bits] at h ⊢ <;> omega
    · rename_i h
      have h : ¬ n < topN k := blt_ge h
      cases k <;> simp only [IntKind.signed] <;> simp [IntKind.wrap, IntKind.signed, IntKind.bits, modN] <;> rfl
  | negSucc n =>
    simp only [wrapF, wrapM]
    have e : Int.negSucc n = -(n : Int) - 1 := by omega
    cases k <;> simp only [IntKind.signed, topN, modN] <;> first
      | (split
         · rename_i h
           have h := blt_lt h
           rw [e]; simp [IntKind.wrap, IntKind.signed, IntKind.bits]; omega
         · rfl)
      | (rw [e]; simp [IntKind.wrap, IntKind.signed, IntKind.bits]; rw [show ∀ m, Nat.mod n m = n % m from fun _ => rfl]; omega)

def eqF : Int → Int → Bool
  | .ofNat m, .ofNat n => Nat.beq m n
  | .negSucc m, .negSucc n => Nat.beq m n
  | _, _ => false
def ltF : Int → Int → Bool
  | .ofNat m, .ofNat n => Nat.blt m n
  | .negSucc m, .negSucc n => Nat.blt n m
  | .ofNat _, .negSucc _ => false
  | .negSucc _, .ofNat _ => true

theorem eqF_eq (a b : Int) : eqF a b = (a == b) := by
  cases a <;> cases b <;> simp only [eqF]
  · rename_i m n
    rw [Bool.eq_iff_iff, Nat.beq_eq, beq_iff_eq]
    show m = n ↔ (m : Int) = (n : Int)
    omega
  · simp
  · simp
  · rename_i m n
    rw [Bool.eq_iff_iff, Nat.beq_eq, beq_iff_eq]; simp
theorem ltF_eq (a b : Int) : ltF a b = decide (a < b) := by
  cases a <;> cases b <;> simp only [ltF] <;> rw [Bool.eq_iff_iff] <;> simp [Nat.blt_eq] <;> omega

def quoF (k : IntKind) (a b : Int) : Option PC := match b with
  | .ofNat 0 => none
  | b => some (.int k (wrapF k (a.tdiv b)))
def remF (k : IntKind) (a b : Int) : Option PC := match b with
  | .ofNat 0 => none
  | b => some (.int k (a.tmod b))
def small (k : IntKind) (a b : Nat) : Bool := match Nat.blt a (topN k) with
  | true => Nat.blt b (topN k)
  | false => false
def andF (k : IntKind) : Int → Int → Option PC
  | .ofNat a, .ofNat b => match small k a b with
    | true => some (.int k (.ofNat (Nat.land a b)))
    | false => binI .and k (.ofNat a) (.ofNat b)
  | a, b => binI .and k a b
def orF (k : IntKind) : Int → Int → Option PC
  | .ofNat a, .ofNat b => match small k a b with
    | true => some (.int k (.ofNat (Nat.lor a b)))
    | false => binI .or k (.ofNat a) (.ofNat b)
  | a, b => binI .or k a b
def shlF (k : IntKind) : Int → Int → Option PC
  | .ofNat a, .ofNat b => some (.int k (wrapP k (Nat.mul a (Nat.pow 2 (min b k.bits)))))
  | a, b => shiftI .shl k a b
def shrF (k : IntKind) : Int → Int → Option PC
  | .ofNat a, .ofNat b => some (.int k (.ofNat (Nat.div a (Nat.pow 2 (min b k.bits)))))
  | a, b => shiftI .shr k a b

def binF (op : BinOp) (k : IntKind) (a b : Int) : Option PC :=
  match op with
  | .add => some (.int k (wrapF k (Int.add a b)))
  | .sub => some (.int k (wrapF k (Int.sub a b)))
  | .mul => some (.int k (wrapF k (Int.mul a b)))
  | .quo => quoF k a b
  | .rem => remF k a b
  | .and => andF k a b
  | .or => orF k a b
  | .eql => some (.bool (eqF a b))
  | .neq => some (.bool (not (eqF a b)))
  | .lss => some (.bool (ltF a b))
  | .leq => some (.bool (not (ltF b a)))
  | .gtr => some (.bool (ltF b a))
  | .geq => some (.bool (not (ltF a b)))
  | .xor => binI .xor k a b
  | .andNot => binI .andNot k a b
  | .shl => none
  | .shr => none

theorem small_lt {k : IntKind} {a b : Nat} (h : small k a b = true) : a < topN k ∧ b < topN k := by
  unfold small at h
  split at h
  · rename_i h1; exact ⟨blt_lt h1, blt_lt h⟩
  · cases h

theorem topN_le (k : IntKind) : topN k ≤ 2 ^ k.bits := by cases k <;> simp [topN, IntKind.bits]
theorem ofInt_small {k : IntKind} {a : Nat} (h : a < topN k) : (BitVec.ofInt k.bits (Int.ofNat a)).toNat = a := by
  have := topN_le k
  simp only [Int.ofNat_eq_natCast, BitVec.ofInt_natCast, BitVec.toNat_ofNat]
  exact Nat.mod_eq_of_lt (by omega)
theorem wrap_small {k : IntKind} {a : Nat} (h : a < topN k) : k.wrap (a : Int) = Int.ofNat a := by
  rw [← wrapF_eq]
  show wrapP k a = _
  have : Nat.blt a (topN k) = true := blt_of h
  simp [wrapP, this]
theorem topN_pow (k : IntKind) : ∃ n, topN k = 2 ^ n := by
  cases k
  · exact ⟨7, rfl⟩
  · exact ⟨15, rfl⟩
  · exact ⟨31, rfl⟩
  · exact ⟨63, rfl⟩
  · exact ⟨8, rfl⟩
  · exact ⟨16, rfl⟩
  · exact ⟨32, rfl⟩
  · exact ⟨64, rfl⟩

theorem andF_eq (k : IntKind) (a b : Int) : andF k a b = binI .and k a b := by
  unfold andF
  split
  · rename_i a b
    split
    · rename_i h
      obtain ⟨h1, h2⟩ := small_lt h
      obtain ⟨n, hn⟩ := topN_pow k
      simp only [binI, bits2, Option.map_some, BitVec.toNat_and, ofInt_small h1, ofInt_small h2]
      have : a &&& b < topN k := by rw [hn] at h1 h2 ⊢; exact Nat.and_lt_two_pow _ h2
      rw [wrap_small this]; rfl
    · rfl
  · rfl
theorem orF_eq (k : IntKind) (a b : Int) : orF k a b = binI .or k a b := by
  unfold orF
  split
  · rename_i a b
    split
    · rename_i h
      obtain ⟨h1, h2⟩ := small_lt h
      obtain ⟨n, hn⟩ := topN_pow k
      simp only [binI, bits2, Option.map_some, BitVec.toNat_or, ofInt_small h1, ofInt_small h2]
      have : a ||| b < topN k := by rw [hn] at h1 h2 ⊢; exact Nat.or_lt_two_pow h1 h2
      rw [wrap_small this]; rfl
    · rfl
  · rfl

theorem shlF_eq (k : IntKind) (a b : Int) : shlF k a b = shiftI .shl k a b := by
  unfold shlF
  split
  · rename_i a b
    have h : ¬ ((Int.ofNat b) < 0) := by simp
    simp only [shiftI, if_neg h]
    rw [← wrapF_eq]
    have : (Int.ofNat a * 2 ^ (min (Int.ofNat b).toNat k.bits) : Int) = Int.ofNat (Nat.mul a (Nat.pow 2 (min b k.bits))) := by
      show _ = ((a * 2 ^ (min b k.bits) : Nat) : Int)
      simp
    rw [this]; rfl
  · rfl
theorem shrF_eq (k : IntKind) (a b : Int) : shrF k a b = shiftI .shr k a b := by
  unfold shrF
  split
  · rename_i a b
    have h : ¬ ((Int.ofNat b) < 0) := by simp
    simp only [shiftI, if_neg h]
    have : (Int.ofNat a).fdiv (2 ^ (min (Int.ofNat b).toNat k.bits) : Int) = Int.ofNat (Nat.div a (Nat.pow 2 (min b k.bits))) := by
      show _ = ((a / 2 ^ (min b k.bits) : Nat) : Int)
      rw [Int.fdiv_eq_ediv_of_nonneg _ (Int.pow_nonneg (by omega))]
      simp
    rw [this]
  · rfl

theorem binF_eq {op : BinOp} (h : BinOp.isShift op = false) (k : IntKind) (a b : Int) : binF op k a b = binI op k a b := by
  cases op <;> simp only [binF, binI, wrapF_eq, eqF_eq, ltF_eq] <;> first
    | rfl
    | (exact andF_eq k a b)
    | (exact orF_eq k a b)
    | (cases h; done)
    | skip
  case quo =>
    unfold quoF
    split
    · rfl
    · rename_i hb; rw [if_neg (by intro e; exact hb (by simpa using e)), wrapF_eq]
  case rem =>
    unfold remF
    split
    · rfl
    · rename_i hb; rw [if_neg (by intro e; exact hb (by simpa using e))]
  all_goals (congr 2; rw [Bool.eq_iff_iff]; simp)

def sameK (j k : IntKind) : Bool := Nat.beq j.ctorIdx k.ctorIdx
theorem sameK_eq {j k : IntKind} (h : sameK j k = true) : j = k := by
  cases j <;> cases k <;> first | rfl | (cases h)

/-- Two numbers, or none. -/
def abinF (op : BinOp) : PC → PC → Option PC
  | .int k a, .int k' b => match op with
    | .shl => shlF k a b
    | .shr => shrF k a b
    | op => match sameK k k' with
      | true => binF op k a b
      | false => none
  | _, _ => none
theorem abinF_some {op : BinOp} {p q c : PC} (h : abinF op p q = some c) : abin op p q = some c := by
  unfold abinF at h
  split at h
  · rename_i k a k' b
    split at h
    · rw [shlF_eq] at h; simpa [abin, BinOp.isShift] using h
    · rw [shrF_eq] at h; simpa [abin, BinOp.isShift] using h
    · rename_i h1 h2
      split at h
      · rename_i hk
        have := sameK_eq hk; subst this
        have hs : BinOp.isShift op = false := by cases op <;> first | rfl | (exact absurd rfl h1) | (exact absurd rfl h2)
        rw [binF_eq hs] at h
        simp only [abin, hs, Bool.false_eq_true, if_false, if_true]; exact h
      · cases h
  · cases h
end Go.Av
