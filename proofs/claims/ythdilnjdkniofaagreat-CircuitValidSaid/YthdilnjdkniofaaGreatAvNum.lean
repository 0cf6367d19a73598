/- The abstract machine of the Av files: rules for numbers. No condition. -/
import Derived.Test.YthdilnjdkniofaaGreatAvWalk
namespace Go.Av
open Go

theorem wrap_i {n : Int} (h : -9223372036854775808 ≤ n) (h2 : n < 9223372036854775808) : IntKind.i64.wrap n = n := by
  simp [IntKind.wrap, IntKind.signed, IntKind.bits]; omega
theorem wrap_u (n : Int) : IntKind.u64.wrap n = n % 18446744073709551616 := by simp [IntKind.wrap, IntKind.signed, IntKind.bits]
theorem wrap_w (n : Int) : IntKind.u32.wrap n = n % 4294967296 := by simp [IntKind.wrap, IntKind.signed, IntKind.bits]
theorem wrap_b (n : Int) : IntKind.u8.wrap n = n % 256 := by simp [IntKind.wrap, IntKind.signed, IntKind.bits]

section
variable {Γ : Calls0} {l : List AO} {F : List Fr} {Q : Ex → St → Prop} {sl : Nat → AV} {o : Objs} {b : Nat} {d : Nat} {x y : Opd} {a c : Int} {m n : Nat} {k k' : IntKind}

theorem r_binN {op : BinOp} {r : PC} (hx : St.ev ⟨sl, o, b⟩ x = .s (.c (.p (.int k a)))) (hy : St.ev ⟨sl, o, b⟩ y = .s (.c (.p (.int k c)))) (ha : a = (m : Int)) (hc : c = (n : Int))
    (hs : BinOp.isShift op = false) (hr : binI op k m n = some r) (h : WO Γ l F Q ⟨upd sl d (vp r), o, b⟩) : WO Γ (⟨some d, .bin op x y, none⟩ :: l) F Q ⟨sl, o, b⟩ := by
  subst ha hc
  refine r_op (o' := o) (v := vp r) rfl ?_ h
  simp only [aop, hx, hy, abin, hs, hr, Bool.false_eq_true, if_false, if_true, Option.map_some]
theorem r_binZ {op : BinOp} {r : PC} (hx : St.ev ⟨sl, o, b⟩ x = .s (.c (.p (.int k a)))) (hy : St.ev ⟨sl, o, b⟩ y = .s (.c (.p (.int k c))))
    (hs : BinOp.isShift op = false) (hr : binI op k a c = some r) (h : WO Γ l F Q ⟨upd sl d (vp r), o, b⟩) : WO Γ (⟨some d, .bin op x y, none⟩ :: l) F Q ⟨sl, o, b⟩ := by
  refine r_op (o' := o) (v := vp r) rfl ?_ h
  simp only [aop, hx, hy, abin, hs, hr, Bool.false_eq_true, if_false, if_true, Option.map_some]

-- sums and differences
theorem b_addI (h : m + n < 9223372036854775808) : binI .add .i64 (m : Int) (n : Int) = some (.int .i64 ((m + n : Nat) : Int)) := by
  simp only [binI]; rw [wrap_i (by omega) (by omega)]; simp
theorem b_addU (h : m + n < 18446744073709551616) : binI .add .u64 (m : Int) (n : Int) = some (.int .u64 ((m + n : Nat) : Int)) := by
  simp only [binI, wrap_u]; congr 2; omega
theorem b_addUm : binI .add .u64 (m : Int) (n : Int) = some (.int .u64 (((m + n) % 18446744073709551616 : Nat) : Int)) := by
  simp only [binI, wrap_u]; congr 2
theorem b_addWm : binI .add .u32 (m : Int) (n : Int) = some (.int .u32 (((m + n) % 4294967296 : Nat) : Int)) := by
  simp only [binI, wrap_w]; congr 2
theorem b_subI (h : n ≤ m) (h2 : m < 9223372036854775808) : binI .sub .i64 (m : Int) (n : Int) = some (.int .i64 ((m - n : Nat) : Int)) := by
  simp only [binI]; rw [wrap_i (by omega) (by omega)]; congr 2; omega
theorem b_subZ (h : -9223372036854775808 ≤ a - c) (h2 : a - c < 9223372036854775808) : binI .sub .i64 a c = some (.int .i64 (a - c)) := by
  simp only [binI]; rw [wrap_i (by omega) (by omega)]
theorem b_addZ (h : -9223372036854775808 ≤ a + c) (h2 : a + c < 9223372036854775808) : binI .add .i64 a c = some (.int .i64 (a + c)) := by
  simp only [binI]; rw [wrap_i (by omega) (by omega)]
theorem b_subU (h : n ≤ m) (h2 : m < 18446744073709551616) : binI .sub .u64 (m : Int) (n : Int) = some (.int .u64 ((m - n : Nat) : Int)) := by
  simp only [binI, wrap_u]; congr 2; omega
theorem b_subUm (h : n ≤ 18446744073709551616) : binI .sub .u64 (m : Int) (n : Int) = some (.int .u64 (((m + 18446744073709551616 - n) % 18446744073709551616 : Nat) : Int)) := by
  simp only [binI, wrap_u]; congr 2; omega
theorem b_subWm (h : n ≤ 4294967296) : binI .sub .u32 (m : Int) (n : Int) = some (.int .u32 (((m + 4294967296 - n) % 4294967296 : Nat) : Int)) := by
  simp only [binI, wrap_w]; congr 2; omega
theorem b_mulI (h : m * n < 9223372036854775808) : binI .mul .i64 (m : Int) (n : Int) = some (.int .i64 ((m * n : Nat) : Int)) := by
  simp only [binI]
  have : (m : Int) * n = ((m * n : Nat) : Int) := by simp
  rw [this, wrap_i (by omega) (by omega)]
theorem b_mulU (h : m * n < 18446744073709551616) : binI .mul .u64 (m : Int) (n : Int) = some (.int .u64 ((m * n : Nat) : Int)) := by
  simp only [binI, wrap_u]
  have : (m : Int) * n = ((m * n : Nat) : Int) := by simp
  rw [this]; congr 2; omega
theorem b_mulUm : binI .mul .u64 (m : Int) (n : Int) = some (.int .u64 ((m * n % 18446744073709551616 : Nat) : Int)) := by
  simp only [binI, wrap_u]
  have : (m : Int) * n = ((m * n : Nat) : Int) := by simp
  rw [this]; congr 2
theorem tdiv_nn (m n : Nat) : (m : Int).tdiv n = ((m / n : Nat) : Int) := rfl
theorem tmod_nn (m n : Nat) : (m : Int).tmod n = ((m % n : Nat) : Int) := rfl
theorem b_quoI (h : 0 < n) (h2 : m < 9223372036854775808) : binI .quo .i64 (m : Int) (n : Int) = some (.int .i64 ((m / n : Nat) : Int)) := by
  simp only [binI]
  have h3 : m / n ≤ m := Nat.div_le_self m n
  generalize hq : m / n = q at h3 ⊢
  rw [if_neg (by omega), tdiv_nn, hq, wrap_i (by omega) (by omega)]
theorem b_quoU (h : 0 < n) (h2 : m < 18446744073709551616) : binI .quo .u64 (m : Int) (n : Int) = some (.int .u64 ((m / n : Nat) : Int)) := by
  simp only [binI]
  have h3 : m / n ≤ m := Nat.div_le_self m n
  generalize hq : m / n = q at h3 ⊢
  rw [if_neg (by omega), tdiv_nn, hq, wrap_u]; congr 2; omega
theorem b_rem (h : 0 < n) : binI .rem k (m : Int) (n : Int) = some (.int k ((m % n : Nat) : Int)) := by
  simp only [binI]
  rw [if_neg (by omega), tmod_nn]
-- bits
theorem b_ofInt (w m : Nat) (h : m < 2 ^ w) : (BitVec.ofInt w (m : Int)).toNat = m := by
  rw [BitVec.toNat_ofInt]
  have : ((m : Int) % (2 ^ w : Nat)) = m := by
    apply Int.emod_eq_of_lt <;> omega
  rw [this]; simp
theorem and_lt {m n w : Nat} (h : n < 2 ^ w) : m &&& n < 2 ^ w := Nat.and_lt_two_pow m h
theorem b_andU (h : m < 18446744073709551616) (h2 : n < 18446744073709551616) : binI .and .u64 (m : Int) (n : Int) = some (.int .u64 ((m &&& n : Nat) : Int)) := by
  have e1 : (BitVec.ofInt IntKind.u64.bits (m : Int)).toNat = m := b_ofInt 64 m h
  have e2 : (BitVec.ofInt IntKind.u64.bits (n : Int)).toNat = n := b_ofInt 64 n h2
  have e3 : m &&& n < 2 ^ 64 := and_lt h2
  have e4 : (BitVec.ofInt IntKind.u64.bits (m : Int) &&& BitVec.ofInt IntKind.u64.bits (n : Int)).toNat = m &&& n := by rw [BitVec.toNat_and, e1, e2]
  simp only [binI, bits2, Option.map_some, wrap_u]
  rw [e4]; congr 2; omega
theorem b_andW (h : m < 4294967296) (h2 : n < 4294967296) : binI .and .u32 (m : Int) (n : Int) = some (.int .u32 ((m &&& n : Nat) : Int)) := by
  have e1 : (BitVec.ofInt IntKind.u32.bits (m : Int)).toNat = m := b_ofInt 32 m h
  have e2 : (BitVec.ofInt IntKind.u32.bits (n : Int)).toNat = n := b_ofInt 32 n h2
  have e3 : m &&& n < 2 ^ 32 := and_lt h2
  have e4 : (BitVec.ofInt IntKind.u32.bits (m : Int) &&& BitVec.ofInt IntKind.u32.bits (n : Int)).toNat = m &&& n := by rw [BitVec.toNat_and, e1, e2]
  simp only [binI, bits2, Option.map_some, wrap_w]
  rw [e4]; congr 2; omega
theorem b_orU (h : m < 18446744073709551616) (h2 : n < 18446744073709551616) : binI .or .u64 (m : Int) (n : Int) = some (.int .u64 ((m ||| n : Nat) : Int)) := by
  have e1 : (BitVec.ofInt IntKind.u64.bits (m : Int)).toNat = m := b_ofInt 64 m h
  have e2 : (BitVec.ofInt IntKind.u64.bits (n : Int)).toNat = n := b_ofInt 64 n h2
  have e3 : m ||| n < 2 ^ 64 := Nat.or_lt_two_pow h h2
  have e4 : (BitVec.ofInt IntKind.u64.bits (m : Int) ||| BitVec.ofInt IntKind.u64.bits (n : Int)).toNat = m ||| n := by rw [BitVec.toNat_or, e1, e2]
  simp only [binI, bits2, Option.map_some, wrap_u]
  rw [e4]; congr 2; omega
theorem b_orW (h : m < 4294967296) (h2 : n < 4294967296) : binI .or .u32 (m : Int) (n : Int) = some (.int .u32 ((m ||| n : Nat) : Int)) := by
  have e1 : (BitVec.ofInt IntKind.u32.bits (m : Int)).toNat = m := b_ofInt 32 m h
  have e2 : (BitVec.ofInt IntKind.u32.bits (n : Int)).toNat = n := b_ofInt 32 n h2
  have e3 : m ||| n < 2 ^ 32 := Nat.or_lt_two_pow h h2
  have e4 : (BitVec.ofInt IntKind.u32.bits (m : Int) ||| BitVec.ofInt IntKind.u32.bits (n : Int)).toNat = m ||| n := by rw [BitVec.toNat_or, e1, e2]
  simp only [binI, bits2, Option.map_some, wrap_w]
  rw [e4]; congr 2; omega
-- comparisons, decided or parted
theorem p_lssT (hx : St.ev ⟨sl, o, b⟩ x = .s (.c (.p (.int k a)))) (hy : St.ev ⟨sl, o, b⟩ y = .s (.c (.p (.int k c)))) (t : a < c) (h : WO Γ l F Q ⟨upd sl d (vb true), o, b⟩) :
    WO Γ (⟨some d, .bin .lss x y, none⟩ :: l) F Q ⟨sl, o, b⟩ := r_binZ (r := .bool true) hx hy rfl (by simp [binI, t]) h
theorem p_lssF (hx : St.ev ⟨sl, o, b⟩ x = .s (.c (.p (.int k a)))) (hy : St.ev ⟨sl, o, b⟩ y = .s (.c (.p (.int k c)))) (t : c ≤ a) (h : WO Γ l F Q ⟨upd sl d (vb false), o, b⟩) :
    WO Γ (⟨some d, .bin .lss x y, none⟩ :: l) F Q ⟨sl, o, b⟩ := r_binZ (r := .bool false) hx hy rfl (by simp [binI]; omega) h
theorem p_lss (hx : St.ev ⟨sl, o, b⟩ x = .s (.c (.p (.int k a)))) (hy : St.ev ⟨sl, o, b⟩ y = .s (.c (.p (.int k c)))) (hT : a < c → WO Γ l F Q ⟨upd sl d (vb true), o, b⟩) (hF : c ≤ a → WO Γ l F Q ⟨upd sl d (vb false), o, b⟩) :
    WO Γ (⟨some d, .bin .lss x y, none⟩ :: l) F Q ⟨sl, o, b⟩ := by
  by_cases t : a < c
  · exact p_lssT hx hy t (hT t)
  · exact p_lssF hx hy (by omega) (hF (by omega))
theorem p_gtrT (hx : St.ev ⟨sl, o, b⟩ x = .s (.c (.p (.int k a)))) (hy : St.ev ⟨sl, o, b⟩ y = .s (.c (.p (.int k c)))) (t : c < a) (h : WO Γ l F Q ⟨upd sl d (vb true), o, b⟩) :
    WO Γ (⟨some d, .bin .gtr x y, none⟩ :: l) F Q ⟨sl, o, b⟩ := r_binZ (r := .bool true) hx hy rfl (by simp [binI, t]) h
theorem p_gtrF (hx : St.ev ⟨sl, o, b⟩ x = .s (.c (.p (.int k a)))) (hy : St.ev ⟨sl, o, b⟩ y = .s (.c (.p (.int k c)))) (t : a ≤ c) (h : WO Γ l F Q ⟨upd sl d (vb false), o, b⟩) :
    WO Γ (⟨some d, .bin .gtr x y, none⟩ :: l) F Q ⟨sl, o, b⟩ := r_binZ (r := .bool false) hx hy rfl (by simp [binI]; omega) h
theorem p_gtr (hx : St.ev ⟨sl, o, b⟩ x = .s (.c (.p (.int k a)))) (hy : St.ev ⟨sl, o, b⟩ y = .s (.c (.p (.int k c)))) (hT : c < a → WO Γ l F Q ⟨upd sl d (vb true), o, b⟩) (hF : a ≤ c → WO Γ l F Q ⟨upd sl d (vb false), o, b⟩) :
    WO Γ (⟨some d, .bin .gtr x y, none⟩ :: l) F Q ⟨sl, o, b⟩ := by
  by_cases t : c < a
  · exact p_gtrT hx hy t (hT t)
  · exact p_gtrF hx hy (by omega) (hF (by omega))
theorem p_leqT (hx : St.ev ⟨sl, o, b⟩ x = .s (.c (.p (.int k a)))) (hy : St.ev ⟨sl, o, b⟩ y = .s (.c (.p (.int k c)))) (t : a ≤ c) (h : WO Γ l F Q ⟨upd sl d (vb true), o, b⟩) :
    WO Γ (⟨some d, .bin .leq x y, none⟩ :: l) F Q ⟨sl, o, b⟩ := r_binZ (r := .bool true) hx hy rfl (by simp [binI, t]) h
theorem p_leqF (hx : St.ev ⟨sl, o, b⟩ x = .s (.c (.p (.int k a)))) (hy : St.ev ⟨sl, o, b⟩ y = .s (.c (.p (.int k c)))) (t : c < a) (h : WO Γ l F Q ⟨upd sl d (vb false), o, b⟩) :
    WO Γ (⟨some d, .bin .leq x y, none⟩ :: l) F Q ⟨sl, o, b⟩ := r_binZ (r := .bool false) hx hy rfl (by simp [binI]; omega) h
theorem p_leq (hx : St.ev ⟨sl, o, b⟩ x = .s (.c (.p (.int k a)))) (hy : St.ev ⟨sl, o, b⟩ y = .s (.c (.p (.int k c)))) (hT : a ≤ c → WO Γ l F Q ⟨upd sl d (vb true), o, b⟩) (hF : c < a → WO Γ l F Q ⟨upd sl d (vb false), o, b⟩) :
    WO Γ (⟨some d, .bin .leq x y, none⟩ :: l) F Q ⟨sl, o, b⟩ := by
  by_cases t : a ≤ c
  · exact p_leqT hx hy t (hT t)
  · exact p_leqF hx hy (by omega) (hF (by omega))
theorem p_geqT (hx : St.ev ⟨sl, o, b⟩ x = .s (.c (.p (.int k a)))) (hy : St.ev ⟨sl, o, b⟩ y = .s (.c (.p (.int k c)))) (t : c ≤ a) (h : WO Γ l F Q ⟨upd sl d (vb true), o, b⟩) :
    WO Γ (⟨some d, .bin .geq x y, none⟩ :: l) F Q ⟨sl, o, b⟩ := r_binZ (r := .bool true) hx hy rfl (by simp [binI, t]) h
theorem p_geqF (hx : St.ev ⟨sl, o, b⟩ x = .s (.c (.p (.int k a)))) (hy : St.ev ⟨sl, o, b⟩ y = .s (.c (.p (.int k c)))) (t : a < c) (h : WO Γ l F Q ⟨upd sl d (vb false), o, b⟩) :
    WO Γ (⟨some d, .bin .geq x y, none⟩ :: l) F Q ⟨sl, o, b⟩ := r_binZ (r := .bool false) hx hy rfl (by simp [binI]; omega) h
theorem p_geq (hx : St.ev ⟨sl, o, b⟩ x = .s (.c (.p (.int k a)))) (hy : St.ev ⟨sl, o, b⟩ y = .s (.c (.p (.int k c)))) (hT : c ≤ a → WO Γ l F Q ⟨upd sl d (vb true), o, b⟩) (hF : a < c → WO Γ l F Q ⟨upd sl d (vb false), o, b⟩) :
    WO Γ (⟨some d, .bin .geq x y, none⟩ :: l) F Q ⟨sl, o, b⟩ := by
  by_cases t : c ≤ a
  · exact p_geqT hx hy t (hT t)
  · exact p_geqF hx hy (by omega) (hF (by omega))
theorem p_eqlT (hx : St.ev ⟨sl, o, b⟩ x = .s (.c (.p (.int k a)))) (hy : St.ev ⟨sl, o, b⟩ y = .s (.c (.p (.int k c)))) (t : a = c) (h : WO Γ l F Q ⟨upd sl d (vb true), o, b⟩) :
    WO Γ (⟨some d, .bin .eql x y, none⟩ :: l) F Q ⟨sl, o, b⟩ := r_binZ (r := .bool true) hx hy rfl (by simp [binI, t]) h
theorem p_eqlF (hx : St.ev ⟨sl, o, b⟩ x = .s (.c (.p (.int k a)))) (hy : St.ev ⟨sl, o, b⟩ y = .s (.c (.p (.int k c)))) (t : a ≠ c) (h : WO Γ l F Q ⟨upd sl d (vb false), o, b⟩) :
    WO Γ (⟨some d, .bin .eql x y, none⟩ :: l) F Q ⟨sl, o, b⟩ := r_binZ (r := .bool false) hx hy rfl (by simp [binI, t]) h
theorem p_eql (hx : St.ev ⟨sl, o, b⟩ x = .s (.c (.p (.int k a)))) (hy : St.ev ⟨sl, o, b⟩ y = .s (.c (.p (.int k c)))) (hT : a = c → WO Γ l F Q ⟨upd sl d (vb true), o, b⟩) (hF : a ≠ c → WO Γ l F Q ⟨upd sl d (vb false), o, b⟩) :
    WO Γ (⟨some d, .bin .eql x y, none⟩ :: l) F Q ⟨sl, o, b⟩ := by
  by_cases t : a = c
  · exact p_eqlT hx hy t (hT t)
  · exact p_eqlF hx hy t (hF t)
theorem p_neqT (hx : St.ev ⟨sl, o, b⟩ x = .s (.c (.p (.int k a)))) (hy : St.ev ⟨sl, o, b⟩ y = .s (.c (.p (.int k c)))) (t : a ≠ c) (h : WO Γ l F Q ⟨upd sl d (vb true), o, b⟩) :
    WO Γ (⟨some d, .bin .neq x y, none⟩ :: l) F Q ⟨sl, o, b⟩ := r_binZ (r := .bool true) hx hy rfl (by simp [binI, t]) h
theorem p_neqF (hx : St.ev ⟨sl, o, b⟩ x = .s (.c (.p (.int k a)))) (hy : St.ev ⟨sl, o, b⟩ y = .s (.c (.p (.int k c)))) (t : a = c) (h : WO Γ l F Q ⟨upd sl d (vb false), o, b⟩) :
    WO Γ (⟨some d, .bin .neq x y, none⟩ :: l) F Q ⟨sl, o, b⟩ := r_binZ (r := .bool false) hx hy rfl (by simp [binI, t]) h
theorem p_neq (hx : St.ev ⟨sl, o, b⟩ x = .s (.c (.p (.int k a)))) (hy : St.ev ⟨sl, o, b⟩ y = .s (.c (.p (.int k c)))) (hT : a ≠ c → WO Γ l F Q ⟨upd sl d (vb true), o, b⟩) (hF : a = c → WO Γ l F Q ⟨upd sl d (vb false), o, b⟩) :
    WO Γ (⟨some d, .bin .neq x y, none⟩ :: l) F Q ⟨sl, o, b⟩ := by
  by_cases t : a = c
  · exact p_neqF hx hy t (hF t)
  · exact p_neqT hx hy t (hT t)
-- conversions
theorem r_conv {r : Int} (hx : St.ev ⟨sl, o, b⟩ x = .s (.c (.p (.int k' a)))) (hr : k.wrap a = r) (h : WO Γ l F Q ⟨upd sl d (.s (.c (.p (.int k r)))), o, b⟩) :
    WO Γ (⟨some d, .conv k x, none⟩ :: l) F Q ⟨sl, o, b⟩ := by
  subst hr
  refine r_op (o' := o) (v := vi k (k.wrap a)) rfl ?_ h
  simp only [aop, hx, Option.map_some]
theorem r_convI (hx : St.ev ⟨sl, o, b⟩ x = .s (.c (.p (.int k' a)))) (ha : a = (m : Int)) (hm : m < 9223372036854775808) (h : WO Γ l F Q ⟨upd sl d (vn .i64 m), o, b⟩) :
    WO Γ (⟨some d, .conv .i64 x, none⟩ :: l) F Q ⟨sl, o, b⟩ := r_conv hx (r := (m : Int)) (by subst ha; rw [wrap_i (by omega) (by omega)]) h
theorem r_convU (hx : St.ev ⟨sl, o, b⟩ x = .s (.c (.p (.int k' a)))) (ha : a = (m : Int)) (hm : m < 18446744073709551616) (h : WO Γ l F Q ⟨upd sl d (vn .u64 m), o, b⟩) :
    WO Γ (⟨some d, .conv .u64 x, none⟩ :: l) F Q ⟨sl, o, b⟩ := r_conv hx (r := (m : Int)) (by subst ha; rw [wrap_u]; omega) h
theorem r_convUm (hx : St.ev ⟨sl, o, b⟩ x = .s (.c (.p (.int k' a)))) (ha : a = (m : Int)) (h : WO Γ l F Q ⟨upd sl d (vn .u64 (m % 18446744073709551616)), o, b⟩) :
    WO Γ (⟨some d, .conv .u64 x, none⟩ :: l) F Q ⟨sl, o, b⟩ := r_conv hx (r := ((m % 18446744073709551616 : Nat) : Int)) (by subst ha; rw [wrap_u]; omega) h
theorem r_convW (hx : St.ev ⟨sl, o, b⟩ x = .s (.c (.p (.int k' a)))) (ha : a = (m : Int)) (hm : m < 4294967296) (h : WO Γ l F Q ⟨upd sl d (vn .u32 m), o, b⟩) :
    WO Γ (⟨some d, .conv .u32 x, none⟩ :: l) F Q ⟨sl, o, b⟩ := r_conv hx (r := (m : Int)) (by subst ha; rw [wrap_w]; omega) h
theorem r_convWm (hx : St.ev ⟨sl, o, b⟩ x = .s (.c (.p (.int k' a)))) (ha : a = (m : Int)) (h : WO Γ l F Q ⟨upd sl d (vn .u32 (m % 4294967296)), o, b⟩) :
    WO Γ (⟨some d, .conv .u32 x, none⟩ :: l) F Q ⟨sl, o, b⟩ := r_conv hx (r := ((m % 4294967296 : Nat) : Int)) (by subst ha; rw [wrap_w]; omega) h
theorem r_convBm (hx : St.ev ⟨sl, o, b⟩ x = .s (.c (.p (.int k' a)))) (ha : a = (m : Int)) (h : WO Γ l F Q ⟨upd sl d (vn .u8 (m % 256)), o, b⟩) :
    WO Γ (⟨some d, .conv .u8 x, none⟩ :: l) F Q ⟨sl, o, b⟩ := r_conv hx (r := ((m % 256 : Nat) : Int)) (by subst ha; rw [wrap_b]; omega) h
-- shifts
theorem r_shift {op : BinOp} {r : PC} (hx : St.ev ⟨sl, o, b⟩ x = .s (.c (.p (.int k a)))) (hy : St.ev ⟨sl, o, b⟩ y = .s (.c (.p (.int k' c)))) (ha : a = (m : Int)) (hc : c = (n : Int))
    (hs : BinOp.isShift op = true) (hr : shiftI op k m n = some r) (h : WO Γ l F Q ⟨upd sl d (vp r), o, b⟩) : WO Γ (⟨some d, .bin op x y, none⟩ :: l) F Q ⟨sl, o, b⟩ := by
  subst ha hc
  refine r_op (o' := o) (v := vp r) rfl ?_ h
  simp only [aop, hx, hy, abin, hs, hr, if_true, Option.map_some]
theorem pow_cast (n : Nat) : ((2 : Int) ^ n) = ((2 ^ n : Nat) : Int) := by simp
theorem s_shr : shiftI .shr k (m : Int) (n : Int) = some (.int k ((m / 2 ^ (min n k.bits) : Nat) : Int)) := by
  simp only [shiftI]
  rw [if_neg (by omega), pow_cast, Int.fdiv_eq_ediv_of_nonneg _ (Int.natCast_nonneg _)]
  simp
theorem s_shlU : shiftI .shl .u64 (m : Int) (n : Int) = some (.int .u64 ((m * 2 ^ (min n 64) % 18446744073709551616 : Nat) : Int)) := by
  simp only [shiftI]
  rw [if_neg (by omega), wrap_u, pow_cast]; simp [IntKind.bits]
theorem s_shlW : shiftI .shl .u32 (m : Int) (n : Int) = some (.int .u32 ((m * 2 ^ (min n 32) % 4294967296 : Nat) : Int)) := by
  simp only [shiftI]
  rw [if_neg (by omega), wrap_w, pow_cast]; simp [IntKind.bits]
theorem s_shlI (h : m * 2 ^ n < 9223372036854775808) (h2 : n ≤ 63) : shiftI .shl .i64 (m : Int) (n : Int) = some (.int .i64 ((m * 2 ^ n : Nat) : Int)) := by
  simp only [shiftI]
  have e : min (n : Int).toNat IntKind.i64.bits = n := by simp [IntKind.bits]; omega
  rw [if_neg (by omega), pow_cast, e]
  rw [show ((m : Int) * ((2 ^ n : Nat) : Int)) = ((m * 2 ^ n : Nat) : Int) by simp]
  generalize m * 2 ^ n = q at h
  rw [wrap_i (by omega) (by omega)]
theorem s_shr32 (hb : 32 ≤ k.bits) : shiftI .shr k (m : Int) ((32 : Nat) : Int) = some (.int k ((m / 4294967296 : Nat) : Int)) := by
  have := s_shr (k := k) (m := m) (n := 32)
  rw [Nat.min_eq_left hb] at this; exact this
theorem s_shr63 (hb : 63 ≤ k.bits) : shiftI .shr k (m : Int) ((63 : Nat) : Int) = some (.int k ((m / 9223372036854775808 : Nat) : Int)) := by
  have := s_shr (k := k) (m := m) (n := 63)
  rw [Nat.min_eq_left hb] at this; exact this
theorem s_shr31 (hb : 31 ≤ k.bits) : shiftI .shr k (m : Int) ((31 : Nat) : Int) = some (.int k ((m / 2147483648 : Nat) : Int)) := by
  have := s_shr (k := k) (m := m) (n := 31)
  rw [Nat.min_eq_left hb] at this; exact this
theorem s_shr1 (hb : 1 ≤ k.bits) : shiftI .shr k (m : Int) ((1 : Nat) : Int) = some (.int k ((m / 2 : Nat) : Int)) := by
  have := s_shr (k := k) (m := m) (n := 1)
  rw [Nat.min_eq_left hb] at this; exact this
theorem s_shlU32 : shiftI .shl .u64 (m : Int) ((32 : Nat) : Int) = some (.int .u64 ((m * 4294967296 % 18446744073709551616 : Nat) : Int)) := s_shlU (n := 32)
theorem s_shlW1 : shiftI .shl .u32 (m : Int) ((1 : Nat) : Int) = some (.int .u32 ((m * 2 % 4294967296 : Nat) : Int)) := s_shlW (n := 1)
theorem s_shlW31 : shiftI .shl .u32 (m : Int) ((31 : Nat) : Int) = some (.int .u32 ((m * 2147483648 % 4294967296 : Nat) : Int)) := s_shlW (n := 31)
end
end Go.Av
