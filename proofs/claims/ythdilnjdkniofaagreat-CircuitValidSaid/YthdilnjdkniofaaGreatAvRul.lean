/- The abstract machine of the Av files: the walking rules under short names, their side conditions found by themselves. No condition. -/
import Derived.Test.YthdilnjdkniofaaGreatAvCall
namespace Go.Av
open Go

section
variable {Γ : Calls0} {l : List AO} {F : List Fr} {Q : Ex → St → Prop} {sl : Nat → AV} {o : Objs} {b : Nat} {d : Nat} {x y z : Opd} {a c : Int} {m n : Nat} {k k' : IntKind}

theorem zA {v : SV} (h : WO Γ l F Q ⟨upd sl d (.s v), o, b⟩) (hv : St.ev ⟨sl, o, b⟩ x = .s v := by exact rfl) : WO Γ (⟨some d, .mv x, none⟩ :: l) F Q ⟨sl, o, b⟩ := r_mv hv h
theorem zB {L : List SV} (h : WO Γ l F Q ⟨upd sl d (.tup L), o, b⟩) (hv : St.ev ⟨sl, o, b⟩ x = .tup L := by exact rfl) : WO Γ (⟨some d, .mv x, none⟩ :: l) F Q ⟨sl, o, b⟩ := r_mvT hv h
-- comparisons
theorem zC (h : WO Γ l F Q ⟨upd sl d (vb true), o, b⟩) (hx : St.ev ⟨sl, o, b⟩ x = .s (.c (.p (.int k a))) := by exact rfl) (hy : St.ev ⟨sl, o, b⟩ y = .s (.c (.p (.int k c))) := by exact rfl) (t : a < c := by omega) :
    WO Γ (⟨some d, .bin .lss x y, none⟩ :: l) F Q ⟨sl, o, b⟩ := p_lssT hx hy t h
theorem zD (h : WO Γ l F Q ⟨upd sl d (vb false), o, b⟩) (hx : St.ev ⟨sl, o, b⟩ x = .s (.c (.p (.int k a))) := by exact rfl) (hy : St.ev ⟨sl, o, b⟩ y = .s (.c (.p (.int k c))) := by exact rfl) (t : c ≤ a := by omega) :
    WO Γ (⟨some d, .bin .lss x y, none⟩ :: l) F Q ⟨sl, o, b⟩ := p_lssF hx hy t h
theorem zE (hT : a < c → WO Γ l F Q ⟨upd sl d (vb true), o, b⟩) (hF : c ≤ a → WO Γ l F Q ⟨upd sl d (vb false), o, b⟩) (hx : St.ev ⟨sl, o, b⟩ x = .s (.c (.p (.int k a))) := by exact rfl) (hy : St.ev ⟨sl, o, b⟩ y = .s (.c (.p (.int k c))) := by exact rfl) :
    WO Γ (⟨some d, .bin .lss x y, none⟩ :: l) F Q ⟨sl, o, b⟩ := p_lss hx hy hT hF
theorem zF (h : WO Γ l F Q ⟨upd sl d (vb true), o, b⟩) (hx : St.ev ⟨sl, o, b⟩ x = .s (.c (.p (.int k a))) := by exact rfl) (hy : St.ev ⟨sl, o, b⟩ y = .s (.c (.p (.int k c))) := by exact rfl) (t : c < a := by omega) :
    WO Γ (⟨some d, .bin .gtr x y, none⟩ :: l) F Q ⟨sl, o, b⟩ := p_gtrT hx hy t h
theorem zG (h : WO Γ l F Q ⟨upd sl d (vb false), o, b⟩) (hx : St.ev ⟨sl, o, b⟩ x = .s (.c (.p (.int k a))) := by exact rfl) (hy : St.ev ⟨sl, o, b⟩ y = .s (.c (.p (.int k c))) := by exact rfl) (t : a ≤ c := by omega) :
    WO Γ (⟨some d, .bin .gtr x y, none⟩ :: l) F Q ⟨sl, o, b⟩ := p_gtrF hx hy t h
theorem zH (hT : c < a → WO Γ l F Q ⟨upd sl d (vb true), o, b⟩) (hF : a ≤ c → WO Γ l F Q ⟨upd sl d (vb false), o, b⟩) (hx : St.ev ⟨sl, o, b⟩ x = .s (.c (.p (.int k a))) := by exact rfl) (hy : St.ev ⟨sl, o, b⟩ y = .s (.c (.p (.int k c))) := by exact rfl) :
    WO Γ (⟨some d, .bin .gtr x y, none⟩ :: l) F Q ⟨sl, o, b⟩ := p_gtr hx hy hT hF
theorem zI (h : WO Γ l F Q ⟨upd sl d (vb true), o, b⟩) (hx : St.ev ⟨sl, o, b⟩ x = .s (.c (.p (.int k a))) := by exact rfl) (hy : St.ev ⟨sl, o, b⟩ y = .s (.c (.p (.int k c))) := by exact rfl) (t : a ≤ c := by omega) :
    WO Γ (⟨some d, .bin .leq x y, none⟩ :: l) F Q ⟨sl, o, b⟩ := p_leqT hx hy t h
theorem zJ (h : WO Γ l F Q ⟨upd sl d (vb false), o, b⟩) (hx : St.ev ⟨sl, o, b⟩ x = .s (.c (.p (.int k a))) := by exact rfl) (hy : St.ev ⟨sl, o, b⟩ y = .s (.c (.p (.int k c))) := by exact rfl) (t : c < a := by omega) :
    WO Γ (⟨some d, .bin .leq x y, none⟩ :: l) F Q ⟨sl, o, b⟩ := p_leqF hx hy t h
theorem zK (hT : a ≤ c → WO Γ l F Q ⟨upd sl d (vb true), o, b⟩) (hF : c < a → WO Γ l F Q ⟨upd sl d (vb false), o, b⟩) (hx : St.ev ⟨sl, o, b⟩ x = .s (.c (.p (.int k a))) := by exact rfl) (hy : St.ev ⟨sl, o, b⟩ y = .s (.c (.p (.int k c))) := by exact rfl) :
    WO Γ (⟨some d, .bin .leq x y, none⟩ :: l) F Q ⟨sl, o, b⟩ := p_leq hx hy hT hF
theorem zL (h : WO Γ l F Q ⟨upd sl d (vb true), o, b⟩) (hx : St.ev ⟨sl, o, b⟩ x = .s (.c (.p (.int k a))) := by exact rfl) (hy : St.ev ⟨sl, o, b⟩ y = .s (.c (.p (.int k c))) := by exact rfl) (t : c ≤ a := by omega) :
    WO Γ (⟨some d, .bin .geq x y, none⟩ :: l) F Q ⟨sl, o, b⟩ := p_geqT hx hy t h
theorem zM (h : WO Γ l F Q ⟨upd sl d (vb false), o, b⟩) (hx : St.ev ⟨sl, o, b⟩ x = .s (.c (.p (.int k a))) := by exact rfl) (hy : St.ev ⟨sl, o, b⟩ y = .s (.c (.p (.int k c))) := by exact rfl) (t : a < c := by omega) :
    WO Γ (⟨some d, .bin .geq x y, none⟩ :: l) F Q ⟨sl, o, b⟩ := p_geqF hx hy t h
theorem zN (hT : c ≤ a → WO Γ l F Q ⟨upd sl d (vb true), o, b⟩) (hF : a < c → WO Γ l F Q ⟨upd sl d (vb false), o, b⟩) (hx : St.ev ⟨sl, o, b⟩ x = .s (.c (.p (.int k a))) := by exact rfl) (hy : St.ev ⟨sl, o, b⟩ y = .s (.c (.p (.int k c))) := by exact rfl) :
    WO Γ (⟨some d, .bin .geq x y, none⟩ :: l) F Q ⟨sl, o, b⟩ := p_geq hx hy hT hF
theorem zO (h : WO Γ l F Q ⟨upd sl d (vb true), o, b⟩) (hx : St.ev ⟨sl, o, b⟩ x = .s (.c (.p (.int k a))) := by exact rfl) (hy : St.ev ⟨sl, o, b⟩ y = .s (.c (.p (.int k c))) := by exact rfl) (t : a = c := by omega) :
    WO Γ (⟨some d, .bin .eql x y, none⟩ :: l) F Q ⟨sl, o, b⟩ := p_eqlT hx hy t h
theorem zP (h : WO Γ l F Q ⟨upd sl d (vb false), o, b⟩) (hx : St.ev ⟨sl, o, b⟩ x = .s (.c (.p (.int k a))) := by exact rfl) (hy : St.ev ⟨sl, o, b⟩ y = .s (.c (.p (.int k c))) := by exact rfl) (t : a ≠ c := by omega) :
    WO Γ (⟨some d, .bin .eql x y, none⟩ :: l) F Q ⟨sl, o, b⟩ := p_eqlF hx hy t h
theorem zQ (hT : a = c → WO Γ l F Q ⟨upd sl d (vb true), o, b⟩) (hF : a ≠ c → WO Γ l F Q ⟨upd sl d (vb false), o, b⟩) (hx : St.ev ⟨sl, o, b⟩ x = .s (.c (.p (.int k a))) := by exact rfl) (hy : St.ev ⟨sl, o, b⟩ y = .s (.c (.p (.int k c))) := by exact rfl) :
    WO Γ (⟨some d, .bin .eql x y, none⟩ :: l) F Q ⟨sl, o, b⟩ := p_eql hx hy hT hF
theorem zR (h : WO Γ l F Q ⟨upd sl d (vb true), o, b⟩) (hx : St.ev ⟨sl, o, b⟩ x = .s (.c (.p (.int k a))) := by exact rfl) (hy : St.ev ⟨sl, o, b⟩ y = .s (.c (.p (.int k c))) := by exact rfl) (t : a ≠ c := by omega) :
    WO Γ (⟨some d, .bin .neq x y, none⟩ :: l) F Q ⟨sl, o, b⟩ := p_neqT hx hy t h
theorem zS (h : WO Γ l F Q ⟨upd sl d (vb false), o, b⟩) (hx : St.ev ⟨sl, o, b⟩ x = .s (.c (.p (.int k a))) := by exact rfl) (hy : St.ev ⟨sl, o, b⟩ y = .s (.c (.p (.int k c))) := by exact rfl) (t : a = c := by omega) :
    WO Γ (⟨some d, .bin .neq x y, none⟩ :: l) F Q ⟨sl, o, b⟩ := p_neqF hx hy t h
theorem zT (hT : a ≠ c → WO Γ l F Q ⟨upd sl d (vb true), o, b⟩) (hF : a = c → WO Γ l F Q ⟨upd sl d (vb false), o, b⟩) (hx : St.ev ⟨sl, o, b⟩ x = .s (.c (.p (.int k a))) := by exact rfl) (hy : St.ev ⟨sl, o, b⟩ y = .s (.c (.p (.int k c))) := by exact rfl) :
    WO Γ (⟨some d, .bin .neq x y, none⟩ :: l) F Q ⟨sl, o, b⟩ := p_neq hx hy hT hF
-- arithmetic
theorem zU {op : BinOp} {r : PC} (h : WO Γ l F Q ⟨upd sl d (vp r), o, b⟩) (hx : St.ev ⟨sl, o, b⟩ x = .s (.c (.p (.int k a))) := by exact rfl) (hy : St.ev ⟨sl, o, b⟩ y = .s (.c (.p (.int k c))) := by exact rfl) (ha : a = (m : Int) := by first | with_reducible exact cself _ | exact nlit _) (hc : c = (n : Int) := by first | with_reducible exact cself _ | exact nlit _)
    (hs : BinOp.isShift op = false := by exact rfl) (hr : binI op k m n = some r := by first | (with_reducible refine b_addI ?_; omega) | (with_reducible refine b_addU ?_; omega) | (with_reducible refine b_addUm) | (with_reducible refine b_addWm) | (with_reducible refine b_subI ?_ ?_ <;> omega) | (with_reducible refine b_subU ?_ ?_ <;> omega) | (with_reducible refine b_subUm ?_; omega) | (with_reducible refine b_subWm ?_; omega) | (with_reducible refine b_mulI ?_; first | assumption | omega) | (with_reducible refine b_mulU ?_; first | assumption | omega) | (with_reducible refine b_mulUm) | (with_reducible refine b_quoI ?_ ?_ <;> omega) | (with_reducible refine b_quoU ?_ ?_ <;> omega) | (with_reducible refine b_rem ?_; omega) | (with_reducible refine b_andU ?_ ?_ <;> omega) | (with_reducible refine b_andW ?_ ?_ <;> omega) | (with_reducible refine b_orU ?_ ?_ <;> omega) | (with_reducible refine b_orW ?_ ?_ <;> omega)) : WO Γ (⟨some d, .bin op x y, none⟩ :: l) F Q ⟨sl, o, b⟩ := r_binN hx hy ha hc hs hr h
theorem zV {op : BinOp} {r : PC} (h : WO Γ l F Q ⟨upd sl d (vp r), o, b⟩) (hx : St.ev ⟨sl, o, b⟩ x = .s (.c (.p (.int k a))) := by exact rfl) (hy : St.ev ⟨sl, o, b⟩ y = .s (.c (.p (.int k c))) := by exact rfl)
    (hs : BinOp.isShift op = false := by exact rfl) (hr : binI op k a c = some r := by first | (with_reducible refine b_subZ ?_ ?_ <;> omega) | (with_reducible refine b_addZ ?_ ?_ <;> omega)) : WO Γ (⟨some d, .bin op x y, none⟩ :: l) F Q ⟨sl, o, b⟩ := r_binZ hx hy hs hr h
theorem zW {op : BinOp} {r : PC} (h : WO Γ l F Q ⟨upd sl d (vp r), o, b⟩) (hx : St.ev ⟨sl, o, b⟩ x = .s (.c (.p (.int k a))) := by exact rfl) (hy : St.ev ⟨sl, o, b⟩ y = .s (.c (.p (.int k' c))) := by exact rfl) (ha : a = (m : Int) := by first | with_reducible exact cself _ | exact nlit _) (hc : c = (n : Int) := by first | with_reducible exact cself _ | exact nlit _)
    (hs : BinOp.isShift op = true := by exact rfl) (hr : shiftI op k m n = some r := by first | (with_reducible refine s_shr32 ?_; decide) | (with_reducible refine s_shr31 ?_; decide) | (with_reducible refine s_shr63 ?_; decide) | (with_reducible refine s_shr1 ?_; decide) | with_reducible exact s_shlU32 | with_reducible exact s_shlW31 | with_reducible exact s_shlW1 | with_reducible exact s_shr | with_reducible exact s_shlU | with_reducible exact s_shlW) : WO Γ (⟨some d, .bin op x y, none⟩ :: l) F Q ⟨sl, o, b⟩ := r_shift hx hy ha hc hs hr h
-- lengths, indices, loads
theorem zX {xs : List Nat} {n : Nat} (h : WO Γ l F Q ⟨upd sl d (vn .i64 n), o, b⟩) (hv : St.ev ⟨sl, o, b⟩ x = vk k xs := by exact rfl) (hl : xs.length = n := by first | with_reducible exact List.length_nil | with_reducible exact len_1 _ | with_reducible exact len_2 _ _ | exact rfl) :
    WO Γ (⟨some d, .len x, none⟩ :: l) F Q ⟨sl, o, b⟩ := r_lenKL hv hl h
theorem zY {oi ver sz st n : Nat} (h : WO Γ l F Q ⟨upd sl d (vn .i64 n), o, b⟩) (hv : St.ev ⟨sl, o, b⟩ x = .s (.c (.rs oi ver sz st n)) := by exact rfl) : WO Γ (⟨some d, .len x, none⟩ :: l) F Q ⟨sl, o, b⟩ := r_lenR hv h
theorem zZ (h : WO Γ l F Q ⟨upd sl d (vn .i64 0), o, b⟩) (hv : St.ev ⟨sl, o, b⟩ x = .s (.c .e0) := by exact rfl) : WO Γ (⟨some d, .len x, none⟩ :: l) F Q ⟨sl, o, b⟩ := r_len0 hv h
theorem ya {xs : List (List PC)} (h : WO Γ l F Q ⟨upd sl d (vn .i64 xs.length), o, b⟩) (hv : St.ev ⟨sl, o, b⟩ x = vs xs := by exact rfl) : WO Γ (⟨some d, .len x, none⟩ :: l) F Q ⟨sl, o, b⟩ := r_lenP hv h
theorem yb {xs : List Nat} (h : WO Γ l F Q ⟨upd sl d (vp (.pref [.int k (xs.getD n 0 : Nat)])), o, b⟩) (hx : St.ev ⟨sl, o, b⟩ x = vk k xs := by exact rfl) (hi : St.ev ⟨sl, o, b⟩ y = .s (.c (.p (.int k' a))) := by exact rfl) (ha : a = (n : Int) := by first | with_reducible exact cself _ | exact nlit _) (hn : n < xs.length := by first | omega | (simp only [List.length_take, List.length_drop, List.length_cons, List.length_nil, List.length_append, List.length_set, List.length_replicate] <;> omega)) :
    WO Γ (⟨some d, .ia 1 x y, none⟩ :: l) F Q ⟨sl, o, b⟩ := r_iaK hx hi ha hn h
theorem yc {oi ver sz len : Nat} (h : WO Γ l F Q ⟨upd sl d (.s (.c (.ptr oi ver n 0))), o, b⟩) (hx : St.ev ⟨sl, o, b⟩ x = .s (.c (.rs oi ver sz 0 len)) := by exact rfl) (hi : St.ev ⟨sl, o, b⟩ y = .s (.c (.p (.int k' a))) := by exact rfl) (ha : a = (n : Int) := by first | with_reducible exact cself _ | exact nlit _) (hn : n < len := by first | omega | (simp only [List.length_take, List.length_drop, List.length_cons, List.length_nil, List.length_append, List.length_set, List.length_replicate] <;> omega)) :
    WO Γ (⟨some d, .ia sz x y, none⟩ :: l) F Q ⟨sl, o, b⟩ := r_iaR0 hx hi ha hn h
theorem yd {oi ver sz st len : Nat} (h : WO Γ l F Q ⟨upd sl d (.s (.c (.ptr oi ver (st + n) 0))), o, b⟩) (hx : St.ev ⟨sl, o, b⟩ x = .s (.c (.rs oi ver sz st len)) := by exact rfl) (hi : St.ev ⟨sl, o, b⟩ y = .s (.c (.p (.int k' a))) := by exact rfl) (ha : a = (n : Int) := by first | with_reducible exact cself _ | exact nlit _) (hn : n < len := by first | omega | (simp only [List.length_take, List.length_drop, List.length_cons, List.length_nil, List.length_append, List.length_set, List.length_replicate] <;> omega)) :
    WO Γ (⟨some d, .ia sz x y, none⟩ :: l) F Q ⟨sl, o, b⟩ := r_iaR hx hi ha hn h
theorem ye {c : PC} (h : WO Γ l F Q ⟨upd sl d (vp c), o, b⟩) (hx : St.ev ⟨sl, o, b⟩ x = vp (.pref [c]) := by exact rfl) : WO Γ (⟨some d, .load false 1 x, none⟩ :: l) F Q ⟨sl, o, b⟩ := r_ldP hx h
theorem yf {oi ver i : Nat} {xs : List Nat} (h : WO Γ l F Q ⟨upd sl d (vn k (xs.getD i 0)), o, b⟩) (hx : St.ev ⟨sl, o, b⟩ x = .s (.c (.ptr oi ver i 0)) := by exact rfl) (hm : o.is oi ver k xs := by assumption) (hi : i < xs.length := by first | omega | (simp only [List.length_take, List.length_drop, List.length_cons, List.length_nil, List.length_append, List.length_set, List.length_replicate] <;> omega)) :
    WO Γ (⟨some d, .load false 1 x, none⟩ :: l) F Q ⟨sl, o, b⟩ := r_ldK hx hm hi h
-- conversions
theorem yg (h : WO Γ l F Q ⟨upd sl d (vn .u32 (m % 4294967296)), o, b⟩) (hx : St.ev ⟨sl, o, b⟩ x = .s (.c (.p (.int k' a))) := by exact rfl) (ha : a = (m : Int) := by first | with_reducible exact cself _ | exact nlit _) : WO Γ (⟨some d, .conv .u32 x, none⟩ :: l) F Q ⟨sl, o, b⟩ := r_convWm hx ha h
theorem yh (h : WO Γ l F Q ⟨upd sl d (vn .u64 m), o, b⟩) (hx : St.ev ⟨sl, o, b⟩ x = .s (.c (.p (.int k' a))) := by exact rfl) (ha : a = (m : Int) := by first | with_reducible exact cself _ | exact nlit _) (hm : m < 18446744073709551616 := by omega) : WO Γ (⟨some d, .conv .u64 x, none⟩ :: l) F Q ⟨sl, o, b⟩ := r_convU hx ha hm h
theorem yi (h : WO Γ l F Q ⟨upd sl d (vn .u64 (m % 18446744073709551616)), o, b⟩) (hx : St.ev ⟨sl, o, b⟩ x = .s (.c (.p (.int k' a))) := by exact rfl) (ha : a = (m : Int) := by first | with_reducible exact cself _ | exact nlit _) : WO Γ (⟨some d, .conv .u64 x, none⟩ :: l) F Q ⟨sl, o, b⟩ := r_convUm hx ha h
theorem yj (h : WO Γ l F Q ⟨upd sl d (vn .i64 m), o, b⟩) (hx : St.ev ⟨sl, o, b⟩ x = .s (.c (.p (.int k' a))) := by exact rfl) (ha : a = (m : Int) := by first | with_reducible exact cself _ | exact nlit _) (hm : m < 9223372036854775808 := by omega) : WO Γ (⟨some d, .conv .i64 x, none⟩ :: l) F Q ⟨sl, o, b⟩ := r_convI hx ha hm h
theorem yk (h : WO Γ l F Q ⟨upd sl d (vn .u8 (m % 256)), o, b⟩) (hx : St.ev ⟨sl, o, b⟩ x = .s (.c (.p (.int k' a))) := by exact rfl) (ha : a = (m : Int) := by first | with_reducible exact cself _ | exact nlit _) : WO Γ (⟨some d, .conv .u8 x, none⟩ :: l) F Q ⟨sl, o, b⟩ := r_convBm hx ha h
-- choices, stores, slices
theorem yl {v : SV} (h : WO Γ l F Q ⟨upd sl d (.s v), o, b⟩) (hc : St.ev ⟨sl, o, b⟩ x = vb true := by exact rfl) (hv : St.ev ⟨sl, o, b⟩ y = .s v := by exact rfl) : WO Γ (⟨some d, .pick x y z, none⟩ :: l) F Q ⟨sl, o, b⟩ := r_pickT hc hv h
theorem ym {v : SV} (h : WO Γ l F Q ⟨upd sl d (.s v), o, b⟩) (hc : St.ev ⟨sl, o, b⟩ x = vb false := by exact rfl) (hv : St.ev ⟨sl, o, b⟩ z = .s v := by exact rfl) : WO Γ (⟨some d, .pick x y z, none⟩ :: l) F Q ⟨sl, o, b⟩ := r_pickF hc hv h
theorem yn {oi ver i : Nat} {xs : List Nat} {v : Nat} (h : ∀ o', o'.is oi ver k (xs.set i v) → (∀ o2 v2, ¬ (o2 = oi ∧ v2 = ver) → o'.m o2 v2 = o.m o2 v2) → o'.nv = o.nv → WO Γ l F Q ⟨sl, o', b⟩)
    (hx : St.ev ⟨sl, o, b⟩ x = .s (.c (.ptr oi ver i 0)) := by exact rfl) (hy : St.ev ⟨sl, o, b⟩ y = .s (.c (.p (.int k a))) := by exact rfl) (ha : a = (v : Int) := by first | with_reducible exact cself _ | exact nlit _) (hm : o.is oi ver k xs := by assumption) (hi : i < xs.length := by first | omega | (simp only [List.length_take, List.length_drop, List.length_cons, List.length_nil, List.length_append, List.length_set, List.length_replicate] <;> omega)) :
    WO Γ (⟨none, .store 1 x y, none⟩ :: l) F Q ⟨sl, o, b⟩ := r_stK hx hy ha hm hi h
theorem yo {xs : List Nat} (h : WO Γ l F Q ⟨upd sl d (vk k (xs.take n)), o, b⟩) (hx : St.ev ⟨sl, o, b⟩ x = vk k xs := by exact rfl) (hi : St.ev ⟨sl, o, b⟩ y = .s (.c (.p (.int k' a))) := by exact rfl) (ha : a = (n : Int) := by first | with_reducible exact cself _ | exact nlit _) (hn : n ≤ xs.length := by first | omega | (simp only [List.length_take, List.length_drop, List.length_cons, List.length_nil, List.length_append, List.length_set, List.length_replicate] <;> omega)) :
    WO Γ (⟨some d, .slice 1 x none (some y) none, none⟩ :: l) F Q ⟨sl, o, b⟩ := r_slcK hx hi ha hn h
theorem yp {oi ver sz st len : Nat} (h : WO Γ l F Q ⟨upd sl d (.s (.c (.rs oi ver sz st n))), o, b⟩) (hx : St.ev ⟨sl, o, b⟩ x = .s (.c (.rs oi ver sz st len)) := by exact rfl) (hi : St.ev ⟨sl, o, b⟩ y = .s (.c (.p (.int k' a))) := by exact rfl) (ha : a = (n : Int) := by first | with_reducible exact cself _ | exact nlit _) (hn : n ≤ len := by first | omega | (simp only [List.length_take, List.length_drop, List.length_cons, List.length_nil, List.length_append, List.length_set, List.length_replicate] <;> omega)) :
    WO Γ (⟨some d, .slice sz x none (some y) none, none⟩ :: l) F Q ⟨sl, o, b⟩ := r_slcR hx hi ha hn h
theorem yq {xs : List Nat} {k2 : IntKind} (h : WO Γ l F Q ⟨upd sl d (vk k ((xs.take n).drop m)), o, b⟩) (hx : St.ev ⟨sl, o, b⟩ x = vk k xs := by exact rfl) (hi : St.ev ⟨sl, o, b⟩ y = .s (.c (.p (.int k' a))) := by exact rfl)
    (hj : St.ev ⟨sl, o, b⟩ z = .s (.c (.p (.int k2 c))) := by exact rfl) (ha : a = (m : Int) := by first | with_reducible exact cself _ | exact nlit _) (hc : c = (n : Int) := by first | with_reducible exact cself _ | exact nlit _) (hm : m ≤ n := by first | omega | (simp only [List.length_take, List.length_drop, List.length_cons, List.length_nil, List.length_append, List.length_set, List.length_replicate] <;> omega)) (hn : n ≤ xs.length := by first | omega | (simp only [List.length_take, List.length_drop, List.length_cons, List.length_nil, List.length_append, List.length_set, List.length_replicate] <;> omega)) : WO Γ (⟨some d, .slice 1 x (some y) (some z) none, none⟩ :: l) F Q ⟨sl, o, b⟩ := r_slcK2 hx hi hj ha hc hm hn h
theorem xl {oi ver sz len : Nat} {k2 : IntKind} (h : WO Γ l F Q ⟨upd sl d (.s (.c (.rs oi ver sz m (n - m)))), o, b⟩) (hx : St.ev ⟨sl, o, b⟩ x = .s (.c (.rs oi ver sz 0 len)) := by exact rfl) (hi : St.ev ⟨sl, o, b⟩ y = .s (.c (.p (.int k' a))) := by exact rfl)
    (hj : St.ev ⟨sl, o, b⟩ z = .s (.c (.p (.int k2 c))) := by exact rfl) (ha : a = (m : Int) := by first | with_reducible exact cself _ | exact nlit _) (hc : c = (n : Int) := by first | with_reducible exact cself _ | exact nlit _) (hm : m ≤ n := by first | omega | (simp only [List.length_take, List.length_drop, List.length_cons, List.length_nil, List.length_append, List.length_set, List.length_replicate] <;> omega)) (hn : n ≤ len := by first | omega | (simp only [List.length_take, List.length_drop, List.length_cons, List.length_nil, List.length_append, List.length_set, List.length_replicate] <;> omega)) : WO Γ (⟨some d, .slice sz x (some y) (some z) none, none⟩ :: l) F Q ⟨sl, o, b⟩ := r_slcR2 hx hi hj ha hc hm hn h
theorem yr {id bytes sz : Nat} (h : ∀ o', o'.is (b + id) (o.nv (b + id)) k (List.replicate n 0) → (∀ o2 v2, ¬ (o2 = b + id ∧ v2 = o.nv (b + id)) → o'.m o2 v2 = o.m o2 v2) →
      (∀ o2, o'.nv o2 = if o2 = b + id then o.nv (b + id) + 1 else o.nv o2) → WO Γ l F Q ⟨upd sl d (.s (.c (.rs (b + id) (o.nv (b + id)) 1 0 n))), o', b⟩)
    (hx : St.ev ⟨sl, o, b⟩ x = .s (.c (.p (.int .i64 a))) := by exact rfl) (ha : a = (n : Int) := by first | with_reducible exact cself _ | exact nlit _) (hb : bytes * n ≤ 281474976710656 := by omega) (hn : n ≤ 9223372036854775807 := by omega) (hs : sz = 1 := by exact rfl) :
    WO Γ (⟨some d, .mk id sz bytes [.p (.int k 0)] x x, none⟩ :: l) F Q ⟨sl, o, b⟩ := r_mkK hx ha hb hn hs h
theorem ys {t : Bool} (h : WO Γ l F Q ⟨upd sl d (vb !t), o, b⟩) (hv : St.ev ⟨sl, o, b⟩ x = vb t := by exact rfl) : WO Γ (⟨some d, .un .not x, none⟩ :: l) F Q ⟨sl, o, b⟩ := r_not hv h
theorem yt {i : Nat} {L : List SV} {v : SV} (h : WO Γ l F Q ⟨upd sl d (.s v), o, b⟩) (hx : St.ev ⟨sl, o, b⟩ x = .tup L := by exact rfl) (hv : L[i]? = some v := by exact rfl) : WO Γ (⟨some d, .ext i x, none⟩ :: l) F Q ⟨sl, o, b⟩ := r_ext hx hv h
theorem yu {zz : C} (h : WO Γ l F Q ⟨upd sl d (vk k [n]), o, b⟩) (hx : St.ev ⟨sl, o, b⟩ x = .s (.c (.p (.int k a))) := by exact rfl) (ha : a = (n : Int) := by first | with_reducible exact cself _ | exact nlit _) : WO Γ (⟨some d, .slP 1 1 [zz] [(0, 1, x)], none⟩ :: l) F Q ⟨sl, o, b⟩ := r_slP1 hx ha h
theorem yv {zz zw : C} (h : WO Γ l F Q ⟨upd sl d (vk k [n, m]), o, b⟩) (hx : St.ev ⟨sl, o, b⟩ x = .s (.c (.p (.int k a))) := by exact rfl) (hy : St.ev ⟨sl, o, b⟩ y = .s (.c (.p (.int k c))) := by exact rfl) (ha : a = (n : Int) := by first | with_reducible exact cself _ | exact nlit _) (hc : c = (m : Int) := by first | with_reducible exact cself _ | exact nlit _) :
    WO Γ (⟨some d, .slP 2 1 [zz, zw] [(0, 1, x), (1, 1, y)], none⟩ :: l) F Q ⟨sl, o, b⟩ := r_slP2 hx ha hy hc h
theorem yw {id sz : Nat} (h : ∀ o', o'.is (b + id) (o.nv (b + id)) .u32 [] → (∀ o2 v2, ¬ (o2 = b + id ∧ v2 = o.nv (b + id)) → o'.m o2 v2 = o.m o2 v2) →
      (∀ o2, o'.nv o2 = if o2 = b + id then o.nv (b + id) + 1 else o.nv o2) → WO Γ l F Q ⟨upd sl d (.s (.c (.rs (b + id) (o.nv (b + id)) 1 0 0))), o', b⟩) (hs : sz = 1 := by exact rfl) :
    WO Γ (⟨some d, .slO id 0 sz [] [], none⟩ :: l) F Q ⟨sl, o, b⟩ := r_slO0 .u32 hs h
theorem yx (h : WO Γ l F Q ⟨upd sl d (vi k a), o, b⟩) (hx : St.ev ⟨sl, o, b⟩ x = .s (.c (.p (.int k a))) := by exact rfl) (hy : St.ev ⟨sl, o, b⟩ y = .s (.c (.p (.int k c))) := by exact rfl) (hl : a ≤ c := by omega) :
    WO Γ (⟨some d, .minI x y, none⟩ :: l) F Q ⟨sl, o, b⟩ := r_minIL hx hy hl h
theorem yy (h : WO Γ l F Q ⟨upd sl d (vi k c), o, b⟩) (hx : St.ev ⟨sl, o, b⟩ x = .s (.c (.p (.int k a))) := by exact rfl) (hy : St.ev ⟨sl, o, b⟩ y = .s (.c (.p (.int k c))) := by exact rfl) (hl : c ≤ a := by omega) :
    WO Γ (⟨some d, .minI x y, none⟩ :: l) F Q ⟨sl, o, b⟩ := r_minIG hx hy hl h
theorem qp (h : WO Γ l F Q ⟨upd sl d (vi k a), o, b⟩) (hx : St.ev ⟨sl, o, b⟩ x = .s (.c (.p (.int k a))) := by exact rfl) (hy : St.ev ⟨sl, o, b⟩ y = .s (.c (.p (.int k c))) := by exact rfl) (hl : c ≤ a := by omega) :
    WO Γ (⟨some d, .maxI x y, none⟩ :: l) F Q ⟨sl, o, b⟩ := r_maxIL hx hy hl h
theorem qq (h : WO Γ l F Q ⟨upd sl d (vi k c), o, b⟩) (hx : St.ev ⟨sl, o, b⟩ x = .s (.c (.p (.int k a))) := by exact rfl) (hy : St.ev ⟨sl, o, b⟩ y = .s (.c (.p (.int k c))) := by exact rfl) (hl : a ≤ c := by omega) :
    WO Γ (⟨some d, .maxI x y, none⟩ :: l) F Q ⟨sl, o, b⟩ := r_maxIG hx hy hl h
-- appends
theorem yz {id sz bytes oi ver st len : Nat} {xs ys : List Nat} (h : ∀ o', o'.is oi (o.nv oi) k (xs.drop st ++ ys) → (∀ o2 v2, o2 ≠ oi → o'.m o2 v2 = o.m o2 v2) → (∀ o2, o'.nv o2 = if o2 = oi then o.nv oi + 1 else o.nv o2) →
      WO Γ l F Q ⟨upd sl d (.s (.c (.rs oi (o.nv oi) 1 0 (len + ys.length)))), o', b⟩)
    (hx : St.ev ⟨sl, o, b⟩ x = .s (.c (.rs oi ver 1 st len)) := by exact rfl) (hy : St.ev ⟨sl, o, b⟩ y = vk k ys := by exact rfl) (hs : sz = 1 := by exact rfl) (hm : o.is oi ver k xs := by assumption) (hl : st + len = xs.length := by first | omega | (simp only [List.length_take, List.length_drop, List.length_cons, List.length_nil, List.length_append, List.length_set, List.length_replicate] <;> omega))
    (hb : (len + ys.length) * bytes ≤ 140737488355328 := by first | omega | (simp only [List.length_take, List.length_drop, List.length_cons, List.length_nil, List.length_append, List.length_set, List.length_replicate] <;> omega)) (hn : len + ys.length ≤ 140737488355328 := by first | omega | (simp only [List.length_take, List.length_drop, List.length_cons, List.length_nil, List.length_append, List.length_set, List.length_replicate] <;> omega)) : WO Γ (⟨some d, .app id sz bytes x y, none⟩ :: l) F Q ⟨sl, o, b⟩ := r_app hx hy hs hm hl hb hn h
theorem xa {id sz bytes : Nat} {ys : List Nat} (h : WO Γ l F Q ⟨upd sl d (.s (.c .e0)), o, b⟩) (hx : St.ev ⟨sl, o, b⟩ x = .s (.c .e0) := by exact rfl) (hy : St.ev ⟨sl, o, b⟩ y = vk k ys := by exact rfl) (hs : sz = 1 := by exact rfl) (he : ys.length = 0 := by first | omega | (simp only [List.length_take, List.length_drop, List.length_cons, List.length_nil, List.length_append, List.length_set, List.length_replicate] <;> omega)) :
    WO Γ (⟨some d, .app id sz bytes x y, none⟩ :: l) F Q ⟨sl, o, b⟩ := r_app0E hx hy hs he h
theorem xb {id sz bytes : Nat} {ys : List Nat} (h : ∀ o', o'.is (b + id) (o.nv (b + id)) k ys → (∀ o2 v2, ¬ (o2 = b + id ∧ v2 = o.nv (b + id)) → o'.m o2 v2 = o.m o2 v2) →
      (∀ o2, o'.nv o2 = if o2 = b + id then o.nv (b + id) + 1 else o.nv o2) → WO Γ l F Q ⟨upd sl d (.s (.c (.rs (b + id) (o.nv (b + id)) 1 0 ys.length))), o', b⟩)
    (hx : St.ev ⟨sl, o, b⟩ x = .s (.c .e0) := by exact rfl) (hy : St.ev ⟨sl, o, b⟩ y = vk k ys := by exact rfl) (hs : sz = 1 := by exact rfl) (he : ys.length ≠ 0 := by first | omega | (simp only [List.length_take, List.length_drop, List.length_cons, List.length_nil, List.length_append, List.length_set, List.length_replicate] <;> omega)) (hb : ys.length * bytes ≤ 140737488355328 := by first | omega | (simp only [List.length_take, List.length_drop, List.length_cons, List.length_nil, List.length_append, List.length_set, List.length_replicate] <;> omega)) (hn : ys.length ≤ 140737488355328 := by first | omega | (simp only [List.length_take, List.length_drop, List.length_cons, List.length_nil, List.length_append, List.length_set, List.length_replicate] <;> omega)) :
    WO Γ (⟨some d, .app id sz bytes x y, none⟩ :: l) F Q ⟨sl, o, b⟩ := r_app0 hx hy hs he hb hn h
-- structs
theorem qa {off : Nat} {cs : List PC} {c : PC} (h : WO Γ l F Q ⟨upd sl d (vp (.pref [c])), o, b⟩) (hx : St.ev ⟨sl, o, b⟩ x = vp (.pref cs) := by exact rfl) (hc : cs[off]? = some c := by exact rfl) : WO Γ (⟨some d, .fa off 1 x, none⟩ :: l) F Q ⟨sl, o, b⟩ := r_faP1 hx hc h
theorem qb {oi ver i f off n : Nat} (h : WO Γ l F Q ⟨upd sl d (.s (.c (.ptr oi ver i (f + off)))), o, b⟩) (hx : St.ev ⟨sl, o, b⟩ x = .s (.c (.ptr oi ver i f)) := by exact rfl) : WO Γ (⟨some d, .fa off n x, none⟩ :: l) F Q ⟨sl, o, b⟩ := r_faR hx h
theorem qc {off : Nat} {cs : List C} {c : C} (h : WO Γ l F Q ⟨upd sl d (.s (.c c)), o, b⟩) (hx : St.ev ⟨sl, o, b⟩ x = .s (.agg cs) := by exact rfl) (hc : cs[off]? = some c := by exact rfl) : WO Γ (⟨some d, .fld false off 1 x, none⟩ :: l) F Q ⟨sl, o, b⟩ := r_fld1 hx hc h
theorem qd {z1 z2 z3 c : C} (h : WO Γ l F Q ⟨upd sl d (.s (.agg [z1, z2, c])), o, b⟩) (hx : St.ev ⟨sl, o, b⟩ x = .s (.c c) := by exact rfl) : WO Γ (⟨some d, .build [z1, z2, z3] [(2, 1, x)], none⟩ :: l) F Q ⟨sl, o, b⟩ := r_bd3 hx h
theorem qe {z1 z2 z3 c e : C} (h : WO Γ l F Q ⟨upd sl d (.s (.agg [z1, c, e])), o, b⟩) (hx : St.ev ⟨sl, o, b⟩ x = .s (.c c) := by exact rfl) (hy : St.ev ⟨sl, o, b⟩ y = .s (.c e) := by exact rfl) : WO Γ (⟨some d, .build [z1, z2, z3] [(1, 1, x), (2, 1, y)], none⟩ :: l) F Q ⟨sl, o, b⟩ := r_bd23 hx hy h
theorem qf {z1 z2 z3 c e f : C} (h : WO Γ l F Q ⟨upd sl d (.s (.agg [c, e, f])), o, b⟩) (hx : St.ev ⟨sl, o, b⟩ x = .s (.c c) := by exact rfl) (hy : St.ev ⟨sl, o, b⟩ y = .s (.c e) := by exact rfl) (hz : St.ev ⟨sl, o, b⟩ z = .s (.c f) := by exact rfl) :
    WO Γ (⟨some d, .build [z1, z2, z3] [(0, 1, x), (1, 1, y), (2, 1, z)], none⟩ :: l) F Q ⟨sl, o, b⟩ := r_bd123 hx hy hz h
theorem qg {cs : List C} {ps : List PC} (h : WO Γ l F Q ⟨upd sl d (vp (.pref ps)), o, b⟩) (hx : St.ev ⟨sl, o, b⟩ x = .s (.agg cs) := by exact rfl) (hp : allSome (cs.map C.pure?) = some ps := by exact rfl) : WO Γ (⟨some d, .boxP x, none⟩ :: l) F Q ⟨sl, o, b⟩ := r_boxP hx hp h
theorem qh {oi ver n : Nat} {cells : List C} (h : WO Γ l F Q ⟨upd sl d (.s (.agg cells)), o, b⟩) (hx : St.ev ⟨sl, o, b⟩ x = .s (.c (.ptr oi ver 0 0)) := by exact rfl) (hm : o.cel oi ver cells := by assumption) (hc : cells.length = n := by exact rfl) : WO Γ (⟨some d, .load true n x, none⟩ :: l) F Q ⟨sl, o, b⟩ := r_ldA hx hm hc h
theorem qi {oi ver off : Nat} {cells : List C} {c : C} (h : WO Γ l F Q ⟨upd sl d (.s (.c c)), o, b⟩) (hx : St.ev ⟨sl, o, b⟩ x = .s (.c (.ptr oi ver 0 off)) := by exact rfl) (hm : o.cel oi ver cells := by assumption) (hc : cells[off]? = some c := by exact rfl) : WO Γ (⟨some d, .load false 1 x, none⟩ :: l) F Q ⟨sl, o, b⟩ := r_ldF hx hm hc h
theorem qj {n : Nat} {cs : List PC} (h : WO Γ l F Q ⟨upd sl d (.s (.agg (cs.map C.p))), o, b⟩) (hx : St.ev ⟨sl, o, b⟩ x = vp (.pref cs) := by exact rfl) (hn : cs.length = n := by exact rfl) : WO Γ (⟨some d, .load true n x, none⟩ :: l) F Q ⟨sl, o, b⟩ := r_ldPA hx hn h
theorem qn {p q : Bool} (h : WO Γ l F Q ⟨upd sl d (vb (!(p == q))), o, b⟩) (hx : St.ev ⟨sl, o, b⟩ x = vb p := by exact rfl) (hy : St.ev ⟨sl, o, b⟩ y = vb q := by exact rfl) : WO Γ (⟨some d, .binB .neq x y, none⟩ :: l) F Q ⟨sl, o, b⟩ := r_bbN hx hy h
theorem qo {p q : Bool} (h : WO Γ l F Q ⟨upd sl d (vb (p == q)), o, b⟩) (hx : St.ev ⟨sl, o, b⟩ x = vb p := by exact rfl) (hy : St.ev ⟨sl, o, b⟩ y = vb q := by exact rfl) : WO Γ (⟨some d, .binB .eql x y, none⟩ :: l) F Q ⟨sl, o, b⟩ := r_bbE hx hy h
theorem qk {id : Nat} {zero : List C} (h : ∀ o', o'.cel (b + id) (o.nv (b + id)) zero → (∀ o2 v2, ¬ (o2 = b + id ∧ v2 = o.nv (b + id)) → o'.m o2 v2 = o.m o2 v2) → (∀ o2, o'.nv o2 = if o2 = b + id then o.nv (b + id) + 1 else o.nv o2) →
      WO Γ l F Q ⟨upd sl d (.s (.c (.ptr (b + id) (o.nv (b + id)) 0 0))), o', b⟩) : WO Γ (⟨some d, .alloc id zero, none⟩ :: l) F Q ⟨sl, o, b⟩ := r_alloc h
theorem ql {oi ver n : Nat} {cells cs : List C} (h : ∀ o', o'.cel oi ver cs → (∀ o2 v2, ¬ (o2 = oi ∧ v2 = ver) → o'.m o2 v2 = o.m o2 v2) → o'.nv = o.nv → WO Γ l F Q ⟨sl, o', b⟩) (hx : St.ev ⟨sl, o, b⟩ x = .s (.c (.ptr oi ver 0 0)) := by exact rfl) (hy : St.ev ⟨sl, o, b⟩ y = .s (.agg cs) := by exact rfl)
    (hm : o.cel oi ver cells := by assumption) (hn : cs.length = n := by exact rfl) (hc : cells.length = n := by exact rfl) : WO Γ (⟨none, .store n x y, none⟩ :: l) F Q ⟨sl, o, b⟩ := r_stA hx hy hm hn hc h
theorem qm {oi ver off : Nat} {cells : List C} {c : C} (h : ∀ o', o'.cel oi ver (cells.set off c) → (∀ o2 v2, ¬ (o2 = oi ∧ v2 = ver) → o'.m o2 v2 = o.m o2 v2) → o'.nv = o.nv → WO Γ l F Q ⟨sl, o', b⟩) (hx : St.ev ⟨sl, o, b⟩ x = .s (.c (.ptr oi ver 0 off)) := by exact rfl) (hy : St.ev ⟨sl, o, b⟩ y = .s (.c c) := by exact rfl)
    (hm : o.cel oi ver cells := by assumption) (hc : off < cells.length := by decide) : WO Γ (⟨none, .store 1 x y, none⟩ :: l) F Q ⟨sl, o, b⟩ := r_stF hx hy hm hc h
-- guards and ends
theorem xc {op : AOp} {t : Nat} {w : Bool} (h : WO Γ l F Q ⟨upd sl d (.tup []), o, b⟩) (hg : sl t = vb (!w) := by exact rfl) : WO Γ (⟨some d, op, some (t, w)⟩ :: l) F Q ⟨sl, o, b⟩ := r_gF hg h
theorem xd {op : AOp} {D : Option Nat} {t : Nat} {w : Bool} (h : WO Γ (⟨D, op, none⟩ :: l) F Q ⟨sl, o, b⟩) (hg : sl t = vb w := by exact rfl) : WO Γ (⟨D, op, some (t, w)⟩ :: l) F Q ⟨sl, o, b⟩ := r_gT hg h
theorem xe {op : AOp} {t : Nat} {w : Bool} (h : WO Γ l F Q ⟨upd sl d (.tup []), o, b⟩) (hg : sl t = .tup [] := by exact rfl) : WO Γ (⟨some d, op, some (t, w)⟩ :: l) F Q ⟨sl, o, b⟩ := r_gN hg h
theorem xf {op : AOp} {t : Nat} {w : Bool} (h : WO Γ l F Q ⟨sl, o, b⟩) (hg : sl t = vb (!w) := by exact rfl) : WO Γ (⟨none, op, some (t, w)⟩ :: l) F Q ⟨sl, o, b⟩ := r_gF0 hg h
theorem xg {op : AOp} {t : Nat} {w : Bool} (h : WO Γ l F Q ⟨sl, o, b⟩) (hg : sl t = .tup [] := by exact rfl) : WO Γ (⟨none, op, some (t, w)⟩ :: l) F Q ⟨sl, o, b⟩ := r_gN0 hg h
end
section
variable {Γ : Calls0} {F : List Fr} {Q : Ex → St → Prop} {s : St} {c : Opd} {A B : ACode}
theorem xh (h : WC Γ A F Q s) (hc : s.ev c = vb true := by exact rfl) : WC Γ (.cond c A B) F Q s := w_condT hc h
theorem xi (h : WC Γ B F Q s) (hc : s.ev c = vb false := by exact rfl) : WC Γ (.cond c A B) F Q s := w_condF hc h
theorem xj {t : Bool} (hT : t = true → WC Γ A F Q s) (hF : t = false → WC Γ B F Q s) (hc : s.ev c = vb t := by exact rfl) : WC Γ (.cond c A B) F Q s := w_cond hc hT hF
theorem xk {i j : Nat} (h : CC Γ F Q (.exit j) s) (hne : Nat.beq j i = false := by exact rfl) : CC Γ (.blk i :: F) Q (.exit j) s := c_blkE hne h
end
end Go.Av
namespace Go.Av
/-- One step of a walk. -/
theorem st {G P : Prop} (h : P) (r : P → G := by intro h; first | (refine g_WO ?_; first | (refine g_N ?_; first | (refine g_mv ?_; first | exact zA h | exact zB h | fail) | (refine g_bin ?_; first | (refine g_lss ?_; first | exact zC h | exact zD h | fail) | (refine g_gtr ?_; first | exact zF h | exact zG h | fail) | (refine g_leq ?_; first | exact zI h | exact zJ h | fail) | (refine g_geq ?_; first | exact zL h | exact zM h | fail) | (refine g_eql ?_; first | exact zO h | exact zP h | fail) | (refine g_neq ?_; first | exact zR h | exact zS h | fail) | (refine g_shr ?_; exact zW h) | (refine g_shl ?_; exact zW h) | exact zU h | exact zV h | fail) | (refine g_len ?_; first | exact zX h | exact zY h | exact zZ h | exact ya h | fail) | (refine g_ia ?_; first | exact yb h | exact yc h | exact yd h | fail) | (refine g_load ?_; first | exact ye h | exact yf h | exact qi h | exact qh h | exact qj h | fail) | (refine g_fa ?_; first | exact qa h | exact qb h | fail) | (refine g_fld ?_; exact qc h) | (refine g_box ?_; exact qg h) | (refine g_binB ?_; first | exact qn h | exact qo h | fail) | (refine g_build ?_; first | exact qd h | exact qe h | exact qf h | fail) | (refine g_conv ?_; first | exact yg h | exact yh h | exact yi h | exact yj h | exact yk h | fail) | (refine g_pick ?_; first | exact yl h | exact ym h | fail) | (refine g_slice ?_; first | exact yo h | exact yp h | exact yq h | exact xl h | fail) | (refine g_un ?_; exact ys h) | (refine g_ext ?_; exact yt h) | (refine g_slP ?_; first | exact yu h | exact yv h | fail) | (refine g_minI ?_; first | exact yx h | exact yy h | fail) | (refine g_maxI ?_; first | exact qp h | exact qq h | fail) | (refine g_app ?_; exact xa h) | fail) | exact xc h | exact xd h | exact xe h | exact xf h | exact xg h | exact r_nil h | fail) | (refine g_WC ?_; first | exact w_seq h | exact w_region h | exact w_block h | exact w_skip h | exact w_ret h | exact w_exit h | exact xh h | exact xi h | fail) | (refine g_CC ?_; first | exact c_seqN h | exact c_seqE h | exact c_seqR h | exact c_blkN h | exact c_blkS h | exact xk h | exact c_blkR h | exact c_invN h | exact c_invE h | exact c_invR h | exact c_nil h | fail) | fail) : G := r h
/-- A step that parts the ways. -/
theorem s2 {G A B P R : Prop} (h : A → P) (k : B → R) (r : (A → P) → (B → R) → G := by intro h k; first | (refine g_WO ?_; refine g_N ?_; refine g_bin ?_; first | exact zE h k | exact zH h k | exact zK h k | exact zN h k | exact zQ h k | exact zT h k | fail) | exact xj h k | fail) : G := r h k
/-- A step that turns the objects. -/
theorem s4 {G : Prop} {A B C P : Objs → Prop} (h : ∀ o, A o → B o → C o → P o) (r : (∀ o, A o → B o → C o → P o) → G := by intro h; refine g_WO ?_; refine g_N ?_; first | (refine g_store ?_; first | exact yn h | exact ql h | exact qm h | fail) | (refine g_alloc ?_; exact qk h) | (refine g_mk ?_; exact yr h) | (refine g_slO ?_; exact yw h) | (refine g_app ?_; first | exact yz h | exact xb h | fail) | fail) : G := r h
end Go.Av
namespace Go.Av
open Go
section
variable {Γ : Calls0} {l : List AO} {F : List Fr} {Q : Ex → St → Prop} {sl : Nat → AV} {o : Objs} {b : Nat} {d : Nat} {x y z : Opd}
theorem p_callG {g : Nat} {args : List Opd} {sv : List SV} {pv : List PSV} {res : PAV} (hc : PureC Γ g pv res) (ha : argsOf ⟨sl, o, b⟩ args = some sv) (hu : allSome (sv.map SV.pure?) = some pv)
    (h : WO Γ l F Q ⟨upd sl d res.up, o, b⟩) : WO Γ (⟨some d, .callP g args, none⟩ :: l) F Q ⟨sl, o, b⟩ := by
  have h := h.h
  constructor
  unfold WpO
  simp only [guardV, ha, thenO, hu, St.put]
  exact ⟨res, hc, h⟩
theorem p_call1 {g : Nat} {args : List Opd} {sv : List SV} {pv : List PSV} {r : PC} (hc : PureC Γ g pv (.s (.c r))) (ha : argsOf ⟨sl, o, b⟩ args = some sv) (hu : allSome (sv.map SV.pure?) = some pv)
    (h : WO Γ l F Q ⟨upd sl d (vp r), o, b⟩) : WO Γ (⟨some d, .callP g args, none⟩ :: l) F Q ⟨sl, o, b⟩ := p_callG hc ha hu h
theorem p_callA {g : Nat} {args : List Opd} {sv : List SV} {pv : List PSV} {r : List PC} (hc : PureC Γ g pv (.s (.agg r))) (ha : argsOf ⟨sl, o, b⟩ args = some sv) (hu : allSome (sv.map SV.pure?) = some pv)
    (h : WO Γ l F Q ⟨upd sl d (.s (.agg (r.map C.p))), o, b⟩) : WO Γ (⟨some d, .callP g args, none⟩ :: l) F Q ⟨sl, o, b⟩ := p_callG hc ha hu h
theorem r_iaS {sz : Nat} {xs : List (List PC)} {row : List PC} {k' : IntKind} {a : Int} {n : Nat} (hx : St.ev ⟨sl, o, b⟩ x = vs xs) (hi : St.ev ⟨sl, o, b⟩ y = .s (.c (.p (.int k' a)))) (ha : a = (n : Int)) (hr : xs[n]? = some row) (hl : row.length = sz)
    (h : WO Γ l F Q ⟨upd sl d (vp (.pref row)), o, b⟩) : WO Γ (⟨some d, .ia sz x y, none⟩ :: l) F Q ⟨sl, o, b⟩ := by
  refine r_op (o' := o) (v := vp (.pref row)) rfl ?_ h
  subst ha
  have hn := (List.getElem?_eq_some_iff.1 hr).1
  simp only [aop, hx, hi, AV.int?, Int.toNat_natCast]
  rw [if_pos (by omega), hr]
  simp [hl]
end
end Go.Av
namespace Go.Av
open Go
/-- Of an object: it is a list of these rows. -/
def Objs.rws (o : Objs) (id ver sz : Nat) (rows : List (List C)) : Prop := o.m id ver = some ⟨sz, rows, false⟩
section
variable {Γ : Calls0} {l : List AO} {F : List Fr} {Q : Ex → St → Prop} {sl : Nat → AV} {o : Objs} {b : Nat} {d : Nat} {x y z : Opd}
theorem gr_mk {id bytes sz : Nat} {zero : List C} {a : Int} {n : Nat} (hx : St.ev ⟨sl, o, b⟩ x = .s (.c (.p (.int .i64 a)))) (ha : a = (n : Int)) (hb : bytes * n ≤ 281474976710656) (hn : n ≤ 9223372036854775807) (hs : zero.length = sz)
    (h : ∀ o', o'.rws (b + id) (o.nv (b + id)) sz (List.replicate n zero) → (∀ o2 v2, ¬ (o2 = b + id ∧ v2 = o.nv (b + id)) → o'.m o2 v2 = o.m o2 v2) →
      (∀ o2, o'.nv o2 = if o2 = b + id then o.nv (b + id) + 1 else o.nv o2) → WO Γ l F Q ⟨upd sl d (.s (.c (.rs (b + id) (o.nv (b + id)) sz 0 n))), o', b⟩) :
    WO Γ (⟨some d, .mk id sz bytes zero x x, none⟩ :: l) F Q ⟨sl, o, b⟩ := by
  subst ha hs
  refine r_op (o' := o.new (b + id) ⟨zero.length, List.replicate n zero, false⟩) (v := .s (.c (.rs (b + id) (o.nv (b + id)) zero.length 0 n))) rfl ?_ (h _ (by simp [Objs.rws, Objs.new]) (fun o2 v2 hne => by simp only [Objs.new, if_neg hne]) (fun o2 => rfl))
  simp only [aop, hx, AV.int?]
  rw [if_pos ⟨by omega, by omega, by omega, by omega, trivial⟩]
  simp [newObj]
theorem gr_stA {oi ver i n sz : Nat} {rows : List (List C)} {row cs : List C} (hx : St.ev ⟨sl, o, b⟩ x = .s (.c (.ptr oi ver i 0))) (hy : St.ev ⟨sl, o, b⟩ y = .s (.agg cs)) (hm : o.rws oi ver sz rows) (hr : rows[i]? = some row) (hn : cs.length = n) (hc : row.length = n)
    (h : ∀ o', o'.rws oi ver sz (rows.set i cs) → (∀ o2 v2, ¬ (o2 = oi ∧ v2 = ver) → o'.m o2 v2 = o.m o2 v2) → o'.nv = o.nv → WO Γ l F Q ⟨sl, o', b⟩) : WO Γ (⟨none, .store n x y, none⟩ :: l) F Q ⟨sl, o, b⟩ := by
  unfold Objs.rws at hm
  refine r_op0 (o' := o.set oi ver (some ⟨sz, rows.set i cs, false⟩)) (v := .tup []) rfl ?_ (h _ (by simp [Objs.rws, Objs.set]) (fun o2 v2 hne => by simp only [Objs.set, if_neg hne]) rfl)
  simp only [aop, hx, hy, hm, AV.cells?, SV.cells, hr]
  rw [if_pos ⟨trivial, hn, by omega⟩]
  simp only [setAt, List.take_zero, List.nil_append, Nat.zero_add]
  rw [List.drop_eq_nil_of_le (by omega), List.append_nil]
theorem gr_ldA {oi ver i n sz : Nat} {rows : List (List C)} {row : List C} (hx : St.ev ⟨sl, o, b⟩ x = .s (.c (.ptr oi ver i 0))) (hm : o.rws oi ver sz rows) (hr : rows[i]? = some row) (hc : row.length = n) (h : WO Γ l F Q ⟨upd sl d (.s (.agg row)), o, b⟩) : WO Γ (⟨some d, .load true n x, none⟩ :: l) F Q ⟨sl, o, b⟩ := by
  unfold Objs.rws at hm
  refine r_op (o' := o) (v := .s (.agg row)) rfl ?_ h
  simp only [aop, hx, hm, hr]
  rw [if_pos (by omega)]
  simp [hc, List.take_of_length_le]
theorem gr_ldF {oi ver i off sz : Nat} {rows : List (List C)} {row : List C} {c : C} (hx : St.ev ⟨sl, o, b⟩ x = .s (.c (.ptr oi ver i off))) (hm : o.rws oi ver sz rows) (hr : rows[i]? = some row) (hc : row[off]? = some c) (h : WO Γ l F Q ⟨upd sl d (.s (.c c)), o, b⟩) : WO Γ (⟨some d, .load false 1 x, none⟩ :: l) F Q ⟨sl, o, b⟩ := by
  unfold Objs.rws at hm
  refine r_op (o' := o) (v := .s (.c c)) rfl ?_ h
  have := (List.getElem?_eq_some_iff.1 hc).1
  simp only [aop, hx, hm, hr]
  rw [if_pos (by omega)]
  simp [hc]
/-- A row of one slice. -/
theorem gr_slP1 {zz : C} {xs : List (List PC)} (hx : St.ev ⟨sl, o, b⟩ x = vs xs) (h : WO Γ l F Q ⟨upd sl d (vs [[.sl xs]]), o, b⟩) : WO Γ (⟨some d, .slP 1 1 [zz] [(0, 1, x)], none⟩ :: l) F Q ⟨sl, o, b⟩ := by
  refine r_op (o' := o) (v := vs [[.sl xs]]) rfl ?_ h
  simp [aop, rowOf, partsOf, hx, AV.cells?, SV.cells, fillA, setAt, chunk, allSome, C.pure?]
/-- A row of one struct. -/
theorem gr_slPA {zz : List C} {cs : List C} {ps : List PC} {n : Nat} (hx : St.ev ⟨sl, o, b⟩ x = .s (.agg cs)) (hp : allSome (cs.map C.pure?) = some ps) (hn : cs.length = n) (hz : zz.length = n) (h0 : n ≠ 0) (h : WO Γ l F Q ⟨upd sl d (vs [ps]), o, b⟩) : WO Γ (⟨some d, .slP 1 n zz [(0, n, x)], none⟩ :: l) F Q ⟨sl, o, b⟩ := by
  refine r_op (o' := o) (v := vs [ps]) rfl ?_ h
  have e1 : setAt zz 0 cs = cs := by
    simp only [setAt, List.take_zero, List.nil_append, Nat.zero_add]
    rw [List.drop_eq_nil_of_le (by omega), List.append_nil]
  have e2 : List.take n (List.map C.pure? cs) = List.map C.pure? cs := List.take_of_length_le (by rw [List.length_map]; omega)
  simp [aop, rowOf, partsOf, hx, AV.cells?, SV.cells, fillA, hn, hz, e1, chunk, allSome, hp, e2]
theorem mapP_all {sz : Nat} {ys : List (List PC)} (h : ∀ x ∈ ys, x.length = sz) : ys.all (fun x => x.length == sz) = true := by
  rw [List.all_eq_true]; intro x hx; simp [h x hx]
theorem gr_app0 {id sz bytes : Nat} {ys : List (List PC)} (hx : St.ev ⟨sl, o, b⟩ x = .s (.c .e0)) (hy : St.ev ⟨sl, o, b⟩ y = vs ys) (hw : ∀ x ∈ ys, x.length = sz) (he : ys.length ≠ 0) (hb : ys.length * bytes ≤ 140737488355328) (hn : ys.length ≤ 140737488355328)
    (h : ∀ o', o'.rws (b + id) (o.nv (b + id)) sz (ys.map (List.map C.p)) → (∀ o2 v2, ¬ (o2 = b + id ∧ v2 = o.nv (b + id)) → o'.m o2 v2 = o.m o2 v2) →
      (∀ o2, o'.nv o2 = if o2 = b + id then o.nv (b + id) + 1 else o.nv o2) → WO Γ l F Q ⟨upd sl d (.s (.c (.rs (b + id) (o.nv (b + id)) sz 0 ys.length))), o', b⟩) :
    WO Γ (⟨some d, .app id sz bytes x y, none⟩ :: l) F Q ⟨sl, o, b⟩ := by
  refine r_op (o' := o.new (b + id) ⟨sz, ys.map (List.map C.p), false⟩) (v := .s (.c (.rs (b + id) (o.nv (b + id)) sz 0 ys.length))) rfl ?_ (h _ (by simp [Objs.rws, Objs.new]) (fun o2 v2 hne => by simp only [Objs.new, if_neg hne]) (fun o2 => rfl))
  simp only [aop, hx, hy, sliceElems, mapP_all hw, if_true, List.length_map]
  rw [if_neg he, if_pos ⟨hb, hn⟩]; rfl
theorem gr_app {id sz bytes oi ver len : Nat} {rows : List (List C)} {ys : List (List PC)} (hx : St.ev ⟨sl, o, b⟩ x = .s (.c (.rs oi ver sz 0 len))) (hy : St.ev ⟨sl, o, b⟩ y = vs ys) (hw : ∀ x ∈ ys, x.length = sz) (hm : o.rws oi ver sz rows) (hl : len = rows.length)
    (hb : (len + ys.length) * bytes ≤ 140737488355328) (hn : len + ys.length ≤ 140737488355328)
    (h : ∀ o', o'.rws oi (o.nv oi) sz (rows ++ ys.map (List.map C.p)) → (∀ o2 v2, o2 ≠ oi → o'.m o2 v2 = o.m o2 v2) → (∀ o2, o'.nv o2 = if o2 = oi then o.nv oi + 1 else o.nv o2) →
      WO Γ l F Q ⟨upd sl d (.s (.c (.rs oi (o.nv oi) sz 0 (len + ys.length)))), o', b⟩) :
    WO Γ (⟨some d, .app id sz bytes x y, none⟩ :: l) F Q ⟨sl, o, b⟩ := by
  refine r_op (o' := (o.set oi ver none).new oi ⟨sz, rows ++ ys.map (List.map C.p), false⟩) (v := .s (.c (.rs oi (o.nv oi) sz 0 (len + ys.length)))) rfl ?_ (h _ ?_ (fun o2 v2 hne => ?_) (fun o2 => rfl))
  · unfold Objs.rws at hm
    simp only [aop, hx, hy, sliceElems, mapP_all hw, if_true, hm, List.length_map]
    rw [if_pos ⟨trivial, trivial, trivial, by omega, hb, hn⟩]
    rw [List.drop_zero]
  · simp [Objs.rws, Objs.new, Objs.set]
  · simp [Objs.new, Objs.set, hne]
end
/-- What an object of rows of pure cells is, as a pure value. -/
theorem purRows {o : Objs} {oi ver sz len : Nat} {xs : List (List PC)} (hm : o.rws oi ver sz (xs.map (List.map C.p))) (hl : len ≤ xs.length) : purC o purDepth (.rs oi ver sz 0 len) = some (.sl (xs.take len)) := by
  unfold Objs.rws at hm
  show purC o (_ + 1) _ = _
  simp only [purC, hm]
  rw [if_pos ⟨trivial, by simpa using hl⟩]
  have e : ∀ (ys : List PC) (n : Nat), allSome ((ys.map C.p).map (purC o n)) = some ys := by
    intro ys n
    induction ys with
    | nil => rfl
    | cons y ys ih =>
      have : purC o n (C.p y) = some y := by cases n <;> rfl
      simp only [List.map_cons, this, allSome, ih]
  have e2 : ∀ (zs : List (List PC)) (n : Nat), allSome ((zs.map (List.map C.p)).map fun x => allSome (x.map (purC o n))) = some zs := by
    intro zs n
    induction zs with
    | nil => rfl
    | cons z zs ih => simp only [List.map_cons, e, allSome, ih]
  rw [List.drop_zero, ← List.map_take, e2]; rfl
end Go.Av
namespace Go.Av
open Go
section
variable {Γ : Calls0} {l : List AO} {F : List Fr} {Q : Ex → St → Prop} {sl : Nat → AV} {o : Objs} {b : Nat} {d : Nat} {m : Nat}
theorem r_callS {g : Nat} {args : List Opd} {sv : List SV} {pv : List PSV} {res : PAV} (hc : PureC Γ g pv res) (hs : res.scalar = true) (ha : argsOf ⟨sl, o, b⟩ args = some sv) (hp : allSome (sv.map (purSV o)) = some pv)
    (h : WO Γ l F Q ⟨upd sl d res.up, o, b⟩) : WO Γ (⟨some d, .call g args, none⟩ :: l) F Q ⟨sl, o, b⟩ := by
  have h := h.h
  constructor
  unfold WpO
  have e : behind ⟨sl, o, b⟩ sv res = o := by
    unfold behind; rw [if_pos hs]
  simp only [guardV, ha, thenO, hp, St.put]
  exact ⟨res, hc, by rw [e]; exact h⟩
theorem b_and15 (h : m < 256) : binI .and .u8 (m : Int) 15 = some (.int .u8 ((m % 16 : Nat) : Int)) := by
  have e1 : (BitVec.ofInt IntKind.u8.bits (m : Int)).toNat = m := b_ofInt 8 m h
  have e2 : (BitVec.ofInt IntKind.u8.bits 15).toNat = 15 := by decide
  have e3 : m &&& 15 = m % 16 := Nat.and_two_pow_sub_one_eq_mod m 4
  have e4 : (BitVec.ofInt IntKind.u8.bits (m : Int) &&& BitVec.ofInt IntKind.u8.bits 15).toNat = m % 16 := by rw [BitVec.toNat_and, e1, e2, e3]
  simp only [binI, bits2, Option.map_some, wrap_b]
  rw [e4]; congr 2; omega
end
end Go.Av
namespace Go.Av
open Go
section
variable {Γ : Calls0} {l : List AO} {F : List Fr} {Q : Ex → St → Prop} {sl : Nat → AV} {o : Objs} {b : Nat} {d : Nat} {x y z : Opd}
theorem r_iaAP {n sz k : Nat} {k' : IntKind} {a : Int} {cs : List PC} (hx : St.ev ⟨sl, o, b⟩ x = vp (.pref cs)) (hy : St.ev ⟨sl, o, b⟩ y = .s (.c (.p (.int k' a)))) (ha : a = (k : Int)) (hk : k < n) (hl : cs.length = n * sz)
    (h : WO Γ l F Q ⟨upd sl d (vp (.pref ((cs.drop (k * sz)).take sz))), o, b⟩) : WO Γ (⟨some d, .iaA n sz x y, none⟩ :: l) F Q ⟨sl, o, b⟩ := by
  subst ha
  refine r_op (o' := o) (v := vp (.pref ((cs.drop (k * sz)).take sz))) rfl ?_ h
  simp only [aop, hx, hy, AV.int?]
  rw [if_pos ⟨by omega, by omega, hl⟩]
  rfl
theorem r_iaAR {n sz k oi ver j off : Nat} {k' : IntKind} {a : Int} (hx : St.ev ⟨sl, o, b⟩ x = .s (.c (.ptr oi ver j off))) (hy : St.ev ⟨sl, o, b⟩ y = .s (.c (.p (.int k' a)))) (ha : a = (k : Int)) (hk : k < n)
    (h : WO Γ l F Q ⟨upd sl d (.s (.c (.ptr oi ver j (off + k * sz)))), o, b⟩) : WO Γ (⟨some d, .iaA n sz x y, none⟩ :: l) F Q ⟨sl, o, b⟩ := by
  subst ha
  refine r_op (o' := o) (v := .s (.c (.ptr oi ver j (off + k * sz)))) rfl ?_ h
  simp only [aop, hx, hy, AV.int?]
  rw [if_pos ⟨by omega, by omega⟩]
  rfl
theorem r_nckP {cs : List PC} (hx : St.ev ⟨sl, o, b⟩ x = vp (.pref cs)) (h : WO Γ l F Q ⟨upd sl d (vp (.pref cs)), o, b⟩) : WO Γ (⟨some d, .nck x, none⟩ :: l) F Q ⟨sl, o, b⟩ :=
  r_op (o' := o) (v := vp (.pref cs)) rfl (by simp only [aop, hx]; rfl) h
theorem r_nckR {oi ver i f : Nat} (hx : St.ev ⟨sl, o, b⟩ x = .s (.c (.ptr oi ver i f))) (h : WO Γ l F Q ⟨upd sl d (.s (.c (.ptr oi ver i f))), o, b⟩) : WO Γ (⟨some d, .nck x, none⟩ :: l) F Q ⟨sl, o, b⟩ :=
  r_op (o' := o) (v := .s (.c (.ptr oi ver i f))) rfl (by simp only [aop, hx]; rfl) h
theorem gr_stF {oi ver i off sz : Nat} {rows : List (List C)} {row : List C} {c : C} (hx : St.ev ⟨sl, o, b⟩ x = .s (.c (.ptr oi ver i off))) (hy : St.ev ⟨sl, o, b⟩ y = .s (.c c)) (hm : o.rws oi ver sz rows) (hr : rows[i]? = some row) (ho : off < row.length)
    (h : ∀ o', o'.rws oi ver sz (rows.set i (row.set off c)) → (∀ o2 v2, ¬ (o2 = oi ∧ v2 = ver) → o'.m o2 v2 = o.m o2 v2) → o'.nv = o.nv → WO Γ l F Q ⟨sl, o', b⟩) : WO Γ (⟨none, .store 1 x y, none⟩ :: l) F Q ⟨sl, o, b⟩ := by
  unfold Objs.rws at hm
  refine r_op0 (o' := o.set oi ver (some ⟨sz, rows.set i (row.set off c), false⟩)) (v := .tup []) rfl ?_ (h _ (by simp [Objs.rws, Objs.set]) (fun o2 v2 hne => by simp only [Objs.set, if_neg hne]) rfl)
  simp only [aop, hx, hy, hm, AV.cells?, SV.cells, hr]
  rw [if_pos ⟨trivial, rfl, by show off + 1 ≤ row.length; omega⟩]
  have e : setAt row off [c] = row.set off c := by
    simp only [setAt]
    rw [List.set_eq_take_append_cons_drop, if_pos ho]
    simp
  rw [e]
end
theorem rws_keep {o o' : Objs} {id ver sz : Nat} {rows : List (List C)} (h : o.rws id ver sz rows) (e : o'.m id ver = o.m id ver) : o'.rws id ver sz rows := by
  unfold Objs.rws at *; rw [e]; exact h
/-- An array of 64 words, of which the first may be other than 0. -/
def rwP (w : Nat) : List PC := .int .u64 (w : Int) :: List.replicate 63 (.int .u64 0)
def rwC (w : Nat) : List C := (rwP w).map C.p
theorem rwP_len (w : Nat) : (rwP w).length = 64 := rfl
theorem rwC_len (w : Nat) : (rwC w).length = 64 := rfl
theorem rwC_get0 (w : Nat) : (rwC w)[0]? = some (.p (.int .u64 (w : Int))) := rfl
theorem rwC_getS (w k : Nat) (h : k < 63) : (rwC w)[k + 1]? = some (.p (.int .u64 0)) := by
  show ((List.replicate 63 _).map C.p)[k]? = _
  rw [List.getElem?_map, List.getElem?_replicate, if_pos h]; rfl
theorem rwC_set0 (a w : Nat) : (rwC a).set 0 (.p (.int .u64 (w : Int))) = rwC w := rfl
theorem rwC_setS (w k : Nat) (h : k < 63) : (rwC w).set (k + 1) (.p (.int .u64 0)) = rwC w := by
  apply List.ext_getElem?
  intro i
  rw [List.getElem?_set]
  split
  · rename_i hi; subst hi
    rw [if_pos (by rw [rwC_len]; omega), rwC_getS w k h]
  · rfl
theorem rwP_drop0 (w : Nat) : ((rwP w).drop (0 * 1)).take 1 = [.int .u64 (w : Int)] := rfl
theorem rwP_dropS (w k : Nat) (h : k < 63) : ((rwP w).drop ((k + 1) * 1)).take 1 = [.int .u64 0] := by
  rw [Nat.mul_one]
  show (((List.replicate 63 (PC.int .u64 0))).drop k).take 1 = _
  rw [List.drop_replicate, List.take_replicate]
  rw [Nat.min_eq_left (by omega)]; rfl
end Go.Av
