/- The abstract machine of the Av files: the walking rules under short names, their side conditions found by themselves. No condition. -/
import Derived.Test.YtpdobdimlbhaoaaGreatAvCall
namespace Go.Av
open Go

section
variable {Γ : Calls0} {l : List AO} {F : List Fr} {Q : Ex → St → Prop} {sl : Nat → AV} {o : Objs} {b : Nat} {d : Nat} {x y z : Opd} {a c : Int} {m n : Nat} {k k' : IntKind}

theorem zA {v : SV} (h : WO Γ l F Q ⟨upd sl d (.s v), o, b⟩) (hv : St.ev ⟨sl, o, b⟩ x = .s v := by exact rfl) : WO Γ (⟨some d, .mv x, none⟩ :: l) F Q ⟨sl, o, b⟩ := r_mv hv h
theorem zB {L : List SV} (h : WO Γ l F Q ⟨upd sl d (.tup L), o, b⟩) (hv : St.ev ⟨sl, o, b⟩ x = .tup L := by exact rfl) : WO Γ (⟨some d, .mv x, none⟩ :: l) F Q ⟨sl, o, b⟩ := r_mvT hv h
-- comparisons
theorem zC (h : WO Γ l F Q ⟨upd sl d (vb true), o, b⟩) (hx : St.ev ⟨sl, o, b⟩ x = .s (.c (.p (.int k a))) := by exact rfl) (hy : St.ev ⟨sl, o, b⟩ y = .s (.c (.p (.int k c))) := by exact rfl) (t : a < c := by omega) :
    WO Γ (⟨some d, .bin .lss x y, none⟩ :: l) F Q ⟨sl, o, b⟩ := p_lssT hx hy t h
theorem zD (h : WO Γ l F Q ⟨upd sl d (vb false), o, b⟩) (hx : St.ev ⟨sl, o, b⟩ x = .s (.c (.p (.int k a))) := by exact rfl) (hy : St.ev ⟨sl, o, b⟩ y = .s (.c (.p (.int k c))) := by exact rfl) (t : c ≤ a := by omega) :
    WO Γ (⟨some d, .bin .lss x y, none⟩ :: l) F Q ⟨sl, o, b⟩ := p_lssF hx hy t h
theorem zE (hT : a < c → WO Γ l F Q ⟨upd sl d (vb true), o, b⟩) (hF : c ≤ a → WO Γ l F Q ⟨upd sl d (vb false), o, b⟩) (hx : St.ev ⟨sl, o, b⟩ x = .s (.c (.p (.int k a))) := by exact rfl) (hy : St.ev ⟨sl, o, b⟩ y = .s (.c (.p (.int k c))) := by exact rfl) :
    WO Γ (⟨some d, .bin .lss x y, none⟩ :: l) F Q ⟨sl, o, b⟩ := p_lss hx hy hT hF
theorem zF (h : WO Γ l F Q ⟨upd sl d (vb true), o, b⟩) (hx : St.ev ⟨sl, o, b⟩ x = .s (.c (.p (.int k a))) := by exact rfl) (hy : St.ev ⟨sl, o, b⟩ y = .s (.c (.p (.int k c))) := by exact rfl) (t : c < a := by omega) :
    WO Γ (⟨some d, .bin .gtr x y, none⟩ :: l) F Q ⟨sl, o, b⟩ := p_gtrT hx hy t h
theorem zG (h : WO Γ l F Q ⟨upd sl d (vb false), o, b⟩) (hx : St.ev ⟨sl, o, b⟩ x = .s (.c (.p (.int k a))) := by exact rfl) (hy : St.ev ⟨sl, o, b⟩ y = .s (.c (.p (.int k c))) := by exact rfl) (t : a ≤ c := by omega) :
    WO Γ (⟨some d, .bin .gtr x y, none⟩ :: l) F Q ⟨sl, o, b⟩ := p_gtrF hx hy t h
theorem zH (hT : c < a → WO Γ l F Q ⟨upd sl d (vb true), o, b⟩) (hF : a ≤ c → WO Γ l F Q ⟨upd sl d (vb false), o, b⟩) (hx : St.ev ⟨sl, o, b⟩ x = .s (.c (.p (.int k a))) := by exact rfl) (hy : St.ev ⟨sl, o, b⟩ y = .s (.c (.p (.int k c))) := by exact rfl) :
    WO Γ (⟨some d, .bin .gtr x y, none⟩ :: l) F Q ⟨sl, o, b⟩ := p_gtr hx hy hT hF
theorem zI (h : WO Γ l F Q ⟨upd sl d (vb true), o, b⟩) (hx : St.ev ⟨sl, o, b⟩ x = .s (.c (.p (.int k a))) := by exact rfl) (hy : St.ev ⟨sl, o, b⟩ y = .s (.c (.p (.int k c))) := by exact rfl) (t : a ≤ c := by omega) :
    WO Γ (⟨some d, .bin .leq x y, none⟩ :: l) F Q ⟨sl, o, b⟩ := p_leqT hx hy t h
theorem zJ (h : WO Γ l F Q ⟨upd sl d (vb false), o, b⟩) (hx : St.ev ⟨sl, o, b⟩ x = .s (.c (.p (.int k a))) := by exact rfl) (hy : St.ev ⟨sl, o, b⟩ y = .s (.c (.p (.int k c))) := by exact rfl) (t : c < a := by omega) :
    WO Γ (⟨some d, .bin .leq x y, none⟩ :: l) F Q ⟨sl, o, b⟩ := p_leqF hx hy t h
theorem zK (hT : a ≤ c → WO Γ l F Q ⟨upd sl d (vb true), o, b⟩) (hF : c < a → WO Γ l F Q ⟨upd sl d (vb false), o, b⟩) (hx : St.ev ⟨sl, o, b⟩ x = .s (.c (.p (.int k a))) := by exact rfl) (hy : St.ev ⟨sl, o, b⟩ y = .s (.c (.p (.int k c))) := by exact rfl) :
    WO Γ (⟨some d, .bin .leq x y, none⟩ :: l) F Q ⟨sl, o, b⟩ := p_leq hx hy hT hF
theorem zL (h : WO Γ l F Q ⟨upd sl d (vb true), o, b⟩) (hx : St.ev ⟨sl, o, b⟩ x = .s (.c (.p (.int k a))) := by exact rfl) (hy : St.ev ⟨sl, o, b⟩ y = .s (.c (.p (.int k c))) := by exact rfl) (t : c ≤ a := by omega) :
    WO Γ (⟨some d, .bin .geq x y, none⟩ :: l) F Q ⟨sl, o, b⟩ := p_geqT hx hy t h
theorem zM (h : WO Γ l F Q ⟨upd sl d (vb false), o, b⟩) (hx : St.ev ⟨sl, o, b⟩ x = .s (.c (.p (.int k a))) := by exact rfl) (hy : St.ev ⟨sl, o, b⟩ y = .s (.c (.p (.int k c))) := by exact rfl) (t : a < c := by omega) :
    WO Γ (⟨some d, .bin .geq x y, none⟩ :: l) F Q ⟨sl, o, b⟩ := p_geqF hx hy t h
theorem zN (hT : c ≤ a → WO Γ l F Q ⟨upd sl d (vb true), o, b⟩) (hF : a < c → WO Γ l F Q ⟨upd sl d (vb false), o, b⟩) (hx : St.ev ⟨sl, o, b⟩ x = .s (.c (.p (.int k a))) := by exact rfl) (hy : St.ev ⟨sl, o, b⟩ y = .s (.c (.p (.int k c))) := by exact rfl) :
    WO Γ (⟨some d, .bin .geq x y, none⟩ :: l) F Q ⟨sl, o, b⟩ := p_geq hx hy hT hF
theorem zO (h : WO Γ l F Q ⟨upd sl d (vb true), o, b⟩) (hx : St.ev ⟨sl, o, b⟩ x = .s (.c (.p (.int k a))) := by exact rfl) (hy : St.ev ⟨sl, o, b⟩ y = .s (.c (.p (.int k c))) := by exact rfl) (t : a = c := by omega) :
    WO Γ (⟨some d, .bin .eql x y, none⟩ :: l) F Q ⟨sl, o, b⟩ := p_eqlT hx hy t h
theorem zP (h : WO Γ l F Q ⟨upd sl d (vb false), o, b⟩) (hx : St.ev ⟨sl, o, b⟩ x = .s (.c (.p (.int k a))) := by exact rfl) (hy : St.ev ⟨sl, o, b⟩ y = .s (.c (.p (.int k c))) := by exact rfl) (t : a ≠ c := by omega) :
    WO Γ (⟨some d, .bin .eql x y, none⟩ :: l) F Q ⟨sl, o, b⟩ := p_eqlF hx hy t h
theorem zQ (hT : a = c → WO Γ l F Q ⟨upd sl d (vb true), o, b⟩) (hF : a ≠ c → WO Γ l F Q ⟨upd sl d (vb false), o, b⟩) (hx : St.ev ⟨sl, o, b⟩ x = .s (.c (.p (.int k a))) := by exact rfl) (hy : St.ev ⟨sl, o, b⟩ y = .s (.c (.p (.int k c))) := by exact rfl) :
    WO Γ (⟨some d, .bin .eql x y, none⟩ :: l) F Q ⟨sl, o, b⟩ := p_eql hx hy hT hF
theorem zR (h : WO Γ l F Q ⟨upd sl d (vb true), o, b⟩) (hx : St.ev ⟨sl, o, b⟩ x = .s (.c (.p (.int k a))) := by exact rfl) (hy : St.ev ⟨sl, o, b⟩ y = .s (.c (.p (.int k c))) := by exact rfl) (t : a ≠ c := by omega) :
    WO Γ (⟨some d, .bin .neq x y, none⟩ :: l) F Q ⟨sl, o, b⟩ := p_neqT hx hy t h
theorem zS (h : WO Γ l F Q ⟨upd sl d (vb false), o, b⟩) (hx : St.ev ⟨sl, o, b⟩ x = .s (.c (.p (.int k a))) := by exact rfl) (hy : St.ev ⟨sl, o, b⟩ y = .s (.c (.p (.int k c))) := by exact rfl) (t : a = c := by omega) :
    WO Γ (⟨some d, .bin .neq x y, none⟩ :: l) F Q ⟨sl, o, b⟩ := p_neqF hx hy t h
theorem zT (hT : a ≠ c → WO Γ l F Q ⟨upd sl d (vb true), o, b⟩) (hF : a = c → WO Γ l F Q ⟨upd sl d (vb false), o, b⟩) (hx : St.ev ⟨sl, o, b⟩ x = .s (.c (.p (.int k a))) := by exact rfl) (hy : St.ev ⟨sl, o, b⟩ y = .s (.c (.p (.int k c))) := by exact rfl) :
    WO Γ (⟨some d, .bin .neq x y, none⟩ :: l) F Q ⟨sl, o, b⟩ := p_neq hx hy hT hF
-- arithmetic
theorem zU {op : BinOp} {r : PC} (h : WO Γ l F Q ⟨upd sl d (vp r), o, b⟩) (hx : St.ev ⟨sl, o, b⟩ x = .s (.c (.p (.int k a))) := by exact rfl) (hy : St.ev ⟨sl, o, b⟩ y = .s (.c (.p (.int k c))) := by exact rfl) (ha : a = (m : Int) := by first | with_reducible exact cself _ | exact nlit _) (hc : c = (n : Int) := by first | with_reducible exact cself _ | exact nlit _)
    (hs : BinOp.isShift op = false := by exact rfl) (hr : binI op k m n = some r := by first | (with_reducible refine b_addI ?_; omega) | (with_reducible refine b_addU ?_; omega) | (with_reducible refine b_addUm) | (with_reducible refine b_addWm) | (with_reducible refine b_subI ?_ ?_ <;> omega) | (with_reducible refine b_subU ?_ ?_ <;> omega) | (with_reducible refine b_subUm ?_; omega) | (with_reducible refine b_subWm ?_; omega) | (with_reducible refine b_mulI ?_; first | assumption | omega) | (with_reducible refine b_mulU ?_; first | assumption | omega) | (with_reducible refine b_mulUm) | (with_reducible refine b_quoI ?_ ?_ <;> omega) | (with_reducible refine b_quoU ?_ ?_ <;> omega) | (with_reducible refine b_rem ?_; omega) | (with_reducible refine b_andU ?_ ?_ <;> omega) | (with_reducible refine b_andW ?_ ?_ <;> omega) | (with_reducible refine b_orU ?_ ?_ <;> omega) | (with_reducible refine b_orW ?_ ?_ <;> omega)) : WO Γ (⟨some d, .bin op x y, none⟩ :: l) F Q ⟨sl, o, b⟩ := r_binN hx hy ha hc hs hr h
theorem zV {op : BinOp} {r : PC} (h : WO Γ l F Q ⟨upd sl d (vp r), o, b⟩) (hx : St.ev ⟨sl, o, b⟩ x = .s (.c (.p (.int k a))) := by exact rfl) (hy : St.ev ⟨sl, o, b⟩ y = .s (.c (.p (.int k c))) := by exact rfl)
    (hs : BinOp.isShift op = false := by exact rfl) (hr : binI op k a c = some r := by first | (with_reducible refine b_subZ ?_ ?_ <;> omega) | (with_reducible refine b_addZ ?_ ?_ <;> omega)) : WO Γ (⟨some d, .bin op x y, none⟩ :: l) F Q ⟨sl, o, b⟩ := r_binZ hx hy hs hr h
theorem zW {op : BinOp} {r : PC} (h : WO Γ l F Q ⟨upd sl d (vp r), o, b⟩) (hx : St.ev ⟨sl, o, b⟩ x = .s (.c (.p (.int k a))) := by exact rfl) (hy : St.ev ⟨sl, o, b⟩ y = .s (.c (.p (.int k' c))) := by exact rfl) (ha : a = (m : Int) := by first | with_reducible exact cself _ | exact nlit _) (hc : c = (n : Int) := by first | with_reducible exact cself _ | exact nlit _)
    (hs : BinOp.isShift op = true := by exact rfl) (hr : shiftI op k m n = some r := by first | (with_reducible refine s_shr32 ?_; decide) | (with_reducible refine s_shr31 ?_; decide) | (with_reducible refine s_shr63 ?_; decide) | (with_reducible refine s_shr1 ?_; decide) | with_reducible exact s_shlU32 | with_reducible exact s_shlW31 | with_reducible exact s_shlW1 | with_reducible exact s_shr | with_reducible exact s_shlU | with_reducible exact s_shlW) : WO Γ (⟨some d, .bin op x y, none⟩ :: l) F Q ⟨sl, o, b⟩ := r_shift hx hy ha hc hs hr h
-- lengths, indices, loads
theorem zX {xs : List Nat} {n : Nat} (h : WO Γ l F Q ⟨upd sl d (vn .i64 n), o, b⟩) (hv : St.ev ⟨sl, o, b⟩ x = vk k xs := by exact rfl) (hl : xs.length = n := by first | with_reducible exact List.length_nil | with_reducible exact len_1 _ | with_reducible exact len_2 _ _ | exact rfl) :
    WO Γ (⟨some d, .len x, none⟩ :: l) F Q ⟨sl, o, b⟩ := r_lenKL hv hl h
theorem zY {oi ver sz st n : Nat} (h : WO Γ l F Q ⟨upd sl d (vn .i64 n), o, b⟩) (hv : St.ev ⟨sl, o, b⟩ x = .s (.c (.rs oi ver sz st n)) := by exact rfl) : WO Γ (⟨some d, .len x, none⟩ :: l) F Q ⟨sl, o, b⟩ := r_lenR hv h
theorem zZ (h : WO Γ l F Q ⟨upd sl d (vn .i64 0), o, b⟩) (hv : St.ev ⟨sl, o, b⟩ x = .s (.c .e0) := by exact rfl) : WO Γ (⟨some d, .len x, none⟩ :: l) F Q ⟨sl, o, b⟩ := r_len0 hv h
theorem ya {xs : List (List PC)} (h : WO Γ l F Q ⟨upd sl d (vn .i64 xs.length), o, b⟩) (hv : St.ev ⟨sl, o, b⟩ x = vs xs := by exact rfl) : WO Γ (⟨some d, .len x, none⟩ :: l) F Q ⟨sl, o, b⟩ := r_lenP hv h
theorem yb {xs : List Nat} (h : WO Γ l F Q ⟨upd sl d (vp (.pref [.int k (xs.getD n 0 : Nat)])), o, b⟩) (hx : St.ev ⟨sl, o, b⟩ x = vk k xs := by exact rfl) (hi : St.ev ⟨sl, o, b⟩ y = .s (.c (.p (.int k' a))) := by exact rfl) (ha : a = (n : Int) := by first | with_reducible exact cself _ | exact nlit _) (hn : n < xs.length := by first | omega | (simp only [List.length_take, List.length_drop, List.length_cons, List.length_nil, List.length_append, List.length_set, List.length_replicate] <;> omega)) :
    WO Γ (⟨some d, .ia 1 x y, none⟩ :: l) F Q ⟨sl, o, b⟩ := r_iaK hx hi ha hn h
theorem yc {oi ver sz len : Nat} (h : WO Γ l F Q ⟨upd sl d (.s (.c (.ptr oi ver n 0))), o, b⟩) (hx : St.ev ⟨sl, o, b⟩ x = .s (.c (.rs oi ver sz 0 len)) := by exact rfl) (hi : St.ev ⟨sl, o, b⟩ y = .s (.c (.p (.int k' a))) := by exact rfl) (ha : a = (n : Int) := by first | with_reducible exact cself _ | exact nlit _) (hn : n < len := by first | omega | (simp only [List.length_take, List.length_drop, List.length_cons, List.length_nil, List.length_append, List.length_set, List.length_replicate] <;> omega)) :
    WO Γ (⟨some d, .ia sz x y, none⟩ :: l) F Q ⟨sl, o, b⟩ := r_iaR0 hx hi ha hn h
theorem yd {oi ver sz st len : Nat} (h : WO Γ l F Q ⟨upd sl d (.s (.c (.ptr oi ver (st + n) 0))), o, b⟩) (hx : St.ev ⟨sl, o, b⟩ x = .s (.c (.rs oi ver sz st len)) := by exact rfl) (hi : St.ev ⟨sl, o, b⟩ y = .s (.c (.p (.int k' a))) := by exact rfl) (ha : a = (n : Int) := by first | with_reducible exact cself _ | exact nlit _) (hn : n < len := by first | omega | (simp only [List.length_take, List.length_drop, List.length_cons, List.length_nil, List.length_append, List.length_set, List.length_replicate] <;> omega)) :
    WO Γ (⟨some d, .ia sz x y, none⟩ :: l) F Q ⟨sl, o, b⟩ := r_iaR hx hi ha hn h
theorem ye {c : PC} (h : WO Γ l F Q ⟨upd sl d (vp c), o, b⟩) (hx : St.ev ⟨sl, o, b⟩ x = vp (.pref [c]) := by exact rfl) : WO Γ (⟨some d, .load false 1 x, none⟩ :: l) F Q ⟨sl, o, b⟩ := r_ldP hx h
theorem yf {oi ver i : Nat} {xs : List Nat} (h : WO Γ l F Q ⟨upd sl d (vn k (xs.getD i 0)), o, b⟩) (hx : St.ev ⟨sl, o, b⟩ x = .s (.c (.ptr oi ver i 0)) := by exact rfl) (hm : o.is oi ver k xs := by assumption) (hi : i < xs.length := by first | omega | (simp only [List.length_take, List.length_drop, List.length_cons, List.length_nil, List.length_append, List.length_set, List.length_replicate] <;> omega)) :
    WO Γ (⟨some d, .load false 1 x, none⟩ :: l) F Q ⟨sl, o, b⟩ := r_ldK hx hm hi h
-- conversions
theorem yg (h : WO Γ l F Q ⟨upd sl d (vn .u32 (m % 4294967296)), o, b⟩) (hx : St.ev ⟨sl, o, b⟩ x = .s (.c (.p (.int k' a))) := by exact rfl) (ha : a = (m : Int) := by first | with_reducible exact cself _ | exact nlit _) : WO Γ (⟨some d, .conv .u32 x, none⟩ :: l) F Q ⟨sl, o, b⟩ := r_convWm hx ha h
theorem yh (h : WO Γ l F Q ⟨upd sl d (vn .u64 m), o, b⟩) (hx : St.ev ⟨sl, o, b⟩ x = .s (.c (.p (.int k' a))) := by exact rfl) (ha : a = (m : Int) := by first | with_reducible exact cself _ | exact nlit _) (hm : m < 18446744073709551616 := by omega) : WO Γ (⟨some d, .conv .u64 x, none⟩ :: l) F Q ⟨sl, o, b⟩ := r_convU hx ha hm h
theorem yi (h : WO Γ l F Q ⟨upd sl d (vn .u64 (m % 18446744073709551616)), o, b⟩) (hx : St.ev ⟨sl, o, b⟩ x = .s (.c (.p (.int k' a))) := by exact rfl) (ha : a = (m : Int) := by first | with_reducible exact cself _ | exact nlit _) : WO Γ (⟨some d, .conv .u64 x, none⟩ :: l) F Q ⟨sl, o, b⟩ := r_convUm hx ha h
theorem yj (h : WO Γ l F Q ⟨upd sl d (vn .i64 m), o, b⟩) (hx : St.ev ⟨sl, o, b⟩ x = .s (.c (.p (.int k' a))) := by exact rfl) (ha : a = (m : Int) := by first | with_reducible exact cself _ | exact nlit _) (hm : m < 9223372036854775808 := by omega) : WO Γ (⟨some d, .conv .i64 x, none⟩ :: l) F Q ⟨sl, o, b⟩ := r_convI hx ha hm h
theorem yk (h : WO Γ l F Q ⟨upd sl d (vn .u8 (m % 256)), o, b⟩) (hx : St.ev ⟨sl, o, b⟩ x = .s (.c (.p (.int k' a))) := by exact rfl) (ha : a = (m : Int) := by first | with_reducible exact cself _ | exact nlit _) : WO Γ (⟨some d, .conv .u8 x, none⟩ :: l) F Q ⟨sl, o, b⟩ := r_convBm hx ha h
-- choices, stores, slices
theorem yl {v : SV} (h : WO Γ l F Q ⟨upd sl d (.s v), o, b⟩) (hc : St.ev ⟨sl, o, b⟩ x = vb true := by exact rfl) (hv : St.ev ⟨sl, o, b⟩ y = .s v := by exact rfl) : WO Γ (⟨some d, .pick x y z, none⟩ :: l) F Q ⟨sl, o, b⟩ := r_pickT hc hv h
theorem ym {v : SV} (h : WO Γ l F Q ⟨upd sl d (.s v), o, b⟩) (hc : St.ev ⟨sl, o, b⟩ x = vb false := by exact rfl) (hv : St.ev ⟨sl, o, b⟩ z = .s v := by exact rfl) : WO Γ (⟨some d, .pick x y z, none⟩ :: l) F Q ⟨sl, o, b⟩ := r_pickF hc hv h
theorem yn {oi ver i : Nat} {xs : List Nat} {v : Nat} (h : ∀ o', o'.is oi ver k (xs.set i v) → (∀ o2 v2, ¬ (o2 = oi ∧ v2 = ver) → o'.m o2 v2 = o.m o2 v2) → o'.nv = o.nv → WO Γ l F Q ⟨sl, o', b⟩)
    (hx : St.ev ⟨sl, o, b⟩ x = .s (.c (.ptr oi ver i 0)) := by exact rfl) (hy : St.ev ⟨sl, o, b⟩ y = .s (.c (.p (.int k a))) := by exact rfl) (ha : a = (v : Int) := by first | with_reducible exact cself _ | exact nlit _) (hm : o.is oi ver k xs := by assumption) (hi : i < xs.length := by first | omega | (simp only [List.length_take, List.length_drop, List.length_cons, List.length_nil, List.length_append, List.length_set, List.length_replicate] <;> omega)) :
    WO Γ (⟨none, .store 1 x y, none⟩ :: l) F Q ⟨sl, o, b⟩ := r_stK hx hy ha hm hi h
theorem yo {xs : List Nat} (h : WO Γ l F Q ⟨upd sl d (vk k (xs.take n)), o, b⟩) (hx : St.ev ⟨sl, o, b⟩ x = vk k xs := by exact rfl) (hi : St.ev ⟨sl, o, b⟩ y = .s (.c (.p (.int k' a))) := by exact rfl) (ha : a = (n : Int) := by first | with_reducible exact cself _ | exact nlit _) (hn : n ≤ xs.length := by first | omega | (simp only [List.length_take, List.length_drop, List.length_cons, List.length_nil, List.length_append, List.length_set, List.length_replicate] <;> omega)) :
    WO Γ (⟨some d, .slice 1 x none (some y) none, none⟩ :: l) F Q ⟨sl, o, b⟩ := r_slcK hx hi ha hn h
theorem yp {oi ver sz st len : Nat} (h : WO Γ l F Q ⟨upd sl d (.s (.c (.rs oi ver sz st n))), o, b⟩) (hx : St.ev ⟨sl, o, b⟩ x = .s (.c (.rs oi ver sz st len)) := by exact rfl) (hi : St.ev ⟨sl, o, b⟩ y = .s (.c (.p (.int k' a))) := by exact rfl) (ha : a = (n : Int) := by first | with_reducible exact cself _ | exact nlit _) (hn : n ≤ len := by first | omega | (simp only [List.length_take, List.length_drop, List.length_cons, List.length_nil, List.length_append, List.length_set, List.length_replicate] <;> omega)) :
    WO Γ (⟨some d, .slice sz x none (some y) none, none⟩ :: l) F Q ⟨sl, o, b⟩ := r_slcR hx hi ha hn h
theorem yq {xs : List Nat} {k2 : IntKind} (h : WO Γ l F Q ⟨upd sl d (vk k ((xs.take n).drop m)), o, b⟩) (hx : St.ev ⟨sl, o, b⟩ x = vk k xs := by exact rfl) (hi : St.ev ⟨sl, o, b⟩ y = .s (.c (.p (.int k' a))) := by exact rfl)
    (hj : St.ev ⟨sl, o, b⟩ z = .s (.c (.p (.int k2 c))) := by exact rfl) (ha : a = (m : Int) := by first | with_reducible exact cself _ | exact nlit _) (hc : c = (n : Int) := by first | with_reducible exact cself _ | exact nlit _) (hm : m ≤ n := by first | omega | (simp only [List.length_take, List.length_drop, List.length_cons, List.length_nil, List.length_append, List.length_set, List.length_replicate] <;> omega)) (hn : n ≤ xs.length := by first | omega | (simp only [List.length_take, List.length_drop, List.length_cons, List.length_nil, List.length_append, List.length_set, List.length_replicate] <;> omega)) : WO Γ (⟨some d, .slice 1 x (some y) (some z) none, none⟩ :: l) F Q ⟨sl, o, b⟩ := r_slcK2 hx hi hj ha hc hm hn h
theorem yr {id bytes sz : Nat} (h : ∀ o', o'.is (b + id) (o.nv (b + id)) k (List.replicate n 0) → (∀ o2 v2, ¬ (o2 = b + id ∧ v2 = o.nv (b + id)) → o'.m o2 v2 = o.m o2 v2) →
      (∀ o2, o'.nv o2 = if o2 = b + id then o.nv (b + id) + 1 else o.nv o2) → WO Γ l F Q ⟨upd sl d (.s (.c (.rs (b + id) (o.nv (b + id)) 1 0 n))), o', b⟩)
    (hx : St.ev ⟨sl, o, b⟩ x = .s (.c (.p (.int .i64 a))) := by exact rfl) (ha : a = (n : Int) := by first | with_reducible exact cself _ | exact nlit _) (hb : bytes * n ≤ 281474976710656 := by omega) (hn : n ≤ 9223372036854775807 := by omega) (hs : sz = 1 := by exact rfl) :
    WO Γ (⟨some d, .mk id sz bytes [.p (.int k 0)] x x, none⟩ :: l) F Q ⟨sl, o, b⟩ := r_mkK hx ha hb hn hs h
theorem ys {t : Bool} (h : WO Γ l F Q ⟨upd sl d (vb !t), o, b⟩) (hv : St.ev ⟨sl, o, b⟩ x = vb t := by exact rfl) : WO Γ (⟨some d, .un .not x, none⟩ :: l) F Q ⟨sl, o, b⟩ := r_not hv h
theorem yt {i : Nat} {L : List SV} {v : SV} (h : WO Γ l F Q ⟨upd sl d (.s v), o, b⟩) (hx : St.ev ⟨sl, o, b⟩ x = .tup L := by exact rfl) (hv : L[i]? = some v := by exact rfl) : WO Γ (⟨some d, .ext i x, none⟩ :: l) F Q ⟨sl, o, b⟩ := r_ext hx hv h
theorem yu {zz : C} (h : WO Γ l F Q ⟨upd sl d (vk k [n]), o, b⟩) (hx : St.ev ⟨sl, o, b⟩ x = .s (.c (.p (.int k a))) := by exact rfl) (ha : a = (n : Int) := by first | with_reducible exact cself _ | exact nlit _) : WO Γ (⟨some d, .slP 1 1 [zz] [(0, 1, x)], none⟩ :: l) F Q ⟨sl, o, b⟩ := r_slP1 hx ha h
theorem yv {zz zw : C} (h : WO Γ l F Q ⟨upd sl d (vk k [n, m]), o, b⟩) (hx : St.ev ⟨sl, o, b⟩ x = .s (.c (.p (.int k a))) := by exact rfl) (hy : St.ev ⟨sl, o, b⟩ y = .s (.c (.p (.int k c))) := by exact rfl) (ha : a = (n : Int) := by first | with_reducible exact cself _ | exact nlit _) (hc : c = (m : Int) := by first | with_reducible exact cself _ | exact nlit _) :
    WO Γ (⟨some d, .slP 2 1 [zz, zw] [(0, 1, x), (1, 1, y)], none⟩ :: l) F Q ⟨sl, o, b⟩ := r_slP2 hx ha hy hc h
theorem yw {id sz : Nat} (h : ∀ o', o'.is (b + id) (o.nv (b + id)) .u32 [] → (∀ o2 v2, ¬ (o2 = b + id ∧ v2 = o.nv (b + id)) → o'.m o2 v2 = o.m o2 v2) →
      (∀ o2, o'.nv o2 = if o2 = b + id then o.nv (b + id) + 1 else o.nv o2) → WO Γ l F Q ⟨upd sl d (.s (.c (.rs (b + id) (o.nv (b + id)) 1 0 0))), o', b⟩) (hs : sz = 1 := by exact rfl) :
    WO Γ (⟨some d, .slO id 0 sz [] [], none⟩ :: l) F Q ⟨sl, o, b⟩ := r_slO0 .u32 hs h
theorem yx (h : WO Γ l F Q ⟨upd sl d (vi k a), o, b⟩) (hx : St.ev ⟨sl, o, b⟩ x = .s (.c (.p (.int k a))) := by exact rfl) (hy : St.ev ⟨sl, o, b⟩ y = .s (.c (.p (.int k c))) := by exact rfl) (hl : a ≤ c := by omega) :
    WO Γ (⟨some d, .minI x y, none⟩ :: l) F Q ⟨sl, o, b⟩ := r_minIL hx hy hl h
theorem yy (h : WO Γ l F Q ⟨upd sl d (vi k c), o, b⟩) (hx : St.ev ⟨sl, o, b⟩ x = .s (.c (.p (.int k a))) := by exact rfl) (hy : St.ev ⟨sl, o, b⟩ y = .s (.c (.p (.int k c))) := by exact rfl) (hl : c ≤ a := by omega) :
    WO Γ (⟨some d, .minI x y, none⟩ :: l) F Q ⟨sl, o, b⟩ := r_minIG hx hy hl h
-- appends
theorem yz {id sz bytes oi ver st len : Nat} {xs ys : List Nat} (h : ∀ o', o'.is oi (o.nv oi) k (xs.drop st ++ ys) → (∀ o2 v2, o2 ≠ oi → o'.m o2 v2 = o.m o2 v2) → (∀ o2, o'.nv o2 = if o2 = oi then o.nv oi + 1 else o.nv o2) →
      WO Γ l F Q ⟨upd sl d (.s (.c (.rs oi (o.nv oi) 1 0 (len + ys.length)))), o', b⟩)
    (hx : St.ev ⟨sl, o, b⟩ x = .s (.c (.rs oi ver 1 st len)) := by exact rfl) (hy : St.ev ⟨sl, o, b⟩ y = vk k ys := by exact rfl) (hs : sz = 1 := by exact rfl) (hm : o.is oi ver k xs := by assumption) (hl : st + len = xs.length := by first | omega | (simp only [List.length_take, List.length_drop, List.length_cons, List.length_nil, List.length_append, List.length_set, List.length_replicate] <;> omega))
    (hb : (len + ys.length) * bytes ≤ 140737488355328 := by first | omega | (simp only [List.length_take, List.length_drop, List.length_cons, List.length_nil, List.length_append, List.length_set, List.length_replicate] <;> omega)) (hn : len + ys.length ≤ 140737488355328 := by first | omega | (simp only [List.length_take, List.length_drop, List.length_cons, List.length_nil, List.length_append, List.length_set, List.length_replicate] <;> omega)) : WO Γ (⟨some d, .app id sz bytes x y, none⟩ :: l) F Q ⟨sl, o, b⟩ := r_app hx hy hs hm hl hb hn h
theorem xa {id sz bytes : Nat} {ys : List Nat} (h : WO Γ l F Q ⟨upd sl d (.s (.c .e0)), o, b⟩) (hx : St.ev ⟨sl, o, b⟩ x = .s (.c .e0) := by exact rfl) (hy : St.ev ⟨sl, o, b⟩ y = vk k ys := by exact rfl) (hs : sz = 1 := by exact rfl) (he : ys.length = 0 := by first | omega | (simp only [List.length_take, List.length_drop, List.length_cons, List.length_nil, List.length_append, List.length_set, List.length_replicate] <;> omega)) :
    WO Γ (⟨some d, .app id sz bytes x y, none⟩ :: l) F Q ⟨sl, o, b⟩ := r_app0E hx hy hs he h
theorem xb {id sz bytes : Nat} {ys : List Nat} (h : ∀ o', o'.is (b + id) (o.nv (b + id)) k ys → (∀ o2 v2, ¬ (o2 = b + id ∧ v2 = o.nv (b + id)) → o'.m o2 v2 = o.m o2 v2) →
      (∀ o2, o'.nv o2 = if o2 = b + id then o.nv (b + id) + 1 else o.nv o2) → WO Γ l F Q ⟨upd sl d (.s (.c (.rs (b + id) (o.nv (b + id)) 1 0 ys.length))), o', b⟩)
    (hx : St.ev ⟨sl, o, b⟩ x = .s (.c .e0) := by exact rfl) (hy : St.ev ⟨sl, o, b⟩ y = vk k ys := by exact rfl) (hs : sz = 1 := by exact rfl) (he : ys.length ≠ 0 := by first | omega | (simp only [List.length_take, List.length_drop, List.length_cons, List.length_nil, List.length_append, List.length_set, List.length_replicate] <;> omega)) (hb : ys.length * bytes ≤ 140737488355328 := by first | omega | (simp only [List.length_take, List.length_drop, List.length_cons, List.length_nil, List.length_append, List.length_set, List.length_replicate] <;> omega)) (hn : ys.length ≤ 140737488355328 := by first | omega | (simp only [List.length_take, List.length_drop, List.length_cons, List.length_nil, List.length_append, List.length_set, List.length_replicate] <;> omega)) :
    WO Γ (⟨some d, .app id sz bytes x y, none⟩ :: l) F Q ⟨sl, o, b⟩ := r_app0 hx hy hs he hb hn h
-- guards and ends
theorem xc {op : AOp} {t : Nat} {w : Bool} (h : WO Γ l F Q ⟨upd sl d (.tup []), o, b⟩) (hg : sl t = vb (!w) := by exact rfl) : WO Γ (⟨some d, op, some (t, w)⟩ :: l) F Q ⟨sl, o, b⟩ := r_gF hg h
theorem xd {op : AOp} {D : Option Nat} {t : Nat} {w : Bool} (h : WO Γ (⟨D, op, none⟩ :: l) F Q ⟨sl, o, b⟩) (hg : sl t = vb w := by exact rfl) : WO Γ (⟨D, op, some (t, w)⟩ :: l) F Q ⟨sl, o, b⟩ := r_gT hg h
theorem xe {op : AOp} {t : Nat} {w : Bool} (h : WO Γ l F Q ⟨upd sl d (.tup []), o, b⟩) (hg : sl t = .tup [] := by exact rfl) : WO Γ (⟨some d, op, some (t, w)⟩ :: l) F Q ⟨sl, o, b⟩ := r_gN hg h
theorem xf {op : AOp} {t : Nat} {w : Bool} (h : WO Γ l F Q ⟨sl, o, b⟩) (hg : sl t = vb (!w) := by exact rfl) : WO Γ (⟨none, op, some (t, w)⟩ :: l) F Q ⟨sl, o, b⟩ := r_gF0 hg h
theorem xg {op : AOp} {t : Nat} {w : Bool} (h : WO Γ l F Q ⟨sl, o, b⟩) (hg : sl t = .tup [] := by exact rfl) : WO Γ (⟨none, op, some (t, w)⟩ :: l) F Q ⟨sl, o, b⟩ := r_gN0 hg h
end
section
variable {Γ : Calls0} {F : List Fr} {Q : Ex → St → Prop} {s : St} {c : Opd} {A B : ACode}
theorem xh (h : WC Γ A F Q s) (hc : s.ev c = vb true := by exact rfl) : WC Γ (.cond c A B) F Q s := w_condT hc h
theorem xi (h : WC Γ B F Q s) (hc : s.ev c = vb false := by exact rfl) : WC Γ (.cond c A B) F Q s := w_condF hc h
theorem xj {t : Bool} (hT : t = true → WC Γ A F Q s) (hF : t = false → WC Γ B F Q s) (hc : s.ev c = vb t := by exact rfl) : WC Γ (.cond c A B) F Q s := w_cond hc hT hF
theorem xk {i j : Nat} (h : CC Γ F Q (.exit j) s) (hne : Nat.beq j i = false := by exact rfl) : CC Γ (.blk i :: F) Q (.exit j) s := c_blkE hne h
end
end Go.Av
