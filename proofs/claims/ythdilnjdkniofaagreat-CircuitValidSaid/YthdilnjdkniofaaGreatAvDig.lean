/- Natural numbers as lists of digits to the base 2^32, the lowest first. No condition. -/
namespace Go.Av

/-- A fact that arithmetic is not to see. -/
structure Hd (p : Prop) : Prop where
  h : p

def val : List Nat → Nat
  | [] => 0
  | d :: r => d + 4294967296 * val r
def Dg (l : List Nat) : Prop := ∀ i, l.getD i 0 < 4294967296
/-- The value of the digits below i. -/
def vt (l : List Nat) (i : Nat) : Nat := val (l.take i)

def ofNF : Nat → Nat → List Nat
  | 0, _ => []
  | f + 1, n => match n with
    | 0 => []
    | k + 1 => ((k + 1) % 4294967296) :: ofNF f ((k + 1) / 4294967296)
def ofN (n : Nat) : List Nat := ofNF n n

theorem getD_lt {l : List Nat} {i : Nat} (h : ¬ i < l.length) : l.getD i 0 = 0 := by simp [List.getD, List.getElem?_eq_none (show l.length ≤ i by omega)]
theorem Dg.nil : Dg [] := fun i => by simp
theorem Dg.cons {d : Nat} {r : List Nat} (h : d < 4294967296) (k : Dg r) : Dg (d :: r) := fun i => by
  cases i with
  | zero => simpa using h
  | succ i => simpa using k i
theorem Dg.head {d : Nat} {r : List Nat} (h : Dg (d :: r)) : d < 4294967296 := by simpa using h 0
theorem Dg.tail {d : Nat} {r : List Nat} (h : Dg (d :: r)) : Dg r := fun i => by simpa using h (i + 1)
theorem getD_take {l : List Nat} {k i : Nat} : (l.take k).getD i 0 = if i < k then l.getD i 0 else 0 := by
  by_cases h : i < k
  · simp [h, List.getD, List.getElem?_take]
  · simp [h, List.getD, List.getElem?_take]
theorem Dg.take {l : List Nat} (h : Dg l) (k : Nat) : Dg (l.take k) := fun i => by
  rw [getD_take]; split
  · exact h i
  · omega
theorem getD_set {l : List Nat} {k v i : Nat} (hk : k < l.length) : (l.set k v).getD i 0 = if i = k then v else l.getD i 0 := by
  by_cases h : i = k
  · subst h; simp [List.getD, hk]
  · simp only [List.getD, List.getElem?_set, if_neg h]; rw [if_neg (by omega)]
theorem Dg.set {l : List Nat} (h : Dg l) {k v : Nat} (hv : v < 4294967296) : Dg (l.set k v) := fun i => by
  by_cases hk : k < l.length
  · rw [getD_set hk]; split
    · exact hv
    · exact h i
  · rw [List.set_eq_of_length_le (by omega)]; exact h i
theorem Dg.replicate (n : Nat) : Dg (List.replicate n 0) := fun i => by
  simp only [List.getD, List.getElem?_replicate]; split <;> simp
theorem Dg.append {l r : List Nat} (h : Dg l) (k : Dg r) : Dg (l ++ r) := fun i => by
  simp only [List.getD, List.getElem?_append]
  split
  · exact h i
  · exact k _

theorem vt_zero (l : List Nat) : vt l 0 = 0 := by simp [vt, val]
theorem vt_succ : ∀ (l : List Nat) (i : Nat), vt l (i + 1) = vt l i + 4294967296 ^ i * l.getD i 0
  | [], i => by simp [vt, val]
  | d :: r, 0 => by simp [vt, val]
  | d :: r, i + 1 => by
    have := vt_succ r i
    simp only [vt, List.take_succ_cons, val, List.getD_cons_succ] at this ⊢
    rw [this]; grind
theorem vt_ge {l : List Nat} {i : Nat} (h : l.length ≤ i) : vt l i = val l := by simp [vt, List.take_of_length_le h]
theorem vt_len (l : List Nat) : vt l l.length = val l := vt_ge (Nat.le_refl _)
theorem vt_congr {l r : List Nat} {i : Nat} (h : ∀ j, j < i → l.getD j 0 = r.getD j 0) : vt l i = vt r i := by
  induction i with
  | zero => simp [vt_zero]
  | succ i ih => rw [vt_succ, vt_succ, ih (fun j hj => h j (by omega)), h i (by omega)]
theorem vt_set {l : List Nat} {k v i : Nat} (hk : k < l.length) (hi : i ≤ k) : vt (l.set k v) i = vt l i :=
  vt_congr fun j hj => by rw [getD_set hk, if_neg (by omega)]
theorem vt_set_succ {l : List Nat} {k v : Nat} (hk : k < l.length) : vt (l.set k v) (k + 1) = vt l k + 4294967296 ^ k * v := by
  rw [vt_succ, vt_set hk (Nat.le_refl _), getD_set hk, if_pos rfl]
theorem vt_lt {l : List Nat} (h : Dg l) : ∀ i, vt l i < 4294967296 ^ i
  | 0 => by simp [vt_zero]
  | i + 1 => by
    have h1 := vt_lt h i
    have h2 := h i
    rw [vt_succ, Nat.pow_succ]
    have : 4294967296 ^ i * l.getD i 0 ≤ 4294967296 ^ i * 4294967295 := Nat.mul_le_mul_left _ (by omega)
    omega
theorem val_lt {l : List Nat} (h : Dg l) : val l < 4294967296 ^ l.length := by rw [← vt_len]; exact vt_lt h _
theorem vt_zeros {l : List Nat} {k : Nat} : ∀ {n : Nat}, (∀ i, k ≤ i → i < n → l.getD i 0 = 0) → k ≤ n → vt l n = vt l k
  | 0, _, h => by have : k = 0 := by omega
                  rw [this]
  | n + 1, hz, h => by
    by_cases hk : k = n + 1
    · rw [hk]
    · rw [vt_succ, hz n (by omega) (by omega), vt_zeros (fun i h1 h2 => hz i h1 (by omega)) (by omega)]; omega
theorem vt_mono (l : List Nat) {i j : Nat} (h : i ≤ j) : vt l i ≤ vt l j := by
  induction h with
  | refl => exact Nat.le_refl _
  | step _ ih => rw [vt_succ]; omega
theorem val_pos {l : List Nat} {k : Nat} (h : l.getD k 0 ≠ 0) : 4294967296 ^ k ≤ val l := by
  have h1 : k < l.length := by
    by_cases hk : k < l.length
    · exact hk
    · exact (h (getD_lt hk)).elim
  have h2 := vt_mono l (show k + 1 ≤ l.length from h1)
  rw [vt_len, vt_succ] at h2
  have : 4294967296 ^ k * 1 ≤ 4294967296 ^ k * l.getD k 0 := Nat.mul_le_mul_left _ (by omega)
  omega

theorem ofNF_eq : ∀ {f g n : Nat}, n ≤ f → n ≤ g → ofNF f n = ofNF g n
  | 0, 0, n, _, _ => rfl
  | 0, g + 1, n, h, _ => by have : n = 0 := by omega
                            subst this; rfl
  | f + 1, 0, n, _, h => by have : n = 0 := by omega
                            subst this; rfl
  | f + 1, g + 1, 0, _, _ => rfl
  | f + 1, g + 1, k + 1, h1, h2 => by
    simp only [ofNF]; rw [ofNF_eq (f := f) (g := g) (by omega) (by omega)]
theorem ofN_zero : ofN 0 = [] := rfl
theorem ofN_pos {n : Nat} (h : 0 < n) : ofN n = n % 4294967296 :: ofN (n / 4294967296) := by
  obtain ⟨k, rfl⟩ : ∃ k, n = k + 1 := ⟨n - 1, by omega⟩
  show ofNF (k + 1) (k + 1) = _
  simp only [ofNF]
  rw [show ofN ((k + 1) / 4294967296) = ofNF ((k + 1) / 4294967296) ((k + 1) / 4294967296) from rfl]
  rw [ofNF_eq (f := k) (g := (k + 1) / 4294967296) (by omega) (by omega)]
theorem val_ofN (n : Nat) : val (ofN n) = n := by
  induction n using Nat.strongRecOn with
  | _ n ih =>
    by_cases h : n = 0
    · subst h; rfl
    · rw [ofN_pos (by omega)]
      simp only [val]
      rw [ih _ (by omega)]; omega
theorem Dg.ofN (n : Nat) : Dg (ofN n) := by
  induction n using Nat.strongRecOn with
  | _ n ih =>
    by_cases h : n = 0
    · subst h; exact Dg.nil
    · rw [ofN_pos (by omega)]; exact Dg.cons (by omega) (ih _ (by omega))
/-- No digit 0 on top. -/
def Canon (l : List Nat) : Prop := l = [] ∨ l.getD (l.length - 1) 0 ≠ 0
theorem Canon.tail {d e : Nat} {r : List Nat} (h : Canon (d :: e :: r)) : Canon (e :: r) := by
  rcases h with h | h
  · cases h
  · right; simpa using h
theorem ofN_val : ∀ {l : List Nat}, Dg l → Canon l → ofN (val l) = l
  | [], _, _ => rfl
  | d :: r, hd, hc => by
    have hr : ofN (val r) = r := by
      cases r with
      | nil => rfl
      | cons e r => exact ofN_val hd.tail hc.tail
    have h1 := hd.head
    have h2 : 0 < d + 4294967296 * val r := by
      cases r with
      | nil =>
        rcases hc with h | h
        · cases h
        · simp at h; omega
      | cons e r =>
        rcases hc.tail with h | h
        · cases h
        · have := val_pos h
          have h3 : 0 < 4294967296 ^ ((e :: r).length - 1) := Nat.pow_pos (by omega)
          omega
    simp only [val]
    rw [ofN_pos h2]
    rw [show (d + 4294967296 * val r) % 4294967296 = d by omega, show (d + 4294967296 * val r) / 4294967296 = val r by omega, hr]
theorem Canon.ofN (n : Nat) : Canon (ofN n) := by
  induction n using Nat.strongRecOn with
  | _ n ih =>
    by_cases h : n = 0
    · subst h; exact .inl rfl
    · rw [ofN_pos (by omega)]
      right
      rcases ih (n / 4294967296) (by omega) with h1 | h1
      · rw [h1]
        have : n / 4294967296 = 0 := by rw [← val_ofN (n / 4294967296), h1]; rfl
        simp; omega
      · have hl : (Go.Av.ofN (n / 4294967296)).length ≠ 0 := by
          intro h0
          rw [getD_lt (by omega)] at h1; exact h1 rfl
        obtain ⟨m, hm⟩ : ∃ m, (Go.Av.ofN (n / 4294967296)).length = m + 1 := ⟨_, (Nat.succ_pred hl).symm⟩
        rw [hm] at h1
        simp only [List.length_cons, hm, Nat.add_sub_cancel, List.getD_cons_succ] at h1 ⊢
        exact h1
theorem val_inj {a b : List Nat} (ha : Dg a) (hb : Dg b) (ca : Canon a) (cb : Canon b) (h : val a = val b) : a = b := by
  rw [← ofN_val ha ca, ← ofN_val hb cb, h]
/-- The digits below k, where those from k on are 0 and the one before k is not. -/
theorem take_ofN {l : List Nat} {k : Nat} (hd : Dg l) (hk : k ≤ l.length) (hz : ∀ i, k ≤ i → i < l.length → l.getD i 0 = 0) (ht : k = 0 ∨ l.getD (k - 1) 0 ≠ 0) :
    l.take k = ofN (val l) := by
  have e1 : val l = val (l.take k) := by
    have := vt_zeros (l := l) (k := k) hz hk
    rw [vt_len] at this; exact this
  rw [e1, ofN_val (hd.take k)]
  by_cases hk0 : k = 0
  · subst hk0; left; simp
  · right
    replace ht := ht.resolve_left hk0
    rw [List.length_take, Nat.min_eq_left hk, getD_take, if_pos (by omega)]
    exact ht
theorem ofN_len_le {n k : Nat} : n < 4294967296 ^ k → (ofN n).length ≤ k := by
  intro h
  rcases Canon.ofN n with h1 | h1
  · rw [h1]; simp
  · have := val_pos h1
    rw [val_ofN] at this
    have h2 : 4294967296 ^ ((ofN n).length - 1) < 4294967296 ^ k := by omega
    have := (Nat.pow_lt_pow_iff_right (by omega : 1 < 4294967296)).1 h2
    omega
theorem ofN_len_lt (n : Nat) : n < 4294967296 ^ (ofN n).length := by
  have := val_lt (Dg.ofN n); rwa [val_ofN] at this
theorem ofN_len_gt {n k : Nat} (h : 4294967296 ^ k ≤ n) : k < (ofN n).length := by
  have := ofN_len_lt n
  exact (Nat.pow_lt_pow_iff_right (by omega : 1 < 4294967296)).1 (by omega)
theorem ofN_eq_nil {n : Nat} : ofN n = [] ↔ n = 0 := ⟨fun h => by rw [← val_ofN n, h]; rfl, fun h => by subst h; rfl⟩
theorem ofN_len_le_of {l : List Nat} (h : Dg l) : (ofN (val l)).length ≤ l.length := ofN_len_le (val_lt h)
theorem ofN_len_mono {m n : Nat} (h : m ≤ n) : (ofN m).length ≤ (ofN n).length := ofN_len_le (Nat.lt_of_le_of_lt h (ofN_len_lt n))
/-- Bits of a number. -/
def bl (n : Nat) : Nat := if n = 0 then 0 else Nat.log2 n + 1
theorem bl_lt (n : Nat) : n < 2 ^ bl n := by
  unfold bl; split
  · rename_i h; subst h; decide
  · exact Nat.lt_log2_self
theorem bl_le {n : Nat} (h : n ≠ 0) : 2 ^ (bl n - 1) ≤ n := by
  unfold bl; rw [if_neg h]; exact Nat.log2_self_le h
theorem bl_unique {n k : Nat} (h : n < 2 ^ k) (h2 : k = 0 ∨ 2 ^ (k - 1) ≤ n) : bl n = k := by
  by_cases hn : n = 0
  · subst hn
    rcases h2 with h2 | h2
    · subst h2; rfl
    · have : 0 < 2 ^ (k - 1) := Nat.pow_pos (by omega)
      omega
  · have h3 := bl_lt n
    have h4 := bl_le hn
    have hb : bl n ≠ 0 := by unfold bl; rw [if_neg hn]; omega
    have h5 : bl n - 1 < k := (Nat.pow_lt_pow_iff_right (by omega : 1 < 2)).1 (by omega)
    rcases h2 with h2 | h2
    · omega
    · have h6 : k - 1 < bl n := (Nat.pow_lt_pow_iff_right (by omega : 1 < 2)).1 (by omega)
      omega
theorem bl_mul {n k r : Nat} (h : n ≠ 0) (hr : r < 2 ^ k) : bl (n * 2 ^ k + r) = bl n + k := by
  have h1 := bl_lt n
  have h2 := bl_le h
  have hb : bl n ≠ 0 := by unfold bl; rw [if_neg h]; omega
  apply bl_unique
  · rw [Nat.pow_add]
    have : (n + 1) * 2 ^ k ≤ 2 ^ bl n * 2 ^ k := Nat.mul_le_mul_right _ (by omega)
    grind
  · right
    rw [show bl n + k - 1 = (bl n - 1) + k by omega, Nat.pow_add]
    have : 2 ^ (bl n - 1) * 2 ^ k ≤ n * 2 ^ k := Nat.mul_le_mul_right _ h2
    omega
theorem vt_top {a b : List Nat} {k : Nat} (h : ∀ i, k ≤ i → a.getD i 0 = b.getD i 0) : ∀ {n}, k ≤ n → vt a n + vt b k = vt b n + vt a k
  | 0, hn => by have : k = 0 := by omega
                subst this; omega
  | n + 1, hn => by
    by_cases hk : k = n + 1
    · subst hk; omega
    · have := vt_top h (n := n) (by omega)
      rw [vt_succ, vt_succ, h n (by omega)]; omega
theorem val_top {a b : List Nat} {k : Nat} (h : ∀ i, k ≤ i → a.getD i 0 = b.getD i 0) : val a + vt b k = val b + vt a k := by
  have := vt_top h (n := k + a.length + b.length) (by omega)
  rwa [vt_ge (l := a) (i := k + a.length + b.length) (by omega), vt_ge (l := b) (i := k + a.length + b.length) (by omega)] at this
theorem vt_less {a b : List Nat} {k : Nat} (ha : Dg a) (h : a.getD k 0 < b.getD k 0) : vt a (k + 1) < vt b (k + 1) := by
  have h1 := vt_lt ha k
  rw [vt_succ, vt_succ]
  have : 4294967296 ^ k * (a.getD k 0 + 1) ≤ 4294967296 ^ k * b.getD k 0 := Nat.mul_le_mul_left _ h
  rw [Nat.mul_add] at this
  omega
theorem vt_set_in {l : List Nat} {k v n : Nat} (hk : k < l.length) (hn : k < n) : vt (l.set k v) n + 4294967296 ^ k * l.getD k 0 = vt l n + 4294967296 ^ k * v := by
  have h := vt_top (a := l.set k v) (b := l) (k := k + 1) (fun i hi => by rw [getD_set hk, if_neg (by omega)]) (n := n) hn
  rw [vt_set_succ hk, vt_succ] at h
  omega
theorem vt_replicate (n : Nat) : ∀ i, vt (List.replicate n 0) i = 0
  | 0 => vt_zero _
  | i + 1 => by
    rw [vt_succ, vt_replicate n i]
    have : (List.replicate n 0).getD i 0 = 0 := by simp only [List.getD, List.getElem?_replicate]; split <;> simp
    rw [this]; omega
/-- The value of i digits from the digit j on. -/
def vd (l : List Nat) (j i : Nat) : Nat := vt (l.drop j) i
theorem getD_drop (l : List Nat) (j i : Nat) : (l.drop j).getD i 0 = l.getD (j + i) 0 := by simp [List.getD, List.getElem?_drop]
theorem vd_zero (l : List Nat) (j : Nat) : vd l j 0 = 0 := vt_zero _
theorem vd_succ (l : List Nat) (j i : Nat) : vd l j (i + 1) = vd l j i + 4294967296 ^ i * l.getD (j + i) 0 := by
  unfold vd; rw [vt_succ, getD_drop]
theorem vd_congr {l r : List Nat} {j i : Nat} (h : ∀ t, t < i → l.getD (j + t) 0 = r.getD (j + t) 0) : vd l j i = vd r j i := by
  unfold vd; exact vt_congr fun t ht => by rw [getD_drop, getD_drop]; exact h t ht
theorem vd_set {l : List Nat} {j k v i : Nat} (hk : j + k < l.length) (hi : i ≤ k) : vd (l.set (j + k) v) j i = vd l j i :=
  vd_congr fun t ht => by rw [getD_set hk, if_neg (by omega)]
theorem vd_set_succ {l : List Nat} {j k v : Nat} (hk : j + k < l.length) : vd (l.set (j + k) v) j (k + 1) = vd l j k + 4294967296 ^ k * v := by
  rw [vd_succ, vd_set hk (Nat.le_refl _), getD_set hk, if_pos rfl]
theorem Dg.drop {l : List Nat} (h : Dg l) (j : Nat) : Dg (l.drop j) := fun i => by rw [getD_drop]; exact h _
theorem vd_lt {l : List Nat} (h : Dg l) (j i : Nat) : vd l j i < 4294967296 ^ i := vt_lt (h.drop j) i
theorem vt_vd (l : List Nat) (j : Nat) : ∀ i, vt l (j + i) = vt l j + 4294967296 ^ j * vd l j i
  | 0 => by rw [vd_zero, Nat.mul_zero]; rfl
  | i + 1 => by
    rw [← Nat.add_assoc, vt_succ, vt_vd l j i, vd_succ, Nat.pow_add, Nat.mul_add, Nat.mul_assoc]; omega
theorem val_snoc (l : List Nat) (d : Nat) : val (l ++ [d]) = val l + 4294967296 ^ l.length * d := by
  induction l with
  | nil => simp [val]
  | cons e l ih => simp only [List.cons_append, val, List.length_cons, ih, Nat.pow_succ]; grind
end Go.Av
