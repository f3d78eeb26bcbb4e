/- The digit of a quotient (Knuth's algorithm D): plain laws, no program. -/
import Derived.Test.YtddcgojpgdhefaaGreatDoorMath2
namespace Go.El
set_option linter.unusedVariables false

/-! ### Rows in the middle of a longer row; rows half written -/
def mid (A L C : List Int) : List Int := A ++ (L ++ C)
theorem mid_get (A L C : List Int) (i : Nat) (h : i < L.length) : (mid A L C)[A.length + i]? = some (L.getD i 0) := by
  unfold mid
  rw [List.getElem?_append_right (by omega), Nat.add_sub_cancel_left, List.getElem?_append_left h, getD_lt h, List.getElem?_eq_getElem h]
theorem mid_set (A L C : List Int) (i : Nat) (z : Int) (h : i < L.length) : (mid A L C).set (A.length + i) z = mid A (L.set i z) C := by
  unfold mid
  rw [List.set_append_right _ _ (by omega), Nat.add_sub_cancel_left, List.set_append_left _ _ h]
/-- The first words new, the others as in L. -/
def half (P L : List Int) : List Int := P ++ L.drop P.length
theorem half_nil (L : List Int) : half [] L = L := by simp [half]
theorem half_length (P L : List Int) (h : P.length ≤ L.length) : (half P L).length = L.length := by simp [half]; omega
theorem half_get (P L : List Int) (k : Nat) (hk : P.length = k) : (half P L).getD k 0 = L.getD k 0 := by
  subst hk
  simp only [half, List.getD]
  rw [List.getElem?_append_right (Nat.le_refl _), Nat.sub_self, List.getElem?_drop, Nat.add_zero]
theorem half_set (P L : List Int) (k : Nat) (z : Int) (hk : P.length = k) (hl : k < L.length) : (half P L).set k z = half (P ++ [z]) L := by
  subst hk
  unfold half
  rw [List.set_append_right _ _ (Nat.le_refl _), Nat.sub_self, List.drop_eq_getElem_cons hl, List.set_cons_zero]
  simp
theorem half_full (P L : List Int) (h : L.length ≤ P.length) : half P L = P := by simp [half, List.drop_of_length_le h]
theorem half_wf {P L : List Int} (hp : Wf P) (hl : Wf L) : Wf (half P L) := hp.append (hl.drop _)

/-! ### d times v taken away, word by word: the digits, the carry, the borrow -/
def msTo (x v : List Int) (d : Int) : Nat → List Int × Int × Int
  | 0 => ([], 0, 0)
  | k + 1 =>
    let t := (msTo x v d k).2.1 + d * v.getD k 0
    let s := x.getD k 0 - t % 4294967296 - (msTo x v d k).2.2
    ((msTo x v d k).1 ++ [s % 4294967296], t / 4294967296, -(s / 4294967296))
theorem msTo_length (x v : List Int) (d : Int) (k : Nat) : (msTo x v d k).1.length = k := by
  induction k with
  | zero => rfl
  | succ k ih => simp [msTo, ih]
theorem msTo_wf (x v : List Int) (d : Int) (k : Nat) : Wf (msTo x v d k).1 := by
  induction k with
  | zero => exact Wf.nil
  | succ k ih => exact ih.append (Wf.nil.cons (by omega) (by omega))
theorem msTo_bd {x v : List Int} {d : Int} (hx : Wf x) (hv : Wf v) (hd : 0 ≤ d) (hd' : d < 4294967296) (k : Nat) :
    0 ≤ (msTo x v d k).2.1 ∧ (msTo x v d k).2.1 < 4294967296 ∧ 0 ≤ (msTo x v d k).2.2 ∧ (msTo x v d k).2.2 ≤ 1 := by
  induction k with
  | zero => simp [msTo]
  | succ k ih =>
    have h1 := hx.getD k
    have h2 := hv.getD k
    have h3 := mul32_bound hd hd' h2.1 h2.2
    simp only [msTo]
    omega
theorem msTo_val (x v : List Int) (d : Int) (k : Nat) : val (msTo x v d k).1 = val (x.take k) - d * val (v.take k) + pw k * ((msTo x v d k).2.1 + (msTo x v d k).2.2) := by
  induction k with
  | zero => simp [msTo, val]
  | succ k ih =>
    rw [val_take_succ, val_take_succ]
    simp only [msTo]
    rw [val_snoc, msTo_length, ih]
    generalize (msTo x v d k).2.1 = c
    generalize (msTo x v d k).2.2 = b
    generalize x.getD k 0 = y
    generalize v.getD k 0 = z
    have e2 : pw (k + 1) = pw k * 4294967296 := by simp only [pw]; omega
    rw [e2, Int.mul_add d, Int.mul_left_comm d (pw k) z, Int.mul_assoc]
    have e : ∀ t s : Int, t = c + d * z → s = y - t % 4294967296 - b → s % 4294967296 + (d * z) + (c + b) = y + 4294967296 * (t / 4294967296 + -(s / 4294967296)) := fun t s ht hs => by omega
    have e' := congrArg (fun q => pw k * q) (e _ _ rfl rfl)
    simp only [Int.mul_add] at e' ⊢
    omega
theorem msTo_carry {x v : List Int} {d : Int} (hv : Wf v) (hd : 0 ≤ d) (k : Nat) : pw k * (msTo x v d k).2.1 ≤ d * val (v.take k) := by
  induction k with
  | zero => simp [msTo, val]
  | succ k ih =>
    rw [val_take_succ]
    simp only [msTo]
    generalize (msTo x v d k).2.1 = c at *
    generalize v.getD k 0 = z
    have e2 : pw (k + 1) = pw k * 4294967296 := by simp only [pw]; omega
    rw [e2, Int.mul_add d, Int.mul_left_comm d (pw k) z, Int.mul_assoc]
    have hp := pw_pos k
    have h1 : 4294967296 * ((c + d * z) / 4294967296) ≤ c + d * z := by omega
    have h2 : pw k * (4294967296 * ((c + d * z) / 4294967296)) ≤ pw k * (c + d * z) := Int.mul_le_mul_of_nonneg_left h1 (by omega)
    rw [Int.mul_add] at h2
    omega
/-- At the end no carry is left. -/
theorem msTo_end {x v : List Int} {d : Int} {n : Nat} (hx : Wf x) (hv : Wf v) (hd : 0 ≤ d) (hd' : d < 4294967296) (hvl : v.length = n) (hxl : x.length = n + 1) :
    (msTo x v d (n + 1)).2.1 = 0 ∧ val (msTo x v d (n + 1)).1 = val x - d * val v + pw (n + 1) * (msTo x v d (n + 1)).2.2 := by
  have h1 := msTo_carry (x := x) hv hd (n + 1)
  have h2 := msTo_bd hx hv hd hd' (n + 1)
  have h3 := msTo_val x v d (n + 1)
  rw [List.take_of_length_le (by omega)] at h1
  rw [List.take_of_length_le (by omega), List.take_of_length_le (by omega)] at h3
  have h4 := val_lt hv
  have h5 := val_nonneg hv
  rw [hvl] at h4
  have h0 : (msTo x v d (n + 1)).2.1 = 0 := by
    apply Decidable.byContradiction
    intro hne
    have h6 : pw (n + 1) * 1 ≤ pw (n + 1) * (msTo x v d (n + 1)).2.1 := Int.mul_le_mul_of_nonneg_left (by omega) (by have := pw_pos (n + 1); omega)
    have h7 : d * val v ≤ 4294967295 * val v := Int.mul_le_mul_of_nonneg_right (by omega) h5
    simp only [pw] at h6 h1
    omega
  refine ⟨h0, ?_⟩
  rw [h3, h0, Int.zero_add]

/-! ### The guess is not less than the digit -/
/-- q v <= x; T the two first words of x, v1, v2 those of v; M what follows counts. -/
theorem guess_ge {q X V T v1 n : Int} (hn : 0 < n) (hv1 : 0 < v1) (hq : 0 ≤ q) (hqx : q * V ≤ X) (hV : v1 * n ≤ V) (hX : X < (T + 1) * n) : q ≤ T / v1 := by
  have h1 : q * (v1 * n) ≤ q * V := Int.mul_le_mul_of_nonneg_left hV hq
  have h2 : (q * v1) * n < (T + 1) * n := by rw [Int.mul_assoc]; omega
  have h3 : q * v1 < T + 1 := Int.lt_of_mul_lt_mul_right h2 (by omega)
  exact Int.le_ediv_of_mul_le hv1 (by omega)
theorem guess_less {q X V T v1 v2 u2 d r n : Int} (hn : 0 < n) (hV0 : 0 ≤ V) (hqx : q * V ≤ X) (hV : (v1 * 4294967296 + v2) * n ≤ V) (hX : X < (T * 4294967296 + u2 + 1) * n) (hdr : d * v1 + r = T) (hd : 0 ≤ d) (hgt : r * 4294967296 + u2 < d * v2) : q < d := by
  apply Decidable.byContradiction
  intro hnot
  have hle : d ≤ q := by omega
  have h1 : d * V ≤ q * V := Int.mul_le_mul_of_nonneg_right hle hV0
  have h3 : d * ((v1 * 4294967296 + v2) * n) ≤ d * V := Int.mul_le_mul_of_nonneg_left hV hd
  have e : T * 4294967296 + u2 + 1 ≤ d * (v1 * 4294967296 + v2) := by
    rw [Int.mul_add, ← Int.mul_assoc]
    have : d * v1 = T - r := by omega
    rw [this, Int.sub_mul]; omega
  have h4 : (T * 4294967296 + u2 + 1) * n ≤ d * (v1 * 4294967296 + v2) * n := Int.mul_le_mul_of_nonneg_right e (by omega)
  rw [Int.mul_assoc d] at h4
  omega
/-- If the second test lets it be, the guess is at most 1 too great. -/
theorem guess_near {X V T v1 v2 u2 d n : Int} (hn : 0 < n) (hv1 : 0 < v1) (hd : 0 ≤ d) (hd' : d ≤ 4294967296) (hV1 : v1 * 4294967296 * n ≤ V) (hV : V < (v1 * 4294967296 + v2 + 1) * n) (hX : (T * 4294967296 + u2) * n ≤ X) (hle : d * (v1 * 4294967296 + v2) ≤ T * 4294967296 + u2) : (d - 1) * V ≤ X := by
  have h1 : d * (v1 * 4294967296 + v2) * n ≤ X := Int.le_trans (Int.mul_le_mul_of_nonneg_right hle (by omega)) hX
  have h2 : d * V ≤ d * ((v1 * 4294967296 + v2 + 1) * n) := Int.mul_le_mul_of_nonneg_left (by omega) hd
  have e : d * ((v1 * 4294967296 + v2 + 1) * n) = d * (v1 * 4294967296 + v2) * n + d * n := by
    rw [Int.add_mul, Int.one_mul, Int.mul_add, Int.mul_assoc]
  have h3 : d * n ≤ 4294967296 * n := Int.mul_le_mul_of_nonneg_right hd' (by omega)
  have h4 : 1 * (4294967296 * n) ≤ v1 * (4294967296 * n) := Int.mul_le_mul_of_nonneg_right (by omega) (by omega)
  rw [← Int.mul_assoc v1] at h4
  rw [Int.sub_mul, Int.one_mul]
  omega
/-- The two and the three first words against the whole. -/
theorem val_top2 {l : List Int} (h : Wf l) {m : Nat} (hl : l.length = m + 1) : l.getD m 0 * pw m ≤ val l ∧ val l < (l.getD m 0 + 1) * pw m := by
  have h1 := val_take_drop l m (by omega)
  rw [drop_cons (by omega), List.drop_of_length_le (by omega), val_one] at h1
  have h2 := val_nonneg (h.take m)
  have h3 := val_lt (h.take m)
  rw [List.length_take, Nat.min_eq_left (by omega)] at h3
  rw [Int.add_mul, Int.one_mul, Int.mul_comm (l.getD m 0)]
  omega
theorem val_top (l : List Int) (h : Wf l) (j : Nat) (hj : j ≤ l.length) : val (l.drop j) * pw j ≤ val l ∧ val l < (val (l.drop j) + 1) * pw j := by
  have h1 := val_take_drop l j hj
  have h2 := val_nonneg (h.take j)
  have h3 := val_lt (h.take j)
  rw [List.length_take, Nat.min_eq_left hj] at h3
  rw [Int.add_mul, Int.one_mul, Int.mul_comm (val (l.drop j))]
  omega
theorem drop_two {l : List Int} {n : Nat} (hl : l.length = n + 2) : val (l.drop n) = l.getD (n + 1) 0 * 4294967296 + l.getD n 0 := by
  rw [drop_cons (by omega), drop_cons (by omega), List.drop_of_length_le (by omega)]
  simp only [val]; omega
theorem drop_three {l : List Int} {n : Nat} (hl : l.length = n + 3) : val (l.drop n) = (l.getD (n + 2) 0 * 4294967296 + l.getD (n + 1) 0) * 4294967296 + l.getD n 0 := by
  have e : n + 1 + 1 = n + 2 := rfl
  rw [drop_cons (by omega), drop_cons (by omega), drop_cons (by omega), List.drop_of_length_le (by omega)]
  simp only [val, e]; omega
end Go.El
