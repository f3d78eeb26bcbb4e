/- Newton's roots: the plain law. -/
import Derived.Test.YtddcgojpgdhefaaGreatDoorGcd
namespace Go.El
/-- r is the k-th root of a, rounded down. -/
def IsRoot (a : Int) (k : Nat) (r : Int) : Prop := 0 ≤ r ∧ r ^ k ≤ a ∧ a < (r + 1) ^ k
theorem ipow_le {x y : Int} (hx : 0 ≤ x) (h : x ≤ y) (k : Nat) : x ^ k ≤ y ^ k := by
  induction k with
  | zero => rw [Int.pow_zero, Int.pow_zero]; exact Int.le_refl _
  | succ k ih =>
    rw [Int.pow_succ, Int.pow_succ]
    exact Int.mul_le_mul ih h hx (Int.pow_nonneg (Int.le_trans hx h))
theorem IsRoot.uniq {a : Int} {k : Nat} {r s : Int} (hr : IsRoot a k r) (hs : IsRoot a k s) : r = s := by
  have h1 : ¬ r + 1 ≤ s := fun h => by
    have := ipow_le (show 0 ≤ r + 1 by have := hr.1; omega) h k
    have := hr.2.2; have := hs.2.1; omega
  have h2 : ¬ s + 1 ≤ r := fun h => by
    have := ipow_le (show 0 ≤ s + 1 by have := hs.1; omega) h k
    have := hs.2.2; have := hr.2.1; omega
  omega
theorem sq_nonneg' (y : Int) : 0 ≤ y * y := by
  rcases Int.le_total 0 y with h | h
  · exact Int.mul_nonneg h h
  · exact Int.mul_nonneg_of_nonpos_of_nonpos h h
/-- The line under the power. -/
theorem tangent {m x : Int} (hm : 0 ≤ m) (hx : 0 ≤ x) (k : Nat) : ((k : Int) + 1) * m * x ^ k ≤ m ^ (k + 1) + (k : Int) * x ^ (k + 1) := by
  induction k with
  | zero => simp [Int.pow_succ]
  | succ k ih =>
    have h1 := Int.mul_le_mul_of_nonneg_left ih hm
    have h2 : 0 ≤ ((k : Int) + 1) * x ^ k * ((x - m) * (x - m)) := Int.mul_nonneg (Int.mul_nonneg (by omega) (Int.pow_nonneg hx)) (sq_nonneg' _)
    have e : m ^ (k + 1 + 1) + ((k + 1 : Nat) : Int) * x ^ (k + 1 + 1) - (((k + 1 : Nat) : Int) + 1) * m * x ^ (k + 1) = (m * (m ^ (k + 1) + (k : Int) * x ^ (k + 1)) - m * (((k : Int) + 1) * m * x ^ k)) + ((k : Int) + 1) * x ^ k * ((x - m) * (x - m)) := by
      simp only [Int.pow_succ]
      generalize x ^ k = X
      generalize m ^ k = M
      rw [show ((k + 1 : Nat) : Int) = (k : Int) + 1 by omega]
      grind
    omega
/-- Newton's step stays above. -/
theorem newton_up {a x q n : Int} {k : Nat} (hx : 1 ≤ x) (ha : 0 ≤ a) (hq : q = a / x ^ k) (hn : n = (x * (k : Int) + q) / ((k : Int) + 1)) : a < (n + 1) ^ (k + 1) ∧ 0 ≤ n := by
  have hxk : 0 < x ^ k := Int.pow_pos (by omega)
  have hq0 : 0 ≤ q := by rw [hq]; exact Int.ediv_nonneg ha (by omega)
  have hxk0 : 0 ≤ x * (k : Int) := Int.mul_nonneg (by omega) (by omega)
  have hn0 : 0 ≤ n := by rw [hn]; exact Int.ediv_nonneg (by omega) (by omega)
  refine ⟨?_, hn0⟩
  have h1 : a < (q + 1) * x ^ k := by
    rw [hq]
    have := Int.lt_mul_of_ediv_lt hxk (show a / x ^ k < a / x ^ k + 1 by omega)
    exact this
  have h2 : x * (k : Int) + q < (n + 1) * ((k : Int) + 1) := by
    rw [hn]
    have := Int.lt_mul_of_ediv_lt (show 0 < (k : Int) + 1 by omega) (show (x * (k : Int) + q) / ((k : Int) + 1) < (x * (k : Int) + q) / ((k : Int) + 1) + 1 by omega)
    exact this
  have h3 := tangent (m := n + 1) (x := x) (by omega) (by omega) k
  have h4 : (q + 1) * x ^ k ≤ ((n + 1) * ((k : Int) + 1) - x * (k : Int)) * x ^ k := Int.mul_le_mul_of_nonneg_right (by omega) (by omega)
  have e : ((n + 1) * ((k : Int) + 1) - x * (k : Int)) * x ^ k = ((k : Int) + 1) * (n + 1) * x ^ k - (k : Int) * x ^ (k + 1) := by
    rw [Int.pow_succ]
    generalize x ^ k = X
    grind
  omega
/-- Where Newton's step does not go down, the root is found. -/
theorem newton_stop {a x q n : Int} {k : Nat} (hx : 1 ≤ x) (_ha : 0 ≤ a) (hq : q = a / x ^ k) (hn : n = (x * (k : Int) + q) / ((k : Int) + 1)) (hge : x ≤ n) : x ^ (k + 1) ≤ a := by
  have hxk : 0 < x ^ k := Int.pow_pos (by omega)
  have h1 : x * ((k : Int) + 1) ≤ x * (k : Int) + q := by
    have h2 : n * ((k : Int) + 1) ≤ x * (k : Int) + q := by
      rw [hn]; exact Int.ediv_mul_le _ (by omega)
    have h3 : x * ((k : Int) + 1) ≤ n * ((k : Int) + 1) := Int.mul_le_mul_of_nonneg_right hge (by omega)
    omega
  have h4 : x ≤ q := by rw [Int.mul_add, Int.mul_one] at h1; omega
  have h5 : q * x ^ k ≤ a := by rw [hq]; exact Int.ediv_mul_le _ (by omega)
  have h6 : x * x ^ k ≤ q * x ^ k := Int.mul_le_mul_of_nonneg_right h4 (by omega)
  rw [Int.pow_succ, Int.mul_comm]
  omega
theorem fits_blen {a : Int} {K : Nat} (h : Fits a K) : blen a.natAbs ≤ 32 * K := by
  refine blen_le ?_
  unfold Fits at h
  rw [pw_pow] at h
  exact_mod_cast h
theorem ceil_le {b k : Nat} (hb : 1 ≤ b) (hk : 1 ≤ k) : (b + k - 1) / k ≤ b := by
  refine Nat.div_le_of_le_mul ?_
  obtain ⟨b, rfl⟩ : ∃ b', b = b' + 1 := ⟨b - 1, by omega⟩
  obtain ⟨k, rfl⟩ : ∃ k', k = k' + 1 := ⟨k - 1, by omega⟩
  rw [Nat.mul_add, Nat.add_mul, Nat.mul_one, Nat.one_mul]
  generalize k * b = q
  omega
theorem ceil_int {b k : Nat} (hk : 1 ≤ k) : ((b : Int) + k - 1) / k = (((b + k - 1) / k : Nat) : Int) := by
  rw [Int.natCast_ediv, show ((b + k - 1 : Nat) : Int) = (b : Int) + k - 1 by omega]
theorem root_start {a : Int} {b k c : Nat} (ha : 0 ≤ a) (hb : a.toNat < 2 ^ b) (hk : 1 ≤ k) (hc : c = (b + k - 1) / k) : a < ((2 : Int) ^ c + 1) ^ k := by
  have h1 : b ≤ c * k := by
    rw [hc]
    have := Nat.div_add_mod (b + k - 1) k
    have := Nat.mod_lt (b + k - 1) (show 0 < k by omega)
    rw [Nat.mul_comm]; omega
  have h2 : (2 : Int) ^ (c * k) ≤ ((2 : Int) ^ c + 1) ^ k := by
    rw [Int.pow_mul]
    exact ipow_le (Int.pow_nonneg (by omega)) (by omega) k
  have h3 : a.toNat < 2 ^ (c * k) := Nat.lt_of_lt_of_le hb (Nat.pow_le_pow_right (by omega) h1)
  have h4 : (a.toNat : Int) < ((2 ^ (c * k) : Nat) : Int) := by exact_mod_cast h3
  rw [Int.natCast_pow] at h4
  rw [show (a.toNat : Int) = a by omega] at h4
  exact Int.lt_of_lt_of_le h4 h2
theorem isRoot_big {a : Int} {b k : Nat} (ha : 0 ≤ a) (hb : a.toNat < 2 ^ b) (hk : 1 ≤ k) (h : b ≤ k) : IsRoot a k (sgn a 0) := by
  by_cases h0 : a = 0
  · subst h0
    rw [sgn_eq]
    refine ⟨Int.le_refl _, ?_, ?_⟩
    · rw [show k = (k - 1) + 1 by omega, Int.pow_succ, Int.mul_zero]; exact Int.le_refl _
    · rw [Int.zero_add, Int.one_pow]; omega
  · rw [sgn_gt (show (0 : Int) < a by omega)]
    refine ⟨by omega, by rw [Int.one_pow]; omega, ?_⟩
    have h3 : a.toNat < 2 ^ k := Nat.lt_of_lt_of_le hb (Nat.pow_le_pow_right (by omega) h)
    have h4 : (a.toNat : Int) < ((2 ^ k : Nat) : Int) := by exact_mod_cast h3
    rw [Int.natCast_pow] at h4
    rw [show (a.toNat : Int) = a by omega] at h4
    exact h4
end Go.El
