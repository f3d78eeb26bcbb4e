/- Bezout: the plain law. -/
import Derived.Test.YtddcgojpgdhefaaGreatDoorGcd
namespace Go.El
/-- What holds in each round. -/
structure BezI (a b r0 r1 f0 f1 : Int) : Prop where
  p0 : 0 < r0
  p1 : 0 ≤ r1
  g : Int.gcd r0 r1 = Int.gcd a b
  d0 : b ∣ f0 * a - r0
  d1 : b ∣ f1 * a - r1
  s : f0 * f1 ≤ 0
  e : r0 * (f1.natAbs : Int) + r1 * (f0.natAbs : Int) = (b.natAbs : Int)
  b0 : (f0.natAbs : Int) ≤ b.natAbs
  b1 : (f1.natAbs : Int) ≤ b.natAbs
  q0 : r0 ≤ b.natAbs
  q1 : r1 ≤ b.natAbs
theorem gcd_natAbs_mod (a b : Int) : Int.gcd (b.natAbs : Int) (a % b) = Int.gcd a b := by
  have h2 : Int.gcd b (a % b) = Int.gcd b a := by
    have h3 := Int.gcd_add_mul_left_right b (a % b) (a / b)
    rw [Int.emod_add_mul_ediv] at h3
    exact h3.symm
  rw [Int.gcd_comm a b, ← h2]
  show Nat.gcd b.natAbs _ = Nat.gcd b.natAbs _
  rfl
theorem mul_nonpos_cases {x y : Int} (h : x * y ≤ 0) : (0 ≤ x ∧ y ≤ 0) ∨ (x ≤ 0 ∧ 0 ≤ y) := by
  by_cases hx : 0 < x
  · refine Or.inl ⟨by omega, ?_⟩
    by_cases hy : 0 < y
    · have := Int.mul_pos hx hy; omega
    · omega
  · by_cases hx0 : x = 0
    · subst hx0; omega
    · refine Or.inr ⟨by omega, ?_⟩
      by_cases hy : y < 0
      · have := Int.mul_pos_of_neg_of_neg (show x < 0 by omega) hy; omega
      · omega
theorem abs_alt {x y q : Int} (h : x * y ≤ 0) (hq : 0 ≤ q) : ((x - q * y).natAbs : Int) = x.natAbs + q * (y.natAbs : Int) := by
  rcases mul_nonpos_cases h with ⟨h1, h2⟩ | ⟨h1, h2⟩
  · rw [show ((y.natAbs : Nat) : Int) = -y by omega, show ((x.natAbs : Nat) : Int) = x by omega, Int.mul_neg]
    have h3 : q * y ≤ 0 := by
      have := Int.mul_nonneg hq (show 0 ≤ -y by omega)
      rw [Int.mul_neg] at this; omega
    omega
  · rw [show ((y.natAbs : Nat) : Int) = y by omega, show ((x.natAbs : Nat) : Int) = -x by omega]
    have h3 : 0 ≤ q * y := Int.mul_nonneg hq h2
    omega
theorem BezI.init {a b : Int} (hb : b ≠ 0) : BezI a b b.natAbs (a % b) 0 1 := by
  have h1 := Int.emod_nonneg a hb
  have h2 := Int.emod_lt a hb
  refine ⟨by omega, h1, gcd_natAbs_mod a b, ?_, ?_, by omega, by simp, by simp, by omega, by omega, by omega⟩
  · rw [Int.zero_mul, Int.zero_sub]
    exact (Int.dvd_neg.2 (Int.dvd_natAbs.2 (Int.dvd_refl b)))
  · rw [Int.one_mul]
    exact ⟨a / b, by have := Int.mul_ediv_add_emod a b; omega⟩
theorem BezI.step {a b r0 r1 f0 f1 : Int} (h : BezI a b r0 r1 f0 f1) (hr : 0 < r1) : BezI a b r1 (r0 % r1) f1 (f0 - r0 / r1 * f1) := by
  have hq : 0 ≤ r0 / r1 := Int.ediv_nonneg (Int.le_of_lt h.p0) (Int.le_of_lt hr)
  have hm := Int.emod_nonneg r0 (show r1 ≠ 0 by omega)
  have hl := Int.emod_lt_of_pos r0 hr
  have hd := Int.mul_ediv_add_emod r0 r1
  have hab := abs_alt h.s hq
  have he : r1 * ((f0 - r0 / r1 * f1).natAbs : Int) + r0 % r1 * (f1.natAbs : Int) = b.natAbs := by
    rw [hab, ← h.e]
    have e1 : r0 * (f1.natAbs : Int) = (r1 * (r0 / r1) + r0 % r1) * (f1.natAbs : Int) := by rw [hd]
    rw [e1, Int.mul_add, Int.add_mul, Int.mul_assoc]
    omega
  have hb1 : ((f0 - r0 / r1 * f1).natAbs : Int) ≤ b.natAbs := by
    have h5 : 0 ≤ r0 % r1 * (f1.natAbs : Int) := Int.mul_nonneg hm (by omega)
    have h6 : 1 * ((f0 - r0 / r1 * f1).natAbs : Int) ≤ r1 * ((f0 - r0 / r1 * f1).natAbs : Int) := Int.mul_le_mul_of_nonneg_right (by omega) (by omega)
    omega
  refine ⟨hr, hm, ?_, h.d1, ?_, ?_, he, h.b1, hb1, h.q1, by have := h.q1; omega⟩
  · rw [gcd_step (Int.le_of_lt h.p0) (Int.le_of_lt hr)]; exact h.g
  · have e2 : (f0 - r0 / r1 * f1) * a - r0 % r1 = (f0 * a - r0) - r0 / r1 * (f1 * a - r1) := by
      rw [Int.sub_mul, Int.mul_sub, Int.mul_assoc, Int.mul_comm (r0 / r1) r1]
      omega
    rw [e2]
    exact Int.dvd_sub h.d0 (Int.dvd_trans h.d1 (Int.dvd_mul_left _ _))
  · rw [Int.mul_sub]
    have h7 : 0 ≤ f1 * (r0 / r1 * f1) := by
      rw [Int.mul_comm (r0 / r1), ← Int.mul_assoc]
      exact Int.mul_nonneg (by rcases Int.le_total 0 f1 with h | h; exact Int.mul_nonneg h h; exact Int.mul_nonneg_of_nonpos_of_nonpos h h) hq
    have := h.s
    rw [Int.mul_comm] at this
    omega
/-- What Bezout gives, for a second number other than 0. -/
def BezRes (a b g u v : Int) : Prop := g = ((Int.gcd a b : Nat) : Int) ∧ u * a + v * b = g ∧ 0 ≤ u ∧ u < ((b / g).natAbs : Int)
theorem BezI.done {a b g f0 f1 : Int} (hb : b ≠ 0) (h : BezI a b g 0 f0 f1) : g = ((Int.gcd a b : Nat) : Int) ∧ b / g ≠ 0 ∧ BezRes a b g (f0 % (b / g)) ((g - f0 % (b / g) * a) / b) := by
  have hg : g = ((Int.gcd a b : Nat) : Int) := by
    rw [← h.g]
    obtain ⟨G, rfl⟩ := Int.eq_ofNat_of_zero_le (Int.le_of_lt h.p0)
    show (G : Int) = ((Nat.gcd G 0 : Nat) : Int)
    rw [Nat.gcd_zero_right]
  have hgb : g ∣ b := by rw [hg]; exact Int.gcd_dvd_right ..
  have hga : g ∣ a := by rw [hg]; exact Int.gcd_dvd_left ..
  have hc : b / g ≠ 0 := by
    intro e
    have := Int.ediv_mul_cancel hgb
    rw [e, Int.zero_mul] at this
    exact hb this.symm
  refine ⟨hg, hc, hg, ?_, Int.emod_nonneg _ hc, Int.emod_lt _ hc⟩
  have h1 : b ∣ g - f0 % (b / g) * a := by
    have e1 : f0 % (b / g) = f0 - (b / g) * (f0 / (b / g)) := by have := Int.mul_ediv_add_emod f0 (b / g); omega
    obtain ⟨k, hk⟩ := hga
    obtain ⟨m, hm⟩ := h.d0
    have hbg := Int.mul_ediv_cancel' hgb
    refine ⟨-m + f0 / (b / g) * k, ?_⟩
    rw [e1, Int.sub_mul]
    generalize f0 / (b / g) = t at *
    generalize b / g = c at *
    have e2 : c * t * a = b * (t * k) := by rw [hk, ← hbg]; grind
    rw [e2, Int.mul_add, Int.mul_neg]
    omega
  rw [Int.ediv_mul_cancel h1]
  omega
end Go.El
