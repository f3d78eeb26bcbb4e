/- Integers: DivMod. -/
import Derived.Test.YtddcgojpgdhefaaGreatDoorInt4
import Derived.Test.YtddcgojpgdhefaaGreatDoorDiv2
namespace Go.El
open Go.RowKit
theorem divmod_plain {a b : Int} {na nb : Bool} (hna : na = decide (a < 0)) (hnb : nb = decide (b < 0)) (hb : b ≠ 0) (h : na = true → (a.natAbs : Int) % b.natAbs = 0) :
    (a / b = if (!(na == nb)) then -((a.natAbs : Int) / b.natAbs) else (a.natAbs : Int) / b.natAbs) ∧ a % b = (a.natAbs : Int) % b.natAbs := by
  subst hna
  subst hnb
  have hb' : b < 0 ∨ 0 < b := by omega
  by_cases h1 : a < 0
  · have h0 := h (by simp [h1])
    have e0 : ((-a) / b.natAbs) * b.natAbs + 0 = -a := by
      have := Int.mul_ediv_add_emod (-a) b.natAbs
      rw [show ((a.natAbs : Nat) : Int) = -a by omega] at h0
      rw [h0] at this
      rw [Int.mul_comm]; exact this
    rw [show ((a.natAbs : Nat) : Int) = -a by omega] at h0 ⊢
    generalize hq : -a / (b.natAbs : Int) = q at *
    rcases hb' with h2 | h2
    · rw [show ((b.natAbs : Nat) : Int) = -b by omega] at *
      rw [if_neg (by simp [h1, h2]), h0]
      have e1 : a = b * q := by rw [Int.mul_neg] at e0; rw [Int.mul_comm]; omega
      rw [e1]
      exact ⟨Int.mul_ediv_cancel_left _ hb, Int.mul_emod_right _ _⟩
    · rw [show ((b.natAbs : Nat) : Int) = b by omega] at *
      rw [if_pos (by simp [h1]; omega), h0]
      have e1 : a = b * -q := by rw [Int.mul_neg, Int.mul_comm]; omega
      rw [e1]
      exact ⟨Int.mul_ediv_cancel_left _ hb, Int.mul_emod_right _ _⟩
  · rw [show ((a.natAbs : Nat) : Int) = a by omega]
    rcases hb' with h2 | h2
    · rw [show ((b.natAbs : Nat) : Int) = -b by omega]
      rw [if_pos (by simp [h1, h2]), Int.ediv_neg, Int.neg_neg, Int.emod_neg]
      exact ⟨rfl, rfl⟩
    · rw [show ((b.natAbs : Nat) : Int) = b by omega]
      rw [if_neg (by simp [h1]; omega)]
      exact ⟨rfl, rfl⟩
theorem divmod_up {a b : Int} {nb : Bool} (ha : a < 0) (hnb : nb = decide (b < 0)) (hb : b ≠ 0) (h : (a.natAbs : Int) % b.natAbs ≠ 0) :
    (a / b = if (!(true == nb)) then -((a.natAbs : Int) / b.natAbs + 1) else (a.natAbs : Int) / b.natAbs + 1) ∧ a % b = (b.natAbs : Int) - (a.natAbs : Int) % b.natAbs := by
  subst hnb
  have hb' : b < 0 ∨ 0 < b := by omega
  have e0 := Int.mul_ediv_add_emod (-a) b.natAbs
  rw [show ((a.natAbs : Nat) : Int) = -a by omega] at h ⊢
  have h3 := Int.emod_nonneg (-a) (show (b.natAbs : Int) ≠ 0 by omega)
  have h4 := Int.emod_lt_of_pos (-a) (show 0 < (b.natAbs : Int) by omega)
  generalize -a / (b.natAbs : Int) = q at *
  generalize -a % (b.natAbs : Int) = r at *
  rcases hb' with h2 | h2
  · rw [show ((b.natAbs : Nat) : Int) = -b by omega] at *
    rw [if_neg (by simp [h2])]
    have e2 := (Int.ediv_emod_unique (a := a) (b := -b) (q := -(q + 1)) (r := -b - r) (by omega)).2 ⟨by rw [Int.mul_neg, Int.mul_add]; omega, by omega, by omega⟩
    rw [Int.ediv_neg, Int.emod_neg] at e2
    exact ⟨by omega, e2.2⟩
  · rw [show ((b.natAbs : Nat) : Int) = b by omega] at *
    rw [if_pos (by simp; omega)]
    exact (Int.ediv_emod_unique (a := a) (b := b) (q := -(q + 1)) (r := b - r) (by omega)).2 ⟨by rw [Int.mul_neg, Int.mul_add]; omega, by omega, by omega⟩
theorem div_len {a b : Int} (ha : 0 ≤ a) (hb : 0 < b) : (digs (a / b)).length ≤ (digs a).length := by
  have h1 : 0 ≤ a / b := Int.ediv_nonneg ha (by omega)
  have h2 : a / b ≤ a := Int.ediv_le_self b ha
  exact digs_len_mono h1 h2
theorem emod_le' {a b : Int} (ha : 0 ≤ a) (hb : 0 < b) : a % b ≤ a := by
  have h1 := Int.mul_ediv_add_emod a b
  have h2 := Int.mul_nonneg (show 0 ≤ b by omega) (Int.ediv_nonneg ha (show 0 ≤ b by omega))
  omega
theorem digs_succ_len {z : Int} {k : Nat} (h0 : 0 ≤ z) (h : z < pw k) : (digs (z + 1)).length ≤ k + 1 :=
  digs_len_le (by omega) (by have := pw_pos k; simp only [pw]; omega)
end Go.El
