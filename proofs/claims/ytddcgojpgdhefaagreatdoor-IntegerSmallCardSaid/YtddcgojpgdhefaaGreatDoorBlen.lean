/- The number of bits. -/
import Derived.Test.YtddcgojpgdhefaaGreatDoorRef3
import Derived.Test.YtddcgojpgdhefaaGreatDoorShelfBits
namespace Go.El
/-- The number of bits of a number. -/
def blen (n : Nat) : Nat := if n = 0 then 0 else n.log2 + 1
theorem blen_zero : blen 0 = 0 := rfl
theorem blen_of {n m : Nat} (h1 : 2 ^ m ≤ n) (h2 : n < 2 ^ (m + 1)) : blen n = m + 1 := by
  have hn : n ≠ 0 := by have := Nat.two_pow_pos m; omega
  rw [blen, if_neg hn, (Nat.log2_eq_iff hn).2 ⟨h1, h2⟩]
theorem blen_pos {n : Nat} (h : n ≠ 0) : ∃ m, blen n = m + 1 ∧ 2 ^ m ≤ n ∧ n < 2 ^ (m + 1) := by
  refine ⟨n.log2, by rw [blen, if_neg h], ?_⟩
  exact (Nat.log2_eq_iff h).1 rfl
theorem blen_lt (n : Nat) : n < 2 ^ blen n := by
  by_cases h : n = 0
  · subst h; decide
  · obtain ⟨m, h1, _, h2⟩ := blen_pos h
    rw [h1]; exact h2
theorem blen_le {n k : Nat} (h : n < 2 ^ k) : blen n ≤ k := by
  by_cases h0 : n = 0
  · subst h0; exact Nat.zero_le _
  · obtain ⟨m, h1, h2, _⟩ := blen_pos h0
    rw [h1]
    exact (Nat.pow_lt_pow_iff_right (by omega)).1 (Nat.lt_of_le_of_lt h2 h)
theorem blen_half {n : Nat} (h : n ≠ 0) : blen n = blen (n / 2) + 1 := by
  obtain ⟨m, h1, h2, h3⟩ := blen_pos h
  rw [h1]
  cases m with
  | zero => have : n = 1 := by omega
            subst this; rfl
  | succ m =>
    rw [Nat.pow_succ] at h2
    rw [Nat.pow_succ] at h3
    rw [blen_of (n := n / 2) (m := m) (by omega) (by omega)]
theorem pw_pow (k : Nat) : pw k = ((2 ^ (32 * k) : Nat) : Int) := by
  induction k with
  | zero => rw [pw]; rfl
  | succ k ih => rw [pw, ih, Nat.mul_succ, Nat.pow_add, Int.natCast_mul, Int.mul_comm]; rfl
/-- The bits off the words. -/
theorem blen_words {z : Int} {n : Nat} {t : Int} (hz : 0 < z) (hn : (digs z).length = n + 1) (ht : t = (digs z).getD n 0) : blen z.toNat = 32 * n + Lib.bitLen t.toNat := by
  have hw := digs_wf (show 0 ≤ z by omega)
  have htb := hw.getD n
  rw [← ht] at htb
  have htop : t ≠ 0 := by
    have := digs_top hz
    rw [hn, Nat.add_sub_cancel, ← ht] at this
    exact this
  have h1 := Lib.bitLenAux_bounds 64 t.toNat (by omega) (by omega)
  obtain ⟨m, hm⟩ : ∃ m, Lib.bitLen t.toNat = m + 1 := ⟨Lib.bitLen t.toNat - 1, by have := h1.1; unfold Lib.bitLen; omega⟩
  have h1' : 2 ^ m ≤ t.toNat ∧ t.toNat < 2 ^ (m + 1) := by
    have h3 := h1.2.1
    have h4 := h1.2.2
    unfold Lib.bitLen at hm
    rw [hm] at h3 h4
    exact ⟨h3, h4⟩
  rw [hm]
  have h2 := val_top2 hw (m := n) (by omega)
  rw [val_digs (by omega), ← ht, pw_pow] at h2
  have e1 : t = ((t.toNat : Nat) : Int) := by omega
  have e2 : z = ((z.toNat : Nat) : Int) := by omega
  rw [e1, e2] at h2
  have h5 : t.toNat * 2 ^ (32 * n) ≤ z.toNat := by exact_mod_cast h2.1
  have h6 : z.toNat < (t.toNat + 1) * 2 ^ (32 * n) := by exact_mod_cast h2.2
  refine blen_of (m := 32 * n + m) ?_ ?_
  · rw [Nat.pow_add, Nat.mul_comm]
    exact Nat.le_trans (Nat.mul_le_mul_right _ h1'.1) h5
  · rw [show 32 * n + m + 1 = 32 * n + (m + 1) by omega, Nat.pow_add, Nat.mul_comm]
    exact Nat.lt_of_lt_of_le h6 (Nat.mul_le_mul_right _ h1'.2)
end Go.El
