/- Decimal digits: the plain law. No program. -/
import Derived.Lib.TrimByte
import Derived.Lib.Join
namespace Go.El
/-- The last decimal digit, as a byte. -/
def dig (n : Nat) : UInt8 := UInt8.ofNat (48 + n % 10)
theorem dig_toNat (n : Nat) : (dig n).toNat = 48 + n % 10 := by
  unfold dig
  rw [UInt8.toNat_ofNat_of_lt' (by have := Nat.mod_lt n (show 0 < 10 by omega); show _ < 256; omega)]
/-- The last k decimal digits. -/
def padB : Nat → Nat → List UInt8
  | 0, _ => []
  | k + 1, n => padB k (n / 10) ++ [dig n]
theorem padB_length (k n : Nat) : (padB k n).length = k := by
  induction k generalizing n with
  | zero => rfl
  | succ k ih => simp [padB, ih]
theorem padB_cons (k n : Nat) : padB (k + 1) n = dig (n / 10 ^ k) :: padB k n := by
  induction k generalizing n with
  | zero => simp [padB]
  | succ k ih =>
    rw [padB, ih (n / 10), padB, Nat.div_div_eq_div_mul, Nat.pow_succ, Nat.mul_comm 10]
    rfl
theorem padB_add (k j n : Nat) : padB (k + j) n = padB k (n / 10 ^ j) ++ padB j n := by
  induction j generalizing n with
  | zero => simp [padB]
  | succ j ih =>
    rw [← Nat.add_assoc, padB, ih (n / 10), padB, Nat.div_div_eq_div_mul, Nat.pow_succ, Nat.mul_comm 10, List.append_assoc]
theorem padB_mod (k n : Nat) : padB k (n % 10 ^ k) = padB k n := by
  induction k generalizing n with
  | zero => rfl
  | succ k ih =>
    rw [padB, padB, ← ih (n / 10)]
    congr 2
    · rw [Nat.pow_succ, Nat.mul_comm, Nat.mod_mul_right_div_self]
    · unfold dig
      rw [Nat.pow_succ, Nat.mul_comm, Nat.mod_mul_right_mod]
/-- The decimal digits; none of 0. -/
def decN (n : Nat) : List UInt8 := if _h : n = 0 then [] else decN (n / 10) ++ [dig n]
theorem decN_zero : decN 0 = [] := by rw [decN]; simp
theorem decN_pos {n : Nat} (h : n ≠ 0) : decN n = decN (n / 10) ++ [dig n] := by rw [decN]; simp [h]
theorem decN_ne_nil {n : Nat} (h : n ≠ 0) : decN n ≠ [] := by rw [decN_pos h]; simp
theorem decN_nil {n : Nat} : decN n = [] ↔ n = 0 := ⟨fun h => by by_cases h0 : n = 0; exact h0; exact absurd h (decN_ne_nil h0), fun h => by rw [h, decN_zero]⟩
theorem trim_pos {a c : UInt8} (l : List UInt8) (h : a = c) : Lib.trimLeftB (a :: l) c = Lib.trimLeftB l c := by
  unfold Lib.trimLeftB; simp [h]
theorem trim_neg {a c : UInt8} (l : List UInt8) (h : a ≠ c) : Lib.trimLeftB (a :: l) c = a :: l := by
  unfold Lib.trimLeftB; simp [h]
theorem trimLeft_append {l r : List UInt8} {c : UInt8} (h : Lib.trimLeftB l c ≠ []) : Lib.trimLeftB (l ++ r) c = Lib.trimLeftB l c ++ r := by
  induction l with
  | nil => exact absurd rfl h
  | cons a l ih =>
    by_cases ha : a = c
    · rw [List.cons_append, trim_pos _ ha, trim_pos _ ha]
      rw [trim_pos _ ha] at h
      exact ih h
    · rw [List.cons_append, trim_neg _ ha, trim_neg _ ha, List.cons_append]
theorem trimLeft_nil_append {l r : List UInt8} {c : UInt8} (h : Lib.trimLeftB l c = []) : Lib.trimLeftB (l ++ r) c = Lib.trimLeftB r c := by
  induction l with
  | nil => rfl
  | cons a l ih =>
    by_cases ha : a = c
    · rw [List.cons_append, trim_pos _ ha]
      rw [trim_pos _ ha] at h
      exact ih h
    · rw [trim_neg _ ha] at h; cases h
theorem dig_zero : dig 0 = 48 := rfl
theorem trim_pad {k n : Nat} (h : n < 10 ^ k) : Lib.trimLeftB (padB k n) 48 = decN n := by
  induction k generalizing n with
  | zero => have : n = 0 := by simpa using h
            subst this; rw [decN_zero]; rfl
  | succ k ih =>
    rw [padB]
    have h1 : n / 10 < 10 ^ k := by rw [Nat.pow_succ] at h; omega
    have h2 := ih h1
    by_cases h0 : n / 10 = 0
    · rw [h0, decN_zero] at h2
      rw [h0, trimLeft_nil_append h2]
      by_cases hn : n = 0
      · subst hn; rw [decN_zero]; rfl
      · rw [decN_pos hn, h0, decN_zero]
        refine trim_neg _ fun e => ?_
        have := congrArg UInt8.toNat e
        rw [dig_toNat] at this
        have h5 : (48 : UInt8).toNat = 48 := rfl
        omega
    · rw [trimLeft_append (by rw [h2]; exact decN_ne_nil h0), h2, decN_pos (n := n) (by omega)]
/-- The text of an integer. -/
def textL (z : Int) : List UInt8 := if z = 0 then [48] else (if z < 0 then [45] else []) ++ decN z.natAbs
/-- The chunks of 9 digits, the last one first. -/
def chunks (A j : Nat) : List (List UInt8) := (List.range j).map fun i => padB 9 (A / 10 ^ (9 * i))
theorem chunks_succ (A j : Nat) : chunks A (j + 1) = chunks A j ++ [padB 9 (A / 10 ^ (9 * j))] := by
  unfold chunks; rw [List.range_succ, List.map_append]; rfl
theorem chunks_length (A j : Nat) : (chunks A j).length = j := by simp [chunks]
theorem flat_chunks (A j : Nat) : (chunks A j).reverse.flatten = padB (9 * j) A := by
  induction j with
  | zero => rfl
  | succ j ih => rw [chunks_succ, List.reverse_append, List.flatten_append, ih, Nat.mul_succ, Nat.add_comm, padB_add]; simp
theorem join_flat (xs : List (List UInt8)) : Lib.join xs [] = xs.flatten := by
  cases xs with
  | nil => rfl
  | cons x r => rw [Lib.join_cons]; simp [Lib.joinTail]
theorem trim_join {A j : Nat} (h : A < 10 ^ (9 * j)) : Lib.trimLeftB (Lib.join (chunks A j).reverse []) 48 = decN A := by
  rw [join_flat, flat_chunks, trim_pad h]
end Go.El
