/- Long division: the plain law, no program. -/
import Derived.Test.YtddcgojpgdhefaaGreatDoorMath3
namespace Go.El
set_option linter.unusedVariables false

/-- The state of long division: u0 is what is divided, v the divisor of n words, U what is left (j + n words), d the digits so far, j the digits still to come. -/
structure Dv (u0 v : Int) (n : Nat) (U d : List Int) (j : Nat) : Prop where
  wf : Wf U
  wd : Wf d
  eq : u0 = val d * pw j * v + val U
  lt : val (U.drop j) < v
theorem val_mid (A L C : List Int) : val (mid A L C) = val A + pw A.length * (val L + pw L.length * val C) := by
  unfold mid; rw [val_append, val_append]
theorem split_mid (U : List Int) (j n : Nat) (h : j + n ≤ U.length) : mid (U.take j) ((U.drop j).take n) ((U.drop j).drop n) = U := by
  unfold mid; rw [List.take_append_drop, List.take_append_drop]
/-- Before a digit is reckoned. -/
theorem Dv.before {u0 v : Int} {n : Nat} {U d : List Int} {j : Nat} (h : Dv u0 v n U d (j + 1)) (hv : v < pw n) (hl : j + (n + 1) ≤ U.length) :
    val ((U.drop j).take (n + 1)) < 4294967296 * v ∧ val ((U.drop j).drop (n + 1)) = 0 := by
  have h1 := h.lt
  have h2 : U.drop j = U.getD j 0 :: U.drop (j + 1) := drop_cons (by omega)
  have h3 := val_take_drop (U.drop (j + 1)) n (by simp; omega)
  have h4 : ((U.drop j).drop (n + 1)) = (U.drop (j + 1)).drop n := by rw [List.drop_drop, List.drop_drop]; congr 1; omega
  have h5 := val_nonneg ((h.wf.drop (j + 1)).take n)
  have h6 := val_nonneg ((h.wf.drop (j + 1)).drop n)
  have hC : val ((U.drop (j + 1)).drop n) = 0 := by
    apply Decidable.byContradiction
    intro hne
    have : pw n * 1 ≤ pw n * val ((U.drop (j + 1)).drop n) := Int.mul_le_mul_of_nonneg_left (by omega) (by have := pw_pos n; omega)
    omega
  refine ⟨?_, by rw [h4]; exact hC⟩
  have h7 := val_take_drop (U.drop j) (n + 1) (by simp; omega)
  rw [h4, hC, Int.mul_zero, Int.add_zero] at h7
  have hd := h.wf.getD j
  rw [← h7, h2, val]
  omega
theorem Dv.step {u0 v : Int} {n : Nat} {U d L' : List Int} {j : Nat} (h : Dv u0 v n U d (j + 1)) (hv0 : 0 < v) (hv : v < pw n) (hl : j + (n + 1) ≤ U.length) (hw : Wf L') (hlen : L'.length = n + 1)
    (hval : val L' = val ((U.drop j).take (n + 1)) % v) : Dv u0 v n (mid (U.take j) L' ((U.drop j).drop (n + 1))) (val ((U.drop j).take (n + 1)) / v :: d) j := by
  obtain ⟨hb, hC⟩ := h.before hv hl
  have hL0 := val_nonneg ((h.wf.drop j).take (n + 1))
  have hq0 : 0 ≤ val ((U.drop j).take (n + 1)) / v := Int.ediv_nonneg hL0 (by omega)
  have hq1 : val ((U.drop j).take (n + 1)) / v < 4294967296 := Int.ediv_lt_of_lt_mul hv0 hb
  have hU := val_mid (U.take j) ((U.drop j).take (n + 1)) ((U.drop j).drop (n + 1))
  rw [split_mid _ _ _ hl, hC, Int.mul_zero, Int.add_zero, List.length_take, Nat.min_eq_left (by omega)] at hU
  refine ⟨?_, h.wd.cons hq0 hq1, ?_, ?_⟩
  · unfold mid; exact (h.wf.take _).append (hw.append ((h.wf.drop _).drop _))
  · rw [h.eq, hU, val_mid, hC, Int.mul_zero, Int.add_zero, List.length_take, Nat.min_eq_left (by omega), hval]
    have e := Int.mul_ediv_add_emod (val ((U.drop j).take (n + 1))) v
    generalize val ((U.drop j).take (n + 1)) = X at *
    simp only [val, pw]
    have e1 : pw j * X = pw j * (v * (X / v)) + pw j * (X % v) := by rw [← Int.mul_add, e]
    have e2 : (X / v + 4294967296 * val d) * pw j * v = X / v * pw j * v + val d * (4294967296 * pw j) * v := by
      rw [Int.add_mul, Int.add_mul]
      congr 2
      rw [Int.mul_comm 4294967296 (val d), Int.mul_assoc]
    have e3 : X / v * pw j * v = pw j * (v * (X / v)) := by
      rw [Int.mul_comm (X / v) (pw j), Int.mul_assoc, Int.mul_comm (X / v) v]
    rw [e2, e3]
    omega
  · have : (mid (U.take j) L' ((U.drop j).drop (n + 1))).drop j = L' ++ (U.drop j).drop (n + 1) := by
      unfold mid
      rw [List.drop_append_of_le_length (by simp; omega), List.drop_of_length_le (by simp; omega), List.nil_append]
    rw [this, val_append, hC, Int.mul_zero, Int.add_zero, hval]
    exact Int.emod_lt_of_pos _ hv0
theorem Dv.done {u0 v : Int} {n : Nat} {U d : List Int} (h : Dv u0 v n U d 0) (hv : 0 < v) : val d = u0 / v ∧ val U = u0 % v := by
  have h1 := h.eq
  have h2 := h.lt
  rw [List.drop_zero] at h2
  simp only [pw, Int.mul_one] at h1
  have := (Int.ediv_emod_unique (a := u0) (q := val d) (r := val U) hv).2 ⟨by rw [h1, Int.mul_comm v]; omega, val_nonneg h.wf, h2⟩
  exact ⟨this.1.symm, this.2.symm⟩
/-- The beginning. -/
theorem Dv.start {a b p : Int} {U : List Int} {j n : Nat} (hw : Wf U) (hU : val U = a * p) (hp : 0 < p) (ha : a < pw (j + n - 1)) (hb : pw (n - 1) ≤ b) (hn : 1 ≤ n) (hj : 1 ≤ j) (hl : U.length = j + n) : Dv (a * p) (b * p) n U [] j := by
  refine ⟨hw, Wf.nil, by simp [val, hU], ?_⟩
  have h1 := val_take_drop U j (by omega)
  have h2 := val_nonneg (hw.take j)
  have h3 : a * p < pw (j + n - 1) * p := Int.mul_lt_mul_of_pos_right ha hp
  have e : pw (j + n - 1) = pw j * pw (n - 1) := by rw [← pw_add]; congr 1; omega
  have h4 : pw j * val (U.drop j) < pw j * (pw (n - 1) * p) := by
    rw [← Int.mul_assoc, ← e]; omega
  have h5 := Int.lt_of_mul_lt_mul_left h4 (by have := pw_pos j; omega)
  have h6 : pw (n - 1) * p ≤ b * p := Int.mul_le_mul_of_nonneg_right hb (by omega)
  omega
theorem scaled_div {a b p : Int} (hb : 0 < b) (hp : 0 < p) : (a * p) / (b * p) = a / b ∧ (a * p) % (b * p) = (a % b) * p := by
  refine ⟨Int.mul_ediv_mul_of_pos_left _ _ hp, ?_⟩
  rw [Int.mul_comm a p, Int.mul_comm b p, Int.mul_emod_mul_of_pos _ _ hp, Int.mul_comm]
end Go.El
