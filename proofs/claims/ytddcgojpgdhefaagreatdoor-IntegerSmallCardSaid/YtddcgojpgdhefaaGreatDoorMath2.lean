/- Division by one word; shifts: plain laws, no program. -/
import Derived.Test.YtddcgojpgdhefaaGreatDoorMath
namespace Go.El
set_option linter.unusedVariables false

/-! ### Division by one word, from the greatest word on -/
def wordTo (x : List Int) (d : Int) : Nat → List Int × Int
  | 0 => ([], 0)
  | k + 1 => ((((wordTo x d k).2 * 4294967296 + x.getD (x.length - 1 - k) 0) / d) :: (wordTo x d k).1, ((wordTo x d k).2 * 4294967296 + x.getD (x.length - 1 - k) 0) % d)
theorem wordTo_length (x : List Int) (d : Int) (k : Nat) : (wordTo x d k).1.length = k := by
  induction k with
  | zero => rfl
  | succ k ih => simp [wordTo, ih]
theorem wordTo_rest {x : List Int} {d : Int} (hd : 0 < d) (k : Nat) : 0 ≤ (wordTo x d k).2 ∧ (wordTo x d k).2 < d := by
  cases k with
  | zero => simp [wordTo]; exact hd
  | succ k =>
    simp only [wordTo]
    exact ⟨Int.emod_nonneg _ (by omega), Int.emod_lt_of_pos _ hd⟩
theorem wordTo_wf {x : List Int} {d : Int} (hx : Wf x) (hd : 0 < d) (k : Nat) : Wf (wordTo x d k).1 := by
  induction k with
  | zero => exact Wf.nil
  | succ k ih =>
    have h1 := hx.getD (x.length - 1 - k)
    have h2 := wordTo_rest (x := x) hd k
    refine ih.cons (Int.ediv_nonneg (by omega) (by omega)) (Int.ediv_lt_of_lt_mul hd ?_)
    have : (wordTo x d k).2 * 4294967296 ≤ (d - 1) * 4294967296 := by omega
    omega
theorem drop_cons {l : List Int} {k : Nat} (h : k < l.length) : l.drop k = l.getD k 0 :: l.drop (k + 1) := by
  rw [List.drop_eq_getElem_cons h, getD_lt h]
theorem wordTo_val {x : List Int} {d : Int} (hd : 0 < d) {k : Nat} (hk : k ≤ x.length) : val (x.drop (x.length - k)) = d * val (wordTo x d k).1 + (wordTo x d k).2 := by
  induction k with
  | zero => simp [wordTo, val]
  | succ k ih =>
    have ih := ih (by omega)
    rw [drop_cons (k := x.length - (k + 1)) (by omega), show x.length - (k + 1) + 1 = x.length - k by omega, show x.length - (k + 1) = x.length - 1 - k by omega]
    simp only [wordTo, val]
    rw [ih]
    generalize hz : (wordTo x d k).2 * 4294967296 + x.getD (x.length - 1 - k) 0 = z
    have e := Int.mul_ediv_add_emod z d
    rw [Int.mul_add, Int.mul_add]
    have : 4294967296 * (d * val (wordTo x d k).1) = d * (4294967296 * val (wordTo x d k).1) := by rw [Int.mul_left_comm]
    omega
theorem word_val {x : List Int} {d : Int} (hd : 0 < d) : val (wordTo x d x.length).1 = val x / d ∧ (wordTo x d x.length).2 = val x % d := by
  have h := wordTo_val (x := x) hd (Nat.le_refl _)
  have hr := wordTo_rest (x := x) hd x.length
  rw [Nat.sub_self, List.drop_zero] at h
  have := (Int.ediv_emod_unique (a := val x) (q := val (wordTo x d x.length).1) (r := (wordTo x d x.length).2) hd).2 ⟨by rw [h, Int.add_comm], hr.1, hr.2⟩
  exact ⟨this.1.symm, this.2.symm⟩
/-- The row of the quotient after k steps. -/
def topTo (d : List Int) (n : Nat) : List Int := List.replicate (n - d.length) 0 ++ d
theorem topTo_nil (n : Nat) : topTo [] n = List.replicate n 0 := by simp [topTo]
theorem topTo_full (d : List Int) (n : Nat) (h : d.length = n) : topTo d n = d := by simp [topTo, h]
theorem topTo_length (d : List Int) (n : Nat) (h : d.length ≤ n) : (topTo d n).length = n := by simp [topTo]; omega
theorem topTo_get (d : List Int) (n k : Nat) (h : k < n - d.length) : (topTo d n)[k]? = some 0 := by
  unfold topTo
  rw [List.getElem?_append_left (by simp; omega), List.getElem?_replicate, if_pos h]
theorem topTo_set (d : List Int) (n k : Nat) (z : Int) (hk : d.length + k + 1 = n) : (topTo d n).set k z = topTo (z :: d) n := by
  unfold topTo
  rw [List.set_append_left _ _ (by simp; omega)]
  have e : n - d.length = k + 1 := by omega
  have e2 : n - (z :: d).length = k := by simp; omega
  rw [e, e2, List.replicate_succ', List.set_append_right _ _ (by simp), List.length_replicate, Nat.sub_self, List.set_cons_zero, List.append_assoc]
  rfl

/-! ### Shifts by p = 2^s, p at most 2^31 -/
def shlTo (x : List Int) (p : Int) : Nat → List Int × Int
  | 0 => ([], 0)
  | k + 1 => ((shlTo x p k).1 ++ [(shlTo x p k).2 + (x.getD k 0 * p) % 4294967296], x.getD k 0 * p / 4294967296)
theorem shlTo_length (x : List Int) (p : Int) (k : Nat) : (shlTo x p k).1.length = k := by
  induction k with
  | zero => rfl
  | succ k ih => simp [shlTo, ih]
theorem shlTo_val (x : List Int) (p : Int) (k : Nat) : val (shlTo x p k).1 + pw k * (shlTo x p k).2 = val (x.take k) * p := by
  induction k with
  | zero => simp [shlTo, val]
  | succ k ih =>
    rw [val_take_succ]
    simp only [shlTo]
    rw [val_snoc, shlTo_length, Int.add_mul, ← ih, Int.mul_add]
    generalize ht : x.getD k 0 * p = t
    have e : 4294967296 * (t / 4294967296) + t % 4294967296 = t := by omega
    have e2 : pw (k + 1) = pw k * 4294967296 := by simp only [pw]; omega
    have e3 : pw k * (t % 4294967296) + pw k * 4294967296 * (t / 4294967296) = pw k * t := by
      rw [Int.mul_assoc, ← Int.mul_add, Int.add_comm, e]
    rw [e2, Int.mul_assoc (pw k) (x.getD k 0) p, ht]
    omega
/-- A power of 2 up to 2^31. -/
def Pow2 (p : Int) (s : Nat) : Prop := p = ((2 ^ s : Nat) : Int) ∧ s ≤ 31
theorem Pow2.bd {p : Int} {s : Nat} (h : Pow2 p s) : 1 ≤ p ∧ p ≤ 2147483648 := by
  obtain ⟨h1, h2⟩ := h
  have a := Nat.pow_le_pow_right (show 0 < 2 by omega) h2
  have b := Nat.one_le_two_pow (n := s)
  have c : (2 : Nat) ^ 31 = 2147483648 := by decide
  omega
/-- p times its partner is 2^32. -/
theorem Pow2.split {p : Int} {s : Nat} (h : Pow2 p s) : ∃ q : Int, p * q = 4294967296 ∧ 2 ≤ q ∧ q = ((2 ^ (32 - s) : Nat) : Int) := by
  obtain ⟨h1, h2⟩ := h
  refine ⟨((2 ^ (32 - s) : Nat) : Int), ?_, ?_, rfl⟩
  · rw [h1, ← Int.natCast_mul, ← Nat.pow_add, show s + (32 - s) = 32 by omega]; rfl
  · have a := Nat.pow_le_pow_right (show 0 < 2 by omega) (show 1 ≤ 32 - s by omega)
    omega
theorem shl_carry {a p : Int} {s : Nat} (hp : Pow2 p s) (ha : 0 ≤ a) (ha' : a < 4294967296) : 0 ≤ a * p / 4294967296 ∧ a * p / 4294967296 < p ∧ ∃ m, (a * p) % 4294967296 = p * m ∧ 0 ≤ m ∧ p * m + p ≤ 4294967296 := by
  obtain ⟨q, hq, hq2, _⟩ := hp.split
  have hb := hp.bd
  have h0 : 0 ≤ a * p := Int.mul_nonneg ha (by omega)
  have h1 : a * p < 4294967296 * p := Int.mul_lt_mul_of_pos_right ha' (by omega)
  refine ⟨Int.ediv_nonneg h0 (by omega), Int.ediv_lt_of_lt_mul (by omega) (by rw [Int.mul_comm p]; exact h1), a % q, ?_, Int.emod_nonneg _ (by omega), ?_⟩
  · rw [← hq, Int.mul_comm a p, Int.mul_emod_mul_of_pos _ _ (by omega)]
  · have h2 : a % q < q := Int.emod_lt_of_pos _ (by omega)
    have h3 : p * (a % q + 1) ≤ p * q := Int.mul_le_mul_of_nonneg_left (by omega) (by omega)
    rw [Int.mul_add] at h3
    omega
theorem shlTo_carry {x : List Int} {p : Int} {s : Nat} (hp : Pow2 p s) (hx : Wf x) (k : Nat) : 0 ≤ (shlTo x p k).2 ∧ (shlTo x p k).2 < p := by
  cases k with
  | zero => have := hp.bd; simp [shlTo]; omega
  | succ k =>
    have h := shl_carry hp (hx.getD k).1 (hx.getD k).2
    exact ⟨h.1, h.2.1⟩
theorem shlTo_wf {x : List Int} {p : Int} {s : Nat} (hp : Pow2 p s) (hx : Wf x) (k : Nat) : Wf (shlTo x p k).1 := by
  induction k with
  | zero => exact Wf.nil
  | succ k ih =>
    have h := shlTo_carry hp hx k
    obtain ⟨_, _, m, hm, hm0, hm1⟩ := shl_carry hp (hx.getD k).1 (hx.getD k).2
    have hb := hp.bd
    have : 0 ≤ p * m := Int.mul_nonneg (by omega) hm0
    refine ih.append (Wf.nil.cons ?_ ?_)
    · omega
    · omega
theorem shl_val (x : List Int) (p : Int) : val ((shlTo x p x.length).1 ++ [(shlTo x p x.length).2]) = val x * p := by
  rw [val_snoc, shlTo_length, shlTo_val, List.take_length]

/-- Right: word i of x / p. -/
def shrAt (x : List Int) (p : Int) (i : Nat) : Int := ((x.getD (i + 1) 0 * 4294967296 + x.getD i 0) / p) % 4294967296
def shrTo (x : List Int) (p : Int) (k : Nat) : List Int := (List.range k).map (shrAt x p)
theorem shrTo_succ (x : List Int) (p : Int) (k : Nat) : shrTo x p (k + 1) = shrTo x p k ++ [shrAt x p k] := by simp [shrTo, List.range_succ]
theorem shrTo_length (x : List Int) (p : Int) (k : Nat) : (shrTo x p k).length = k := by simp [shrTo]
theorem shrTo_wf (x : List Int) (p : Int) (k : Nat) : Wf (shrTo x p k) := fun z hz => by
  simp only [shrTo, List.mem_map] at hz
  obtain ⟨i, _, rfl⟩ := hz
  unfold shrAt; omega
/-- The words below k, with those that come down from above. -/
theorem shrTo_val {x : List Int} {p : Int} {s : Nat} (hp : Pow2 p s) (hx : Wf x) (k : Nat) : val (shrTo x p k) * p + (x.getD 0 0) % p = val (x.take k) + pw k * (x.getD k 0 % p) := by
  obtain ⟨q, hq, hq2, _⟩ := hp.split
  have hb := hp.bd
  induction k with
  | zero => simp [shrTo, val, pw]
  | succ k ih =>
    rw [shrTo_succ, val_snoc, shrTo_length, val_take_succ, Int.add_mul]
    have e2 : pw (k + 1) = pw k * 4294967296 := by simp only [pw]; omega
    have key : shrAt x p k * p + x.getD k 0 % p = x.getD k 0 + 4294967296 * (x.getD (k + 1) 0 % p) := by
      unfold shrAt
      generalize ha : x.getD k 0 = a
      generalize hc : x.getD (k + 1) 0 = c
      have h1 := hx.getD k
      rw [ha] at h1
      have e3 : (c * 4294967296 + a) / p = c * q + a / p := by
        rw [← hq, show c * (p * q) + a = a + (c * q) * p by rw [Int.mul_comm p q, Int.mul_assoc, Int.add_comm], Int.add_mul_ediv_right _ _ (by omega)]
        omega
      rw [e3]
      have e4 : (c * q + a / p) % 4294967296 = (c % p) * q + a / p := by
        have hc1 := Int.mul_ediv_add_emod c p
        have : c * q + a / p = ((c % p) * q + a / p) + 4294967296 * (c / p) := by
          rw [← hq]
          have : c * q = (p * (c / p) + c % p) * q := by rw [hc1]
          rw [this, Int.add_mul, Int.mul_assoc p (c / p) q, Int.mul_comm (c / p) q, ← Int.mul_assoc]
          omega
        rw [this, Int.add_mul_emod_self_left]
        have b1 : 0 ≤ c % p := Int.emod_nonneg _ (by omega)
        have b2 : c % p < p := Int.emod_lt_of_pos _ (by omega)
        have b3 : 0 ≤ a / p := Int.ediv_nonneg h1.1 (by omega)
        have b4 : a / p < q := Int.ediv_lt_of_lt_mul (by omega) (by rw [Int.mul_comm, hq]; omega)
        have b5 : 0 ≤ (c % p) * q := Int.mul_nonneg b1 (by omega)
        have b6 : (c % p + 1) * q ≤ p * q := Int.mul_le_mul_of_nonneg_right (by omega) (by omega)
        rw [Int.add_mul] at b6
        exact Int.emod_eq_of_lt (by omega) (by omega)
      rw [e4, Int.add_mul, Int.mul_assoc, Int.mul_comm q p, hq]
      have := Int.mul_ediv_add_emod a p
      rw [Int.mul_comm p] at this
      omega
    have e5 : pw k * shrAt x p k * p = pw k * (shrAt x p k * p) := Int.mul_assoc _ _ _
    have e6 : pw k * (shrAt x p k * p) + pw k * (x.getD k 0 % p) = pw k * x.getD k 0 + pw k * 4294967296 * (x.getD (k + 1) 0 % p) := by
      rw [← Int.mul_add, key, Int.mul_add, Int.mul_assoc]
    rw [e2, e5]
    omega
theorem shr_val {x : List Int} {p : Int} {s : Nat} (hp : Pow2 p s) (hx : Wf x) : val (shrTo x p x.length) = val x / p := by
  have h := shrTo_val hp hx x.length
  have hb := hp.bd
  rw [List.take_length, getD_ge (Nat.le_refl _)] at h
  simp only [Int.zero_emod, Int.mul_zero] at h
  have h1 : 0 ≤ x.getD 0 0 % p := Int.emod_nonneg _ (by omega)
  have h2 : x.getD 0 0 % p < p := Int.emod_lt_of_pos _ (by omega)
  exact ((Int.ediv_emod_unique (a := val x) (q := val (shrTo x p x.length)) (r := x.getD 0 0 % p) (by omega)).2 ⟨by rw [Int.mul_comm p]; omega, h1, h2⟩).1.symm
end Go.El
