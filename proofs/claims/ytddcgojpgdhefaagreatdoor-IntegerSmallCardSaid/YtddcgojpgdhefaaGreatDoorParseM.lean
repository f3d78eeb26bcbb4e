/- Parsing decimal digits: the plain law. No program. -/
import Derived.Test.YtddcgojpgdhefaaGreatDoorDec
import Derived.Lib.ParseIntB
import Derived.Lib.SlTrimSet
import Derived.Lib.Strings
namespace Go.El
/-- A decimal digit. -/
def isD (b : UInt8) : Prop := 48 ≤ b.toNat ∧ b.toNat ≤ 57
def digitSet : List UInt8 := [48, 49, 50, 51, 52, 53, 54, 55, 56, 57]
theorem mem_digits (b : UInt8) : digitSet.contains b = true ↔ isD b := by
  unfold isD digitSet
  constructor
  · intro h
    simp at h
    rcases h with rfl | rfl | rfl | rfl | rfl | rfl | rfl | rfl | rfl | rfl <;> decide
  · rintro ⟨h1, h2⟩
    have h3 : b = UInt8.ofNat b.toNat := by simp
    generalize b.toNat = n at *
    subst h3
    have h4 : n = 48 ∨ n = 49 ∨ n = 50 ∨ n = 51 ∨ n = 52 ∨ n = 53 ∨ n = 54 ∨ n = 55 ∨ n = 56 ∨ n = 57 := by omega
    rcases h4 with rfl | rfl | rfl | rfl | rfl | rfl | rfl | rfl | rfl | rfl <;> decide
theorem dropNil {p : UInt8 → Bool} {l : List UInt8} : l.dropWhile p = [] ↔ ∀ b ∈ l, p b = true := by
  induction l with
  | nil => simp
  | cons a l ih =>
    rw [List.dropWhile_cons]
    by_cases h : p a = true
    · rw [if_pos h, ih]
      constructor
      · intro h2 b hb
        rcases List.mem_cons.1 hb with rfl | h3
        · exact h
        · exact h2 b h3
      · intro h2 b hb; exact h2 b (List.mem_cons_of_mem _ hb)
    · rw [if_neg h]
      constructor
      · intro h2; cases h2
      · intro h2; exact absurd (h2 a (List.mem_cons_self ..)) h
theorem trimS_nil {l cs : List UInt8} : Lib.trimS l cs = [] ↔ ∀ b ∈ l, cs.contains b = true := by
  unfold Lib.trimS Lib.trimLeftS Lib.trimRightS
  constructor
  · intro h
    have h1 : ∀ b ∈ (l.reverse.dropWhile (cs.contains ·)).reverse, cs.contains b = true := by
      intro b hb
      have := dropNil.1 h b hb
      simpa using this
    cases hr : l.reverse.dropWhile (cs.contains ·) with
    | nil =>
      intro b hb
      have := dropNil.1 hr b (List.mem_reverse.2 hb)
      simpa using this
    | cons x r =>
      have h2 := h1 x (by rw [hr]; simp)
      have h3 := List.head?_dropWhile_not (fun b => cs.contains b) l.reverse
      rw [hr] at h3
      simp at h3
      exact absurd h2 (by simp [h3])
  · intro h
    have h1 : l.reverse.dropWhile (cs.contains ·) = [] := dropNil.2 (fun b hb => h b (List.mem_reverse.1 hb))
    rw [h1]; rfl
/-- The number that digits spell. -/
def valD (acc : Nat) (l : List UInt8) : Nat := l.foldl (fun a c => a * 10 + (c.toNat - 48)) acc
theorem valD_append (acc : Nat) (a b : List UInt8) : valD acc (a ++ b) = valD (valD acc a) b := by simp [valD]
theorem valD_acc (acc : Nat) (l : List UInt8) : valD acc l = acc * 10 ^ l.length + valD 0 l := by
  induction l generalizing acc with
  | nil => simp [valD]
  | cons c l ih =>
    show valD (acc * 10 + (c.toNat - 48)) l = _ + valD (0 * 10 + (c.toNat - 48)) l
    rw [ih, ih (0 * 10 + (c.toNat - 48)), List.length_cons, Nat.pow_succ, Nat.zero_mul, Nat.zero_add, Nat.add_mul, Nat.mul_assoc, Nat.mul_comm 10, Nat.add_assoc]
theorem valD_lt {l : List UInt8} (h : ∀ b ∈ l, isD b) : valD 0 l < 10 ^ l.length := by
  induction l with
  | nil => simp [valD]
  | cons c l ih =>
    show valD (0 * 10 + (c.toNat - 48)) l < _
    rw [valD_acc, List.length_cons, Nat.pow_succ]
    have h1 := ih (fun b hb => h b (List.mem_cons_of_mem _ hb))
    have h2 := (h c (List.mem_cons_self ..)).2
    have h3 : (0 * 10 + (c.toNat - 48)) * 10 ^ l.length ≤ 9 * 10 ^ l.length := Nat.mul_le_mul_right _ (by omega)
    omega
theorem parseM_ok {M : Nat} (hM : M < 18446744073709551616) (l : List UInt8) (acc : Nat) (h : ∀ b ∈ l, isD b) (hb : (acc + 1) * 10 ^ l.length ≤ M + 1) : Lib.parseUintM M acc l = .ok (valD acc l) := by
  induction l generalizing acc with
  | nil => rfl
  | cons c l ih =>
    have h2 := h c (List.mem_cons_self ..)
    rw [List.length_cons, Nat.pow_succ] at hb
    have hp : 1 ≤ 10 ^ l.length := Nat.pow_pos (by omega)
    have h3 : (acc + 1) * 10 * 1 ≤ (acc + 1) * 10 * 10 ^ l.length := Nat.mul_le_mul_left _ hp
    have h4 : (acc + 1) * (10 ^ l.length * 10) = (acc + 1) * 10 * 10 ^ l.length := by rw [Nat.mul_comm (10 ^ _), Nat.mul_assoc]
    have h5 := h2.2
    have h6 := h2.1
    have h7 : (acc * 10 + (c.toNat - 48) + 1) * 10 ^ l.length ≤ (acc + 1) * 10 * 10 ^ l.length := Nat.mul_le_mul_right _ (by omega)
    rw [Lib.parseUintM, if_pos ⟨h6, h5⟩, if_neg (by omega), if_neg (by omega), ih _ (fun b hb => h b (List.mem_cons_of_mem _ hb)) (by omega)]
    rfl
theorem parse_chunk {l : List UInt8} (h : ∀ b ∈ l, isD b) (h1 : l ≠ []) (h9 : l.length ≤ 9) : Lib.parseUintB 32 l = .ok (valD 0 l) := by
  rw [Lib.parseUintB, if_neg h1]
  refine parseM_ok (by decide) l 0 h ?_
  have : 10 ^ l.length ≤ 10 ^ 9 := Nat.pow_le_pow_right (by omega) h9
  omega
theorem dig_isD (n : Nat) : isD (dig n) := by
  unfold isD; rw [dig_toNat]; omega
theorem decN_digits (n : Nat) : ∀ b ∈ decN n, isD b := by
  induction n using Nat.strongRecOn with
  | _ n ih =>
    by_cases h : n = 0
    · subst h; rw [decN_zero]; intro b hb; cases hb
    · rw [decN_pos h]
      intro b hb
      rcases List.mem_append.1 hb with h1 | h1
      · exact ih (n / 10) (by omega) b h1
      · rw [List.mem_singleton.1 h1]; exact dig_isD n
theorem valD_decN (n : Nat) : valD 0 (decN n) = n := by
  induction n using Nat.strongRecOn with
  | _ n ih =>
    by_cases h : n = 0
    · subst h; rw [decN_zero]; rfl
    · rw [decN_pos h, valD_append, ih (n / 10) (by omega)]
      show n / 10 * 10 + ((dig n).toNat - 48) = n
      rw [dig_toNat]; omega
/-- What Parse reads, where it reads something. -/
def parseZ (s : List UInt8) : Int := if Lib.hasPrefix s [45] then -((valD 0 (Lib.trimPrefix s [45]) : Nat) : Int) else ((valD 0 (Lib.trimPrefix s [45]) : Nat) : Int)
theorem pre_cons (l : List UInt8) : Lib.hasPrefix (45 :: l) [45] = true := by simp [Lib.hasPrefix]
theorem pre_dig {l : List UInt8} (h : ∀ b ∈ l, isD b) : Lib.hasPrefix l [45] = false := by
  cases l with
  | nil => rfl
  | cons c l =>
    have h1 := (h c (List.mem_cons_self ..)).1
    have h2 : ((45 : UInt8) == c) = false := by
      rw [beq_eq_false_iff_ne]
      intro e
      rw [← e] at h1
      exact absurd h1 (by decide)
    show ((45 : UInt8) == c && List.isPrefixOf [] l) = false
    rw [h2]; rfl
/-- A text is a sign and digits, and is read as its number. -/
theorem text_back (z : Int) : (∀ b ∈ Lib.trimPrefix (textL z) [45], isD b) ∧ parseZ (textL z) = z := by
  by_cases h0 : z = 0
  · subst h0; exact ⟨by intro b hb; have : b = 48 := by simpa [textL, Lib.trimPrefix, Lib.hasPrefix] using hb
                        subst this; exact ⟨by decide, by decide⟩, by decide⟩
  · by_cases h1 : z < 0
    · have e : textL z = 45 :: decN z.natAbs := by rw [textL, if_neg h0, if_pos h1]; rfl
      have e2 : Lib.trimPrefix (textL z) [45] = decN z.natAbs := by rw [e, Lib.trimPrefix, if_pos (pre_cons _)]; rfl
      refine ⟨by rw [e2]; exact decN_digits _, ?_⟩
      rw [parseZ, e2, e, if_pos (pre_cons _), valD_decN]; omega
    · have e : textL z = decN z.natAbs := by rw [textL, if_neg h0, if_neg h1]; rfl
      have hp := pre_dig (decN_digits z.natAbs)
      have e2 : Lib.trimPrefix (textL z) [45] = decN z.natAbs := by rw [e, Lib.trimPrefix, if_neg (by simp [hp])]
      refine ⟨by rw [e2]; exact decN_digits _, ?_⟩
      rw [parseZ, e2, e, if_neg (by simp [hp]), valD_decN]; omega
theorem textL_inj {a b : Int} (h : textL a = textL b) : a = b := by rw [← (text_back a).2, h, (text_back b).2]
theorem text_digits {s : List UInt8} (h : textL (parseZ s) = s) : ∀ b ∈ Lib.trimPrefix s [45], isD b := by
  have := (text_back (parseZ s)).1
  rwa [h] at this
end Go.El
