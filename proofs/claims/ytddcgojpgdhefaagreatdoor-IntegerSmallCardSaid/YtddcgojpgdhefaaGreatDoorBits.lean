/- math/bits at 32 bits: Sub32, Div32, walked. -/
import Derived.Test.YtddcgojpgdhefaaGreatDoorNat1
import Derived.Deep.QuietTactic
import Derived.BigQuiet
namespace Go.Proofs.YtddcgojpgdhefaaGreatDoor
open Go.RowKit Go.El
set_option linter.unusedVariables false

theorem or_join (x y : Int) (hx : 0 ≤ x) (hx' : x < 4294967296) (hy : 0 ≤ y) (hy' : y < 4294967296) : bits .or .u64 (x * 4294967296) y = x * 4294967296 + y := by
  rw [u64_or _ _ (by omega) (by omega) hy (by omega)]
  rw [nat_join 32 _ _ (by omega) (by omega)]
  omega
theorem top_bit (n : Nat) (h : n < 4294967296) : n.testBit 31 = decide (2147483648 ≤ n) := by
  rw [Nat.testBit_eq_decide_div_mod_eq]
  have : n / 2 ^ 31 % 2 = 1 ↔ 2147483648 ≤ n := by omega
  simp [this]
theorem top_div (n : Nat) (h : n < 4294967296) : n / 2147483648 = if n.testBit 31 then 1 else 0 := by
  rw [top_bit n h]
  by_cases h1 : 2147483648 ≤ n <;> simp [h1] <;> omega
theorem borrow_nat (x y c d : Nat) (hx : x < 4294967296) (hy : y < 4294967296) (hc : c ≤ 1) (hd : (d : Int) = ((x : Int) - y - c) % 4294967296) :
    (((((4294967295 ^^^ x) &&& y) ||| ((4294967295 ^^^ (x ^^^ y)) &&& d)) / 2147483648 : Nat) : Int) = -(((x : Int) - y - c) / 4294967296) := by
  have hd' : d < 4294967296 := by omega
  have hM : (4294967295 : Nat) < 2 ^ 32 := by decide
  have h1 : 4294967295 ^^^ x < 2 ^ 32 := Nat.xor_lt_two_pow hM (by omega)
  have h2 : x ^^^ y < 2 ^ 32 := Nat.xor_lt_two_pow (by omega) (by omega)
  have h3 : 4294967295 ^^^ (x ^^^ y) < 2 ^ 32 := Nat.xor_lt_two_pow hM h2
  have h4 : (4294967295 ^^^ x) &&& y < 2 ^ 32 := Nat.and_lt_two_pow _ (by omega)
  have h5 : (4294967295 ^^^ (x ^^^ y)) &&& d < 2 ^ 32 := Nat.and_lt_two_pow _ (by omega)
  have h6 := Nat.or_lt_two_pow h4 h5
  rw [top_div _ (by omega)]
  simp only [Nat.testBit_or, Nat.testBit_and, Nat.testBit_xor]
  rw [top_bit x hx, top_bit y hy, top_bit d hd', show Nat.testBit 4294967295 31 = true by decide]
  by_cases a : 2147483648 ≤ x <;> by_cases b : 2147483648 ≤ y <;> by_cases e : 2147483648 ≤ d <;> simp [a, b, e] <;> omega

theorem borrow (x y c : Int) (hx : 0 ≤ x) (hx' : x < 4294967296) (hy : 0 ≤ y) (hy' : y < 4294967296) (hc : 0 ≤ c) (hc' : c ≤ 1) :
    bits BinOp.or IntKind.u32 (bits BinOp.and IntKind.u32 (bits BinOp.xor IntKind.u32 IntKind.u32.max x) y)
              (bits BinOp.and IntKind.u32 (bits BinOp.xor IntKind.u32 IntKind.u32.max (bits BinOp.xor IntKind.u32 x y))
                ((x - y - c) % 4294967296)) / 2147483648 = -((x - y - c) / 4294967296) := by
  have hmax : IntKind.u32.max = 4294967295 := by decide
  rw [hmax]
  obtain ⟨d, hd⟩ : ∃ d : Nat, (d : Int) = (x - y - c) % 4294967296 := ⟨((x - y - c) % 4294967296).toNat, by omega⟩
  have hd' : d < 4294967296 := by omega
  obtain ⟨x, rfl⟩ := Int.eq_ofNat_of_zero_le hx
  obtain ⟨y, rfl⟩ := Int.eq_ofNat_of_zero_le hy
  obtain ⟨c, rfl⟩ := Int.eq_ofNat_of_zero_le hc
  rw [← borrow_nat x y c d (by omega) (by omega) (by omega) hd, ← hd]
  have hM : (4294967295 : Nat) < 2 ^ 32 := by decide
  have h1 : 4294967295 ^^^ x < 2 ^ 32 := Nat.xor_lt_two_pow hM (by omega)
  have h2 : x ^^^ y < 2 ^ 32 := Nat.xor_lt_two_pow (by omega) (by omega)
  have h3 : 4294967295 ^^^ (x ^^^ y) < 2 ^ 32 := Nat.xor_lt_two_pow hM h2
  have h4 : (4294967295 ^^^ x) &&& y < 2 ^ 32 := Nat.and_lt_two_pow _ (by omega)
  have h5 : (4294967295 ^^^ (x ^^^ y)) &&& d < 2 ^ 32 := Nat.and_lt_two_pow _ (by omega)
  rw [show (4294967295 : Int) = ((4294967295 : Nat) : Int) from rfl]
  rw [u32_xor_nat 4294967295 x (by omega) (by omega), u32_xor_nat x y (by omega) (by omega), u32_xor_nat 4294967295 _ (by omega) (by omega), u32_and_nat _ y (by omega) (by omega), u32_and_nat _ d (by omega) (by omega), u32_or_nat _ _ (by omega) (by omega)]
  omega

theorem sub32 (x y c : Int) (w : World) (hx : 0 ≤ x) (hx' : x < 4294967296) (hy : 0 ≤ y) (hy' : y < 4294967296) (hc : 0 ≤ c) (hc' : c ≤ 1) :
    Calls Tryz.prog 91 #[.int .u32 x, .int .u32 y, .int .u32 c] w fun e w' => e = .returned (.tuple #[.int .u32 ((x - y - c) % 4294967296), .int .u32 (-((x - y - c) / 4294967296))]) ∧ w = w' := by
  have HB := Lib.hid (borrow x y c hx hx' hy hy' hc hc')
  go_enter Tryz.func91, Tryz.ntmps91
  go_wp2
  go_ret2
  refine ⟨?_, rfl⟩
  exact congrArg (fun z => Ending.returned (Value.tuple #[.int .u32 ((x - y - c) % 4294967296), .int .u32 z])) HB.out

theorem div32 (x y d : Int) (w : World) (hx : 0 ≤ x) (hx' : x < d) (hy : 0 ≤ y) (hy' : y < 4294967296) (hd' : d < 4294967296) :
    Calls Tryz.prog 97 #[.int .u32 x, .int .u32 y, .int .u32 d] w fun e w' => e = .returned (.tuple #[.int .u32 ((x * 4294967296 + y) / d), .int .u32 ((x * 4294967296 + y) % d)]) ∧ ∃ n, w' = w.drewN n := by
  have h0 : (d == 0) = false := by simp; omega
  have h1 : (d != 0) = true := by simp; omega
  have ho := or_join x y hx (by omega) hy hy'
  go_enter Tryz.func97, Tryz.ntmps97
  go_wp2
  obtain ⟨z, hz⟩ : ∃ z, z = x * 4294967296 + y := ⟨_, rfl⟩
  rw [← hz]
  have hz0 : 0 ≤ z := by omega
  have hz1 : z < d * 4294967296 := by omega
  have hq0 : 0 ≤ z / d := Int.ediv_nonneg hz0 (by omega)
  have hq1 : z / d < 4294967296 := Int.ediv_lt_of_lt_mul (by omega) (by rw [Int.mul_comm]; exact hz1)
  have hr0 : 0 ≤ z % d := Int.emod_nonneg _ (by omega)
  have hr1 : z % d < d := Int.emod_lt_of_pos _ (by omega)
  have HZ := Lib.hid hz
  clear hz ho
  go_quiet (fail)
  go_wp2
  go_ret2
  rw [← HZ.out]
  exact ⟨rfl, _, rfl⟩
end Go.Proofs.YtddcgojpgdhefaaGreatDoor
