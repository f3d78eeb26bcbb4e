/- Powers of absolute values. -/
import Derived.Test.YtddcgojpgdhefaaGreatDoorInt9
namespace Go.El
theorem pow_lt {a : Int} {K : Nat} (ha : 0 ≤ a) (hK : a < pw K) (e : Nat) : a ^ e ≤ pw (K * e) := by
  induction e with
  | zero => rw [Int.pow_zero, Nat.mul_zero, pw]; omega
  | succ e ih =>
    rw [Int.pow_succ, Nat.mul_succ, pw_add]
    have h0 : 0 ≤ a ^ e := Int.pow_nonneg ha
    exact Int.mul_le_mul ih (by omega) ha (Int.le_of_lt (pw_pos _))
theorem pow_len {a : Int} {K : Nat} (ha : 0 ≤ a) (hK : a < pw K) (e : Nat) : (digs (a ^ e)).length ≤ K * e + 1 := by
  refine digs_len_le (Int.pow_nonneg ha) (Int.lt_of_le_of_lt (pow_lt ha hK e) ?_)
  have := pw_pos (K * e)
  rw [pw]; omega
theorem pow_bit1 {n k q : Nat} (a : Int) (hq : n / 2 ^ k = q) (hb : q % 2 = 1) : a ^ (n % 2 ^ (k + 1)) = a ^ (n % 2 ^ k) * a ^ (2 ^ k) := by
  rw [Nat.mod_pow_succ, hq, hb, Nat.mul_one, Int.pow_add]
theorem pow_bit0 {n k q : Nat} (a : Int) (hq : n / 2 ^ k = q) (hb : q % 2 = 0) : a ^ (n % 2 ^ (k + 1)) = a ^ (n % 2 ^ k) := by
  rw [Nat.mod_pow_succ, hq, hb, Nat.mul_zero, Nat.add_zero]
theorem pow_sq (a : Int) (k : Nat) : a ^ (2 ^ (k + 1)) = a ^ (2 ^ k) * a ^ (2 ^ k) := by
  rw [Nat.pow_succ, Nat.mul_two, Int.pow_add]
theorem and_one (n : Int) : bits .and .i64 n 1 = n % 2 := by
  have h1 : (BitVec.ofInt 64 1).toNat = 2 ^ 1 - 1 := by decide
  have key : (BitVec.ofInt 64 n &&& BitVec.ofInt 64 1).toNat = (n % ((2 ^ 64 : Nat) : Int)).toNat % 2 ^ 1 := by
    rw [BitVec.toNat_and, BitVec.toNat_ofInt, h1, Nat.and_two_pow_sub_one_eq_mod]
  show IntKind.i64.wrap ((BitVec.ofInt 64 n &&& BitVec.ofInt 64 1).toNat : Nat) = n % 2
  rw [key, IntKind.wrap_i64]
  omega
theorem bitLen_facts {n L : Nat} (h : L = Lib.bitLen n) (hn : n ≤ 1000000) : L ≤ 20 ∧ n < 2 ^ L ∧ ∀ k, k < L → 2 ^ k ≤ n := by
  by_cases h0 : n = 0
  · subst h0
    obtain rfl : L = 0 := h
    exact ⟨by omega, by decide, fun k hk => by omega⟩
  · have h1 := Lib.bitLenAux_bounds 64 n (by omega) h0
    have h2 := Lib.bitLen_le n 20 (by omega) (by omega)
    rw [show Lib.bitLenAux 64 n = L from h.symm] at h1
    rw [← h] at h2
    exact ⟨h2, h1.2.2, fun k hk => Nat.le_trans (Nat.pow_le_pow_right (by omega) (by omega)) h1.2.1⟩
end Go.El
namespace Go.Proofs.YtddcgojpgdhefaaGreatDoor
open Go.RowKit Go.El
set_option linter.unusedVariables false
set_option maxRecDepth 100000 in
set_option maxHeartbeats 1000000 in
theorem npow_any (ax : Option Addr) (nx cx : Nat) (a : Int) (n K : Nat) (w : World) (ha : 0 ≤ a) (hx : Words w ax nx cx (digs a)) (hK : a < pw K) (hn : n ≤ 1000000) (hb : K * n ≤ 1073741824) :
    Calls Tryz.prog 61 #[.slice ax nx cx, .int .i64 n] w fun e w' => (∃ a' k c, e = .returned (.slice a' k c) ∧ Words w' a' k c (digs (a ^ n))) ∧ Ext w w' := by
  have HX := Lib.hid hx
  have HK := Lib.hid hK
  clear hx hK
  go_enter Tryz.func61, Tryz.ntmps61
  go_wp2_with fail
  refine (natural_any 1 _ (by omega) (by omega)).mono ?_
  rintro e w1 ⟨⟨oa, on, oc, rfl, ho, hon⟩, he1⟩
  have HO := Lib.hid ho
  clear ho
  go_wp2_with fail
  refine (Tryz.bits_Len n _ (by omega) (by omega)).mono ?_
  rintro e w2 ⟨rfl, rfl⟩
  obtain ⟨L, hL⟩ : ∃ L, L = Lib.bitLen (n : Int).toNat := ⟨_, rfl⟩
  rw [← hL]
  rw [Int.toNat_natCast] at hL
  have HL := Lib.hid (bitLen_facts hL hn)
  have hL20 : L ≤ 20 := HL.out.1
  clear hL
  go_wp2_with fail
  go_loopw [0, 5, 11] (fun x o i wr => ∃ k : Nat, k ≤ L ∧ i = .int .i64 k ∧ Ext w wr ∧ (∃ oa on oc, o = .slice oa on oc ∧ Words wr oa on oc (digs (a ^ (n % 2 ^ k)))) ∧ (∃ xa xn xc, x = .slice xa xn xc ∧ (k < L → Words wr xa xn xc (digs (a ^ (2 ^ k)))))) (fun _ _ i _ => L - (intOf i).toNat)
  case atStart =>
    refine ⟨0, Nat.zero_le _, rfl, he1, ⟨_, _, _, rfl, ?_⟩, ⟨_, _, _, rfl, fun _ => ?_⟩⟩
    · rw [Nat.pow_zero, Nat.mod_one, Int.pow_zero]; exact HO.out
    · rw [Nat.pow_zero, Int.pow_one]; exact HX.out.ext he1
  case round =>
    obtain ⟨k, hk, rfl, he, ⟨oa, on, oc, rfl, ho⟩, ⟨xa, xn, xc, rfl, hx⟩⟩ := hrel
    have HO' := Lib.hid ho
    have HX' := Lib.hid hx
    clear ho hx
    by_cases hkL : k < L
    · obtain ⟨q, hq⟩ : ∃ q, n / 2 ^ k = q := ⟨_, rfl⟩
      have hq1 : (n : Int) / 2 ^ k = (q : Int) := by
        rw [← hq, Int.natCast_ediv, Int.natCast_pow]; rfl
      have hqn : q ≤ n := by rw [← hq]; exact Nat.div_le_self _ _
      have hband := and_one q
      have hxl : Hid (xn ≤ 1073741825) := by
        rw [← (HX'.out hkL).hlen]
        refine Nat.le_trans (pow_len ha HK.out _) ?_
        have := Nat.mul_le_mul_left K (HL.out.2.2 k hkL)
        omega
      have hol : Hid (on ≤ 1073741825) := by
        rw [← HO'.out.hlen]
        refine Nat.le_trans (pow_len ha HK.out _) ?_
        have := Nat.mul_le_mul_left K (Nat.mod_le n (2 ^ k))
        omega
      have HXk := Lib.hid (HX'.out hkL)
      have HQ := Lib.hid hq
      clear hq HX'
      have hvx : val (digs (a ^ 2 ^ k)) = a ^ 2 ^ k := val_digs (Int.pow_nonneg ha)
      have hvo : val (digs (a ^ (n % 2 ^ k))) = a ^ (n % 2 ^ k) := val_digs (Int.pow_nonneg ha)
      have HVX := Lib.hid hvx
      have HVO := Lib.hid hvo
      clear hvx hvo
      rcases Nat.mod_two_eq_zero_or_one q with hm | hm
      · rw [show (q : Int) % 2 = 0 by omega] at hband
        have HM := Lib.hid hm
        clear hm
        by_cases hmore : k + 1 < L
        · have h1q : (1 : Int) < q := by
            have h1 := HL.out.2.2 (k + 1) hmore
            have : 2 ≤ q := by
              rw [← HQ.out, Nat.le_div_iff_mul_le (Nat.two_pow_pos _)]
              rw [Nat.pow_succ] at h1; omega
            omega
          go_wp2_with fail
          refine (nmul_any _ _ _ _ _ _ _ _ _ HXk.out HXk.out (by have := hxl.out; omega) (by have := hxl.out; omega)).mono ?_
          rintro e w3 ⟨⟨sa, sn, sc, rfl, hs⟩, he3⟩
          rw [HVX.out, ← pow_sq] at hs
          have HS := Lib.hid hs
          clear hs
          go_wp2_with fail
          go_roundw
          case rel => exact ⟨k + 1, by omega, by go_num, he.trans he3, ⟨_, _, _, rfl, by rw [pow_bit0 a HQ.out HM.out]; exact HO'.out.ext he3⟩, ⟨_, _, _, rfl, fun _ => HS.out⟩⟩
          case measure => simp [intOf]; omega
        · have h1q : (q : Int) ≤ 1 := by
            have h1 := HL.out.2.1
            have : q < 2 := by
              rw [← HQ.out, Nat.div_lt_iff_lt_mul (Nat.two_pow_pos _)]
              rw [show L = k + 1 by omega, Nat.pow_succ] at h1; omega
            omega
          go_wp2_with fail
          go_roundw
          case rel => exact ⟨k + 1, by omega, by go_num, he, ⟨_, _, _, rfl, by rw [pow_bit0 a HQ.out HM.out]; exact HO'.out⟩, ⟨_, _, _, rfl, fun h => absurd h hmore⟩⟩
          case measure => simp [intOf]; omega
      · rw [show (q : Int) % 2 = 1 by omega] at hband
        have HM := Lib.hid hm
        clear hm
        by_cases hmore : k + 1 < L
        · have h1q : (1 : Int) < q := by
            have h1 := HL.out.2.2 (k + 1) hmore
            have : 2 ≤ q := by
              rw [← HQ.out, Nat.le_div_iff_mul_le (Nat.two_pow_pos _)]
              rw [Nat.pow_succ] at h1; omega
            omega
          go_wp2_with fail
          refine (nmul_any _ _ _ _ _ _ _ _ _ HO'.out HXk.out (by have := hol.out; omega) (by have := hxl.out; omega)).mono ?_
          rintro e w4 ⟨⟨pa, pn, pc, rfl, hp⟩, he4⟩
          rw [HVX.out, HVO.out, ← pow_bit1 a HQ.out HM.out] at hp
          have HP := Lib.hid hp
          have HXk := Lib.hid (HXk.out.ext he4)
          clear hp
          go_wp2_with fail
          refine (nmul_any _ _ _ _ _ _ _ _ _ HXk.out HXk.out (by have := hxl.out; omega) (by have := hxl.out; omega)).mono ?_
          rintro e w3 ⟨⟨sa, sn, sc, rfl, hs⟩, he3⟩
          rw [HVX.out, ← pow_sq] at hs
          have HS := Lib.hid hs
          clear hs
          go_wp2_with fail
          go_roundw
          case rel => exact ⟨k + 1, by omega, by go_num, (he.trans he4).trans he3, ⟨_, _, _, rfl, HP.out.ext he3⟩, ⟨_, _, _, rfl, fun _ => HS.out⟩⟩
          case measure => simp [intOf]; omega
        · have h1q : (q : Int) ≤ 1 := by
            have h1 := HL.out.2.1
            have : q < 2 := by
              rw [← HQ.out, Nat.div_lt_iff_lt_mul (Nat.two_pow_pos _)]
              rw [show L = k + 1 by omega, Nat.pow_succ] at h1; omega
            omega
          go_wp2_with fail
          refine (nmul_any _ _ _ _ _ _ _ _ _ HO'.out HXk.out (by have := hol.out; omega) (by have := hxl.out; omega)).mono ?_
          rintro e w4 ⟨⟨pa, pn, pc, rfl, hp⟩, he4⟩
          rw [HVX.out, HVO.out, ← pow_bit1 a HQ.out HM.out] at hp
          have HP := Lib.hid hp
          have HXk := Lib.hid (HXk.out.ext he4)
          clear hp
          go_wp2_with fail
          go_roundw
          case rel => exact ⟨k + 1, by omega, by go_num, he.trans he4, ⟨_, _, _, rfl, HP.out⟩, ⟨_, _, _, rfl, fun h => absurd h hmore⟩⟩
          case measure => simp [intOf]; omega
    · obtain rfl : k = L := by omega
      have hfin : n % 2 ^ k = n := Nat.mod_eq_of_lt HL.out.2.1
      rw [hfin] at HO'
      clear hfin
      go_wp2_with fail
      go_ret
      exact ⟨⟨_, _, _, rfl, HO'.out⟩, he⟩
end Go.Proofs.YtddcgojpgdhefaaGreatDoor
