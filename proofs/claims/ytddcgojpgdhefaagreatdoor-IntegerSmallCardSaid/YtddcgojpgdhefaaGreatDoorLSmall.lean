/- The law IntegerSmall, walked. -/
import Derived.Test.YtddcgojpgdhefaaGreatDoorSanity
namespace Go.El
theorem natAbs_half (z : Int) : (z.tdiv 2).natAbs = z.natAbs / 2 := by rw [Int.natAbs_tdiv]; rfl
theorem tmod_bd (z : Int) : -1000000007 < z.tmod 1000000007 ∧ z.tmod 1000000007 < 1000000007 := by
  have h1 := Int.tmod_lt_of_pos z (show (0 : Int) < 1000000007 by omega)
  have h2 := Int.lt_tmod_of_pos z (show (0 : Int) < 1000000007 by omega)
  omega
theorem tdiv_bd {z : Int} (h0 : -9223372036854775808 ≤ z) (h1 : z < 9223372036854775808) : -4611686018427387904 ≤ z.tdiv 2 ∧ z.tdiv 2 < 4611686018427387904 := by
  rcases Int.le_total 0 z with h | h
  · rw [Int.tdiv_eq_ediv_of_nonneg h]; omega
  · obtain ⟨k, rfl⟩ : ∃ k, z = -k := ⟨-z, by omega⟩
    rw [Int.neg_tdiv, Int.tdiv_eq_ediv_of_nonneg (by omega)]; omega
theorem mul_bd {p q : Int} (h1 : -1000000007 < p) (h2 : p < 1000000007) (h3 : -1000000007 < q) (h4 : q < 1000000007) : -1000000014000000049 ≤ p * q ∧ p * q ≤ 1000000014000000049 := by
  have h : (p * q).natAbs ≤ 1000000007 * 1000000007 := by
    rw [Int.natAbs_mul]; exact Nat.mul_le_mul (by omega) (by omega)
  omega
end Go.El
namespace Go.Proofs.YtddcgojpgdhefaaGreatDoor
open Go.RowKit Go.El
set_option linter.unusedVariables false
theorem smallOf_in {z : Int} (h0 : -9223372036854775808 ≤ z) (h1 : z < 9223372036854775808) : smallOf z = (.int .i64 z, .bool true) := if_pos ⟨h0, h1⟩
set_option maxRecDepth 100000 in
set_option maxHeartbeats 4000000 in
theorem lawSmall (n m : Int) (w : World) (n0 : -9223372036854775808 ≤ n) (n1 : n < 9223372036854775808) (m0 : -9223372036854775808 ≤ m) (m1 : m < 9223372036854775808) :
    Calls Tryz.prog 10 #[.int .i64 n, .int .i64 m] w fun e w' => e = .returned (.bool true) ∧ Ext w w' := by
  have N0 := Lib.hid n0
  have N1 := Lib.hid n1
  have M0 := Lib.hid m0
  have M1 := Lib.hid m1
  go_enter Tryz.func10, Tryz.ntmps10
  go_wp2_with fail
  refine (sanity_any _).mono ?_
  rintro e w1 ⟨rfl, x1⟩
  go_wp2_with fail
  refine (of_any n _ n0 n1).mono ?_
  rintro e w2 ⟨⟨v, rfl, ⟨sa, aa, na, ca, rfl, ha⟩⟩, x2⟩
  have HA := Lib.hid ha
  clear ha
  obtain ⟨A, w3, hD, hw, hbA, x3⟩ := one w2 24 [.bool sa, .slice aa na ca]
  go_wp2_with fail
  rw [← hw, ← hD]
  clear hw hD
  refine (of_any m _ m0 m1).mono ?_
  rintro e w4 ⟨⟨v, rfl, ⟨sb, ab, nb, cb, rfl, hb⟩⟩, x4⟩
  have HB := Lib.hid hb
  clear hb
  obtain ⟨B, w5, hD, hw, hbB, x5⟩ := one w4 24 [.bool sb, .slice ab nb cb]
  have hbA5 := (hbA.ext x4).ext x5
  have HVA : Hid (IntV w5 (.agg #[.bool sa, .slice aa na ca]) n) := Lib.hid ⟨_, _, _, _, rfl, ((HA.out.ext x3).ext x4).ext x5⟩
  have HVB : Hid (IntV w5 (.agg #[.bool sb, .slice ab nb cb]) m) := Lib.hid ⟨_, _, _, _, rfl, HB.out.ext x5⟩
  have hx5 := (((x1.trans x2).trans x3).trans x4).trans x5
  have KX : Hid (∀ w', Ext w5 w' → (w'.cell? ⟨A, 0, none⟩ = some (.bool sa) ∧ w'.cell? ⟨A, 1, none⟩ = some (.slice aa na ca)) ∧ (w'.cell? ⟨B, 0, none⟩ = some (.bool sb) ∧ w'.cell? ⟨B, 1, none⟩ = some (.slice ab nb cb))) :=
    Lib.hid fun w' h => ⟨⟨h.cell (hbA5.cell (i := 0) rfl), h.cell (hbA5.cell (i := 1) rfl)⟩, ⟨h.cell (hbB.cell (i := 0) rfl), h.cell (hbB.cell (i := 1) rfl)⟩⟩
  clear hbA hbA5 hbB
  obtain ⟨⟨cA0, cA1⟩, ⟨cB0, cB1⟩⟩ := KX.out w5 (Ext.refl _)
  have hw' := hw.symm
  have hD' := hD.symm
  clear hw hD
  go_wp2_with fail
  clear hw' hD'
  refine (small_any _ n _ HVA.out).mono ?_
  rintro e w6 ⟨rfl, x6⟩
  rw [smallOf_in n0 n1]
  clear cA0 cA1 cB0 cB1
  obtain ⟨⟨cA0, cA1⟩, ⟨cB0, cB1⟩⟩ := KX.out w6 x6
  have hx6 := x6
  have hP := tmod_bd n
  have hQ := tmod_bd m
  have hU := tdiv_bd n0 n1
  have hV := tdiv_bd m0 m1
  have hc : (n < m ∧ -1 = sgn n m) ∨ ((¬ n < m ∧ ¬ m < n) ∧ 0 = sgn n m) ∨ (m < n ∧ 1 = sgn n m) := by
    rcases sgn_cases n m with ⟨h, e⟩ | ⟨h, e⟩ | ⟨h, e⟩
    · exact Or.inl ⟨h, e.symm⟩
    · exact Or.inr (Or.inl ⟨by omega, e.symm⟩)
    · exact Or.inr (Or.inr ⟨h, e.symm⟩)
  rcases hc with ⟨h, ho⟩ | ⟨⟨h, h'⟩, ho⟩ | ⟨h, ho⟩
  all_goals
    have HO := Lib.hid ho
    clear ho
    go_wp2_with fail
    refine (valid_any _ n _ (HVA.out.ext hx6)).mono ?_
    rintro e w7 ⟨rfl, x7⟩
    have hx7 := hx6.trans x7
    clear cA0 cA1 cB0 cB1
    obtain ⟨⟨cA0, cA1⟩, ⟨cB0, cB1⟩⟩ := KX.out w7 hx7
    go_wp2_with fail
    refine (cmp_any _ _ n m _ (HVA.out.ext hx7) (HVB.out.ext hx7)).mono ?_
    rintro e w8 ⟨rfl, x8⟩
    rw [← HO.out]
    have hx8 := hx7.trans x8
    clear cA0 cA1 cB0 cB1
    obtain ⟨⟨cA0, cA1⟩, ⟨cB0, cB1⟩⟩ := KX.out w8 hx8
    go_wp2_with fail
    go_loopw [11, 12] (fun b k wr => Ext w8 wr ∧ ∃ (c : Nat) (z : Int), c ≤ 64 ∧ z.natAbs ≤ n.natAbs ∧ b = .int .i64 c ∧ k = .int .i64 z ∧ c + blen z.natAbs = blen n.natAbs) (fun _ k _ => (intOf k).natAbs)
    case atStart => exact ⟨Ext.refl _, 0, n, by omega, Nat.le_refl _, rfl, rfl, by omega⟩
    case round =>
      obtain ⟨xr, c, z, hc, hz, rfl, rfl, hb⟩ := hrel
      have hz0 : -9223372036854775808 ≤ z := by have := N0.out; have := N1.out; omega
      have hz1 : z ≤ 9223372036854775808 := by have := N0.out; have := N1.out; omega
      by_cases hzz : z = 0
      · subst hzz
        have hbl : blen n.natAbs = c := by rw [← hb]; simp [blen_zero]
        have HBL := Lib.hid hbl
        clear hb hbl hz hz0 hz1
        have hx9 := hx8.trans xr
        have hw1 : wrap64 (n.tdiv 2) = n.tdiv 2 := IntWalk.wrap64_in _ (by constructor <;> omega)
        have hw2 : wrap64 (m.tdiv 2) = m.tdiv 2 := IntWalk.wrap64_in _ (by constructor <;> omega)
        have hpq := mul_bd hP.1 hP.2 hQ.1 hQ.2
        have HFP : Hid (Fits (n.tmod 1000000007) 1073741824) := Lib.hid (fits_small (by omega) (by omega))
        have HFQ : Hid (Fits (m.tmod 1000000007) 1073741824) := Lib.hid (fits_small (by omega) (by omega))
        have HFU : Hid (Fits (n.tdiv 2) 1073741824) := Lib.hid (Fits.mono (show Fits (n.tdiv 2) 2 by unfold Fits; simp only [pw]; omega) (by omega))
        have HFV : Hid (Fits (m.tdiv 2) 1073741824) := Lib.hid (Fits.mono (show Fits (m.tdiv 2) 2 by unfold Fits; simp only [pw]; omega) (by omega))
        go_wp2_with fail
        refine (of_any (n.tmod 1000000007) _ (by omega) (by omega)).mono ?_
        rintro e w9 ⟨⟨p, rfl, hp⟩, x9⟩
        have HPV := Lib.hid hp
        clear hp
        go_wp2_with fail
        refine (of_any (m.tmod 1000000007) _ (by omega) (by omega)).mono ?_
        rintro e w10 ⟨⟨q, rfl, hq⟩, x10⟩
        have HQV := Lib.hid hq
        clear hq
        go_wp2_with fail
        refine (mul_any _ _ _ _ _ (HPV.out.ext x10) HQV.out HFP.out HFQ.out).mono ?_
        rintro e w11 ⟨⟨r, rfl, hr⟩, x11⟩
        have HRV := Lib.hid hr
        clear hr
        go_wp2_with fail
        refine (small_any _ _ _ HRV.out).mono ?_
        rintro e w12 ⟨rfl, x12⟩
        rw [smallOf_in (show -9223372036854775808 ≤ n.tmod 1000000007 * m.tmod 1000000007 by omega) (by omega)]
        go_wp2_with fail
        refine (of_any (n.tdiv 2) _ (by omega) (by omega)).mono ?_
        rintro e w13 ⟨⟨u, rfl, hu⟩, x13⟩
        have HUV := Lib.hid hu
        clear hu
        go_wp2_with fail
        refine (of_any (m.tdiv 2) _ (by omega) (by omega)).mono ?_
        rintro e w14 ⟨⟨v, rfl, hv⟩, x14⟩
        have HVV := Lib.hid hv
        clear hv
        go_wp2_with fail
        refine (add_any _ _ _ _ _ (HUV.out.ext x14) HVV.out HFU.out HFV.out).mono ?_
        rintro e w15 ⟨⟨r, rfl, hr⟩, x15⟩
        have HSV := Lib.hid hr
        clear hr
        go_wp2_with fail
        refine (small_any _ _ _ HSV.out).mono ?_
        rintro e w16 ⟨rfl, x16⟩
        rw [smallOf_in (show -9223372036854775808 ≤ n.tdiv 2 + m.tdiv 2 by omega) (by omega)]
        have hx16 := (((((((hx9.trans x9).trans x10).trans x11).trans x12).trans x13).trans x14).trans x15).trans x16
        clear cA0 cA1 cB0 cB1
        obtain ⟨⟨cA0, cA1⟩, ⟨cB0, cB1⟩⟩ := KX.out w16 hx16
        have HFN : Hid (Fits n 1073741824) := Lib.hid (Fits.mono (show Fits n 2 by unfold Fits; simp only [pw]; omega) (by omega))
        go_wp2_with fail
        refine (bits_any _ n _ (HVA.out.ext hx16) HFN.out).mono ?_
        rintro e w17 ⟨rfl, x17⟩
        rw [HBL.out]
        go_wp2_with fail
        go_ret
        exact ⟨rfl, (hx5.trans hx16).trans x17⟩
      · have hb2 := blen_half (n := z.natAbs) (by omega)
        have hle := blen_le (n := n.natAbs) (k := 64) (by have := N0.out; have := N1.out; omega)
        have hne : (z != 0) = true := by simp [hzz]
        have hne2 : (z == 0) = false := by simp [hzz]
        have hh := natAbs_half z
        have HC : Hid (c + 1 ≤ 64 ∧ (z.tdiv 2).natAbs ≤ n.natAbs ∧ (c + 1) + blen (z.tdiv 2).natAbs = blen n.natAbs ∧ (z.tdiv 2).natAbs < z.natAbs) := Lib.hid (by rw [hh]; omega)
        have HW : Hid (wrap64 (z.tdiv 2) = z.tdiv 2) := Lib.hid (IntWalk.wrap64_in _ (by have := HC.out.2.1; have := N0.out; have := N1.out; have := natAbs_half z; constructor <;> omega))
        clear hb hb2 hle hz hh
        go_wp2_with fail
        go_roundw
        case rel => exact ⟨xr, c + 1, z.tdiv 2, HC.out.1, HC.out.2.1, by go_num, by rw [HW.out], HC.out.2.2.1⟩
        case measure => rw [HW.out]; exact HC.out.2.2.2
end Go.Proofs.YtddcgojpgdhefaaGreatDoor
