/- The law IntegerPowers, walked. -/
import Derived.Test.YtddcgojpgdhefaaGreatDoorLawLib2
namespace Go.Proofs.YtddcgojpgdhefaaGreatDoor
open Go.RowKit Go.El
set_option linter.unusedVariables false
theorem sgn_le {a b : Int} (h : a ≤ b) : sgn a b ≤ 0 := by
  rcases sgn_cases a b with ⟨_, e⟩ | ⟨_, e⟩ | ⟨k, e⟩ <;> omega
theorem root_nn (x : Value) (a : Int) (k : Nat) (w : World) (hx : IntV w x a) (ha : Fits a 1000) (h0 : 0 ≤ a) (hk : 1 ≤ k) (hk2 : k ≤ 9223372036854775807) :
    Calls Tryz.prog 27 #[x, .int .i64 k] w fun e w' => (∃ a' n c r, e = .returned (.tuple #[.agg #[.bool false, .slice a' n c], .int .i64 0]) ∧ IntW w' false a' n c r ∧ IsRoot a k r) ∧ Ext w w' := by
  refine (Root_any x a k w hx ha h0 hk hk2).mono ?_
  rintro e w' ⟨⟨v, r, rfl, ⟨s, a', n, c, rfl, hi⟩, hr⟩, he⟩
  have : s = false := by rw [hi.1]; simp; exact hr.1
  subst this
  exact ⟨⟨_, _, _, _, rfl, hi, hr⟩, he⟩
structure powers_posF (w3 : World) (ar : Option Addr) (nr : Nat) (cr : Nat) (k : Nat) (z1 : Int) (z2 : Int) (z4 : Int) (L : Nat → Bool) (y : Nat → Value) (w : World) : Prop where
  e : Ext w3 w
  f0 : L 0 = true → y 148 = .agg #[.bool false, .slice ar nr cr]
  f1 : L 1 = true → IntV w (y 149) z1
  f2 : L 2 = true → IntV w (y 150) z2
  f3 : L 3 = true → y 151 = .int .i64 k
  f4 : L 4 = true → OneT w (y 152) z4
  f5 : L 5 = true → OneT w (y 147) z4
  f6 : L 6 = true → IntV w (y 153) z4
  f7 : L 7 = true → y 154 = .int .i64 0
  f8 : L 8 = true → RoomI w (y 27) w3.heap.size
  f9 : L 9 = true → AtI w (y 27) w3.heap.size z4
  c9 : L 9 = true → L 8 = true
  f10 : L 10 = true → y 28 = .int .i64 0
theorem powers_posF.ext {w3 : World} {ar : Option Addr} {nr : Nat} {cr : Nat} {k : Nat} {z1 : Int} {z2 : Int} {z4 : Int} {L : Nat → Bool} {y : Nat → Value} {w w1 : World} (h : powers_posF w3 ar nr cr k z1 z2 z4 L y w) (he : Ext w w1) : powers_posF w3 ar nr cr k z1 z2 z4 L y w1 :=
  ⟨h.e.trans he, h.f0, fun k => (h.f1 k).ext he, fun k => (h.f2 k).ext he, h.f3, fun k => (h.f4 k).ext he, fun k => (h.f5 k).ext he, fun k => (h.f6 k).ext he, h.f7, fun k => (h.f8 k).ext he, fun k => (h.f9 k).ext he, h.c9, h.f10⟩
set_option maxRecDepth 100000 in
set_option maxHeartbeats 8000000 in
theorem powers_neg (nx : Bool) (ax : Option Addr) (kx cx : Nat) (lx : List Int) (a : Int) (ea : a = rawZ nx lx 4) (ny : Bool) (ay : Option Addr) (ky cy : Nat) (ly : List Int) (b : Int) (eb : b = rawZ ny ly 4) (w : World) (hx : Words w ax kx cx lx) (hy : Words w ay ky cy ly) (v0 v1 v2 : Int) (m l k ml kk : Nat) (p0 : 0 ≤ v0) (p1 : v0 < 256) (q0 : 0 ≤ v1) (q1 : v1 < 256) (r0 : 0 ≤ v2) (r1 : v2 < 256) (hm : v0 % 20 = (m : Int)) (hl : v1 % 20 = (l : Int)) (hkk : v2 % 20 = (kk : Int)) (hml : (m : Int) + (l : Int) = (ml : Int)) (hk : 1 + (kk : Int) = (k : Int)) (ha0 : a < 0) :
    Calls Tryz.prog 7 #[.agg #[.bool nx, .slice ax kx cx], .agg #[.bool ny, .slice ay ky cy], .agg #[.int .u8 v0, .int .u8 v1, .int .u8 v2]] w fun e w' => e = .returned (.bool true) ∧ Ext w w' := by
  have E_a := Lib.hid ea
  have HWx := Lib.hid hx
  clear ea hx
  have E_b := Lib.hid eb
  have HWy := Lib.hid hy
  clear eb hy
  have HA0 := Lib.hid ha0
  clear ha0
  have b_m : m ≤ 19 := by omega
  have b_l : l ≤ 19 := by omega
  have b_kk : kk ≤ 19 := by omega
  have b_k : k ≤ 20 := by omega
  have b_k1 : 1 ≤ k := by omega
  have b_ml : ml ≤ 38 := by omega
  have HML : Hid (m + l = ml) := Lib.hid (by omega)
  obtain ⟨B0, w0, hB0, hw0, hr0, hr1, hr2, x0⟩ := three w 25 25 41 [.bool nx, .slice ax kx cx] [.bool ny, .slice ay ky cy] [.int .u8 v0, .int .u8 v1, .int .u8 v2]
  have HF1 : Hid (Fits (a) 4) := Lib.hid (by rw [E_a.out]; exact fits_raw (HWx.out.wf) (by omega))
  have HF5 : Hid (Fits (b) 4) := Lib.hid (by rw [E_b.out]; exact fits_raw (HWy.out.wf) (by omega))
  have HF9 : Hid (Fits (a ^ m) 80) := Lib.hid (Fits.mono (Fits.pow HF1.out m) (by omega))
  have HF14 : Hid (Fits (a ^ l) 80) := Lib.hid (Fits.mono (Fits.pow HF1.out l) (by omega))
  have HF18 : Hid (Fits (a ^ ml) 160) := Lib.hid (Fits.mono (Fits.pow HF1.out ml) (by omega))
  have HF22 : Hid (Fits (b ^ m) 80) := Lib.hid (Fits.mono (Fits.pow HF5.out m) (by omega))
  have HF26 : Hid (Fits (a * b) 8) := Lib.hid (Fits.mul HF1.out HF5.out)
  have HF30 : Hid (Fits ((a * b) ^ m) 160) := Lib.hid (Fits.mono (Fits.pow HF26.out m) (by omega))
  have HF34 : Hid (Fits ((a ^ m) * (a ^ l)) 160) := Lib.hid (Fits.mul HF9.out HF14.out)
  have HE36 : Hid ((a ^ m) * (a ^ l) = a ^ ml) := Lib.hid (by rw [← Int.pow_add, HML.out])
  have HF38 : Hid (Fits ((a ^ m) * (b ^ m)) 160) := Lib.hid (Fits.mul HF9.out HF22.out)
  have HE40 : Hid ((a ^ m) * (b ^ m) = (a * b) ^ m) := Lib.hid (by rw [Int.mul_pow])
  have KB3 : Hid (∀ W, Ext w0 W → W.cell? ⟨B0, 0, none⟩ = some (.bool nx) ∧ W.cell? ⟨B0, 1, none⟩ = some (.slice ax kx cx)) := Lib.hid fun W h => ⟨h.cell (hr0.cell (i := 0) rfl), h.cell (hr0.cell (i := 1) rfl)⟩
  have KB4 : Hid (∀ W, Ext w0 W → W.cell? ⟨B0 + 1, 0, none⟩ = some (.bool ny) ∧ W.cell? ⟨B0 + 1, 1, none⟩ = some (.slice ay ky cy)) := Lib.hid fun W h => ⟨h.cell (hr1.cell (i := 0) rfl), h.cell (hr1.cell (i := 1) rfl)⟩
  have KB5 : Hid (∀ W, Ext w0 W → W.cell? ⟨B0 + 1 + 1, 0, none⟩ = some (.int .u8 v0) ∧ W.cell? ⟨B0 + 1 + 1, 1, none⟩ = some (.int .u8 v1) ∧ W.cell? ⟨B0 + 1 + 1, 2, none⟩ = some (.int .u8 v2)) := Lib.hid fun W h => ⟨h.cell (hr2.cell (i := 0) rfl), h.cell (hr2.cell (i := 1) rfl), h.cell (hr2.cell (i := 2) rfl)⟩
  clear hr0 hr1 hr2
  go_enter Tryz.func7, Tryz.ntmps7
  go_wp2_with fail
  rw [← hw0, ← hB0]
  clear hw0 hB0
  refine (sanity_any _).mono ?_
  rintro e ws ⟨rfl, xs⟩
  obtain ⟨cc3_0_3, cc3_1_3⟩ := KB3.out ws xs
  go_wp2_with fail
  clear cc3_0_3 cc3_1_3
  refine (Made_any nx ax kx cx lx 4 a _ (HWx.out.ext (x0.trans xs)) (by omega) E_a.out).mono ?_
  rintro e w2 ⟨⟨v2_0, rfl, ⟨s2_0, a2_0, n2_0, c2_0, rfl, hi2_0⟩⟩, x2⟩
  obtain rfl : s2_0 = true := by rw [hi2_0.1]; simp; exact HA0.out
  have HV2_0 : Hid (IntV w2 (.agg #[.bool true, .slice a2_0 n2_0 c2_0]) (a)) := Lib.hid ⟨_, _, _, _, rfl, hi2_0⟩
  clear hi2_0
  obtain ⟨D4, wb4, hD4, hw4, hb4_0, xb4⟩ := one w2 24 [.bool true, .slice a2_0 n2_0 c2_0]
  have KB8 : Hid (∀ W, Ext wb4 W → W.cell? ⟨D4, 0, none⟩ = some (.bool true) ∧ W.cell? ⟨D4, 1, none⟩ = some (.slice a2_0 n2_0 c2_0)) := Lib.hid fun W h => ⟨h.cell (hb4_0.cell (i := 0) rfl), h.cell (hb4_0.cell (i := 1) rfl)⟩
  clear hb4_0
  obtain ⟨cc4_0_7, cc4_1_7⟩ := KB4.out wb4 ((xs.trans x2).trans xb4)
  have hq4 := hw4.symm
  have hp4 := hD4.symm
  clear hw4 hD4
  go_wp2_with fail
  clear hq4 hp4
  clear cc4_0_7 cc4_1_7
  refine (Made_any ny ay ky cy ly 4 b _ (HWy.out.ext (((x0.trans xs).trans x2).trans xb4)) (by omega) E_b.out).mono ?_
  rintro e w6 ⟨⟨v6_0, rfl, ⟨s6_0, a6_0, n6_0, c6_0, rfl, hi6_0⟩⟩, x6⟩
  have HV6_0 : Hid (IntV w6 (.agg #[.bool s6_0, .slice a6_0 n6_0 c6_0]) (b)) := Lib.hid ⟨_, _, _, _, rfl, hi6_0⟩
  clear hi6_0
  obtain ⟨D8, wb8, hD8, hw8, hb8_0, xb8⟩ := one w6 24 [.bool s6_0, .slice a6_0 n6_0 c6_0]
  have KB9 : Hid (∀ W, Ext wb8 W → W.cell? ⟨D8, 0, none⟩ = some (.bool s6_0) ∧ W.cell? ⟨D8, 1, none⟩ = some (.slice a6_0 n6_0 c6_0)) := Lib.hid fun W h => ⟨h.cell (hb8_0.cell (i := 0) rfl), h.cell (hb8_0.cell (i := 1) rfl)⟩
  clear hb8_0
  obtain ⟨cc5_0_11, cc5_1_11, cc5_2_11⟩ := KB5.out wb8 ((((xs.trans x2).trans xb4).trans x6).trans xb8)
  obtain ⟨cc8_0_12, cc8_1_12⟩ := KB8.out wb8 (x6.trans xb8)
  have hq8 := hw8.symm
  have hp8 := hD8.symm
  clear hw8 hD8
  go_wp2_with fail
  clear hq8 hp8
  clear cc5_0_11 cc5_1_11 cc5_2_11 cc8_0_12 cc8_1_12
  refine (Pow_any _ a m 4 _ (HV2_0.out.ext ((xb4.trans x6).trans xb8)) HF1.out (by omega) (by omega)).mono ?_
  rintro e w10 ⟨⟨v10_0, rfl, ⟨s10_0, a10_0, n10_0, c10_0, rfl, hi10_0⟩⟩, x10⟩
  have HV10_0 : Hid (IntV w10 (.agg #[.bool s10_0, .slice a10_0 n10_0 c10_0]) (a ^ m)) := Lib.hid ⟨_, _, _, _, rfl, hi10_0⟩
  clear hi10_0
  obtain ⟨D13, wb13, hD13, hw13, hb13_0, xb13⟩ := one w10 24 [.bool s10_0, .slice a10_0 n10_0 c10_0]
  have KB13 : Hid (∀ W, Ext wb13 W → W.cell? ⟨D13, 0, none⟩ = some (.bool s10_0) ∧ W.cell? ⟨D13, 1, none⟩ = some (.slice a10_0 n10_0 c10_0)) := Lib.hid fun W h => ⟨h.cell (hb13_0.cell (i := 0) rfl), h.cell (hb13_0.cell (i := 1) rfl)⟩
  clear hb13_0
  obtain ⟨cc8_0_16, cc8_1_16⟩ := KB8.out wb13 (((x6.trans xb8).trans x10).trans xb13)
  have hq13 := hw13.symm
  have hp13 := hD13.symm
  clear hw13 hD13
  go_wp2_with fail
  clear hq13 hp13
  clear cc8_0_16 cc8_1_16
  refine (Pow_any _ a l 4 _ (HV2_0.out.ext ((((xb4.trans x6).trans xb8).trans x10).trans xb13)) HF1.out (by omega) (by omega)).mono ?_
  rintro e w15 ⟨⟨v15_0, rfl, ⟨s15_0, a15_0, n15_0, c15_0, rfl, hi15_0⟩⟩, x15⟩
  have HV15_0 : Hid (IntV w15 (.agg #[.bool s15_0, .slice a15_0 n15_0 c15_0]) (a ^ l)) := Lib.hid ⟨_, _, _, _, rfl, hi15_0⟩
  clear hi15_0
  obtain ⟨D17, wb17, hD17, hw17, hb17_0, xb17⟩ := one w15 24 [.bool s15_0, .slice a15_0 n15_0 c15_0]
  have KB15 : Hid (∀ W, Ext wb17 W → W.cell? ⟨D17, 0, none⟩ = some (.bool s15_0) ∧ W.cell? ⟨D17, 1, none⟩ = some (.slice a15_0 n15_0 c15_0)) := Lib.hid fun W h => ⟨h.cell (hb17_0.cell (i := 0) rfl), h.cell (hb17_0.cell (i := 1) rfl)⟩
  clear hb17_0
  obtain ⟨cc8_0_20, cc8_1_20⟩ := KB8.out wb17 (((((x6.trans xb8).trans x10).trans xb13).trans x15).trans xb17)
  have hq17 := hw17.symm
  have hp17 := hD17.symm
  clear hw17 hD17
  go_wp2_with fail
  clear hq17 hp17
  clear cc8_0_20 cc8_1_20
  refine (Pow_any _ a ml 4 _ (HV2_0.out.ext ((((((xb4.trans x6).trans xb8).trans x10).trans xb13).trans x15).trans xb17)) HF1.out (by omega) (by omega)).mono ?_
  rintro e w19 ⟨⟨v19_0, rfl, ⟨s19_0, a19_0, n19_0, c19_0, rfl, hi19_0⟩⟩, x19⟩
  have HV19_0 : Hid (IntV w19 (.agg #[.bool s19_0, .slice a19_0 n19_0 c19_0]) (a ^ ml)) := Lib.hid ⟨_, _, _, _, rfl, hi19_0⟩
  clear hi19_0
  obtain ⟨D21, wb21, hD21, hw21, hb21_0, xb21⟩ := one w19 24 [.bool s19_0, .slice a19_0 n19_0 c19_0]
  have KB17 : Hid (∀ W, Ext wb21 W → W.cell? ⟨D21, 0, none⟩ = some (.bool s19_0) ∧ W.cell? ⟨D21, 1, none⟩ = some (.slice a19_0 n19_0 c19_0)) := Lib.hid fun W h => ⟨h.cell (hb21_0.cell (i := 0) rfl), h.cell (hb21_0.cell (i := 1) rfl)⟩
  clear hb21_0
  obtain ⟨cc9_0_24, cc9_1_24⟩ := KB9.out wb21 (((((x10.trans xb13).trans x15).trans xb17).trans x19).trans xb21)
  have hq21 := hw21.symm
  have hp21 := hD21.symm
  clear hw21 hD21
  go_wp2_with fail
  clear hq21 hp21
  clear cc9_0_24 cc9_1_24
  refine (Pow_any _ b m 4 _ (HV6_0.out.ext ((((((xb8.trans x10).trans xb13).trans x15).trans xb17).trans x19).trans xb21)) HF5.out (by omega) (by omega)).mono ?_
  rintro e w23 ⟨⟨v23_0, rfl, ⟨s23_0, a23_0, n23_0, c23_0, rfl, hi23_0⟩⟩, x23⟩
  have HV23_0 : Hid (IntV w23 (.agg #[.bool s23_0, .slice a23_0 n23_0 c23_0]) (b ^ m)) := Lib.hid ⟨_, _, _, _, rfl, hi23_0⟩
  clear hi23_0
  obtain ⟨D25, wb25, hD25, hw25, hb25_0, xb25⟩ := one w23 24 [.bool s23_0, .slice a23_0 n23_0 c23_0]
  have KB19 : Hid (∀ W, Ext wb25 W → W.cell? ⟨D25, 0, none⟩ = some (.bool s23_0) ∧ W.cell? ⟨D25, 1, none⟩ = some (.slice a23_0 n23_0 c23_0)) := Lib.hid fun W h => ⟨h.cell (hb25_0.cell (i := 0) rfl), h.cell (hb25_0.cell (i := 1) rfl)⟩
  clear hb25_0
  obtain ⟨cc8_0_28, cc8_1_28⟩ := KB8.out wb25 (((((((((x6.trans xb8).trans x10).trans xb13).trans x15).trans xb17).trans x19).trans xb21).trans x23).trans xb25)
  obtain ⟨cc9_0_29, cc9_1_29⟩ := KB9.out wb25 (((((((x10.trans xb13).trans x15).trans xb17).trans x19).trans xb21).trans x23).trans xb25)
  have hq25 := hw25.symm
  have hp25 := hD25.symm
  clear hw25 hD25
  go_wp2_with fail
  clear hq25 hp25
  clear cc8_0_28 cc8_1_28 cc9_0_29 cc9_1_29
  refine (mul_any _ _ (a) (b) _ (HV2_0.out.ext ((((((((((xb4.trans x6).trans xb8).trans x10).trans xb13).trans x15).trans xb17).trans x19).trans xb21).trans x23).trans xb25)) (HV6_0.out.ext ((((((((xb8.trans x10).trans xb13).trans x15).trans xb17).trans x19).trans xb21).trans x23).trans xb25)) (HF1.out.mono (by omega)) (HF5.out.mono (by omega))).mono ?_
  rintro e w27 ⟨⟨v27_0, rfl, hv27_0⟩, x27⟩
  have HV27_0 := Lib.hid hv27_0
  clear hv27_0
  go_wp2_with fail
  refine (Pow_any _ (a * b) m 8 _ HV27_0.out HF26.out (by omega) (by omega)).mono ?_
  rintro e w31 ⟨⟨v31_0, rfl, ⟨s31_0, a31_0, n31_0, c31_0, rfl, hi31_0⟩⟩, x31⟩
  have HV31_0 : Hid (IntV w31 (.agg #[.bool s31_0, .slice a31_0 n31_0 c31_0]) ((a * b) ^ m)) := Lib.hid ⟨_, _, _, _, rfl, hi31_0⟩
  clear hi31_0
  obtain ⟨D32, wb32, hD32, hw32, hb32_0, xb32⟩ := one w31 24 [.bool s31_0, .slice a31_0 n31_0 c31_0]
  have KB21 : Hid (∀ W, Ext wb32 W → W.cell? ⟨D32, 0, none⟩ = some (.bool s31_0) ∧ W.cell? ⟨D32, 1, none⟩ = some (.slice a31_0 n31_0 c31_0)) := Lib.hid fun W h => ⟨h.cell (hb32_0.cell (i := 0) rfl), h.cell (hb32_0.cell (i := 1) rfl)⟩
  clear hb32_0
  have KX33 : Hid (∀ w', Ext wb32 w' → w'.cell? ⟨D13, 0, none⟩ = some (.bool s10_0) ∧ w'.cell? ⟨D13, 1, none⟩ = some (.slice a10_0 n10_0 c10_0) ∧ w'.cell? ⟨D17, 0, none⟩ = some (.bool s15_0) ∧ w'.cell? ⟨D17, 1, none⟩ = some (.slice a15_0 n15_0 c15_0) ∧ w'.cell? ⟨D21, 0, none⟩ = some (.bool s19_0) ∧ w'.cell? ⟨D21, 1, none⟩ = some (.slice a19_0 n19_0 c19_0) ∧ w'.cell? ⟨D25, 0, none⟩ = some (.bool s23_0) ∧ w'.cell? ⟨D25, 1, none⟩ = some (.slice a23_0 n23_0 c23_0) ∧ w'.cell? ⟨D32, 0, none⟩ = some (.bool s31_0) ∧ w'.cell? ⟨D32, 1, none⟩ = some (.slice a31_0 n31_0 c31_0)) := Lib.hid fun w' h => by
    have q13 := KB13.out w' (((((((((x15.trans xb17).trans x19).trans xb21).trans x23).trans xb25).trans x27).trans x31).trans xb32).trans h)
    have q15 := KB15.out w' (((((((x19.trans xb21).trans x23).trans xb25).trans x27).trans x31).trans xb32).trans h)
    have q17 := KB17.out w' (((((x23.trans xb25).trans x27).trans x31).trans xb32).trans h)
    have q19 := KB19.out w' (((x27.trans x31).trans xb32).trans h)
    have q21 := KB21.out w' ((Ext.refl _).trans h)
    exact ⟨q13.1, q13.2, q15.1, q15.2, q17.1, q17.2, q19.1, q19.2, q21.1, q21.2⟩
  have hq32 := hw32.symm
  have hp32 := hD32.symm
  clear hw32 hD32
  go_wp2_with fail
  clear hq32 hp32
  have hz33 := Below.drewExt wb32
  go_region_held3
    (fun w' => w'.cell? ⟨D13, 0, none⟩ = some (.bool s10_0) ∧ w'.cell? ⟨D13, 1, none⟩ = some (.slice a10_0 n10_0 c10_0) ∧ w'.cell? ⟨D17, 0, none⟩ = some (.bool s15_0) ∧ w'.cell? ⟨D17, 1, none⟩ = some (.slice a15_0 n15_0 c15_0) ∧ w'.cell? ⟨D21, 0, none⟩ = some (.bool s19_0) ∧ w'.cell? ⟨D21, 1, none⟩ = some (.slice a19_0 n19_0 c19_0) ∧ w'.cell? ⟨D25, 0, none⟩ = some (.bool s23_0) ∧ w'.cell? ⟨D25, 1, none⟩ = some (.slice a23_0 n23_0 c23_0) ∧ w'.cell? ⟨D32, 0, none⟩ = some (.bool s31_0) ∧ w'.cell? ⟨D32, 1, none⟩ = some (.slice a31_0 n31_0 c31_0))
    (with_reducible exact KX33.out _ (by assumption))
    (first
    | (go_at_call 18; (with_reducible refine (mul_any _ _ (a ^ m) (a ^ l) _ (HV10_0.out.ext ((((((((((xb13.trans x15).trans xb17).trans x19).trans xb21).trans x23).trans xb25).trans x27).trans x31).trans xb32).trans hz33)) (HV15_0.out.ext ((((((((xb17.trans x19).trans xb21).trans x23).trans xb25).trans x27).trans x31).trans xb32).trans hz33)) (HF9.out.mono (by omega)) (HF14.out.mono (by omega))).mono ?_); rintro e w35 ⟨⟨v35_0, rfl, hv35_0⟩, x35⟩; have hz35 := hz33.trans x35)
    | (go_at_call 21; (with_reducible refine (same_eq _ _ ((a ^ m) * (a ^ l)) (a ^ ml) _ hv35_0 (HV19_0.out.ext (((((((xb21.trans x23).trans xb25).trans x27).trans x31).trans xb32).trans hz33).trans x35)) HE36.out).mono ?_); rintro e w37 ⟨rfl, x37⟩; have hz37 := hz35.trans x37)
    | (go_at_call 18; (with_reducible refine (mul_any _ _ (a ^ m) (b ^ m) _ (HV10_0.out.ext ((((((((((((xb13.trans x15).trans xb17).trans x19).trans xb21).trans x23).trans xb25).trans x27).trans x31).trans xb32).trans hz33).trans x35).trans x37)) (HV23_0.out.ext ((((((xb25.trans x27).trans x31).trans xb32).trans hz33).trans x35).trans x37)) (HF9.out.mono (by omega)) (HF22.out.mono (by omega))).mono ?_); rintro e w39 ⟨⟨v39_0, rfl, hv39_0⟩, x39⟩; have hz39 := hz37.trans x39)
    | (go_at_call 21; (with_reducible refine (same_eq _ _ ((a ^ m) * (b ^ m)) ((a * b) ^ m) _ hv39_0 (HV31_0.out.ext ((((xb32.trans hz33).trans x35).trans x37).trans x39)) HE40.out).mono ?_); rintro e w41 ⟨rfl, x41⟩; have hz41 := hz39.trans x41)
    )
  clear KX33
  obtain ⟨cc8_0_43, cc8_1_43⟩ := KB8.out w41 (((((((((((((((((x6.trans xb8).trans x10).trans xb13).trans x15).trans xb17).trans x19).trans xb21).trans x23).trans xb25).trans x27).trans x31).trans xb32).trans hz33).trans x35).trans x37).trans x39).trans x41)
  go_wp2_with fail
  clear cc8_0_43 cc8_1_43
  refine (Root_err _ a (k : Int) _ (HV2_0.out.ext ((((((((((((((((((xb4.trans x6).trans xb8).trans x10).trans xb13).trans x15).trans xb17).trans x19).trans xb21).trans x23).trans xb25).trans x27).trans x31).trans xb32).trans hz33).trans x35).trans x37).trans x39).trans x41)) (Or.inl HA0.out)).mono ?_
  rintro e w42 ⟨rfl, x42⟩
  obtain ⟨D44, wb44, hD44, hw44, hb44_0, xb44⟩ := one w42 24 [.bool false, .slice none 0 0]
  have KB23 : Hid (∀ W, Ext wb44 W → W.cell? ⟨D44, 0, none⟩ = some (.bool false) ∧ W.cell? ⟨D44, 1, none⟩ = some (.slice none 0 0)) := Lib.hid fun W h => ⟨h.cell (hb44_0.cell (i := 0) rfl), h.cell (hb44_0.cell (i := 1) rfl)⟩
  have ze44_00 := setCell_same hb44_0 (i := 0) rfl
  have zf44_00 := hb44_0.free 0
  have ze44_01 := setCell_same hb44_0 (i := 1) rfl
  have zf44_01 := hb44_0.free 1
  clear hb44_0
  obtain ⟨cc8_0_45, cc8_1_45⟩ := KB8.out wb44 (((((((((((((((((((x6.trans xb8).trans x10).trans xb13).trans x15).trans xb17).trans x19).trans xb21).trans x23).trans xb25).trans x27).trans x31).trans xb32).trans hz33).trans x35).trans x37).trans x39).trans x41).trans x42).trans xb44)
  obtain ⟨cc23_0_46, cc23_1_46⟩ := KB23.out wb44 (Ext.refl _)
  have hq44 := hw44.symm
  have hp44 := hD44.symm
  clear hw44 hD44
  go_wp2_with fail
  clear hq44 hp44
  clear ze44_00 zf44_00 ze44_01 zf44_01 cc8_0_45 cc8_1_45 cc23_0_46 cc23_1_46
  go_ret
  exact ⟨rfl, (((((((((((((((((((((((x0.trans xs).trans x2).trans xb4).trans x6).trans xb8).trans x10).trans xb13).trans x15).trans xb17).trans x19).trans xb21).trans x23).trans xb25).trans x27).trans x31).trans xb32).trans hz33).trans x35).trans x37).trans x39).trans x41).trans x42).trans xb44)⟩
set_option maxRecDepth 100000 in
set_option maxHeartbeats 8000000 in
theorem powers_pos (nx : Bool) (ax : Option Addr) (kx cx : Nat) (lx : List Int) (a : Int) (ea : a = rawZ nx lx 4) (ny : Bool) (ay : Option Addr) (ky cy : Nat) (ly : List Int) (b : Int) (eb : b = rawZ ny ly 4) (w : World) (hx : Words w ax kx cx lx) (hy : Words w ay ky cy ly) (v0 v1 v2 : Int) (m l k ml kk : Nat) (p0 : 0 ≤ v0) (p1 : v0 < 256) (q0 : 0 ≤ v1) (q1 : v1 < 256) (r0 : 0 ≤ v2) (r1 : v2 < 256) (hm : v0 % 20 = (m : Int)) (hl : v1 % 20 = (l : Int)) (hkk : v2 % 20 = (kk : Int)) (hml : (m : Int) + (l : Int) = (ml : Int)) (hk : 1 + (kk : Int) = (k : Int)) (ha0 : 0 ≤ a) :
    Calls Tryz.prog 7 #[.agg #[.bool nx, .slice ax kx cx], .agg #[.bool ny, .slice ay ky cy], .agg #[.int .u8 v0, .int .u8 v1, .int .u8 v2]] w fun e w' => e = .returned (.bool true) ∧ Ext w w' := by
  have E_a := Lib.hid ea
  have HWx := Lib.hid hx
  clear ea hx
  have E_b := Lib.hid eb
  have HWy := Lib.hid hy
  clear eb hy
  have HA0 := Lib.hid ha0
  clear ha0
  have b_m : m ≤ 19 := by omega
  have b_l : l ≤ 19 := by omega
  have b_kk : kk ≤ 19 := by omega
  have b_k : k ≤ 20 := by omega
  have b_k1 : 1 ≤ k := by omega
  have b_ml : ml ≤ 38 := by omega
  have HML : Hid (m + l = ml) := Lib.hid (by omega)
  obtain ⟨B0, w0, hB0, hw0, hr0, hr1, hr2, x0⟩ := three w 25 25 41 [.bool nx, .slice ax kx cx] [.bool ny, .slice ay ky cy] [.int .u8 v0, .int .u8 v1, .int .u8 v2]
  have HF1 : Hid (Fits (a) 4) := Lib.hid (by rw [E_a.out]; exact fits_raw (HWx.out.wf) (by omega))
  have HF5 : Hid (Fits (b) 4) := Lib.hid (by rw [E_b.out]; exact fits_raw (HWy.out.wf) (by omega))
  have HF9 : Hid (Fits (a ^ m) 80) := Lib.hid (Fits.mono (Fits.pow HF1.out m) (by omega))
  have HF14 : Hid (Fits (a ^ l) 80) := Lib.hid (Fits.mono (Fits.pow HF1.out l) (by omega))
  have HF18 : Hid (Fits (a ^ ml) 160) := Lib.hid (Fits.mono (Fits.pow HF1.out ml) (by omega))
  have HF22 : Hid (Fits (b ^ m) 80) := Lib.hid (Fits.mono (Fits.pow HF5.out m) (by omega))
  have HF26 : Hid (Fits (a * b) 8) := Lib.hid (Fits.mul HF1.out HF5.out)
  have HF30 : Hid (Fits ((a * b) ^ m) 160) := Lib.hid (Fits.mono (Fits.pow HF26.out m) (by omega))
  have HF34 : Hid (Fits ((a ^ m) * (a ^ l)) 160) := Lib.hid (Fits.mul HF9.out HF14.out)
  have HE36 : Hid ((a ^ m) * (a ^ l) = a ^ ml) := Lib.hid (by rw [← Int.pow_add, HML.out])
  have HF38 : Hid (Fits ((a ^ m) * (b ^ m)) 160) := Lib.hid (Fits.mul HF9.out HF22.out)
  have HE40 : Hid ((a ^ m) * (b ^ m) = (a * b) ^ m) := Lib.hid (by rw [Int.mul_pow])
  have KB3 : Hid (∀ W, Ext w0 W → W.cell? ⟨B0, 0, none⟩ = some (.bool nx) ∧ W.cell? ⟨B0, 1, none⟩ = some (.slice ax kx cx)) := Lib.hid fun W h => ⟨h.cell (hr0.cell (i := 0) rfl), h.cell (hr0.cell (i := 1) rfl)⟩
  have KB4 : Hid (∀ W, Ext w0 W → W.cell? ⟨B0 + 1, 0, none⟩ = some (.bool ny) ∧ W.cell? ⟨B0 + 1, 1, none⟩ = some (.slice ay ky cy)) := Lib.hid fun W h => ⟨h.cell (hr1.cell (i := 0) rfl), h.cell (hr1.cell (i := 1) rfl)⟩
  have KB5 : Hid (∀ W, Ext w0 W → W.cell? ⟨B0 + 1 + 1, 0, none⟩ = some (.int .u8 v0) ∧ W.cell? ⟨B0 + 1 + 1, 1, none⟩ = some (.int .u8 v1) ∧ W.cell? ⟨B0 + 1 + 1, 2, none⟩ = some (.int .u8 v2)) := Lib.hid fun W h => ⟨h.cell (hr2.cell (i := 0) rfl), h.cell (hr2.cell (i := 1) rfl), h.cell (hr2.cell (i := 2) rfl)⟩
  clear hr0 hr1 hr2
  go_enter Tryz.func7, Tryz.ntmps7
  go_wp2_with fail
  rw [← hw0, ← hB0]
  clear hw0 hB0
  refine (sanity_any _).mono ?_
  rintro e ws ⟨rfl, xs⟩
  obtain ⟨cc3_0_3, cc3_1_3⟩ := KB3.out ws xs
  go_wp2_with fail
  clear cc3_0_3 cc3_1_3
  refine (Made_any nx ax kx cx lx 4 a _ (HWx.out.ext (x0.trans xs)) (by omega) E_a.out).mono ?_
  rintro e w2 ⟨⟨v2_0, rfl, ⟨s2_0, a2_0, n2_0, c2_0, rfl, hi2_0⟩⟩, x2⟩
  obtain rfl : s2_0 = false := by rw [hi2_0.1]; simp; exact HA0.out
  have HV2_0 : Hid (IntV w2 (.agg #[.bool false, .slice a2_0 n2_0 c2_0]) (a)) := Lib.hid ⟨_, _, _, _, rfl, hi2_0⟩
  clear hi2_0
  obtain ⟨D4, wb4, hD4, hw4, hb4_0, xb4⟩ := one w2 24 [.bool false, .slice a2_0 n2_0 c2_0]
  have KB8 : Hid (∀ W, Ext wb4 W → W.cell? ⟨D4, 0, none⟩ = some (.bool false) ∧ W.cell? ⟨D4, 1, none⟩ = some (.slice a2_0 n2_0 c2_0)) := Lib.hid fun W h => ⟨h.cell (hb4_0.cell (i := 0) rfl), h.cell (hb4_0.cell (i := 1) rfl)⟩
  clear hb4_0
  obtain ⟨cc4_0_7, cc4_1_7⟩ := KB4.out wb4 ((xs.trans x2).trans xb4)
  have hq4 := hw4.symm
  have hp4 := hD4.symm
  clear hw4 hD4
  go_wp2_with fail
  clear hq4 hp4
  clear cc4_0_7 cc4_1_7
  refine (Made_any ny ay ky cy ly 4 b _ (HWy.out.ext (((x0.trans xs).trans x2).trans xb4)) (by omega) E_b.out).mono ?_
  rintro e w6 ⟨⟨v6_0, rfl, ⟨s6_0, a6_0, n6_0, c6_0, rfl, hi6_0⟩⟩, x6⟩
  have HV6_0 : Hid (IntV w6 (.agg #[.bool s6_0, .slice a6_0 n6_0 c6_0]) (b)) := Lib.hid ⟨_, _, _, _, rfl, hi6_0⟩
  clear hi6_0
  obtain ⟨D8, wb8, hD8, hw8, hb8_0, xb8⟩ := one w6 24 [.bool s6_0, .slice a6_0 n6_0 c6_0]
  have KB9 : Hid (∀ W, Ext wb8 W → W.cell? ⟨D8, 0, none⟩ = some (.bool s6_0) ∧ W.cell? ⟨D8, 1, none⟩ = some (.slice a6_0 n6_0 c6_0)) := Lib.hid fun W h => ⟨h.cell (hb8_0.cell (i := 0) rfl), h.cell (hb8_0.cell (i := 1) rfl)⟩
  clear hb8_0
  obtain ⟨cc5_0_11, cc5_1_11, cc5_2_11⟩ := KB5.out wb8 ((((xs.trans x2).trans xb4).trans x6).trans xb8)
  obtain ⟨cc8_0_12, cc8_1_12⟩ := KB8.out wb8 (x6.trans xb8)
  have hq8 := hw8.symm
  have hp8 := hD8.symm
  clear hw8 hD8
  go_wp2_with fail
  clear hq8 hp8
  clear cc5_0_11 cc5_1_11 cc5_2_11 cc8_0_12 cc8_1_12
  refine (Pow_any _ a m 4 _ (HV2_0.out.ext ((xb4.trans x6).trans xb8)) HF1.out (by omega) (by omega)).mono ?_
  rintro e w10 ⟨⟨v10_0, rfl, ⟨s10_0, a10_0, n10_0, c10_0, rfl, hi10_0⟩⟩, x10⟩
  have HV10_0 : Hid (IntV w10 (.agg #[.bool s10_0, .slice a10_0 n10_0 c10_0]) (a ^ m)) := Lib.hid ⟨_, _, _, _, rfl, hi10_0⟩
  clear hi10_0
  obtain ⟨D13, wb13, hD13, hw13, hb13_0, xb13⟩ := one w10 24 [.bool s10_0, .slice a10_0 n10_0 c10_0]
  have KB13 : Hid (∀ W, Ext wb13 W → W.cell? ⟨D13, 0, none⟩ = some (.bool s10_0) ∧ W.cell? ⟨D13, 1, none⟩ = some (.slice a10_0 n10_0 c10_0)) := Lib.hid fun W h => ⟨h.cell (hb13_0.cell (i := 0) rfl), h.cell (hb13_0.cell (i := 1) rfl)⟩
  clear hb13_0
  obtain ⟨cc8_0_16, cc8_1_16⟩ := KB8.out wb13 (((x6.trans xb8).trans x10).trans xb13)
  have hq13 := hw13.symm
  have hp13 := hD13.symm
  clear hw13 hD13
  go_wp2_with fail
  clear hq13 hp13
  clear cc8_0_16 cc8_1_16
  refine (Pow_any _ a l 4 _ (HV2_0.out.ext ((((xb4.trans x6).trans xb8).trans x10).trans xb13)) HF1.out (by omega) (by omega)).mono ?_
  rintro e w15 ⟨⟨v15_0, rfl, ⟨s15_0, a15_0, n15_0, c15_0, rfl, hi15_0⟩⟩, x15⟩
  have HV15_0 : Hid (IntV w15 (.agg #[.bool s15_0, .slice a15_0 n15_0 c15_0]) (a ^ l)) := Lib.hid ⟨_, _, _, _, rfl, hi15_0⟩
  clear hi15_0
  obtain ⟨D17, wb17, hD17, hw17, hb17_0, xb17⟩ := one w15 24 [.bool s15_0, .slice a15_0 n15_0 c15_0]
  have KB15 : Hid (∀ W, Ext wb17 W → W.cell? ⟨D17, 0, none⟩ = some (.bool s15_0) ∧ W.cell? ⟨D17, 1, none⟩ = some (.slice a15_0 n15_0 c15_0)) := Lib.hid fun W h => ⟨h.cell (hb17_0.cell (i := 0) rfl), h.cell (hb17_0.cell (i := 1) rfl)⟩
  clear hb17_0
  obtain ⟨cc8_0_20, cc8_1_20⟩ := KB8.out wb17 (((((x6.trans xb8).trans x10).trans xb13).trans x15).trans xb17)
  have hq17 := hw17.symm
  have hp17 := hD17.symm
  clear hw17 hD17
  go_wp2_with fail
  clear hq17 hp17
  clear cc8_0_20 cc8_1_20
  refine (Pow_any _ a ml 4 _ (HV2_0.out.ext ((((((xb4.trans x6).trans xb8).trans x10).trans xb13).trans x15).trans xb17)) HF1.out (by omega) (by omega)).mono ?_
  rintro e w19 ⟨⟨v19_0, rfl, ⟨s19_0, a19_0, n19_0, c19_0, rfl, hi19_0⟩⟩, x19⟩
  have HV19_0 : Hid (IntV w19 (.agg #[.bool s19_0, .slice a19_0 n19_0 c19_0]) (a ^ ml)) := Lib.hid ⟨_, _, _, _, rfl, hi19_0⟩
  clear hi19_0
  obtain ⟨D21, wb21, hD21, hw21, hb21_0, xb21⟩ := one w19 24 [.bool s19_0, .slice a19_0 n19_0 c19_0]
  have KB17 : Hid (∀ W, Ext wb21 W → W.cell? ⟨D21, 0, none⟩ = some (.bool s19_0) ∧ W.cell? ⟨D21, 1, none⟩ = some (.slice a19_0 n19_0 c19_0)) := Lib.hid fun W h => ⟨h.cell (hb21_0.cell (i := 0) rfl), h.cell (hb21_0.cell (i := 1) rfl)⟩
  clear hb21_0
  obtain ⟨cc9_0_24, cc9_1_24⟩ := KB9.out wb21 (((((x10.trans xb13).trans x15).trans xb17).trans x19).trans xb21)
  have hq21 := hw21.symm
  have hp21 := hD21.symm
  clear hw21 hD21
  go_wp2_with fail
  clear hq21 hp21
  clear cc9_0_24 cc9_1_24
  refine (Pow_any _ b m 4 _ (HV6_0.out.ext ((((((xb8.trans x10).trans xb13).trans x15).trans xb17).trans x19).trans xb21)) HF5.out (by omega) (by omega)).mono ?_
  rintro e w23 ⟨⟨v23_0, rfl, ⟨s23_0, a23_0, n23_0, c23_0, rfl, hi23_0⟩⟩, x23⟩
  have HV23_0 : Hid (IntV w23 (.agg #[.bool s23_0, .slice a23_0 n23_0 c23_0]) (b ^ m)) := Lib.hid ⟨_, _, _, _, rfl, hi23_0⟩
  clear hi23_0
  obtain ⟨D25, wb25, hD25, hw25, hb25_0, xb25⟩ := one w23 24 [.bool s23_0, .slice a23_0 n23_0 c23_0]
  have KB19 : Hid (∀ W, Ext wb25 W → W.cell? ⟨D25, 0, none⟩ = some (.bool s23_0) ∧ W.cell? ⟨D25, 1, none⟩ = some (.slice a23_0 n23_0 c23_0)) := Lib.hid fun W h => ⟨h.cell (hb25_0.cell (i := 0) rfl), h.cell (hb25_0.cell (i := 1) rfl)⟩
  clear hb25_0
  obtain ⟨cc8_0_28, cc8_1_28⟩ := KB8.out wb25 (((((((((x6.trans xb8).trans x10).trans xb13).trans x15).trans xb17).trans x19).trans xb21).trans x23).trans xb25)
  obtain ⟨cc9_0_29, cc9_1_29⟩ := KB9.out wb25 (((((((x10.trans xb13).trans x15).trans xb17).trans x19).trans xb21).trans x23).trans xb25)
  have hq25 := hw25.symm
  have hp25 := hD25.symm
  clear hw25 hD25
  go_wp2_with fail
  clear hq25 hp25
  clear cc8_0_28 cc8_1_28 cc9_0_29 cc9_1_29
  refine (mul_any _ _ (a) (b) _ (HV2_0.out.ext ((((((((((xb4.trans x6).trans xb8).trans x10).trans xb13).trans x15).trans xb17).trans x19).trans xb21).trans x23).trans xb25)) (HV6_0.out.ext ((((((((xb8.trans x10).trans xb13).trans x15).trans xb17).trans x19).trans xb21).trans x23).trans xb25)) (HF1.out.mono (by omega)) (HF5.out.mono (by omega))).mono ?_
  rintro e w27 ⟨⟨v27_0, rfl, hv27_0⟩, x27⟩
  have HV27_0 := Lib.hid hv27_0
  clear hv27_0
  go_wp2_with fail
  refine (Pow_any _ (a * b) m 8 _ HV27_0.out HF26.out (by omega) (by omega)).mono ?_
  rintro e w31 ⟨⟨v31_0, rfl, ⟨s31_0, a31_0, n31_0, c31_0, rfl, hi31_0⟩⟩, x31⟩
  have HV31_0 : Hid (IntV w31 (.agg #[.bool s31_0, .slice a31_0 n31_0 c31_0]) ((a * b) ^ m)) := Lib.hid ⟨_, _, _, _, rfl, hi31_0⟩
  clear hi31_0
  obtain ⟨D32, wb32, hD32, hw32, hb32_0, xb32⟩ := one w31 24 [.bool s31_0, .slice a31_0 n31_0 c31_0]
  have KB21 : Hid (∀ W, Ext wb32 W → W.cell? ⟨D32, 0, none⟩ = some (.bool s31_0) ∧ W.cell? ⟨D32, 1, none⟩ = some (.slice a31_0 n31_0 c31_0)) := Lib.hid fun W h => ⟨h.cell (hb32_0.cell (i := 0) rfl), h.cell (hb32_0.cell (i := 1) rfl)⟩
  clear hb32_0
  have KX33 : Hid (∀ w', Ext wb32 w' → w'.cell? ⟨D13, 0, none⟩ = some (.bool s10_0) ∧ w'.cell? ⟨D13, 1, none⟩ = some (.slice a10_0 n10_0 c10_0) ∧ w'.cell? ⟨D17, 0, none⟩ = some (.bool s15_0) ∧ w'.cell? ⟨D17, 1, none⟩ = some (.slice a15_0 n15_0 c15_0) ∧ w'.cell? ⟨D21, 0, none⟩ = some (.bool s19_0) ∧ w'.cell? ⟨D21, 1, none⟩ = some (.slice a19_0 n19_0 c19_0) ∧ w'.cell? ⟨D25, 0, none⟩ = some (.bool s23_0) ∧ w'.cell? ⟨D25, 1, none⟩ = some (.slice a23_0 n23_0 c23_0) ∧ w'.cell? ⟨D32, 0, none⟩ = some (.bool s31_0) ∧ w'.cell? ⟨D32, 1, none⟩ = some (.slice a31_0 n31_0 c31_0)) := Lib.hid fun w' h => by
    have q13 := KB13.out w' (((((((((x15.trans xb17).trans x19).trans xb21).trans x23).trans xb25).trans x27).trans x31).trans xb32).trans h)
    have q15 := KB15.out w' (((((((x19.trans xb21).trans x23).trans xb25).trans x27).trans x31).trans xb32).trans h)
    have q17 := KB17.out w' (((((x23.trans xb25).trans x27).trans x31).trans xb32).trans h)
    have q19 := KB19.out w' (((x27.trans x31).trans xb32).trans h)
    have q21 := KB21.out w' ((Ext.refl _).trans h)
    exact ⟨q13.1, q13.2, q15.1, q15.2, q17.1, q17.2, q19.1, q19.2, q21.1, q21.2⟩
  have hq32 := hw32.symm
  have hp32 := hD32.symm
  clear hw32 hD32
  go_wp2_with fail
  clear hq32 hp32
  have hz33 := Below.drewExt wb32
  go_region_held3
    (fun w' => w'.cell? ⟨D13, 0, none⟩ = some (.bool s10_0) ∧ w'.cell? ⟨D13, 1, none⟩ = some (.slice a10_0 n10_0 c10_0) ∧ w'.cell? ⟨D17, 0, none⟩ = some (.bool s15_0) ∧ w'.cell? ⟨D17, 1, none⟩ = some (.slice a15_0 n15_0 c15_0) ∧ w'.cell? ⟨D21, 0, none⟩ = some (.bool s19_0) ∧ w'.cell? ⟨D21, 1, none⟩ = some (.slice a19_0 n19_0 c19_0) ∧ w'.cell? ⟨D25, 0, none⟩ = some (.bool s23_0) ∧ w'.cell? ⟨D25, 1, none⟩ = some (.slice a23_0 n23_0 c23_0) ∧ w'.cell? ⟨D32, 0, none⟩ = some (.bool s31_0) ∧ w'.cell? ⟨D32, 1, none⟩ = some (.slice a31_0 n31_0 c31_0))
    (with_reducible exact KX33.out _ (by assumption))
    (first
    | (go_at_call 18; (with_reducible refine (mul_any _ _ (a ^ m) (a ^ l) _ (HV10_0.out.ext ((((((((((xb13.trans x15).trans xb17).trans x19).trans xb21).trans x23).trans xb25).trans x27).trans x31).trans xb32).trans hz33)) (HV15_0.out.ext ((((((((xb17.trans x19).trans xb21).trans x23).trans xb25).trans x27).trans x31).trans xb32).trans hz33)) (HF9.out.mono (by omega)) (HF14.out.mono (by omega))).mono ?_); rintro e w35 ⟨⟨v35_0, rfl, hv35_0⟩, x35⟩; have hz35 := hz33.trans x35)
    | (go_at_call 21; (with_reducible refine (same_eq _ _ ((a ^ m) * (a ^ l)) (a ^ ml) _ hv35_0 (HV19_0.out.ext (((((((xb21.trans x23).trans xb25).trans x27).trans x31).trans xb32).trans hz33).trans x35)) HE36.out).mono ?_); rintro e w37 ⟨rfl, x37⟩; have hz37 := hz35.trans x37)
    | (go_at_call 18; (with_reducible refine (mul_any _ _ (a ^ m) (b ^ m) _ (HV10_0.out.ext ((((((((((((xb13.trans x15).trans xb17).trans x19).trans xb21).trans x23).trans xb25).trans x27).trans x31).trans xb32).trans hz33).trans x35).trans x37)) (HV23_0.out.ext ((((((xb25.trans x27).trans x31).trans xb32).trans hz33).trans x35).trans x37)) (HF9.out.mono (by omega)) (HF22.out.mono (by omega))).mono ?_); rintro e w39 ⟨⟨v39_0, rfl, hv39_0⟩, x39⟩; have hz39 := hz37.trans x39)
    | (go_at_call 21; (with_reducible refine (same_eq _ _ ((a ^ m) * (b ^ m)) ((a * b) ^ m) _ hv39_0 (HV31_0.out.ext ((((xb32.trans hz33).trans x35).trans x37).trans x39)) HE40.out).mono ?_); rintro e w41 ⟨rfl, x41⟩; have hz41 := hz39.trans x41)
    )
  clear KX33
  obtain ⟨cc8_0_42, cc8_1_42⟩ := KB8.out w41 (((((((((((((((((x6.trans xb8).trans x10).trans xb13).trans x15).trans xb17).trans x19).trans xb21).trans x23).trans xb25).trans x27).trans x31).trans xb32).trans hz33).trans x35).trans x37).trans x39).trans x41)
  go_wp2_with fail
  clear cc8_0_42 cc8_1_42
  refine (root_nn _ a k _ (HV2_0.out.ext ((((((((((((((((((xb4.trans x6).trans xb8).trans x10).trans xb13).trans x15).trans xb17).trans x19).trans xb21).trans x23).trans xb25).trans x27).trans x31).trans xb32).trans hz33).trans x35).trans x37).trans x39).trans x41)) (HF1.out.mono (by omega)) HA0.out b_k1 (by omega)).mono ?_
  rintro e w43 ⟨⟨ar, nr, cr, r, rfl, hr, hroot⟩, x43⟩
  have HVR : Hid (IntV w43 (.agg #[.bool false, .slice ar nr cr]) r) := Lib.hid ⟨_, _, _, _, rfl, hr⟩
  have HRT := Lib.hid hroot
  have HFR : Hid (Fits r 4) := Lib.hid (fits_le HF1.out (by have := root_le hroot b_k1; have := hroot.1; omega))
  clear hr hroot
  obtain ⟨D44, wb44, hD44, hw44, hb44_0, xb44⟩ := one w43 24 [.bool false, .slice ar nr cr]
  have KB23 : Hid (∀ W, Ext wb44 W → W.cell? ⟨D44, 0, none⟩ = some (.bool false) ∧ W.cell? ⟨D44, 1, none⟩ = some (.slice ar nr cr)) := Lib.hid fun W h => ⟨h.cell (hb44_0.cell (i := 0) rfl), h.cell (hb44_0.cell (i := 1) rfl)⟩
  clear hb44_0
  have HFL : Hid (Fits (r ^ k) 81) := Lib.hid (Fits.mono (Fits.pow HFR.out k) (by omega))
  obtain ⟨cc8_0_46, cc8_1_46⟩ := KB8.out wb44 (((((((((((((((((((x6.trans xb8).trans x10).trans xb13).trans x15).trans xb17).trans x19).trans xb21).trans x23).trans xb25).trans x27).trans x31).trans xb32).trans hz33).trans x35).trans x37).trans x39).trans x41).trans x43).trans xb44)
  obtain ⟨cc23_0_47, cc23_1_47⟩ := KB23.out wb44 (Ext.refl _)
  have hq44 := hw44.symm
  have hp44 := hD44.symm
  clear hw44 hD44
  go_wp2_with fail
  clear hq44 hp44
  clear cc8_0_46 cc8_1_46 cc23_0_47 cc23_1_47
  refine (Pow_any _ r k 4 _ (HVR.out.ext xb44) HFR.out (by omega) (by omega)).mono ?_
  rintro e w45 ⟨⟨v45_0, rfl, ⟨s45_0, a45_0, n45_0, c45_0, rfl, hi45_0⟩⟩, x45⟩
  have HV45_0 : Hid (IntV w45 (.agg #[.bool s45_0, .slice a45_0 n45_0 c45_0]) (r ^ k)) := Lib.hid ⟨_, _, _, _, rfl, hi45_0⟩
  clear hi45_0
  obtain ⟨D48, wb48, hD48, hw48, hb48_0, xb48⟩ := one w45 24 [.bool s45_0, .slice a45_0 n45_0 c45_0]
  have KB25 : Hid (∀ W, Ext wb48 W → W.cell? ⟨D48, 0, none⟩ = some (.bool s45_0) ∧ W.cell? ⟨D48, 1, none⟩ = some (.slice a45_0 n45_0 c45_0)) := Lib.hid fun W h => ⟨h.cell (hb48_0.cell (i := 0) rfl), h.cell (hb48_0.cell (i := 1) rfl)⟩
  clear hb48_0
  have HFR1 : Hid (Fits (r + 1) 5) := Lib.hid (HFR.out.add (fits_small (by decide) (by omega)))
  have HF1 : Hid (Fits 1 1) := Lib.hid (fits_small (by decide) (by omega))
  have HFH : Hid (Fits ((r + 1) ^ k) 101) := Lib.hid (Fits.mono (Fits.pow HFR1.out k) (by omega))
  have hq48 := hw48.symm
  have hp48 := hD48.symm
  clear hw48 hD48
  go_wp2_with fail
  clear hq48 hp48
  refine wp_region_facts [148, 149, 150, 151, 152, 147, 153, 154, 27, 28] (powers_posF wb48 ar nr cr k (1) (r + 1) ((r + 1) ^ k)) (by kernel_rfl) (by kernel_rfl) ?_ ?_ ?_
  · intro y
    exact ⟨(Ext.refl _).drew, by simp, by simp, by simp, by simp, by simp, by simp, by simp, by simp, by simp, by simp, by simp, by simp⟩
  · intro Q
    refine AllF.cons rfl ?_ ?_
    · skip
      with_reducible refine StepF.dst (d := 148) (by kernel_rfl) (by kernel_rfl) ?_
      intro L y w hi hp h K hK
      simp only [putAll, List.foldl, Act.put, List.setIfInBounds_toArray, List.set_cons_zero, List.set_cons_succ] at hK ⊢
      have HK := Lib.hid hK
      clear hK
      obtain ⟨cc0, cc1⟩ := KB23.out w ((x45.trans xb48).trans h.out.e)
      go_simp
      refine HK.out _ _ ?_
      have k := h.out
      exact ⟨k.e, fun _ => upd_eq, k.f1, k.f2, k.f3, k.f4, k.f5, k.f6, k.f7, k.f8, k.f9, k.c9, k.f10⟩
    refine AllF.cons rfl ?_ ?_
    · skip
      with_reducible refine StepF.dst (d := 149) (by kernel_rfl) (by kernel_rfl) ?_
      intro L y w hi hp h K hK
      simp only [putAll, List.foldl, Act.put, List.setIfInBounds_toArray, List.set_cons_zero, List.set_cons_succ] at hK ⊢
      have HK := Lib.hid hK
      clear hK
      go_simp
      refine (lof_any 1 _ (by omega) (by omega)).mono ?_
      rintro e w4 ⟨⟨v, rfl, hr⟩, he4⟩
      go_simp
      refine HK.out _ _ ?_
      have k := h.out.ext he4
      exact ⟨k.e, k.f0, fun _ => by rw [upd_eq]; exact hr, k.f2, k.f3, k.f4, k.f5, k.f6, k.f7, k.f8, k.f9, k.c9, k.f10⟩
    refine AllF.cons rfl ?_ ?_
    · skip
      with_reducible refine StepF.dst (d := 150) (by kernel_rfl) (by kernel_rfl) ?_
      intro L y w hi hp h K hK
      simp only [putAll, List.foldl, Act.put, List.setIfInBounds_toArray, List.set_cons_zero, List.set_cons_succ] at hK ⊢
      have HK := Lib.hid hK
      clear hK
      have g0 := h.out.f0 (hp.out 0 (by kernel_rfl))
      simp only [g0] at HK
      have g1 := h.out.f1 (hp.out 1 (by kernel_rfl))
      have G1 := Lib.hid g1
      clear g1
      go_simp
      refine (add_any _ _ r 1 _ ((HVR.out.ext ((xb44.trans x45).trans xb48)).ext h.out.e) G1.out (HFR.out.mono (by omega)) (HF1.out.mono (by omega))).mono ?_
      rintro e w4 ⟨⟨v, rfl, hr⟩, he4⟩
      clear g0
      go_simp
      refine HK.out _ _ ?_
      have k := h.out.ext he4
      exact ⟨k.e, k.f0, k.f1, fun _ => by rw [upd_eq]; exact hr, k.f3, k.f4, k.f5, k.f6, k.f7, k.f8, k.f9, k.c9, k.f10⟩
    refine AllF.cons rfl ?_ ?_
    · skip
      with_reducible refine StepF.dst (d := 151) (by kernel_rfl) (by kernel_rfl) ?_
      intro L y w hi hp h K hK
      simp only [putAll, List.foldl, Act.put, List.setIfInBounds_toArray, List.set_cons_zero, List.set_cons_succ] at hK ⊢
      have HK := Lib.hid hK
      clear hK
      go_simp
      refine HK.out _ _ ?_
      have k := h.out
      exact ⟨k.e, k.f0, k.f1, k.f2, fun _ => upd_eq, k.f4, k.f5, k.f6, k.f7, k.f8, k.f9, k.c9, k.f10⟩
    refine AllF.cons rfl ?_ ?_
    · skip
      with_reducible refine StepF.dst (d := 152) (by kernel_rfl) (by kernel_rfl) ?_
      intro L y w hi hp h K hK
      simp only [putAll, List.foldl, Act.put, List.setIfInBounds_toArray, List.set_cons_zero, List.set_cons_succ] at hK ⊢
      have HK := Lib.hid hK
      clear hK
      have g3 := h.out.f3 (hp.out 3 (by kernel_rfl))
      simp only [g3] at HK
      have g2 := h.out.f2 (hp.out 2 (by kernel_rfl))
      have G2 := Lib.hid g2
      clear g2
      go_simp
      refine (Pow_any _ (r + 1) k 5 _ G2.out HFR1.out (by omega) (by omega)).mono ?_
      rintro e w4 ⟨⟨v, rfl, hr⟩, he4⟩
      clear g3
      go_simp
      refine HK.out _ _ ?_
      have k := h.out.ext he4
      exact ⟨k.e, k.f0, k.f1, k.f2, k.f3, fun _ => by rw [upd_eq]; exact ⟨_, rfl, hr⟩, k.f5, k.f6, k.f7, k.f8, k.f9, k.c9, k.f10⟩
    refine AllF.cons rfl ?_ ?_
    · skip
      with_reducible refine StepF.dst (d := 147) (by kernel_rfl) (by kernel_rfl) ?_
      intro L y w hi hp h K hK
      simp only [putAll, List.foldl, Act.put, List.setIfInBounds_toArray, List.set_cons_zero, List.set_cons_succ] at hK ⊢
      have HK := Lib.hid hK
      clear hK
      obtain ⟨tu, g, hu⟩ := h.out.f4 (hp.out 4 (by kernel_rfl))
      have HU := Lib.hid hu
      clear hu
      simp only [g] at HK
      go_simp
      refine HK.out _ _ ?_
      have k := h.out
      exact ⟨k.e, k.f0, k.f1, k.f2, k.f3, k.f4, fun _ => by rw [upd_eq]; exact ⟨_, rfl, HU.out⟩, k.f6, k.f7, k.f8, k.f9, k.c9, k.f10⟩
    refine AllF.cons rfl ?_ ?_
    · skip
      with_reducible refine StepF.dst (d := 153) (by kernel_rfl) (by kernel_rfl) ?_
      intro L y w hi hp h K hK
      simp only [putAll, List.foldl, Act.put, List.setIfInBounds_toArray, List.set_cons_zero, List.set_cons_succ] at hK ⊢
      have HK := Lib.hid hK
      clear hK
      obtain ⟨tu, g, hu⟩ := h.out.f5 (hp.out 5 (by kernel_rfl))
      have HU := Lib.hid hu
      clear hu
      simp only [g] at HK
      go_simp
      refine HK.out _ _ ?_
      have k := h.out
      exact ⟨k.e, k.f0, k.f1, k.f2, k.f3, k.f4, k.f5, fun _ => by rw [upd_eq]; exact HU.out, k.f7, k.f8, k.f9, k.c9, k.f10⟩
    refine AllF.cons rfl ?_ ?_
    · skip
      with_reducible refine StepF.dst (d := 154) (by kernel_rfl) (by kernel_rfl) ?_
      intro L y w hi hp h K hK
      simp only [putAll, List.foldl, Act.put, List.setIfInBounds_toArray, List.set_cons_zero, List.set_cons_succ] at hK ⊢
      have HK := Lib.hid hK
      clear hK
      obtain ⟨tu, g, hu⟩ := h.out.f5 (hp.out 5 (by kernel_rfl))
      have HU := Lib.hid hu
      clear hu
      simp only [g] at HK
      go_simp
      refine HK.out _ _ ?_
      have k := h.out
      exact ⟨k.e, k.f0, k.f1, k.f2, k.f3, k.f4, k.f5, k.f6, fun _ => upd_eq, k.f8, k.f9, k.c9, k.f10⟩
    refine AllF.cons rfl ?_ ?_
    · skip
      with_reducible refine StepF.dst (d := 27) (by kernel_rfl) (by kernel_rfl) ?_
      intro L y w hi hp h K hK
      simp only [putAll, List.foldl, Act.put, List.setIfInBounds_toArray, List.set_cons_zero, List.set_cons_succ] at hK ⊢
      have HK := Lib.hid hK
      clear hK
      go_simp
      refine HK.out _ _ ?_
      have k := h.out.ext ((Ext.refl w).alloc (.cells #[.bool false, .slice none 0 0] 24))
      exact ⟨k.e, k.f0, k.f1, k.f2, k.f3, k.f4, k.f5, k.f6, k.f7, fun _ => by rw [upd_eq]; exact roomI_new h.out.e, fun q => absurd (h.out.c9 q) (by rw [hi.out]; simp), fun _ => rfl, k.f10⟩
    refine AllF.cons rfl ?_ ?_
    · skip
      with_reducible refine StepF.none ?_
      intro L y w hi hp h K hK
      simp only [putAll, List.foldl, Act.put, List.setIfInBounds_toArray, List.set_cons_zero, List.set_cons_succ] at hK ⊢
      have HK := Lib.hid hK
      clear hK
      obtain ⟨s8, a8, n8, c8, g8, h8⟩ := h.out.f6 (hp.out 6 (by kernel_rfl))
      have H8 := Lib.hid h8
      clear h8
      obtain ⟨P, s6, a6, n6, c6, g6, hb6, hm6⟩ := h.out.f8 (hp.out 8 (by kernel_rfl))
      simp only [g8, g6] at HK
      have HB6 := Lib.hid hb6
      have cc0 := hb6.cell (i := 0) rfl
      have cc1 := hb6.cell (i := 1) rfl
      have ff0 := hb6.free 0
      have ff1 := hb6.free 1
      clear hb6
      go_simp
      refine HK.out _ ?_
      have k := h.out
      have hs := stay_st2 HB6.out (.bool s8) (.slice a8 n8 c8)
      exact ⟨ext_st2 k.e hm6 _ _, k.f0, fun z => (k.f1 z).stay hs, fun z => (k.f2 z).stay hs, k.f3, fun z => (k.f4 z).stay hs, fun z => (k.f5 z).stay hs, fun z => (k.f6 z).stay hs, k.f7, fun _ => ⟨_, _, _, _, _, g6, Blk.st2 HB6.out _ _, hm6⟩, fun _ => ⟨_, _, _, _, _, g6, Blk.st2 HB6.out _ _, hm6, IntW.stay H8.out hs⟩, fun _ => hp.out 8 (by kernel_rfl), k.f10⟩
    refine AllF.cons rfl ?_ ?_
    · skip
      with_reducible refine StepF.dst (d := 28) (by kernel_rfl) (by kernel_rfl) ?_
      intro L y w hi hp h K hK
      simp only [putAll, List.foldl, Act.put, List.setIfInBounds_toArray, List.set_cons_zero, List.set_cons_succ] at hK ⊢
      have HK := Lib.hid hK
      clear hK
      have g7 := h.out.f7 (hp.out 7 (by kernel_rfl))
      simp only [g7] at HK
      go_simp
      refine HK.out _ _ ?_
      have k := h.out
      exact ⟨k.e, k.f0, k.f1, k.f2, k.f3, k.f4, k.f5, k.f6, k.f7, k.f8, k.f9, k.c9, fun _ => upd_eq⟩
    exact trivial
  · intro L y wE49 hL h
    have xE49 := h.e
    obtain ⟨U49_9, s49_9, a49_9, n49_9, c49_9, ey49_9, hb49_9, hm49_9, hu49_9⟩ := h.f9 (hL 9 (by decide))
    have HV49_9 : Hid (IntV wE49 (.agg #[.bool s49_9, .slice a49_9 n49_9 c49_9]) ((r + 1) ^ k)) := Lib.hid ⟨_, _, _, _, rfl, hu49_9⟩
    have ey49_7 := h.f7 (hL 7 (by decide))
    have ey49_10 := h.f10 (hL 10 (by decide))
    simp only [putAll, List.foldl, Act.put, List.setIfInBounds_toArray, List.set_cons_zero, List.set_cons_succ]
    simp only [ey49_9, ey49_7, ey49_10]
    clear hL h ey49_9 ey49_7 ey49_10 hu49_9 hm49_9
    have KB27 : Hid (∀ W, Ext wE49 W → W.cell? ⟨U49_9, 0, none⟩ = some (.bool s49_9) ∧ W.cell? ⟨U49_9, 1, none⟩ = some (.slice a49_9 n49_9 c49_9)) := Lib.hid fun W h => ⟨h.cell (hb49_9.cell (i := 0) rfl), h.cell (hb49_9.cell (i := 1) rfl)⟩
    clear hb49_9
    obtain ⟨o, ho⟩ : ∃ o, o = sgn (r ^ k) a := ⟨_, rfl⟩
    have ho0 : o ≤ 0 := by rw [ho]; exact sgn_le HRT.out.2.1
    have HO := Lib.hid ho
    clear ho
    have HHI : Hid (sgn ((r + 1) ^ k) a = 1) := Lib.hid (sgn_gt HRT.out.2.2)
    obtain ⟨cc23_0_51, cc23_1_51⟩ := KB23.out wE49 ((x45.trans xb48).trans xE49)
    go_wp2_with fail
    clear cc23_0_51 cc23_1_51
    refine (rvalid_any _ (r) _ (HVR.out.ext (((xb44.trans x45).trans xb48).trans xE49))).mono ?_
    rintro e w50 ⟨rfl, x50⟩
    obtain ⟨cc23_0_53, cc23_1_53⟩ := KB23.out w50 (((x45.trans xb48).trans xE49).trans x50)
    obtain ⟨cc25_0_54, cc25_1_54⟩ := KB25.out w50 (xE49.trans x50)
    obtain ⟨cc8_0_55, cc8_1_55⟩ := KB8.out w50 (((((((((((((((((((((((x6.trans xb8).trans x10).trans xb13).trans x15).trans xb17).trans x19).trans xb21).trans x23).trans xb25).trans x27).trans x31).trans xb32).trans hz33).trans x35).trans x37).trans x39).trans x41).trans x43).trans xb44).trans x45).trans xb48).trans xE49).trans x50)
    go_wp2_with fail
    clear cc23_0_53 cc23_1_53 cc25_0_54 cc25_1_54 cc8_0_55 cc8_1_55
    refine (cmp_is _ _ (r ^ k) (a) (o) _ (HV45_0.out.ext ((xb48.trans xE49).trans x50)) (HV2_0.out.ext ((((((((((((((((((((((((xb4.trans x6).trans xb8).trans x10).trans xb13).trans x15).trans xb17).trans x19).trans xb21).trans x23).trans xb25).trans x27).trans x31).trans xb32).trans hz33).trans x35).trans x37).trans x39).trans x41).trans x43).trans xb44).trans x45).trans xb48).trans xE49).trans x50)) HO.out.symm).mono ?_
    rintro e w52 ⟨rfl, x52⟩
    obtain ⟨cc27_0_57, cc27_1_57⟩ := KB27.out w52 (x50.trans x52)
    obtain ⟨cc8_0_58, cc8_1_58⟩ := KB8.out w52 ((((((((((((((((((((((((x6.trans xb8).trans x10).trans xb13).trans x15).trans xb17).trans x19).trans xb21).trans x23).trans xb25).trans x27).trans x31).trans xb32).trans hz33).trans x35).trans x37).trans x39).trans x41).trans x43).trans xb44).trans x45).trans xb48).trans xE49).trans x50).trans x52)
    go_wp2_with fail
    clear cc27_0_57 cc27_1_57 cc8_0_58 cc8_1_58
    refine (cmp_is _ _ ((r + 1) ^ k) (a) (1) _ (HV49_9.out.ext (x50.trans x52)) (HV2_0.out.ext (((((((((((((((((((((((((xb4.trans x6).trans xb8).trans x10).trans xb13).trans x15).trans xb17).trans x19).trans xb21).trans x23).trans xb25).trans x27).trans x31).trans xb32).trans hz33).trans x35).trans x37).trans x39).trans x41).trans x43).trans xb44).trans x45).trans xb48).trans xE49).trans x50).trans x52)) HHI.out).mono ?_
    rintro e w56 ⟨rfl, x56⟩
    go_wp2_with fail
    go_ret
    exact ⟨rfl, (((((((((((((((((((((((((((((x0.trans xs).trans x2).trans xb4).trans x6).trans xb8).trans x10).trans xb13).trans x15).trans xb17).trans x19).trans xb21).trans x23).trans xb25).trans x27).trans x31).trans xb32).trans hz33).trans x35).trans x37).trans x39).trans x41).trans x43).trans xb44).trans x45).trans xb48).trans xE49).trans x50).trans x52).trans x56)⟩
theorem lawPowers (nx : Bool) (ax : Option Addr) (kx cx : Nat) (lx : List Int) (a : Int) (ea : a = rawZ nx lx 4) (ny : Bool) (ay : Option Addr) (ky cy : Nat) (ly : List Int) (b : Int) (eb : b = rawZ ny ly 4) (w : World) (hx : Words w ax kx cx lx) (hy : Words w ay ky cy ly) (v0 v1 v2 : Int) (p0 : 0 ≤ v0) (p1 : v0 < 256) (q0 : 0 ≤ v1) (q1 : v1 < 256) (r0 : 0 ≤ v2) (r1 : v2 < 256)  :
    Calls Tryz.prog 7 #[.agg #[.bool nx, .slice ax kx cx], .agg #[.bool ny, .slice ay ky cy], .agg #[.int .u8 v0, .int .u8 v1, .int .u8 v2]] w fun e w' => e = .returned (.bool true) ∧ Ext w w' := by
  obtain ⟨m, hm⟩ : ∃ m : Nat, v0 % 20 = (m : Int) := ⟨(v0 % 20).toNat, by omega⟩
  obtain ⟨l, hl⟩ : ∃ l : Nat, v1 % 20 = (l : Int) := ⟨(v1 % 20).toNat, by omega⟩
  obtain ⟨kk, hkk⟩ : ∃ kk : Nat, v2 % 20 = (kk : Int) := ⟨(v2 % 20).toNat, by omega⟩
  by_cases h : a < 0
  · exact powers_neg nx ax kx cx lx a ea ny ay ky cy ly b eb w hx hy v0 v1 v2 m l (kk + 1) (m + l) kk p0 p1 q0 q1 r0 r1 hm hl hkk (by omega) (by omega) h
  · exact powers_pos nx ax kx cx lx a ea ny ay ky cy ly b eb w hx hy v0 v1 v2 m l (kk + 1) (m + l) kk p0 p1 q0 q1 r0 r1 hm hl hkk (by omega) (by omega) (by omega)
end Go.Proofs.YtddcgojpgdhefaaGreatDoor
