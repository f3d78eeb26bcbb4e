/- The law IntegerRing, walked. -/
import Derived.Test.YtddcgojpgdhefaaGreatDoorLawLib
namespace Go.Proofs.YtddcgojpgdhefaaGreatDoor
open Go.RowKit Go.El
set_option linter.unusedVariables false
set_option maxRecDepth 100000 in
set_option maxHeartbeats 8000000 in
theorem lawRing (nx : Bool) (ax : Option Addr) (kx cx : Nat) (lx : List Int) (a : Int) (ea : a = rawZ nx lx 8) (ny : Bool) (ay : Option Addr) (ky cy : Nat) (ly : List Int) (b : Int) (eb : b = rawZ ny ly 8) (nz : Bool) (az : Option Addr) (kz cz : Nat) (lz : List Int) (c : Int) (ec : c = rawZ nz lz 8) (w : World) (hx : Words w ax kx cx lx) (hy : Words w ay ky cy ly) (hz : Words w az kz cz lz) :
    Calls Tryz.prog 4 #[.agg #[.bool nx, .slice ax kx cx], .agg #[.bool ny, .slice ay ky cy], .agg #[.bool nz, .slice az kz cz]] w fun e w' => e = .returned (.bool true) ∧ Ext w w' := by
  have E_a := Lib.hid ea
  have HWx := Lib.hid hx
  clear ea hx
  have E_b := Lib.hid eb
  have HWy := Lib.hid hy
  clear eb hy
  have E_c := Lib.hid ec
  have HWz := Lib.hid hz
  clear ec hz
  obtain ⟨B0, w0, hB0, hw0, hr0, hr1, hr2, x0⟩ := three w 25 25 25 [.bool nx, .slice ax kx cx] [.bool ny, .slice ay ky cy] [.bool nz, .slice az kz cz]
  have HF2 : Hid (Fits (a) 8) := Lib.hid (by rw [E_a.out]; exact fits_raw (HWx.out.wf) (by omega))
  have HF6 : Hid (Fits (b) 8) := Lib.hid (by rw [E_b.out]; exact fits_raw (HWy.out.wf) (by omega))
  have HF10 : Hid (Fits (c) 8) := Lib.hid (by rw [E_c.out]; exact fits_raw (HWz.out.wf) (by omega))
  have HF14 : Hid (Fits (a + b) 9) := Lib.hid (Fits.add HF2.out HF6.out)
  have HF19 : Hid (Fits (a * b) 16) := Lib.hid (Fits.mul HF2.out HF6.out)
  have HF24 : Hid (Fits (a - b) 9) := Lib.hid (Fits.sub HF2.out HF6.out)
  have HF33 : Hid (Fits (b + a) 9) := Lib.hid (Fits.add HF6.out HF2.out)
  have HF36 : Hid (Fits (b * a) 16) := Lib.hid (Fits.mul HF6.out HF2.out)
  have HF39 : Hid (Fits (b + (a - b)) 10) := Lib.hid (Fits.add (HF6.out.mono (show 8 ≤ 9 by omega)) HF24.out)
  have HE41 : Hid (b + (a - b) = a) := Lib.hid (by omega)
  have HF43 : Hid (Fits (-b) 8) := Lib.hid (Fits.neg HF6.out)
  have HF45 : Hid (Fits (a + (-b)) 9) := Lib.hid (Fits.add HF2.out HF43.out)
  have HE47 : Hid (a - b = a + (-b)) := Lib.hid (by omega)
  have HF50 : Hid (Fits ((a + b) + c) 10) := Lib.hid (Fits.add HF14.out (HF10.out.mono (show 8 ≤ 9 by omega)))
  have HF52 : Hid (Fits (b + c) 9) := Lib.hid (Fits.add HF6.out HF10.out)
  have HF54 : Hid (Fits (a + (b + c)) 10) := Lib.hid (Fits.add (HF2.out.mono (show 8 ≤ 9 by omega)) HF52.out)
  have HF57 : Hid (Fits ((a * b) * c) 24) := Lib.hid (Fits.mul HF19.out HF10.out)
  have HF59 : Hid (Fits (b * c) 16) := Lib.hid (Fits.mul HF6.out HF10.out)
  have HF61 : Hid (Fits (a * (b * c)) 24) := Lib.hid (Fits.mul HF2.out HF59.out)
  have HF64 : Hid (Fits ((a + b) * c) 17) := Lib.hid (Fits.mul HF14.out HF10.out)
  have HF66 : Hid (Fits (a * c) 16) := Lib.hid (Fits.mul HF2.out HF10.out)
  have HF68 : Hid (Fits (b * c) 16) := Lib.hid (Fits.mul HF6.out HF10.out)
  have HF70 : Hid (Fits ((a * c) + (b * c)) 17) := Lib.hid (Fits.add HF66.out HF68.out)
  have HF74 : Hid (Fits (0) 1) := Lib.hid (fits_small (by decide) (by omega))
  have HF76 : Hid (Fits (a + 0) 9) := Lib.hid (Fits.add HF2.out (HF74.out.mono (show 1 ≤ 8 by omega)))
  have HF79 : Hid (Fits (1) 1) := Lib.hid (fits_small (by decide) (by omega))
  have HF81 : Hid (Fits (a * 1) 9) := Lib.hid (Fits.mul HF2.out HF79.out)
  have HF84 : Hid (Fits (0) 1) := Lib.hid (fits_small (by decide) (by omega))
  have HF86 : Hid (Fits (a * 0) 9) := Lib.hid (Fits.mul HF2.out HF84.out)
  have HF88 : Hid (Fits (0) 1) := Lib.hid (fits_small (by decide) (by omega))
  have HF91 : Hid (Fits (-1) 1) := Lib.hid (fits_small (by decide) (by omega))
  have HF93 : Hid (Fits (a * (-1)) 9) := Lib.hid (Fits.mul HF2.out HF91.out)
  have HF95 : Hid (Fits (-a) 8) := Lib.hid (Fits.neg HF2.out)
  have HE97 : Hid (a * (-1) = -a) := Lib.hid (by rw [Int.mul_neg, Int.mul_one])
  have HF99 : Hid (Fits (a - a) 9) := Lib.hid (Fits.sub HF2.out HF2.out)
  have HF101 : Hid (Fits (0) 1) := Lib.hid (fits_small (by decide) (by omega))
  have KB3 : Hid (∀ W, Ext w0 W → W.cell? ⟨B0, 0, none⟩ = some (.bool nx) ∧ W.cell? ⟨B0, 1, none⟩ = some (.slice ax kx cx)) := Lib.hid fun W h => ⟨h.cell (hr0.cell (i := 0) rfl), h.cell (hr0.cell (i := 1) rfl)⟩
  have KB4 : Hid (∀ W, Ext w0 W → W.cell? ⟨B0 + 1, 0, none⟩ = some (.bool ny) ∧ W.cell? ⟨B0 + 1, 1, none⟩ = some (.slice ay ky cy)) := Lib.hid fun W h => ⟨h.cell (hr1.cell (i := 0) rfl), h.cell (hr1.cell (i := 1) rfl)⟩
  have KB5 : Hid (∀ W, Ext w0 W → W.cell? ⟨B0 + 1 + 1, 0, none⟩ = some (.bool nz) ∧ W.cell? ⟨B0 + 1 + 1, 1, none⟩ = some (.slice az kz cz)) := Lib.hid fun W h => ⟨h.cell (hr2.cell (i := 0) rfl), h.cell (hr2.cell (i := 1) rfl)⟩
  clear hr0 hr1 hr2
  go_enter Tryz.func4, Tryz.ntmps4
  go_wp2_with fail
  rw [← hw0, ← hB0]
  clear hw0 hB0
  refine (sanity_any _).mono ?_
  rintro e w1 ⟨rfl, x1⟩
  obtain ⟨cc3_0_4, cc3_1_4⟩ := KB3.out w1 x1
  go_wp2_with fail
  clear cc3_0_4 cc3_1_4
  refine (Made_any nx ax kx cx lx 8 a _ (HWx.out.ext (x0.trans x1)) (by omega) E_a.out).mono ?_
  rintro e w3 ⟨⟨v3_0, rfl, ⟨s3_0, a3_0, n3_0, c3_0, rfl, hi3_0⟩⟩, x3⟩
  have HV3_0 : Hid (IntV w3 (.agg #[.bool s3_0, .slice a3_0 n3_0 c3_0]) (a)) := Lib.hid ⟨_, _, _, _, rfl, hi3_0⟩
  clear hi3_0
  obtain ⟨D5, wb5, hD5, hw5, hb5_0, xb5⟩ := one w3 24 [.bool s3_0, .slice a3_0 n3_0 c3_0]
  have KB8 : Hid (∀ W, Ext wb5 W → W.cell? ⟨D5, 0, none⟩ = some (.bool s3_0) ∧ W.cell? ⟨D5, 1, none⟩ = some (.slice a3_0 n3_0 c3_0)) := Lib.hid fun W h => ⟨h.cell (hb5_0.cell (i := 0) rfl), h.cell (hb5_0.cell (i := 1) rfl)⟩
  clear hb5_0
  obtain ⟨cc4_0_8, cc4_1_8⟩ := KB4.out wb5 ((x1.trans x3).trans xb5)
  have hq5 := hw5.symm
  have hp5 := hD5.symm
  clear hw5 hD5
  go_wp2_with fail
  clear hq5 hp5
  clear cc4_0_8 cc4_1_8
  refine (Made_any ny ay ky cy ly 8 b _ (HWy.out.ext (((x0.trans x1).trans x3).trans xb5)) (by omega) E_b.out).mono ?_
  rintro e w7 ⟨⟨v7_0, rfl, ⟨s7_0, a7_0, n7_0, c7_0, rfl, hi7_0⟩⟩, x7⟩
  have HV7_0 : Hid (IntV w7 (.agg #[.bool s7_0, .slice a7_0 n7_0 c7_0]) (b)) := Lib.hid ⟨_, _, _, _, rfl, hi7_0⟩
  clear hi7_0
  obtain ⟨D9, wb9, hD9, hw9, hb9_0, xb9⟩ := one w7 24 [.bool s7_0, .slice a7_0 n7_0 c7_0]
  have KB9 : Hid (∀ W, Ext wb9 W → W.cell? ⟨D9, 0, none⟩ = some (.bool s7_0) ∧ W.cell? ⟨D9, 1, none⟩ = some (.slice a7_0 n7_0 c7_0)) := Lib.hid fun W h => ⟨h.cell (hb9_0.cell (i := 0) rfl), h.cell (hb9_0.cell (i := 1) rfl)⟩
  clear hb9_0
  obtain ⟨cc5_0_12, cc5_1_12⟩ := KB5.out wb9 ((((x1.trans x3).trans xb5).trans x7).trans xb9)
  have hq9 := hw9.symm
  have hp9 := hD9.symm
  clear hw9 hD9
  go_wp2_with fail
  clear hq9 hp9
  clear cc5_0_12 cc5_1_12
  refine (Made_any nz az kz cz lz 8 c _ (HWz.out.ext (((((x0.trans x1).trans x3).trans xb5).trans x7).trans xb9)) (by omega) E_c.out).mono ?_
  rintro e w11 ⟨⟨v11_0, rfl, ⟨s11_0, a11_0, n11_0, c11_0, rfl, hi11_0⟩⟩, x11⟩
  have HV11_0 : Hid (IntV w11 (.agg #[.bool s11_0, .slice a11_0 n11_0 c11_0]) (c)) := Lib.hid ⟨_, _, _, _, rfl, hi11_0⟩
  clear hi11_0
  obtain ⟨D13, wb13, hD13, hw13, hb13_0, xb13⟩ := one w11 24 [.bool s11_0, .slice a11_0 n11_0 c11_0]
  have KB10 : Hid (∀ W, Ext wb13 W → W.cell? ⟨D13, 0, none⟩ = some (.bool s11_0) ∧ W.cell? ⟨D13, 1, none⟩ = some (.slice a11_0 n11_0 c11_0)) := Lib.hid fun W h => ⟨h.cell (hb13_0.cell (i := 0) rfl), h.cell (hb13_0.cell (i := 1) rfl)⟩
  clear hb13_0
  obtain ⟨cc8_0_16, cc8_1_16⟩ := KB8.out wb13 (((x7.trans xb9).trans x11).trans xb13)
  obtain ⟨cc9_0_17, cc9_1_17⟩ := KB9.out wb13 (x11.trans xb13)
  have hq13 := hw13.symm
  have hp13 := hD13.symm
  clear hw13 hD13
  go_wp2_with fail
  clear hq13 hp13
  clear cc8_0_16 cc8_1_16 cc9_0_17 cc9_1_17
  refine (add_any _ _ (a) (b) _ (HV3_0.out.ext ((((xb5.trans x7).trans xb9).trans x11).trans xb13)) (HV7_0.out.ext ((xb9.trans x11).trans xb13)) (HF2.out.mono (by omega)) (HF6.out.mono (by omega))).mono ?_
  rintro e w15 ⟨⟨v15_0, rfl, ⟨s15_0, a15_0, n15_0, c15_0, rfl, hi15_0⟩⟩, x15⟩
  have HV15_0 : Hid (IntV w15 (.agg #[.bool s15_0, .slice a15_0 n15_0 c15_0]) (a + b)) := Lib.hid ⟨_, _, _, _, rfl, hi15_0⟩
  clear hi15_0
  obtain ⟨D18, wb18, hD18, hw18, hb18_0, xb18⟩ := one w15 24 [.bool s15_0, .slice a15_0 n15_0 c15_0]
  have KB11 : Hid (∀ W, Ext wb18 W → W.cell? ⟨D18, 0, none⟩ = some (.bool s15_0) ∧ W.cell? ⟨D18, 1, none⟩ = some (.slice a15_0 n15_0 c15_0)) := Lib.hid fun W h => ⟨h.cell (hb18_0.cell (i := 0) rfl), h.cell (hb18_0.cell (i := 1) rfl)⟩
  clear hb18_0
  obtain ⟨cc8_0_21, cc8_1_21⟩ := KB8.out wb18 (((((x7.trans xb9).trans x11).trans xb13).trans x15).trans xb18)
  obtain ⟨cc9_0_22, cc9_1_22⟩ := KB9.out wb18 (((x11.trans xb13).trans x15).trans xb18)
  have hq18 := hw18.symm
  have hp18 := hD18.symm
  clear hw18 hD18
  go_wp2_with fail
  clear hq18 hp18
  clear cc8_0_21 cc8_1_21 cc9_0_22 cc9_1_22
  refine (mul_any _ _ (a) (b) _ (HV3_0.out.ext ((((((xb5.trans x7).trans xb9).trans x11).trans xb13).trans x15).trans xb18)) (HV7_0.out.ext ((((xb9.trans x11).trans xb13).trans x15).trans xb18)) (HF2.out.mono (by omega)) (HF6.out.mono (by omega))).mono ?_
  rintro e w20 ⟨⟨v20_0, rfl, ⟨s20_0, a20_0, n20_0, c20_0, rfl, hi20_0⟩⟩, x20⟩
  have HV20_0 : Hid (IntV w20 (.agg #[.bool s20_0, .slice a20_0 n20_0 c20_0]) (a * b)) := Lib.hid ⟨_, _, _, _, rfl, hi20_0⟩
  clear hi20_0
  obtain ⟨D23, wb23, hD23, hw23, hb23_0, xb23⟩ := one w20 24 [.bool s20_0, .slice a20_0 n20_0 c20_0]
  have KB12 : Hid (∀ W, Ext wb23 W → W.cell? ⟨D23, 0, none⟩ = some (.bool s20_0) ∧ W.cell? ⟨D23, 1, none⟩ = some (.slice a20_0 n20_0 c20_0)) := Lib.hid fun W h => ⟨h.cell (hb23_0.cell (i := 0) rfl), h.cell (hb23_0.cell (i := 1) rfl)⟩
  clear hb23_0
  obtain ⟨cc8_0_26, cc8_1_26⟩ := KB8.out wb23 (((((((x7.trans xb9).trans x11).trans xb13).trans x15).trans xb18).trans x20).trans xb23)
  obtain ⟨cc9_0_27, cc9_1_27⟩ := KB9.out wb23 (((((x11.trans xb13).trans x15).trans xb18).trans x20).trans xb23)
  have hq23 := hw23.symm
  have hp23 := hD23.symm
  clear hw23 hD23
  go_wp2_with fail
  clear hq23 hp23
  clear cc8_0_26 cc8_1_26 cc9_0_27 cc9_1_27
  refine (sub_any _ _ (a) (b) _ (HV3_0.out.ext ((((((((xb5.trans x7).trans xb9).trans x11).trans xb13).trans x15).trans xb18).trans x20).trans xb23)) (HV7_0.out.ext ((((((xb9.trans x11).trans xb13).trans x15).trans xb18).trans x20).trans xb23)) (HF2.out.mono (by omega)) (HF6.out.mono (by omega))).mono ?_
  rintro e w25 ⟨⟨v25_0, rfl, ⟨s25_0, a25_0, n25_0, c25_0, rfl, hi25_0⟩⟩, x25⟩
  have HV25_0 : Hid (IntV w25 (.agg #[.bool s25_0, .slice a25_0 n25_0 c25_0]) (a - b)) := Lib.hid ⟨_, _, _, _, rfl, hi25_0⟩
  clear hi25_0
  obtain ⟨D28, wb28, hD28, hw28, hb28_0, xb28⟩ := one w25 24 [.bool s25_0, .slice a25_0 n25_0 c25_0]
  have KB13 : Hid (∀ W, Ext wb28 W → W.cell? ⟨D28, 0, none⟩ = some (.bool s25_0) ∧ W.cell? ⟨D28, 1, none⟩ = some (.slice a25_0 n25_0 c25_0)) := Lib.hid fun W h => ⟨h.cell (hb28_0.cell (i := 0) rfl), h.cell (hb28_0.cell (i := 1) rfl)⟩
  clear hb28_0
  have KX29 : Hid (∀ w', Ext wb28 w' → w'.cell? ⟨D18, 0, none⟩ = some (.bool s15_0) ∧ w'.cell? ⟨D18, 1, none⟩ = some (.slice a15_0 n15_0 c15_0) ∧ w'.cell? ⟨D23, 0, none⟩ = some (.bool s20_0) ∧ w'.cell? ⟨D23, 1, none⟩ = some (.slice a20_0 n20_0 c20_0) ∧ w'.cell? ⟨D28, 0, none⟩ = some (.bool s25_0) ∧ w'.cell? ⟨D28, 1, none⟩ = some (.slice a25_0 n25_0 c25_0) ∧ w'.cell? ⟨D9, 0, none⟩ = some (.bool s7_0) ∧ w'.cell? ⟨D9, 1, none⟩ = some (.slice a7_0 n7_0 c7_0) ∧ w'.cell? ⟨D5, 0, none⟩ = some (.bool s3_0) ∧ w'.cell? ⟨D5, 1, none⟩ = some (.slice a3_0 n3_0 c3_0)) := Lib.hid fun w' h => by
    have q11 := KB11.out w' ((((x20.trans xb23).trans x25).trans xb28).trans h)
    have q12 := KB12.out w' ((x25.trans xb28).trans h)
    have q13 := KB13.out w' ((Ext.refl _).trans h)
    have q9 := KB9.out w' ((((((((x11.trans xb13).trans x15).trans xb18).trans x20).trans xb23).trans x25).trans xb28).trans h)
    have q8 := KB8.out w' ((((((((((x7.trans xb9).trans x11).trans xb13).trans x15).trans xb18).trans x20).trans xb23).trans x25).trans xb28).trans h)
    exact ⟨q11.1, q11.2, q12.1, q12.2, q13.1, q13.2, q9.1, q9.2, q8.1, q8.2⟩
  have hq28 := hw28.symm
  have hp28 := hD28.symm
  clear hw28 hD28
  go_wp2_with fail
  clear hq28 hp28
  have hz29 := Below.drewExt wb28
  go_region_held3
    (fun w' => w'.cell? ⟨D18, 0, none⟩ = some (.bool s15_0) ∧ w'.cell? ⟨D18, 1, none⟩ = some (.slice a15_0 n15_0 c15_0) ∧ w'.cell? ⟨D23, 0, none⟩ = some (.bool s20_0) ∧ w'.cell? ⟨D23, 1, none⟩ = some (.slice a20_0 n20_0 c20_0) ∧ w'.cell? ⟨D28, 0, none⟩ = some (.bool s25_0) ∧ w'.cell? ⟨D28, 1, none⟩ = some (.slice a25_0 n25_0 c25_0) ∧ w'.cell? ⟨D9, 0, none⟩ = some (.bool s7_0) ∧ w'.cell? ⟨D9, 1, none⟩ = some (.slice a7_0 n7_0 c7_0) ∧ w'.cell? ⟨D5, 0, none⟩ = some (.bool s3_0) ∧ w'.cell? ⟨D5, 1, none⟩ = some (.slice a3_0 n3_0 c3_0))
    (with_reducible exact KX29.out _ (by assumption))
    (first
    | (go_at_call 20; (with_reducible refine (rvalid_any _ (a + b) _ (HV15_0.out.ext (((((xb18.trans x20).trans xb23).trans x25).trans xb28).trans hz29))).mono ?_); rintro e w30 ⟨rfl, x30⟩; have hz30 := hz29.trans x30)
    | (go_at_call 20; (with_reducible refine (rvalid_any _ (a * b) _ (HV20_0.out.ext ((((xb23.trans x25).trans xb28).trans hz29).trans x30))).mono ?_); rintro e w31 ⟨rfl, x31⟩; have hz31 := hz30.trans x31)
    | (go_at_call 20; (with_reducible refine (rvalid_any _ (a - b) _ (HV25_0.out.ext (((xb28.trans hz29).trans x30).trans x31))).mono ?_); rintro e w32 ⟨rfl, x32⟩; have hz32 := hz31.trans x32)
    | (go_at_call 17; (with_reducible refine (add_any _ _ (b) (a) _ (HV7_0.out.ext ((((((((((((xb9.trans x11).trans xb13).trans x15).trans xb18).trans x20).trans xb23).trans x25).trans xb28).trans hz29).trans x30).trans x31).trans x32)) (HV3_0.out.ext ((((((((((((((xb5.trans x7).trans xb9).trans x11).trans xb13).trans x15).trans xb18).trans x20).trans xb23).trans x25).trans xb28).trans hz29).trans x30).trans x31).trans x32)) (HF6.out.mono (by omega)) (HF2.out.mono (by omega))).mono ?_); rintro e w34 ⟨⟨v34_0, rfl, hv34_0⟩, x34⟩; have hz34 := hz32.trans x34)
    | (go_at_call 21; (with_reducible refine (same_eq _ _ (a + b) (b + a) _ (HV15_0.out.ext (((((((((xb18.trans x20).trans xb23).trans x25).trans xb28).trans hz29).trans x30).trans x31).trans x32).trans x34)) hv34_0 (Int.add_comm a b)).mono ?_); rintro e w35 ⟨rfl, x35⟩; have hz35 := hz34.trans x35)
    | (go_at_call 18; (with_reducible refine (mul_any _ _ (b) (a) _ (HV7_0.out.ext ((((((((((((((xb9.trans x11).trans xb13).trans x15).trans xb18).trans x20).trans xb23).trans x25).trans xb28).trans hz29).trans x30).trans x31).trans x32).trans x34).trans x35)) (HV3_0.out.ext ((((((((((((((((xb5.trans x7).trans xb9).trans x11).trans xb13).trans x15).trans xb18).trans x20).trans xb23).trans x25).trans xb28).trans hz29).trans x30).trans x31).trans x32).trans x34).trans x35)) (HF6.out.mono (by omega)) (HF2.out.mono (by omega))).mono ?_); rintro e w37 ⟨⟨v37_0, rfl, hv37_0⟩, x37⟩; have hz37 := hz35.trans x37)
    | (go_at_call 21; (with_reducible refine (same_eq _ _ (a * b) (b * a) _ (HV20_0.out.ext (((((((((xb23.trans x25).trans xb28).trans hz29).trans x30).trans x31).trans x32).trans x34).trans x35).trans x37)) hv37_0 (Int.mul_comm a b)).mono ?_); rintro e w38 ⟨rfl, x38⟩; have hz38 := hz37.trans x38)
    | (go_at_call 17; (with_reducible refine (add_any _ _ (b) (a - b) _ (HV7_0.out.ext ((((((((((((((((xb9.trans x11).trans xb13).trans x15).trans xb18).trans x20).trans xb23).trans x25).trans xb28).trans hz29).trans x30).trans x31).trans x32).trans x34).trans x35).trans x37).trans x38)) (HV25_0.out.ext ((((((((xb28.trans hz29).trans x30).trans x31).trans x32).trans x34).trans x35).trans x37).trans x38)) (HF6.out.mono (by omega)) (HF24.out.mono (by omega))).mono ?_); rintro e w40 ⟨⟨v40_0, rfl, hv40_0⟩, x40⟩; have hz40 := hz38.trans x40)
    | (go_at_call 21; (with_reducible refine (same_eq _ _ (b + (a - b)) (a) _ hv40_0 (HV3_0.out.ext (((((((((((((((((((xb5.trans x7).trans xb9).trans x11).trans xb13).trans x15).trans xb18).trans x20).trans xb23).trans x25).trans xb28).trans hz29).trans x30).trans x31).trans x32).trans x34).trans x35).trans x37).trans x38).trans x40)) HE41.out).mono ?_); rintro e w42 ⟨rfl, x42⟩; have hz42 := hz40.trans x42)
    | (go_at_call 22; (with_reducible refine (neg_any _ (b) _ (HV7_0.out.ext ((((((((((((((((((xb9.trans x11).trans xb13).trans x15).trans xb18).trans x20).trans xb23).trans x25).trans xb28).trans hz29).trans x30).trans x31).trans x32).trans x34).trans x35).trans x37).trans x38).trans x40).trans x42)) (HF6.out.mono (by omega))).mono ?_); rintro e w44 ⟨⟨v44_0, rfl, hv44_0⟩, x44⟩; have hz44 := hz42.trans x44)
    | (go_at_call 17; (with_reducible refine (add_any _ _ (a) (-b) _ (HV3_0.out.ext (((((((((((((((((((((xb5.trans x7).trans xb9).trans x11).trans xb13).trans x15).trans xb18).trans x20).trans xb23).trans x25).trans xb28).trans hz29).trans x30).trans x31).trans x32).trans x34).trans x35).trans x37).trans x38).trans x40).trans x42).trans x44)) hv44_0 (HF2.out.mono (by omega)) (HF43.out.mono (by omega))).mono ?_); rintro e w46 ⟨⟨v46_0, rfl, hv46_0⟩, x46⟩; have hz46 := hz44.trans x46)
    | (go_at_call 21; (with_reducible refine (same_eq _ _ (a - b) (a + (-b)) _ (HV25_0.out.ext ((((((((((((xb28.trans hz29).trans x30).trans x31).trans x32).trans x34).trans x35).trans x37).trans x38).trans x40).trans x42).trans x44).trans x46)) hv46_0 HE47.out).mono ?_); rintro e w48 ⟨rfl, x48⟩; have hz48 := hz46.trans x48)
    )
  clear KX29
  have KX49 : Hid (∀ w', Ext w48 w' → w'.cell? ⟨D18, 0, none⟩ = some (.bool s15_0) ∧ w'.cell? ⟨D18, 1, none⟩ = some (.slice a15_0 n15_0 c15_0) ∧ w'.cell? ⟨D13, 0, none⟩ = some (.bool s11_0) ∧ w'.cell? ⟨D13, 1, none⟩ = some (.slice a11_0 n11_0 c11_0) ∧ w'.cell? ⟨D5, 0, none⟩ = some (.bool s3_0) ∧ w'.cell? ⟨D5, 1, none⟩ = some (.slice a3_0 n3_0 c3_0) ∧ w'.cell? ⟨D9, 0, none⟩ = some (.bool s7_0) ∧ w'.cell? ⟨D9, 1, none⟩ = some (.slice a7_0 n7_0 c7_0) ∧ w'.cell? ⟨D23, 0, none⟩ = some (.bool s20_0) ∧ w'.cell? ⟨D23, 1, none⟩ = some (.slice a20_0 n20_0 c20_0)) := Lib.hid fun w' h => by
    have q11 := KB11.out w' (((((((((((((((((x20.trans xb23).trans x25).trans xb28).trans hz29).trans x30).trans x31).trans x32).trans x34).trans x35).trans x37).trans x38).trans x40).trans x42).trans x44).trans x46).trans x48).trans h)
    have q10 := KB10.out w' (((((((((((((((((((x15.trans xb18).trans x20).trans xb23).trans x25).trans xb28).trans hz29).trans x30).trans x31).trans x32).trans x34).trans x35).trans x37).trans x38).trans x40).trans x42).trans x44).trans x46).trans x48).trans h)
    have q8 := KB8.out w' (((((((((((((((((((((((x7.trans xb9).trans x11).trans xb13).trans x15).trans xb18).trans x20).trans xb23).trans x25).trans xb28).trans hz29).trans x30).trans x31).trans x32).trans x34).trans x35).trans x37).trans x38).trans x40).trans x42).trans x44).trans x46).trans x48).trans h)
    have q9 := KB9.out w' (((((((((((((((((((((x11.trans xb13).trans x15).trans xb18).trans x20).trans xb23).trans x25).trans xb28).trans hz29).trans x30).trans x31).trans x32).trans x34).trans x35).trans x37).trans x38).trans x40).trans x42).trans x44).trans x46).trans x48).trans h)
    have q12 := KB12.out w' (((((((((((((((x25.trans xb28).trans hz29).trans x30).trans x31).trans x32).trans x34).trans x35).trans x37).trans x38).trans x40).trans x42).trans x44).trans x46).trans x48).trans h)
    exact ⟨q11.1, q11.2, q10.1, q10.2, q8.1, q8.2, q9.1, q9.2, q12.1, q12.2⟩
  go_wp2_with fail
  have hz49 := Below.drewExt w48
  go_region_held3
    (fun w' => w'.cell? ⟨D18, 0, none⟩ = some (.bool s15_0) ∧ w'.cell? ⟨D18, 1, none⟩ = some (.slice a15_0 n15_0 c15_0) ∧ w'.cell? ⟨D13, 0, none⟩ = some (.bool s11_0) ∧ w'.cell? ⟨D13, 1, none⟩ = some (.slice a11_0 n11_0 c11_0) ∧ w'.cell? ⟨D5, 0, none⟩ = some (.bool s3_0) ∧ w'.cell? ⟨D5, 1, none⟩ = some (.slice a3_0 n3_0 c3_0) ∧ w'.cell? ⟨D9, 0, none⟩ = some (.bool s7_0) ∧ w'.cell? ⟨D9, 1, none⟩ = some (.slice a7_0 n7_0 c7_0) ∧ w'.cell? ⟨D23, 0, none⟩ = some (.bool s20_0) ∧ w'.cell? ⟨D23, 1, none⟩ = some (.slice a20_0 n20_0 c20_0))
    (with_reducible exact KX49.out _ (by assumption))
    (first
    | (go_at_call 17; (with_reducible refine (add_any _ _ (a + b) (c) _ (HV15_0.out.ext ((((((((((((((((((xb18.trans x20).trans xb23).trans x25).trans xb28).trans hz29).trans x30).trans x31).trans x32).trans x34).trans x35).trans x37).trans x38).trans x40).trans x42).trans x44).trans x46).trans x48).trans hz49)) (HV11_0.out.ext ((((((((((((((((((((xb13.trans x15).trans xb18).trans x20).trans xb23).trans x25).trans xb28).trans hz29).trans x30).trans x31).trans x32).trans x34).trans x35).trans x37).trans x38).trans x40).trans x42).trans x44).trans x46).trans x48).trans hz49)) (HF14.out.mono (by omega)) (HF10.out.mono (by omega))).mono ?_); rintro e w51 ⟨⟨v51_0, rfl, hv51_0⟩, x51⟩; have hz51 := hz49.trans x51)
    | (go_at_call 17; (with_reducible refine (add_any _ _ (b) (c) _ (HV7_0.out.ext (((((((((((((((((((((((xb9.trans x11).trans xb13).trans x15).trans xb18).trans x20).trans xb23).trans x25).trans xb28).trans hz29).trans x30).trans x31).trans x32).trans x34).trans x35).trans x37).trans x38).trans x40).trans x42).trans x44).trans x46).trans x48).trans hz49).trans x51)) (HV11_0.out.ext (((((((((((((((((((((xb13.trans x15).trans xb18).trans x20).trans xb23).trans x25).trans xb28).trans hz29).trans x30).trans x31).trans x32).trans x34).trans x35).trans x37).trans x38).trans x40).trans x42).trans x44).trans x46).trans x48).trans hz49).trans x51)) (HF6.out.mono (by omega)) (HF10.out.mono (by omega))).mono ?_); rintro e w53 ⟨⟨v53_0, rfl, hv53_0⟩, x53⟩; have hz53 := hz51.trans x53)
    | (go_at_call 17; (with_reducible refine (add_any _ _ (a) (b + c) _ (HV3_0.out.ext ((((((((((((((((((((((((((xb5.trans x7).trans xb9).trans x11).trans xb13).trans x15).trans xb18).trans x20).trans xb23).trans x25).trans xb28).trans hz29).trans x30).trans x31).trans x32).trans x34).trans x35).trans x37).trans x38).trans x40).trans x42).trans x44).trans x46).trans x48).trans hz49).trans x51).trans x53)) hv53_0 (HF2.out.mono (by omega)) (HF52.out.mono (by omega))).mono ?_); rintro e w55 ⟨⟨v55_0, rfl, hv55_0⟩, x55⟩; have hz55 := hz53.trans x55)
    | (go_at_call 21; (with_reducible refine (same_eq _ _ ((a + b) + c) (a + (b + c)) _ (hv51_0.ext (x53.trans x55)) hv55_0 (Int.add_assoc a b c)).mono ?_); rintro e w56 ⟨rfl, x56⟩; have hz56 := hz55.trans x56)
    | (go_at_call 18; (with_reducible refine (mul_any _ _ (a * b) (c) _ (HV20_0.out.ext ((((((((((((((((((((xb23.trans x25).trans xb28).trans hz29).trans x30).trans x31).trans x32).trans x34).trans x35).trans x37).trans x38).trans x40).trans x42).trans x44).trans x46).trans x48).trans hz49).trans x51).trans x53).trans x55).trans x56)) (HV11_0.out.ext ((((((((((((((((((((((((xb13.trans x15).trans xb18).trans x20).trans xb23).trans x25).trans xb28).trans hz29).trans x30).trans x31).trans x32).trans x34).trans x35).trans x37).trans x38).trans x40).trans x42).trans x44).trans x46).trans x48).trans hz49).trans x51).trans x53).trans x55).trans x56)) (HF19.out.mono (by omega)) (HF10.out.mono (by omega))).mono ?_); rintro e w58 ⟨⟨v58_0, rfl, hv58_0⟩, x58⟩; have hz58 := hz56.trans x58)
    | (go_at_call 18; (with_reducible refine (mul_any _ _ (b) (c) _ (HV7_0.out.ext (((((((((((((((((((((((((((xb9.trans x11).trans xb13).trans x15).trans xb18).trans x20).trans xb23).trans x25).trans xb28).trans hz29).trans x30).trans x31).trans x32).trans x34).trans x35).trans x37).trans x38).trans x40).trans x42).trans x44).trans x46).trans x48).trans hz49).trans x51).trans x53).trans x55).trans x56).trans x58)) (HV11_0.out.ext (((((((((((((((((((((((((xb13.trans x15).trans xb18).trans x20).trans xb23).trans x25).trans xb28).trans hz29).trans x30).trans x31).trans x32).trans x34).trans x35).trans x37).trans x38).trans x40).trans x42).trans x44).trans x46).trans x48).trans hz49).trans x51).trans x53).trans x55).trans x56).trans x58)) (HF6.out.mono (by omega)) (HF10.out.mono (by omega))).mono ?_); rintro e w60 ⟨⟨v60_0, rfl, hv60_0⟩, x60⟩; have hz60 := hz58.trans x60)
    | (go_at_call 18; (with_reducible refine (mul_any _ _ (a) (b * c) _ (HV3_0.out.ext ((((((((((((((((((((((((((((((xb5.trans x7).trans xb9).trans x11).trans xb13).trans x15).trans xb18).trans x20).trans xb23).trans x25).trans xb28).trans hz29).trans x30).trans x31).trans x32).trans x34).trans x35).trans x37).trans x38).trans x40).trans x42).trans x44).trans x46).trans x48).trans hz49).trans x51).trans x53).trans x55).trans x56).trans x58).trans x60)) hv60_0 (HF2.out.mono (by omega)) (HF59.out.mono (by omega))).mono ?_); rintro e w62 ⟨⟨v62_0, rfl, hv62_0⟩, x62⟩; have hz62 := hz60.trans x62)
    | (go_at_call 21; (with_reducible refine (same_eq _ _ ((a * b) * c) (a * (b * c)) _ (hv58_0.ext (x60.trans x62)) hv62_0 (Int.mul_assoc a b c)).mono ?_); rintro e w63 ⟨rfl, x63⟩; have hz63 := hz62.trans x63)
    | (go_at_call 18; (with_reducible refine (mul_any _ _ (a + b) (c) _ (HV15_0.out.ext ((((((((((((((((((((((((((xb18.trans x20).trans xb23).trans x25).trans xb28).trans hz29).trans x30).trans x31).trans x32).trans x34).trans x35).trans x37).trans x38).trans x40).trans x42).trans x44).trans x46).trans x48).trans hz49).trans x51).trans x53).trans x55).trans x56).trans x58).trans x60).trans x62).trans x63)) (HV11_0.out.ext ((((((((((((((((((((((((((((xb13.trans x15).trans xb18).trans x20).trans xb23).trans x25).trans xb28).trans hz29).trans x30).trans x31).trans x32).trans x34).trans x35).trans x37).trans x38).trans x40).trans x42).trans x44).trans x46).trans x48).trans hz49).trans x51).trans x53).trans x55).trans x56).trans x58).trans x60).trans x62).trans x63)) (HF14.out.mono (by omega)) (HF10.out.mono (by omega))).mono ?_); rintro e w65 ⟨⟨v65_0, rfl, hv65_0⟩, x65⟩; have hz65 := hz63.trans x65)
    | (go_at_call 18; (with_reducible refine (mul_any _ _ (a) (c) _ (HV3_0.out.ext (((((((((((((((((((((((((((((((((xb5.trans x7).trans xb9).trans x11).trans xb13).trans x15).trans xb18).trans x20).trans xb23).trans x25).trans xb28).trans hz29).trans x30).trans x31).trans x32).trans x34).trans x35).trans x37).trans x38).trans x40).trans x42).trans x44).trans x46).trans x48).trans hz49).trans x51).trans x53).trans x55).trans x56).trans x58).trans x60).trans x62).trans x63).trans x65)) (HV11_0.out.ext (((((((((((((((((((((((((((((xb13.trans x15).trans xb18).trans x20).trans xb23).trans x25).trans xb28).trans hz29).trans x30).trans x31).trans x32).trans x34).trans x35).trans x37).trans x38).trans x40).trans x42).trans x44).trans x46).trans x48).trans hz49).trans x51).trans x53).trans x55).trans x56).trans x58).trans x60).trans x62).trans x63).trans x65)) (HF2.out.mono (by omega)) (HF10.out.mono (by omega))).mono ?_); rintro e w67 ⟨⟨v67_0, rfl, hv67_0⟩, x67⟩; have hz67 := hz65.trans x67)
    | (go_at_call 18; (with_reducible refine (mul_any _ _ (b) (c) _ (HV7_0.out.ext ((((((((((((((((((((((((((((((((xb9.trans x11).trans xb13).trans x15).trans xb18).trans x20).trans xb23).trans x25).trans xb28).trans hz29).trans x30).trans x31).trans x32).trans x34).trans x35).trans x37).trans x38).trans x40).trans x42).trans x44).trans x46).trans x48).trans hz49).trans x51).trans x53).trans x55).trans x56).trans x58).trans x60).trans x62).trans x63).trans x65).trans x67)) (HV11_0.out.ext ((((((((((((((((((((((((((((((xb13.trans x15).trans xb18).trans x20).trans xb23).trans x25).trans xb28).trans hz29).trans x30).trans x31).trans x32).trans x34).trans x35).trans x37).trans x38).trans x40).trans x42).trans x44).trans x46).trans x48).trans hz49).trans x51).trans x53).trans x55).trans x56).trans x58).trans x60).trans x62).trans x63).trans x65).trans x67)) (HF6.out.mono (by omega)) (HF10.out.mono (by omega))).mono ?_); rintro e w69 ⟨⟨v69_0, rfl, hv69_0⟩, x69⟩; have hz69 := hz67.trans x69)
    | (go_at_call 17; (with_reducible refine (add_any _ _ (a * c) (b * c) _ (hv67_0.ext x69) hv69_0 (HF66.out.mono (by omega)) (HF68.out.mono (by omega))).mono ?_); rintro e w71 ⟨⟨v71_0, rfl, hv71_0⟩, x71⟩; have hz71 := hz69.trans x71)
    | (go_at_call 21; (with_reducible refine (same_eq _ _ ((a + b) * c) ((a * c) + (b * c)) _ (hv65_0.ext ((x67.trans x69).trans x71)) hv71_0 (Int.add_mul a b c)).mono ?_); rintro e w72 ⟨rfl, x72⟩; have hz72 := hz71.trans x72)
    )
  clear KX49
  have KX73 : Hid (∀ w', Ext w72 w' → w'.cell? ⟨D5, 0, none⟩ = some (.bool s3_0) ∧ w'.cell? ⟨D5, 1, none⟩ = some (.slice a3_0 n3_0 c3_0)) := Lib.hid fun w' h => by
    have q8 := KB8.out w' (((((((((((((((((((((((((((((((((((((x7.trans xb9).trans x11).trans xb13).trans x15).trans xb18).trans x20).trans xb23).trans x25).trans xb28).trans hz29).trans x30).trans x31).trans x32).trans x34).trans x35).trans x37).trans x38).trans x40).trans x42).trans x44).trans x46).trans x48).trans hz49).trans x51).trans x53).trans x55).trans x56).trans x58).trans x60).trans x62).trans x63).trans x65).trans x67).trans x69).trans x71).trans x72).trans h)
    exact ⟨q8.1, q8.2⟩
  go_wp2_with fail
  have hz73 := Below.drewExt w72
  go_region_held3
    (fun w' => w'.cell? ⟨D5, 0, none⟩ = some (.bool s3_0) ∧ w'.cell? ⟨D5, 1, none⟩ = some (.slice a3_0 n3_0 c3_0))
    (with_reducible exact KX73.out _ (by assumption))
    (first
    | (go_at_call 23; (with_reducible refine (lof_any (0) _ (by omega) (by omega)).mono ?_); rintro e w75 ⟨⟨v75_0, rfl, hv75_0⟩, x75⟩; have hz75 := hz73.trans x75)
    | (go_at_call 17; (with_reducible refine (add_any _ _ (a) (0) _ (HV3_0.out.ext (((((((((((((((((((((((((((((((((((((((xb5.trans x7).trans xb9).trans x11).trans xb13).trans x15).trans xb18).trans x20).trans xb23).trans x25).trans xb28).trans hz29).trans x30).trans x31).trans x32).trans x34).trans x35).trans x37).trans x38).trans x40).trans x42).trans x44).trans x46).trans x48).trans hz49).trans x51).trans x53).trans x55).trans x56).trans x58).trans x60).trans x62).trans x63).trans x65).trans x67).trans x69).trans x71).trans x72).trans hz73).trans x75)) hv75_0 (HF2.out.mono (by omega)) (HF74.out.mono (by omega))).mono ?_); rintro e w77 ⟨⟨v77_0, rfl, hv77_0⟩, x77⟩; have hz77 := hz75.trans x77)
    | (go_at_call 21; (with_reducible refine (same_eq _ _ (a + 0) (a) _ hv77_0 (HV3_0.out.ext ((((((((((((((((((((((((((((((((((((((((xb5.trans x7).trans xb9).trans x11).trans xb13).trans x15).trans xb18).trans x20).trans xb23).trans x25).trans xb28).trans hz29).trans x30).trans x31).trans x32).trans x34).trans x35).trans x37).trans x38).trans x40).trans x42).trans x44).trans x46).trans x48).trans hz49).trans x51).trans x53).trans x55).trans x56).trans x58).trans x60).trans x62).trans x63).trans x65).trans x67).trans x69).trans x71).trans x72).trans hz73).trans x75).trans x77)) (Int.add_zero a)).mono ?_); rintro e w78 ⟨rfl, x78⟩; have hz78 := hz77.trans x78)
    | (go_at_call 23; (with_reducible refine (lof_any (1) _ (by omega) (by omega)).mono ?_); rintro e w80 ⟨⟨v80_0, rfl, hv80_0⟩, x80⟩; have hz80 := hz78.trans x80)
    | (go_at_call 18; (with_reducible refine (mul_any _ _ (a) (1) _ (HV3_0.out.ext ((((((((((((((((((((((((((((((((((((((((((xb5.trans x7).trans xb9).trans x11).trans xb13).trans x15).trans xb18).trans x20).trans xb23).trans x25).trans xb28).trans hz29).trans x30).trans x31).trans x32).trans x34).trans x35).trans x37).trans x38).trans x40).trans x42).trans x44).trans x46).trans x48).trans hz49).trans x51).trans x53).trans x55).trans x56).trans x58).trans x60).trans x62).trans x63).trans x65).trans x67).trans x69).trans x71).trans x72).trans hz73).trans x75).trans x77).trans x78).trans x80)) hv80_0 (HF2.out.mono (by omega)) (HF79.out.mono (by omega))).mono ?_); rintro e w82 ⟨⟨v82_0, rfl, hv82_0⟩, x82⟩; have hz82 := hz80.trans x82)
    | (go_at_call 21; (with_reducible refine (same_eq _ _ (a * 1) (a) _ hv82_0 (HV3_0.out.ext (((((((((((((((((((((((((((((((((((((((((((xb5.trans x7).trans xb9).trans x11).trans xb13).trans x15).trans xb18).trans x20).trans xb23).trans x25).trans xb28).trans hz29).trans x30).trans x31).trans x32).trans x34).trans x35).trans x37).trans x38).trans x40).trans x42).trans x44).trans x46).trans x48).trans hz49).trans x51).trans x53).trans x55).trans x56).trans x58).trans x60).trans x62).trans x63).trans x65).trans x67).trans x69).trans x71).trans x72).trans hz73).trans x75).trans x77).trans x78).trans x80).trans x82)) (Int.mul_one a)).mono ?_); rintro e w83 ⟨rfl, x83⟩; have hz83 := hz82.trans x83)
    | (go_at_call 23; (with_reducible refine (lof_any (0) _ (by omega) (by omega)).mono ?_); rintro e w85 ⟨⟨v85_0, rfl, hv85_0⟩, x85⟩; have hz85 := hz83.trans x85)
    | (go_at_call 18; (with_reducible refine (mul_any _ _ (a) (0) _ (HV3_0.out.ext (((((((((((((((((((((((((((((((((((((((((((((xb5.trans x7).trans xb9).trans x11).trans xb13).trans x15).trans xb18).trans x20).trans xb23).trans x25).trans xb28).trans hz29).trans x30).trans x31).trans x32).trans x34).trans x35).trans x37).trans x38).trans x40).trans x42).trans x44).trans x46).trans x48).trans hz49).trans x51).trans x53).trans x55).trans x56).trans x58).trans x60).trans x62).trans x63).trans x65).trans x67).trans x69).trans x71).trans x72).trans hz73).trans x75).trans x77).trans x78).trans x80).trans x82).trans x83).trans x85)) hv85_0 (HF2.out.mono (by omega)) (HF84.out.mono (by omega))).mono ?_); rintro e w87 ⟨⟨v87_0, rfl, hv87_0⟩, x87⟩; have hz87 := hz85.trans x87)
    | (go_at_call 23; (with_reducible refine (lof_any (0) _ (by omega) (by omega)).mono ?_); rintro e w89 ⟨⟨v89_0, rfl, hv89_0⟩, x89⟩; have hz89 := hz87.trans x89)
    | (go_at_call 21; (with_reducible refine (same_eq _ _ (a * 0) (0) _ (hv87_0.ext x89) hv89_0 (Int.mul_zero a)).mono ?_); rintro e w90 ⟨rfl, x90⟩; have hz90 := hz89.trans x90)
    | (go_at_call 23; (with_reducible refine (lof_any (-1) _ (by omega) (by omega)).mono ?_); rintro e w92 ⟨⟨v92_0, rfl, hv92_0⟩, x92⟩; have hz92 := hz90.trans x92)
    | (go_at_call 18; (with_reducible refine (mul_any _ _ (a) (-1) _ (HV3_0.out.ext (((((((((((((((((((((((((((((((((((((((((((((((((xb5.trans x7).trans xb9).trans x11).trans xb13).trans x15).trans xb18).trans x20).trans xb23).trans x25).trans xb28).trans hz29).trans x30).trans x31).trans x32).trans x34).trans x35).trans x37).trans x38).trans x40).trans x42).trans x44).trans x46).trans x48).trans hz49).trans x51).trans x53).trans x55).trans x56).trans x58).trans x60).trans x62).trans x63).trans x65).trans x67).trans x69).trans x71).trans x72).trans hz73).trans x75).trans x77).trans x78).trans x80).trans x82).trans x83).trans x85).trans x87).trans x89).trans x90).trans x92)) hv92_0 (HF2.out.mono (by omega)) (HF91.out.mono (by omega))).mono ?_); rintro e w94 ⟨⟨v94_0, rfl, hv94_0⟩, x94⟩; have hz94 := hz92.trans x94)
    | (go_at_call 22; (with_reducible refine (neg_any _ (a) _ (HV3_0.out.ext ((((((((((((((((((((((((((((((((((((((((((((((((((xb5.trans x7).trans xb9).trans x11).trans xb13).trans x15).trans xb18).trans x20).trans xb23).trans x25).trans xb28).trans hz29).trans x30).trans x31).trans x32).trans x34).trans x35).trans x37).trans x38).trans x40).trans x42).trans x44).trans x46).trans x48).trans hz49).trans x51).trans x53).trans x55).trans x56).trans x58).trans x60).trans x62).trans x63).trans x65).trans x67).trans x69).trans x71).trans x72).trans hz73).trans x75).trans x77).trans x78).trans x80).trans x82).trans x83).trans x85).trans x87).trans x89).trans x90).trans x92).trans x94)) (HF2.out.mono (by omega))).mono ?_); rintro e w96 ⟨⟨v96_0, rfl, hv96_0⟩, x96⟩; have hz96 := hz94.trans x96)
    | (go_at_call 21; (with_reducible refine (same_eq _ _ (a * (-1)) (-a) _ (hv94_0.ext x96) hv96_0 HE97.out).mono ?_); rintro e w98 ⟨rfl, x98⟩; have hz98 := hz96.trans x98)
    | (go_at_call 19; (with_reducible refine (sub_any _ _ (a) (a) _ (HV3_0.out.ext ((((((((((((((((((((((((((((((((((((((((((((((((((((xb5.trans x7).trans xb9).trans x11).trans xb13).trans x15).trans xb18).trans x20).trans xb23).trans x25).trans xb28).trans hz29).trans x30).trans x31).trans x32).trans x34).trans x35).trans x37).trans x38).trans x40).trans x42).trans x44).trans x46).trans x48).trans hz49).trans x51).trans x53).trans x55).trans x56).trans x58).trans x60).trans x62).trans x63).trans x65).trans x67).trans x69).trans x71).trans x72).trans hz73).trans x75).trans x77).trans x78).trans x80).trans x82).trans x83).trans x85).trans x87).trans x89).trans x90).trans x92).trans x94).trans x96).trans x98)) (HV3_0.out.ext ((((((((((((((((((((((((((((((((((((((((((((((((((((xb5.trans x7).trans xb9).trans x11).trans xb13).trans x15).trans xb18).trans x20).trans xb23).trans x25).trans xb28).trans hz29).trans x30).trans x31).trans x32).trans x34).trans x35).trans x37).trans x38).trans x40).trans x42).trans x44).trans x46).trans x48).trans hz49).trans x51).trans x53).trans x55).trans x56).trans x58).trans x60).trans x62).trans x63).trans x65).trans x67).trans x69).trans x71).trans x72).trans hz73).trans x75).trans x77).trans x78).trans x80).trans x82).trans x83).trans x85).trans x87).trans x89).trans x90).trans x92).trans x94).trans x96).trans x98)) (HF2.out.mono (by omega)) (HF2.out.mono (by omega))).mono ?_); rintro e w100 ⟨⟨v100_0, rfl, hv100_0⟩, x100⟩; have hz100 := hz98.trans x100)
    | (go_at_call 23; (with_reducible refine (lof_any (0) _ (by omega) (by omega)).mono ?_); rintro e w102 ⟨⟨v102_0, rfl, hv102_0⟩, x102⟩; have hz102 := hz100.trans x102)
    | (go_at_call 21; (with_reducible refine (same_eq _ _ (a - a) (0) _ (hv100_0.ext x102) hv102_0 (Int.sub_self a)).mono ?_); rintro e w103 ⟨rfl, x103⟩; have hz103 := hz102.trans x103)
    )
  clear KX73
  go_wp2_with fail
  go_ret
  exact ⟨rfl, ((((((((((((((((((((((((((((((((((((((((((((((((((((((((((x0.trans x1).trans x3).trans xb5).trans x7).trans xb9).trans x11).trans xb13).trans x15).trans xb18).trans x20).trans xb23).trans x25).trans xb28).trans hz29).trans x30).trans x31).trans x32).trans x34).trans x35).trans x37).trans x38).trans x40).trans x42).trans x44).trans x46).trans x48).trans hz49).trans x51).trans x53).trans x55).trans x56).trans x58).trans x60).trans x62).trans x63).trans x65).trans x67).trans x69).trans x71).trans x72).trans hz73).trans x75).trans x77).trans x78).trans x80).trans x82).trans x83).trans x85).trans x87).trans x89).trans x90).trans x92).trans x94).trans x96).trans x98).trans x100).trans x102).trans x103)⟩
end Go.Proofs.YtddcgojpgdhefaaGreatDoor
