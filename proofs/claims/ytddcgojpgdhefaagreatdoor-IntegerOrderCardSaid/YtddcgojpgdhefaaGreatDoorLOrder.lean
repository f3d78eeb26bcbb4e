/- The law IntegerOrder, walked. -/
import Derived.Test.YtddcgojpgdhefaaGreatDoorLawLib
namespace Go.Proofs.YtddcgojpgdhefaaGreatDoor
open Go.RowKit Go.El
set_option linter.unusedVariables false
set_option maxRecDepth 100000 in
set_option maxHeartbeats 8000000 in
theorem order_lt (nx : Bool) (ax : Option Addr) (kx cx : Nat) (lx : List Int) (a : Int) (ea : a = rawZ nx lx 8) (ny : Bool) (ay : Option Addr) (ky cy : Nat) (ly : List Int) (b : Int) (eb : b = rawZ ny ly 8) (nz : Bool) (az : Option Addr) (kz cz : Nat) (lz : List Int) (c : Int) (ec : c = rawZ nz lz 8) (w : World) (hx : Words w ax kx cx lx) (hy : Words w ay ky cy ly) (hz : Words w az kz cz lz) (ho : sgn a b = -1) (s : Int) (hbc : sgn b c = s) (s0 : s ≤ 0) :
    Calls Tryz.prog 5 #[.agg #[.bool nx, .slice ax kx cx], .agg #[.bool ny, .slice ay ky cy], .agg #[.bool nz, .slice az kz cz]] w fun e w' => e = .returned (.bool true) ∧ Ext w w' := by
  have E_a := Lib.hid ea
  have HWx := Lib.hid hx
  clear ea hx
  have E_b := Lib.hid eb
  have HWy := Lib.hid hy
  clear eb hy
  have E_c := Lib.hid ec
  have HWz := Lib.hid hz
  clear ec hz
  have HO := Lib.hid ho
  clear ho
  obtain ⟨sc, hsc⟩ : ∃ sc, sc = sgn c 0 := ⟨_, rfl⟩
  have sc0 : -1 ≤ sc := by rw [hsc]; exact (sgn_bd _ _).1
  have sc1 : sc ≤ 1 := by rw [hsc]; exact (sgn_bd _ _).2
  have HSC := Lib.hid hsc
  clear hsc
  obtain ⟨sa, hsa⟩ : ∃ sa, sa = sgn a 0 := ⟨_, rfl⟩
  have HSA := Lib.hid hsa
  clear hsa
  have HBC := Lib.hid hbc
  clear hbc
  obtain ⟨B0, w0, hB0, hw0, hr0, hr1, hr2, x0⟩ := three w 25 25 25 [.bool nx, .slice ax kx cx] [.bool ny, .slice ay ky cy] [.bool nz, .slice az kz cz]
  have HF2 : Hid (Fits (a) 8) := Lib.hid (by rw [E_a.out]; exact fits_raw (HWx.out.wf) (by omega))
  have HF5 : Hid (Fits (b) 8) := Lib.hid (by rw [E_b.out]; exact fits_raw (HWy.out.wf) (by omega))
  have HF8 : Hid (Fits (c) 8) := Lib.hid (by rw [E_c.out]; exact fits_raw (HWz.out.wf) (by omega))
  have HE13 : Hid (sgn (b) (a) = 1) := Lib.hid (by have := sgn_swap a b; rw [HO.out] at this; omega)
  have HF15 : Hid (Fits (-a) 8) := Lib.hid (Fits.neg HF2.out)
  have HF17 : Hid (Fits (-b) 8) := Lib.hid (Fits.neg HF5.out)
  have HE19 : Hid (sgn (-a) (-b) = 1) := Lib.hid (by have := sgn_neg a b; rw [HO.out] at this; omega)
  have HF21 : Hid (Fits (a - b) 9) := Lib.hid (Fits.sub HF2.out HF5.out)
  have HE23 : Hid (sgn (a - b) 0 = -1) := Lib.hid (by rw [sgn_sub, HO.out])
  have HF28 : Hid (Fits (a + c) 9) := Lib.hid (Fits.add HF2.out HF8.out)
  have HF30 : Hid (Fits (b + c) 9) := Lib.hid (Fits.add HF5.out HF8.out)
  have HE32 : Hid (sgn (a + c) (b + c) = -1) := Lib.hid (by rw [sgn_add, HO.out])
  have HF34 : Hid (Fits (a * c) 16) := Lib.hid (Fits.mul HF2.out HF8.out)
  have HF36 : Hid (Fits (b * c) 16) := Lib.hid (Fits.mul HF5.out HF8.out)
  have HE38 : Hid (sgn (a * c) (b * c) = (-1) * sc) := Lib.hid (by rw [sgn_mul, HO.out, HSC.out])
  have HF41 : Hid (Fits (0) 1) := Lib.hid (fits_small (by decide) (by omega))
  have KB3 : Hid (∀ W, Ext w0 W → W.cell? ⟨B0, 0, none⟩ = some (.bool nx) ∧ W.cell? ⟨B0, 1, none⟩ = some (.slice ax kx cx)) := Lib.hid fun W h => ⟨h.cell (hr0.cell (i := 0) rfl), h.cell (hr0.cell (i := 1) rfl)⟩
  have KB4 : Hid (∀ W, Ext w0 W → W.cell? ⟨B0 + 1, 0, none⟩ = some (.bool ny) ∧ W.cell? ⟨B0 + 1, 1, none⟩ = some (.slice ay ky cy)) := Lib.hid fun W h => ⟨h.cell (hr1.cell (i := 0) rfl), h.cell (hr1.cell (i := 1) rfl)⟩
  have KB5 : Hid (∀ W, Ext w0 W → W.cell? ⟨B0 + 1 + 1, 0, none⟩ = some (.bool nz) ∧ W.cell? ⟨B0 + 1 + 1, 1, none⟩ = some (.slice az kz cz)) := Lib.hid fun W h => ⟨h.cell (hr2.cell (i := 0) rfl), h.cell (hr2.cell (i := 1) rfl)⟩
  clear hr0 hr1 hr2
  go_enter Tryz.func5, Tryz.ntmps5
  go_wp2_with fail
  rw [← hw0, ← hB0]
  clear hw0 hB0
  refine (sanity_any _).mono ?_
  rintro e w1 ⟨rfl, x1⟩
  obtain ⟨cc3_0, cc3_1⟩ := KB3.out w1 x1
  go_wp2_with fail
  clear cc3_0 cc3_1
  refine (Made_any nx ax kx cx lx 8 a _ (HWx.out.ext (x0.trans x1)) (by omega) E_a.out).mono ?_
  rintro e w3 ⟨⟨v3_0, rfl, ⟨s3_0, a3_0, n3_0, c3_0, rfl, hi3_0⟩⟩, x3⟩
  have HV3_0 : Hid (IntV w3 (.agg #[.bool s3_0, .slice a3_0 n3_0 c3_0]) (a)) := Lib.hid ⟨_, _, _, _, rfl, hi3_0⟩
  clear hi3_0
  obtain ⟨D4, wb4, hD4, hw4, hb4_0, xb4⟩ := one w3 24 [.bool s3_0, .slice a3_0 n3_0 c3_0]
  have KB8 : Hid (∀ W, Ext wb4 W → W.cell? ⟨D4, 0, none⟩ = some (.bool s3_0) ∧ W.cell? ⟨D4, 1, none⟩ = some (.slice a3_0 n3_0 c3_0)) := Lib.hid fun W h => ⟨h.cell (hb4_0.cell (i := 0) rfl), h.cell (hb4_0.cell (i := 1) rfl)⟩
  clear hb4_0
  obtain ⟨cc4_0, cc4_1⟩ := KB4.out wb4 ((x1.trans x3).trans xb4)
  have hq4 := hw4.symm
  have hp4 := hD4.symm
  clear hw4 hD4
  go_wp2_with fail
  clear hq4 hp4
  clear cc4_0 cc4_1
  refine (Made_any ny ay ky cy ly 8 b _ (HWy.out.ext (((x0.trans x1).trans x3).trans xb4)) (by omega) E_b.out).mono ?_
  rintro e w6 ⟨⟨v6_0, rfl, ⟨s6_0, a6_0, n6_0, c6_0, rfl, hi6_0⟩⟩, x6⟩
  have HV6_0 : Hid (IntV w6 (.agg #[.bool s6_0, .slice a6_0 n6_0 c6_0]) (b)) := Lib.hid ⟨_, _, _, _, rfl, hi6_0⟩
  clear hi6_0
  obtain ⟨D7, wb7, hD7, hw7, hb7_0, xb7⟩ := one w6 24 [.bool s6_0, .slice a6_0 n6_0 c6_0]
  have KB9 : Hid (∀ W, Ext wb7 W → W.cell? ⟨D7, 0, none⟩ = some (.bool s6_0) ∧ W.cell? ⟨D7, 1, none⟩ = some (.slice a6_0 n6_0 c6_0)) := Lib.hid fun W h => ⟨h.cell (hb7_0.cell (i := 0) rfl), h.cell (hb7_0.cell (i := 1) rfl)⟩
  clear hb7_0
  obtain ⟨cc5_0, cc5_1⟩ := KB5.out wb7 ((((x1.trans x3).trans xb4).trans x6).trans xb7)
  have hq7 := hw7.symm
  have hp7 := hD7.symm
  clear hw7 hD7
  go_wp2_with fail
  clear hq7 hp7
  clear cc5_0 cc5_1
  refine (Made_any nz az kz cz lz 8 c _ (HWz.out.ext (((((x0.trans x1).trans x3).trans xb4).trans x6).trans xb7)) (by omega) E_c.out).mono ?_
  rintro e w9 ⟨⟨v9_0, rfl, ⟨s9_0, a9_0, n9_0, c9_0, rfl, hi9_0⟩⟩, x9⟩
  have HV9_0 : Hid (IntV w9 (.agg #[.bool s9_0, .slice a9_0 n9_0 c9_0]) (c)) := Lib.hid ⟨_, _, _, _, rfl, hi9_0⟩
  clear hi9_0
  obtain ⟨D10, wb10, hD10, hw10, hb10_0, xb10⟩ := one w9 24 [.bool s9_0, .slice a9_0 n9_0 c9_0]
  have KB10 : Hid (∀ W, Ext wb10 W → W.cell? ⟨D10, 0, none⟩ = some (.bool s9_0) ∧ W.cell? ⟨D10, 1, none⟩ = some (.slice a9_0 n9_0 c9_0)) := Lib.hid fun W h => ⟨h.cell (hb10_0.cell (i := 0) rfl), h.cell (hb10_0.cell (i := 1) rfl)⟩
  clear hb10_0
  obtain ⟨cc8_0, cc8_1⟩ := KB8.out wb10 (((x6.trans xb7).trans x9).trans xb10)
  obtain ⟨cc9_0, cc9_1⟩ := KB9.out wb10 (x9.trans xb10)
  have hq10 := hw10.symm
  have hp10 := hD10.symm
  clear hw10 hD10
  go_wp2_with fail
  clear hq10 hp10
  clear cc8_0 cc8_1 cc9_0 cc9_1
  refine (cmp_is _ _ (a) (b) (-1) _ (HV3_0.out.ext ((((xb4.trans x6).trans xb7).trans x9).trans xb10)) (HV6_0.out.ext ((xb7.trans x9).trans xb10)) HO.out).mono ?_
  rintro e w11 ⟨rfl, x11⟩
  have wrn : IntKind.i64.wrap (1) = 1 := by decide
  have wrs : IntKind.i64.wrap (-sc) = -sc := IntWalk.i64_in _ (by omega)
  have wrs2 : IntKind.i64.wrap (-1 * sc) = -1 * sc := IntWalk.i64_in _ (by omega)
  have KX12 : Hid (∀ w', Ext w11 w' → w'.cell? ⟨D7, 0, none⟩ = some (.bool s6_0) ∧ w'.cell? ⟨D7, 1, none⟩ = some (.slice a6_0 n6_0 c6_0) ∧ w'.cell? ⟨D4, 0, none⟩ = some (.bool s3_0) ∧ w'.cell? ⟨D4, 1, none⟩ = some (.slice a3_0 n3_0 c3_0)) := Lib.hid fun w' h => by
    have q9 := KB9.out w' (((x9.trans xb10).trans x11).trans h)
    have q8 := KB8.out w' (((((x6.trans xb7).trans x9).trans xb10).trans x11).trans h)
    exact ⟨q9.1, q9.2, q8.1, q8.2⟩
  go_wp2_with fail
  have hz12 := Below.drewExt w11
  go_region_held3
    (fun w' => w'.cell? ⟨D7, 0, none⟩ = some (.bool s6_0) ∧ w'.cell? ⟨D7, 1, none⟩ = some (.slice a6_0 n6_0 c6_0) ∧ w'.cell? ⟨D4, 0, none⟩ = some (.bool s3_0) ∧ w'.cell? ⟨D4, 1, none⟩ = some (.slice a3_0 n3_0 c3_0))
    (with_reducible exact KX12.out _ (by assumption))
    (first
    | (go_at_call 16; (with_reducible refine (cmp_is _ _ (b) (a) (1) _ (HV6_0.out.ext ((((xb7.trans x9).trans xb10).trans x11).trans hz12)) (HV3_0.out.ext ((((((xb4.trans x6).trans xb7).trans x9).trans xb10).trans x11).trans hz12)) HE13.out).mono ?_); rintro e w14 ⟨rfl, x14⟩; have hz14 := hz12.trans x14)
    | (go_at_call 22; (with_reducible refine (neg_any _ (a) _ (HV3_0.out.ext (((((((xb4.trans x6).trans xb7).trans x9).trans xb10).trans x11).trans hz12).trans x14)) (HF2.out.mono (by omega))).mono ?_); rintro e w16 ⟨⟨v16_0, rfl, hv16_0⟩, x16⟩; have hz16 := hz14.trans x16)
    | (go_at_call 22; (with_reducible refine (neg_any _ (b) _ (HV6_0.out.ext ((((((xb7.trans x9).trans xb10).trans x11).trans hz12).trans x14).trans x16)) (HF5.out.mono (by omega))).mono ?_); rintro e w18 ⟨⟨v18_0, rfl, hv18_0⟩, x18⟩; have hz18 := hz16.trans x18)
    | (go_at_call 16; (with_reducible refine (cmp_is _ _ (-a) (-b) (1) _ (hv16_0.ext x18) hv18_0 HE19.out).mono ?_); rintro e w20 ⟨rfl, x20⟩; have hz20 := hz18.trans x20)
    | (go_at_call 19; (with_reducible refine (sub_any _ _ (a) (b) _ (HV3_0.out.ext ((((((((((xb4.trans x6).trans xb7).trans x9).trans xb10).trans x11).trans hz12).trans x14).trans x16).trans x18).trans x20)) (HV6_0.out.ext ((((((((xb7.trans x9).trans xb10).trans x11).trans hz12).trans x14).trans x16).trans x18).trans x20)) (HF2.out.mono (by omega)) (HF5.out.mono (by omega))).mono ?_); rintro e w22 ⟨⟨v22_0, rfl, hv22_0⟩, x22⟩; have hz22 := hz20.trans x22)
    | (go_at_call 24; (with_reducible refine (sign_is _ (a - b) (-1) _ hv22_0 HE23.out).mono ?_); rintro e w24 ⟨rfl, x24⟩; have hz24 := hz22.trans x24)
    )
  clear KX12
  obtain ⟨cc9_0, cc9_1⟩ := KB9.out w24 (((((((((x9.trans xb10).trans x11).trans hz12).trans x14).trans x16).trans x18).trans x20).trans x22).trans x24)
  obtain ⟨cc10_0, cc10_1⟩ := KB10.out w24 (((((((x11.trans hz12).trans x14).trans x16).trans x18).trans x20).trans x22).trans x24)
  go_wp2_with fail
  clear cc9_0 cc9_1 cc10_0 cc10_1
  refine (cmp_is _ _ (b) (c) (s) _ (HV6_0.out.ext ((((((((((xb7.trans x9).trans xb10).trans x11).trans hz12).trans x14).trans x16).trans x18).trans x20).trans x22).trans x24)) (HV9_0.out.ext ((((((((xb10.trans x11).trans hz12).trans x14).trans x16).trans x18).trans x20).trans x22).trans x24)) HBC.out).mono ?_
  rintro e w25 ⟨rfl, x25⟩
  obtain ⟨cc8_0, cc8_1⟩ := KB8.out w25 ((((((((((((x6.trans xb7).trans x9).trans xb10).trans x11).trans hz12).trans x14).trans x16).trans x18).trans x20).trans x22).trans x24).trans x25)
  obtain ⟨cc10_0, cc10_1⟩ := KB10.out w25 ((((((((x11.trans hz12).trans x14).trans x16).trans x18).trans x20).trans x22).trans x24).trans x25)
  go_wp2_with fail
  clear cc8_0 cc8_1 cc10_0 cc10_1
  refine (cmp_is _ _ (a) (c) (-1) _ (HV3_0.out.ext (((((((((((((xb4.trans x6).trans xb7).trans x9).trans xb10).trans x11).trans hz12).trans x14).trans x16).trans x18).trans x20).trans x22).trans x24).trans x25)) (HV9_0.out.ext (((((((((xb10.trans x11).trans hz12).trans x14).trans x16).trans x18).trans x20).trans x22).trans x24).trans x25)) (sgn_trans HO.out (by rw [HBC.out]; omega))).mono ?_
  rintro e w26 ⟨rfl, x26⟩
  have KX27 : Hid (∀ w', Ext w26 w' → w'.cell? ⟨D4, 0, none⟩ = some (.bool s3_0) ∧ w'.cell? ⟨D4, 1, none⟩ = some (.slice a3_0 n3_0 c3_0) ∧ w'.cell? ⟨D10, 0, none⟩ = some (.bool s9_0) ∧ w'.cell? ⟨D10, 1, none⟩ = some (.slice a9_0 n9_0 c9_0) ∧ w'.cell? ⟨D7, 0, none⟩ = some (.bool s6_0) ∧ w'.cell? ⟨D7, 1, none⟩ = some (.slice a6_0 n6_0 c6_0)) := Lib.hid fun w' h => by
    have q8 := KB8.out w' ((((((((((((((x6.trans xb7).trans x9).trans xb10).trans x11).trans hz12).trans x14).trans x16).trans x18).trans x20).trans x22).trans x24).trans x25).trans x26).trans h)
    have q10 := KB10.out w' ((((((((((x11.trans hz12).trans x14).trans x16).trans x18).trans x20).trans x22).trans x24).trans x25).trans x26).trans h)
    have q9 := KB9.out w' ((((((((((((x9.trans xb10).trans x11).trans hz12).trans x14).trans x16).trans x18).trans x20).trans x22).trans x24).trans x25).trans x26).trans h)
    exact ⟨q8.1, q8.2, q10.1, q10.2, q9.1, q9.2⟩
  go_wp2_with fail
  have hz27 := Below.drewExt w26
  go_region_held3
    (fun w' => w'.cell? ⟨D4, 0, none⟩ = some (.bool s3_0) ∧ w'.cell? ⟨D4, 1, none⟩ = some (.slice a3_0 n3_0 c3_0) ∧ w'.cell? ⟨D10, 0, none⟩ = some (.bool s9_0) ∧ w'.cell? ⟨D10, 1, none⟩ = some (.slice a9_0 n9_0 c9_0) ∧ w'.cell? ⟨D7, 0, none⟩ = some (.bool s6_0) ∧ w'.cell? ⟨D7, 1, none⟩ = some (.slice a6_0 n6_0 c6_0))
    (with_reducible exact KX27.out _ (by assumption))
    (first
    | (go_at_call 17; (with_reducible refine (add_any _ _ (a) (c) _ (HV3_0.out.ext (((((((((((((((xb4.trans x6).trans xb7).trans x9).trans xb10).trans x11).trans hz12).trans x14).trans x16).trans x18).trans x20).trans x22).trans x24).trans x25).trans x26).trans hz27)) (HV9_0.out.ext (((((((((((xb10.trans x11).trans hz12).trans x14).trans x16).trans x18).trans x20).trans x22).trans x24).trans x25).trans x26).trans hz27)) (HF2.out.mono (by omega)) (HF8.out.mono (by omega))).mono ?_); rintro e w29 ⟨⟨v29_0, rfl, hv29_0⟩, x29⟩; have hz29 := hz27.trans x29)
    | (go_at_call 17; (with_reducible refine (add_any _ _ (b) (c) _ (HV6_0.out.ext ((((((((((((((xb7.trans x9).trans xb10).trans x11).trans hz12).trans x14).trans x16).trans x18).trans x20).trans x22).trans x24).trans x25).trans x26).trans hz27).trans x29)) (HV9_0.out.ext ((((((((((((xb10.trans x11).trans hz12).trans x14).trans x16).trans x18).trans x20).trans x22).trans x24).trans x25).trans x26).trans hz27).trans x29)) (HF5.out.mono (by omega)) (HF8.out.mono (by omega))).mono ?_); rintro e w31 ⟨⟨v31_0, rfl, hv31_0⟩, x31⟩; have hz31 := hz29.trans x31)
    | (go_at_call 16; (with_reducible refine (cmp_is _ _ (a + c) (b + c) (-1) _ (hv29_0.ext x31) hv31_0 HE32.out).mono ?_); rintro e w33 ⟨rfl, x33⟩; have hz33 := hz31.trans x33)
    | (go_at_call 18; (with_reducible refine (mul_any _ _ (a) (c) _ (HV3_0.out.ext ((((((((((((((((((xb4.trans x6).trans xb7).trans x9).trans xb10).trans x11).trans hz12).trans x14).trans x16).trans x18).trans x20).trans x22).trans x24).trans x25).trans x26).trans hz27).trans x29).trans x31).trans x33)) (HV9_0.out.ext ((((((((((((((xb10.trans x11).trans hz12).trans x14).trans x16).trans x18).trans x20).trans x22).trans x24).trans x25).trans x26).trans hz27).trans x29).trans x31).trans x33)) (HF2.out.mono (by omega)) (HF8.out.mono (by omega))).mono ?_); rintro e w35 ⟨⟨v35_0, rfl, hv35_0⟩, x35⟩; have hz35 := hz33.trans x35)
    | (go_at_call 18; (with_reducible refine (mul_any _ _ (b) (c) _ (HV6_0.out.ext (((((((((((((((((xb7.trans x9).trans xb10).trans x11).trans hz12).trans x14).trans x16).trans x18).trans x20).trans x22).trans x24).trans x25).trans x26).trans hz27).trans x29).trans x31).trans x33).trans x35)) (HV9_0.out.ext (((((((((((((((xb10.trans x11).trans hz12).trans x14).trans x16).trans x18).trans x20).trans x22).trans x24).trans x25).trans x26).trans hz27).trans x29).trans x31).trans x33).trans x35)) (HF5.out.mono (by omega)) (HF8.out.mono (by omega))).mono ?_); rintro e w37 ⟨⟨v37_0, rfl, hv37_0⟩, x37⟩; have hz37 := hz35.trans x37)
    | (go_at_call 16; (with_reducible refine (cmp_is _ _ (a * c) (b * c) ((-1) * sc) _ (hv35_0.ext x37) hv37_0 HE38.out).mono ?_); rintro e w39 ⟨rfl, x39⟩; have hz39 := hz37.trans x39)
    | (go_at_call 24; (with_reducible refine (sign_is _ (c) (sc) _ (HV9_0.out.ext (((((((((((((((((xb10.trans x11).trans hz12).trans x14).trans x16).trans x18).trans x20).trans x22).trans x24).trans x25).trans x26).trans hz27).trans x29).trans x31).trans x33).trans x35).trans x37).trans x39)) HSC.out.symm).mono ?_); rintro e w40 ⟨rfl, x40⟩; have hz40 := hz39.trans x40)
    | (go_at_call 23; (with_reducible refine (lof_any (0) _ (by omega) (by omega)).mono ?_); rintro e w42 ⟨⟨v42_0, rfl, hv42_0⟩, x42⟩; have hz42 := hz40.trans x42)
    | (go_at_call 16; (with_reducible refine (cmp_is _ _ (a) (0) (sa) _ (HV3_0.out.ext (((((((((((((((((((((((xb4.trans x6).trans xb7).trans x9).trans xb10).trans x11).trans hz12).trans x14).trans x16).trans x18).trans x20).trans x22).trans x24).trans x25).trans x26).trans hz27).trans x29).trans x31).trans x33).trans x35).trans x37).trans x39).trans x40).trans x42)) hv42_0 HSA.out.symm).mono ?_); rintro e w43 ⟨rfl, x43⟩; have hz43 := hz42.trans x43)
    | (go_at_call 24; (with_reducible refine (sign_is _ (a) (sa) _ (HV3_0.out.ext ((((((((((((((((((((((((xb4.trans x6).trans xb7).trans x9).trans xb10).trans x11).trans hz12).trans x14).trans x16).trans x18).trans x20).trans x22).trans x24).trans x25).trans x26).trans hz27).trans x29).trans x31).trans x33).trans x35).trans x37).trans x39).trans x40).trans x42).trans x43)) HSA.out.symm).mono ?_); rintro e w44 ⟨rfl, x44⟩; have hz44 := hz43.trans x44)
    )
  clear KX27
  go_wp2_with fail
  go_ret
  exact ⟨rfl, ((((((((((((((((((((((((((((x0.trans x1).trans x3).trans xb4).trans x6).trans xb7).trans x9).trans xb10).trans x11).trans hz12).trans x14).trans x16).trans x18).trans x20).trans x22).trans x24).trans x25).trans x26).trans hz27).trans x29).trans x31).trans x33).trans x35).trans x37).trans x39).trans x40).trans x42).trans x43).trans x44)⟩
set_option maxRecDepth 100000 in
set_option maxHeartbeats 8000000 in
theorem order_ltgt (nx : Bool) (ax : Option Addr) (kx cx : Nat) (lx : List Int) (a : Int) (ea : a = rawZ nx lx 8) (ny : Bool) (ay : Option Addr) (ky cy : Nat) (ly : List Int) (b : Int) (eb : b = rawZ ny ly 8) (nz : Bool) (az : Option Addr) (kz cz : Nat) (lz : List Int) (c : Int) (ec : c = rawZ nz lz 8) (w : World) (hx : Words w ax kx cx lx) (hy : Words w ay ky cy ly) (hz : Words w az kz cz lz) (ho : sgn a b = -1) (hbc : sgn b c = 1) :
    Calls Tryz.prog 5 #[.agg #[.bool nx, .slice ax kx cx], .agg #[.bool ny, .slice ay ky cy], .agg #[.bool nz, .slice az kz cz]] w fun e w' => e = .returned (.bool true) ∧ Ext w w' := by
  have E_a := Lib.hid ea
  have HWx := Lib.hid hx
  clear ea hx
  have E_b := Lib.hid eb
  have HWy := Lib.hid hy
  clear eb hy
  have E_c := Lib.hid ec
  have HWz := Lib.hid hz
  clear ec hz
  have HO := Lib.hid ho
  clear ho
  obtain ⟨sc, hsc⟩ : ∃ sc, sc = sgn c 0 := ⟨_, rfl⟩
  have sc0 : -1 ≤ sc := by rw [hsc]; exact (sgn_bd _ _).1
  have sc1 : sc ≤ 1 := by rw [hsc]; exact (sgn_bd _ _).2
  have HSC := Lib.hid hsc
  clear hsc
  obtain ⟨sa, hsa⟩ : ∃ sa, sa = sgn a 0 := ⟨_, rfl⟩
  have HSA := Lib.hid hsa
  clear hsa
  have HBC := Lib.hid hbc
  clear hbc
  obtain ⟨B0, w0, hB0, hw0, hr0, hr1, hr2, x0⟩ := three w 25 25 25 [.bool nx, .slice ax kx cx] [.bool ny, .slice ay ky cy] [.bool nz, .slice az kz cz]
  have HF2 : Hid (Fits (a) 8) := Lib.hid (by rw [E_a.out]; exact fits_raw (HWx.out.wf) (by omega))
  have HF5 : Hid (Fits (b) 8) := Lib.hid (by rw [E_b.out]; exact fits_raw (HWy.out.wf) (by omega))
  have HF8 : Hid (Fits (c) 8) := Lib.hid (by rw [E_c.out]; exact fits_raw (HWz.out.wf) (by omega))
  have HE13 : Hid (sgn (b) (a) = 1) := Lib.hid (by have := sgn_swap a b; rw [HO.out] at this; omega)
  have HF15 : Hid (Fits (-a) 8) := Lib.hid (Fits.neg HF2.out)
  have HF17 : Hid (Fits (-b) 8) := Lib.hid (Fits.neg HF5.out)
  have HE19 : Hid (sgn (-a) (-b) = 1) := Lib.hid (by have := sgn_neg a b; rw [HO.out] at this; omega)
  have HF21 : Hid (Fits (a - b) 9) := Lib.hid (Fits.sub HF2.out HF5.out)
  have HE23 : Hid (sgn (a - b) 0 = -1) := Lib.hid (by rw [sgn_sub, HO.out])
  have HF27 : Hid (Fits (a + c) 9) := Lib.hid (Fits.add HF2.out HF8.out)
  have HF29 : Hid (Fits (b + c) 9) := Lib.hid (Fits.add HF5.out HF8.out)
  have HE31 : Hid (sgn (a + c) (b + c) = -1) := Lib.hid (by rw [sgn_add, HO.out])
  have HF33 : Hid (Fits (a * c) 16) := Lib.hid (Fits.mul HF2.out HF8.out)
  have HF35 : Hid (Fits (b * c) 16) := Lib.hid (Fits.mul HF5.out HF8.out)
  have HE37 : Hid (sgn (a * c) (b * c) = (-1) * sc) := Lib.hid (by rw [sgn_mul, HO.out, HSC.out])
  have HF40 : Hid (Fits (0) 1) := Lib.hid (fits_small (by decide) (by omega))
  have KB3 : Hid (∀ W, Ext w0 W → W.cell? ⟨B0, 0, none⟩ = some (.bool nx) ∧ W.cell? ⟨B0, 1, none⟩ = some (.slice ax kx cx)) := Lib.hid fun W h => ⟨h.cell (hr0.cell (i := 0) rfl), h.cell (hr0.cell (i := 1) rfl)⟩
  have KB4 : Hid (∀ W, Ext w0 W → W.cell? ⟨B0 + 1, 0, none⟩ = some (.bool ny) ∧ W.cell? ⟨B0 + 1, 1, none⟩ = some (.slice ay ky cy)) := Lib.hid fun W h => ⟨h.cell (hr1.cell (i := 0) rfl), h.cell (hr1.cell (i := 1) rfl)⟩
  have KB5 : Hid (∀ W, Ext w0 W → W.cell? ⟨B0 + 1 + 1, 0, none⟩ = some (.bool nz) ∧ W.cell? ⟨B0 + 1 + 1, 1, none⟩ = some (.slice az kz cz)) := Lib.hid fun W h => ⟨h.cell (hr2.cell (i := 0) rfl), h.cell (hr2.cell (i := 1) rfl)⟩
  clear hr0 hr1 hr2
  go_enter Tryz.func5, Tryz.ntmps5
  go_wp2_with fail
  rw [← hw0, ← hB0]
  clear hw0 hB0
  refine (sanity_any _).mono ?_
  rintro e w1 ⟨rfl, x1⟩
  obtain ⟨cc3_0, cc3_1⟩ := KB3.out w1 x1
  go_wp2_with fail
  clear cc3_0 cc3_1
  refine (Made_any nx ax kx cx lx 8 a _ (HWx.out.ext (x0.trans x1)) (by omega) E_a.out).mono ?_
  rintro e w3 ⟨⟨v3_0, rfl, ⟨s3_0, a3_0, n3_0, c3_0, rfl, hi3_0⟩⟩, x3⟩
  have HV3_0 : Hid (IntV w3 (.agg #[.bool s3_0, .slice a3_0 n3_0 c3_0]) (a)) := Lib.hid ⟨_, _, _, _, rfl, hi3_0⟩
  clear hi3_0
  obtain ⟨D4, wb4, hD4, hw4, hb4_0, xb4⟩ := one w3 24 [.bool s3_0, .slice a3_0 n3_0 c3_0]
  have KB8 : Hid (∀ W, Ext wb4 W → W.cell? ⟨D4, 0, none⟩ = some (.bool s3_0) ∧ W.cell? ⟨D4, 1, none⟩ = some (.slice a3_0 n3_0 c3_0)) := Lib.hid fun W h => ⟨h.cell (hb4_0.cell (i := 0) rfl), h.cell (hb4_0.cell (i := 1) rfl)⟩
  clear hb4_0
  obtain ⟨cc4_0, cc4_1⟩ := KB4.out wb4 ((x1.trans x3).trans xb4)
  have hq4 := hw4.symm
  have hp4 := hD4.symm
  clear hw4 hD4
  go_wp2_with fail
  clear hq4 hp4
  clear cc4_0 cc4_1
  refine (Made_any ny ay ky cy ly 8 b _ (HWy.out.ext (((x0.trans x1).trans x3).trans xb4)) (by omega) E_b.out).mono ?_
  rintro e w6 ⟨⟨v6_0, rfl, ⟨s6_0, a6_0, n6_0, c6_0, rfl, hi6_0⟩⟩, x6⟩
  have HV6_0 : Hid (IntV w6 (.agg #[.bool s6_0, .slice a6_0 n6_0 c6_0]) (b)) := Lib.hid ⟨_, _, _, _, rfl, hi6_0⟩
  clear hi6_0
  obtain ⟨D7, wb7, hD7, hw7, hb7_0, xb7⟩ := one w6 24 [.bool s6_0, .slice a6_0 n6_0 c6_0]
  have KB9 : Hid (∀ W, Ext wb7 W → W.cell? ⟨D7, 0, none⟩ = some (.bool s6_0) ∧ W.cell? ⟨D7, 1, none⟩ = some (.slice a6_0 n6_0 c6_0)) := Lib.hid fun W h => ⟨h.cell (hb7_0.cell (i := 0) rfl), h.cell (hb7_0.cell (i := 1) rfl)⟩
  clear hb7_0
  obtain ⟨cc5_0, cc5_1⟩ := KB5.out wb7 ((((x1.trans x3).trans xb4).trans x6).trans xb7)
  have hq7 := hw7.symm
  have hp7 := hD7.symm
  clear hw7 hD7
  go_wp2_with fail
  clear hq7 hp7
  clear cc5_0 cc5_1
  refine (Made_any nz az kz cz lz 8 c _ (HWz.out.ext (((((x0.trans x1).trans x3).trans xb4).trans x6).trans xb7)) (by omega) E_c.out).mono ?_
  rintro e w9 ⟨⟨v9_0, rfl, ⟨s9_0, a9_0, n9_0, c9_0, rfl, hi9_0⟩⟩, x9⟩
  have HV9_0 : Hid (IntV w9 (.agg #[.bool s9_0, .slice a9_0 n9_0 c9_0]) (c)) := Lib.hid ⟨_, _, _, _, rfl, hi9_0⟩
  clear hi9_0
  obtain ⟨D10, wb10, hD10, hw10, hb10_0, xb10⟩ := one w9 24 [.bool s9_0, .slice a9_0 n9_0 c9_0]
  have KB10 : Hid (∀ W, Ext wb10 W → W.cell? ⟨D10, 0, none⟩ = some (.bool s9_0) ∧ W.cell? ⟨D10, 1, none⟩ = some (.slice a9_0 n9_0 c9_0)) := Lib.hid fun W h => ⟨h.cell (hb10_0.cell (i := 0) rfl), h.cell (hb10_0.cell (i := 1) rfl)⟩
  clear hb10_0
  obtain ⟨cc8_0, cc8_1⟩ := KB8.out wb10 (((x6.trans xb7).trans x9).trans xb10)
  obtain ⟨cc9_0, cc9_1⟩ := KB9.out wb10 (x9.trans xb10)
  have hq10 := hw10.symm
  have hp10 := hD10.symm
  clear hw10 hD10
  go_wp2_with fail
  clear hq10 hp10
  clear cc8_0 cc8_1 cc9_0 cc9_1
  refine (cmp_is _ _ (a) (b) (-1) _ (HV3_0.out.ext ((((xb4.trans x6).trans xb7).trans x9).trans xb10)) (HV6_0.out.ext ((xb7.trans x9).trans xb10)) HO.out).mono ?_
  rintro e w11 ⟨rfl, x11⟩
  have wrn : IntKind.i64.wrap (1) = 1 := by decide
  have wrs : IntKind.i64.wrap (-sc) = -sc := IntWalk.i64_in _ (by omega)
  have wrs2 : IntKind.i64.wrap (-1 * sc) = -1 * sc := IntWalk.i64_in _ (by omega)
  have KX12 : Hid (∀ w', Ext w11 w' → w'.cell? ⟨D7, 0, none⟩ = some (.bool s6_0) ∧ w'.cell? ⟨D7, 1, none⟩ = some (.slice a6_0 n6_0 c6_0) ∧ w'.cell? ⟨D4, 0, none⟩ = some (.bool s3_0) ∧ w'.cell? ⟨D4, 1, none⟩ = some (.slice a3_0 n3_0 c3_0)) := Lib.hid fun w' h => by
    have q9 := KB9.out w' (((x9.trans xb10).trans x11).trans h)
    have q8 := KB8.out w' (((((x6.trans xb7).trans x9).trans xb10).trans x11).trans h)
    exact ⟨q9.1, q9.2, q8.1, q8.2⟩
  go_wp2_with fail
  have hz12 := Below.drewExt w11
  go_region_held3
    (fun w' => w'.cell? ⟨D7, 0, none⟩ = some (.bool s6_0) ∧ w'.cell? ⟨D7, 1, none⟩ = some (.slice a6_0 n6_0 c6_0) ∧ w'.cell? ⟨D4, 0, none⟩ = some (.bool s3_0) ∧ w'.cell? ⟨D4, 1, none⟩ = some (.slice a3_0 n3_0 c3_0))
    (with_reducible exact KX12.out _ (by assumption))
    (first
    | (go_at_call 16; (with_reducible refine (cmp_is _ _ (b) (a) (1) _ (HV6_0.out.ext ((((xb7.trans x9).trans xb10).trans x11).trans hz12)) (HV3_0.out.ext ((((((xb4.trans x6).trans xb7).trans x9).trans xb10).trans x11).trans hz12)) HE13.out).mono ?_); rintro e w14 ⟨rfl, x14⟩; have hz14 := hz12.trans x14)
    | (go_at_call 22; (with_reducible refine (neg_any _ (a) _ (HV3_0.out.ext (((((((xb4.trans x6).trans xb7).trans x9).trans xb10).trans x11).trans hz12).trans x14)) (HF2.out.mono (by omega))).mono ?_); rintro e w16 ⟨⟨v16_0, rfl, hv16_0⟩, x16⟩; have hz16 := hz14.trans x16)
    | (go_at_call 22; (with_reducible refine (neg_any _ (b) _ (HV6_0.out.ext ((((((xb7.trans x9).trans xb10).trans x11).trans hz12).trans x14).trans x16)) (HF5.out.mono (by omega))).mono ?_); rintro e w18 ⟨⟨v18_0, rfl, hv18_0⟩, x18⟩; have hz18 := hz16.trans x18)
    | (go_at_call 16; (with_reducible refine (cmp_is _ _ (-a) (-b) (1) _ (hv16_0.ext x18) hv18_0 HE19.out).mono ?_); rintro e w20 ⟨rfl, x20⟩; have hz20 := hz18.trans x20)
    | (go_at_call 19; (with_reducible refine (sub_any _ _ (a) (b) _ (HV3_0.out.ext ((((((((((xb4.trans x6).trans xb7).trans x9).trans xb10).trans x11).trans hz12).trans x14).trans x16).trans x18).trans x20)) (HV6_0.out.ext ((((((((xb7.trans x9).trans xb10).trans x11).trans hz12).trans x14).trans x16).trans x18).trans x20)) (HF2.out.mono (by omega)) (HF5.out.mono (by omega))).mono ?_); rintro e w22 ⟨⟨v22_0, rfl, hv22_0⟩, x22⟩; have hz22 := hz20.trans x22)
    | (go_at_call 24; (with_reducible refine (sign_is _ (a - b) (-1) _ hv22_0 HE23.out).mono ?_); rintro e w24 ⟨rfl, x24⟩; have hz24 := hz22.trans x24)
    )
  clear KX12
  obtain ⟨cc9_0, cc9_1⟩ := KB9.out w24 (((((((((x9.trans xb10).trans x11).trans hz12).trans x14).trans x16).trans x18).trans x20).trans x22).trans x24)
  obtain ⟨cc10_0, cc10_1⟩ := KB10.out w24 (((((((x11.trans hz12).trans x14).trans x16).trans x18).trans x20).trans x22).trans x24)
  go_wp2_with fail
  clear cc9_0 cc9_1 cc10_0 cc10_1
  refine (cmp_is _ _ (b) (c) (1) _ (HV6_0.out.ext ((((((((((xb7.trans x9).trans xb10).trans x11).trans hz12).trans x14).trans x16).trans x18).trans x20).trans x22).trans x24)) (HV9_0.out.ext ((((((((xb10.trans x11).trans hz12).trans x14).trans x16).trans x18).trans x20).trans x22).trans x24)) HBC.out).mono ?_
  rintro e w25 ⟨rfl, x25⟩
  have KX26 : Hid (∀ w', Ext w25 w' → w'.cell? ⟨D4, 0, none⟩ = some (.bool s3_0) ∧ w'.cell? ⟨D4, 1, none⟩ = some (.slice a3_0 n3_0 c3_0) ∧ w'.cell? ⟨D10, 0, none⟩ = some (.bool s9_0) ∧ w'.cell? ⟨D10, 1, none⟩ = some (.slice a9_0 n9_0 c9_0) ∧ w'.cell? ⟨D7, 0, none⟩ = some (.bool s6_0) ∧ w'.cell? ⟨D7, 1, none⟩ = some (.slice a6_0 n6_0 c6_0)) := Lib.hid fun w' h => by
    have q8 := KB8.out w' (((((((((((((x6.trans xb7).trans x9).trans xb10).trans x11).trans hz12).trans x14).trans x16).trans x18).trans x20).trans x22).trans x24).trans x25).trans h)
    have q10 := KB10.out w' (((((((((x11.trans hz12).trans x14).trans x16).trans x18).trans x20).trans x22).trans x24).trans x25).trans h)
    have q9 := KB9.out w' (((((((((((x9.trans xb10).trans x11).trans hz12).trans x14).trans x16).trans x18).trans x20).trans x22).trans x24).trans x25).trans h)
    exact ⟨q8.1, q8.2, q10.1, q10.2, q9.1, q9.2⟩
  go_wp2_with fail
  have hz26 := Below.drewExt w25
  go_region_held3
    (fun w' => w'.cell? ⟨D4, 0, none⟩ = some (.bool s3_0) ∧ w'.cell? ⟨D4, 1, none⟩ = some (.slice a3_0 n3_0 c3_0) ∧ w'.cell? ⟨D10, 0, none⟩ = some (.bool s9_0) ∧ w'.cell? ⟨D10, 1, none⟩ = some (.slice a9_0 n9_0 c9_0) ∧ w'.cell? ⟨D7, 0, none⟩ = some (.bool s6_0) ∧ w'.cell? ⟨D7, 1, none⟩ = some (.slice a6_0 n6_0 c6_0))
    (with_reducible exact KX26.out _ (by assumption))
    (first
    | (go_at_call 17; (with_reducible refine (add_any _ _ (a) (c) _ (HV3_0.out.ext ((((((((((((((xb4.trans x6).trans xb7).trans x9).trans xb10).trans x11).trans hz12).trans x14).trans x16).trans x18).trans x20).trans x22).trans x24).trans x25).trans hz26)) (HV9_0.out.ext ((((((((((xb10.trans x11).trans hz12).trans x14).trans x16).trans x18).trans x20).trans x22).trans x24).trans x25).trans hz26)) (HF2.out.mono (by omega)) (HF8.out.mono (by omega))).mono ?_); rintro e w28 ⟨⟨v28_0, rfl, hv28_0⟩, x28⟩; have hz28 := hz26.trans x28)
    | (go_at_call 17; (with_reducible refine (add_any _ _ (b) (c) _ (HV6_0.out.ext (((((((((((((xb7.trans x9).trans xb10).trans x11).trans hz12).trans x14).trans x16).trans x18).trans x20).trans x22).trans x24).trans x25).trans hz26).trans x28)) (HV9_0.out.ext (((((((((((xb10.trans x11).trans hz12).trans x14).trans x16).trans x18).trans x20).trans x22).trans x24).trans x25).trans hz26).trans x28)) (HF5.out.mono (by omega)) (HF8.out.mono (by omega))).mono ?_); rintro e w30 ⟨⟨v30_0, rfl, hv30_0⟩, x30⟩; have hz30 := hz28.trans x30)
    | (go_at_call 16; (with_reducible refine (cmp_is _ _ (a + c) (b + c) (-1) _ (hv28_0.ext x30) hv30_0 HE31.out).mono ?_); rintro e w32 ⟨rfl, x32⟩; have hz32 := hz30.trans x32)
    | (go_at_call 18; (with_reducible refine (mul_any _ _ (a) (c) _ (HV3_0.out.ext (((((((((((((((((xb4.trans x6).trans xb7).trans x9).trans xb10).trans x11).trans hz12).trans x14).trans x16).trans x18).trans x20).trans x22).trans x24).trans x25).trans hz26).trans x28).trans x30).trans x32)) (HV9_0.out.ext (((((((((((((xb10.trans x11).trans hz12).trans x14).trans x16).trans x18).trans x20).trans x22).trans x24).trans x25).trans hz26).trans x28).trans x30).trans x32)) (HF2.out.mono (by omega)) (HF8.out.mono (by omega))).mono ?_); rintro e w34 ⟨⟨v34_0, rfl, hv34_0⟩, x34⟩; have hz34 := hz32.trans x34)
    | (go_at_call 18; (with_reducible refine (mul_any _ _ (b) (c) _ (HV6_0.out.ext ((((((((((((((((xb7.trans x9).trans xb10).trans x11).trans hz12).trans x14).trans x16).trans x18).trans x20).trans x22).trans x24).trans x25).trans hz26).trans x28).trans x30).trans x32).trans x34)) (HV9_0.out.ext ((((((((((((((xb10.trans x11).trans hz12).trans x14).trans x16).trans x18).trans x20).trans x22).trans x24).trans x25).trans hz26).trans x28).trans x30).trans x32).trans x34)) (HF5.out.mono (by omega)) (HF8.out.mono (by omega))).mono ?_); rintro e w36 ⟨⟨v36_0, rfl, hv36_0⟩, x36⟩; have hz36 := hz34.trans x36)
    | (go_at_call 16; (with_reducible refine (cmp_is _ _ (a * c) (b * c) ((-1) * sc) _ (hv34_0.ext x36) hv36_0 HE37.out).mono ?_); rintro e w38 ⟨rfl, x38⟩; have hz38 := hz36.trans x38)
    | (go_at_call 24; (with_reducible refine (sign_is _ (c) (sc) _ (HV9_0.out.ext ((((((((((((((((xb10.trans x11).trans hz12).trans x14).trans x16).trans x18).trans x20).trans x22).trans x24).trans x25).trans hz26).trans x28).trans x30).trans x32).trans x34).trans x36).trans x38)) HSC.out.symm).mono ?_); rintro e w39 ⟨rfl, x39⟩; have hz39 := hz38.trans x39)
    | (go_at_call 23; (with_reducible refine (lof_any (0) _ (by omega) (by omega)).mono ?_); rintro e w41 ⟨⟨v41_0, rfl, hv41_0⟩, x41⟩; have hz41 := hz39.trans x41)
    | (go_at_call 16; (with_reducible refine (cmp_is _ _ (a) (0) (sa) _ (HV3_0.out.ext ((((((((((((((((((((((xb4.trans x6).trans xb7).trans x9).trans xb10).trans x11).trans hz12).trans x14).trans x16).trans x18).trans x20).trans x22).trans x24).trans x25).trans hz26).trans x28).trans x30).trans x32).trans x34).trans x36).trans x38).trans x39).trans x41)) hv41_0 HSA.out.symm).mono ?_); rintro e w42 ⟨rfl, x42⟩; have hz42 := hz41.trans x42)
    | (go_at_call 24; (with_reducible refine (sign_is _ (a) (sa) _ (HV3_0.out.ext (((((((((((((((((((((((xb4.trans x6).trans xb7).trans x9).trans xb10).trans x11).trans hz12).trans x14).trans x16).trans x18).trans x20).trans x22).trans x24).trans x25).trans hz26).trans x28).trans x30).trans x32).trans x34).trans x36).trans x38).trans x39).trans x41).trans x42)) HSA.out.symm).mono ?_); rintro e w43 ⟨rfl, x43⟩; have hz43 := hz42.trans x43)
    )
  clear KX26
  go_wp2_with fail
  go_ret
  exact ⟨rfl, (((((((((((((((((((((((((((x0.trans x1).trans x3).trans xb4).trans x6).trans xb7).trans x9).trans xb10).trans x11).trans hz12).trans x14).trans x16).trans x18).trans x20).trans x22).trans x24).trans x25).trans hz26).trans x28).trans x30).trans x32).trans x34).trans x36).trans x38).trans x39).trans x41).trans x42).trans x43)⟩
set_option maxRecDepth 100000 in
set_option maxHeartbeats 8000000 in
theorem order_eq (nx : Bool) (ax : Option Addr) (kx cx : Nat) (lx : List Int) (a : Int) (ea : a = rawZ nx lx 8) (ny : Bool) (ay : Option Addr) (ky cy : Nat) (ly : List Int) (b : Int) (eb : b = rawZ ny ly 8) (nz : Bool) (az : Option Addr) (kz cz : Nat) (lz : List Int) (c : Int) (ec : c = rawZ nz lz 8) (w : World) (hx : Words w ax kx cx lx) (hy : Words w ay ky cy ly) (hz : Words w az kz cz lz) (ho : sgn a b = 0) :
    Calls Tryz.prog 5 #[.agg #[.bool nx, .slice ax kx cx], .agg #[.bool ny, .slice ay ky cy], .agg #[.bool nz, .slice az kz cz]] w fun e w' => e = .returned (.bool true) ∧ Ext w w' := by
  have E_a := Lib.hid ea
  have HWx := Lib.hid hx
  clear ea hx
  have E_b := Lib.hid eb
  have HWy := Lib.hid hy
  clear eb hy
  have E_c := Lib.hid ec
  have HWz := Lib.hid hz
  clear ec hz
  have HO := Lib.hid ho
  clear ho
  obtain ⟨sc, hsc⟩ : ∃ sc, sc = sgn c 0 := ⟨_, rfl⟩
  have sc0 : -1 ≤ sc := by rw [hsc]; exact (sgn_bd _ _).1
  have sc1 : sc ≤ 1 := by rw [hsc]; exact (sgn_bd _ _).2
  have HSC := Lib.hid hsc
  clear hsc
  obtain ⟨sa, hsa⟩ : ∃ sa, sa = sgn a 0 := ⟨_, rfl⟩
  have HSA := Lib.hid hsa
  clear hsa
  obtain ⟨B0, w0, hB0, hw0, hr0, hr1, hr2, x0⟩ := three w 25 25 25 [.bool nx, .slice ax kx cx] [.bool ny, .slice ay ky cy] [.bool nz, .slice az kz cz]
  have HF2 : Hid (Fits (a) 8) := Lib.hid (by rw [E_a.out]; exact fits_raw (HWx.out.wf) (by omega))
  have HF5 : Hid (Fits (b) 8) := Lib.hid (by rw [E_b.out]; exact fits_raw (HWy.out.wf) (by omega))
  have HF8 : Hid (Fits (c) 8) := Lib.hid (by rw [E_c.out]; exact fits_raw (HWz.out.wf) (by omega))
  have HE13 : Hid (sgn (b) (a) = 0) := Lib.hid (by have := sgn_swap a b; rw [HO.out] at this; omega)
  have HF15 : Hid (Fits (-a) 8) := Lib.hid (Fits.neg HF2.out)
  have HF17 : Hid (Fits (-b) 8) := Lib.hid (Fits.neg HF5.out)
  have HE19 : Hid (sgn (-a) (-b) = 0) := Lib.hid (by have := sgn_neg a b; rw [HO.out] at this; omega)
  have HF21 : Hid (Fits (a - b) 9) := Lib.hid (Fits.sub HF2.out HF5.out)
  have HE23 : Hid (sgn (a - b) 0 = 0) := Lib.hid (by rw [sgn_sub, HO.out])
  have HF26 : Hid (Fits (a + c) 9) := Lib.hid (Fits.add HF2.out HF8.out)
  have HF28 : Hid (Fits (b + c) 9) := Lib.hid (Fits.add HF5.out HF8.out)
  have HE30 : Hid (sgn (a + c) (b + c) = 0) := Lib.hid (by rw [sgn_add, HO.out])
  have HF32 : Hid (Fits (a * c) 16) := Lib.hid (Fits.mul HF2.out HF8.out)
  have HF34 : Hid (Fits (b * c) 16) := Lib.hid (Fits.mul HF5.out HF8.out)
  have HE36 : Hid (sgn (a * c) (b * c) = 0 * sc) := Lib.hid (by rw [sgn_mul, HO.out, HSC.out])
  have HF39 : Hid (Fits (0) 1) := Lib.hid (fits_small (by decide) (by omega))
  have KB3 : Hid (∀ W, Ext w0 W → W.cell? ⟨B0, 0, none⟩ = some (.bool nx) ∧ W.cell? ⟨B0, 1, none⟩ = some (.slice ax kx cx)) := Lib.hid fun W h => ⟨h.cell (hr0.cell (i := 0) rfl), h.cell (hr0.cell (i := 1) rfl)⟩
  have KB4 : Hid (∀ W, Ext w0 W → W.cell? ⟨B0 + 1, 0, none⟩ = some (.bool ny) ∧ W.cell? ⟨B0 + 1, 1, none⟩ = some (.slice ay ky cy)) := Lib.hid fun W h => ⟨h.cell (hr1.cell (i := 0) rfl), h.cell (hr1.cell (i := 1) rfl)⟩
  have KB5 : Hid (∀ W, Ext w0 W → W.cell? ⟨B0 + 1 + 1, 0, none⟩ = some (.bool nz) ∧ W.cell? ⟨B0 + 1 + 1, 1, none⟩ = some (.slice az kz cz)) := Lib.hid fun W h => ⟨h.cell (hr2.cell (i := 0) rfl), h.cell (hr2.cell (i := 1) rfl)⟩
  clear hr0 hr1 hr2
  go_enter Tryz.func5, Tryz.ntmps5
  go_wp2_with fail
  rw [← hw0, ← hB0]
  clear hw0 hB0
  refine (sanity_any _).mono ?_
  rintro e w1 ⟨rfl, x1⟩
  obtain ⟨cc3_0, cc3_1⟩ := KB3.out w1 x1
  go_wp2_with fail
  clear cc3_0 cc3_1
  refine (Made_any nx ax kx cx lx 8 a _ (HWx.out.ext (x0.trans x1)) (by omega) E_a.out).mono ?_
  rintro e w3 ⟨⟨v3_0, rfl, ⟨s3_0, a3_0, n3_0, c3_0, rfl, hi3_0⟩⟩, x3⟩
  have HV3_0 : Hid (IntV w3 (.agg #[.bool s3_0, .slice a3_0 n3_0 c3_0]) (a)) := Lib.hid ⟨_, _, _, _, rfl, hi3_0⟩
  clear hi3_0
  obtain ⟨D4, wb4, hD4, hw4, hb4_0, xb4⟩ := one w3 24 [.bool s3_0, .slice a3_0 n3_0 c3_0]
  have KB8 : Hid (∀ W, Ext wb4 W → W.cell? ⟨D4, 0, none⟩ = some (.bool s3_0) ∧ W.cell? ⟨D4, 1, none⟩ = some (.slice a3_0 n3_0 c3_0)) := Lib.hid fun W h => ⟨h.cell (hb4_0.cell (i := 0) rfl), h.cell (hb4_0.cell (i := 1) rfl)⟩
  clear hb4_0
  obtain ⟨cc4_0, cc4_1⟩ := KB4.out wb4 ((x1.trans x3).trans xb4)
  have hq4 := hw4.symm
  have hp4 := hD4.symm
  clear hw4 hD4
  go_wp2_with fail
  clear hq4 hp4
  clear cc4_0 cc4_1
  refine (Made_any ny ay ky cy ly 8 b _ (HWy.out.ext (((x0.trans x1).trans x3).trans xb4)) (by omega) E_b.out).mono ?_
  rintro e w6 ⟨⟨v6_0, rfl, ⟨s6_0, a6_0, n6_0, c6_0, rfl, hi6_0⟩⟩, x6⟩
  have HV6_0 : Hid (IntV w6 (.agg #[.bool s6_0, .slice a6_0 n6_0 c6_0]) (b)) := Lib.hid ⟨_, _, _, _, rfl, hi6_0⟩
  clear hi6_0
  obtain ⟨D7, wb7, hD7, hw7, hb7_0, xb7⟩ := one w6 24 [.bool s6_0, .slice a6_0 n6_0 c6_0]
  have KB9 : Hid (∀ W, Ext wb7 W → W.cell? ⟨D7, 0, none⟩ = some (.bool s6_0) ∧ W.cell? ⟨D7, 1, none⟩ = some (.slice a6_0 n6_0 c6_0)) := Lib.hid fun W h => ⟨h.cell (hb7_0.cell (i := 0) rfl), h.cell (hb7_0.cell (i := 1) rfl)⟩
  clear hb7_0
  obtain ⟨cc5_0, cc5_1⟩ := KB5.out wb7 ((((x1.trans x3).trans xb4).trans x6).trans xb7)
  have hq7 := hw7.symm
  have hp7 := hD7.symm
  clear hw7 hD7
  go_wp2_with fail
  clear hq7 hp7
  clear cc5_0 cc5_1
  refine (Made_any nz az kz cz lz 8 c _ (HWz.out.ext (((((x0.trans x1).trans x3).trans xb4).trans x6).trans xb7)) (by omega) E_c.out).mono ?_
  rintro e w9 ⟨⟨v9_0, rfl, ⟨s9_0, a9_0, n9_0, c9_0, rfl, hi9_0⟩⟩, x9⟩
  have HV9_0 : Hid (IntV w9 (.agg #[.bool s9_0, .slice a9_0 n9_0 c9_0]) (c)) := Lib.hid ⟨_, _, _, _, rfl, hi9_0⟩
  clear hi9_0
  obtain ⟨D10, wb10, hD10, hw10, hb10_0, xb10⟩ := one w9 24 [.bool s9_0, .slice a9_0 n9_0 c9_0]
  have KB10 : Hid (∀ W, Ext wb10 W → W.cell? ⟨D10, 0, none⟩ = some (.bool s9_0) ∧ W.cell? ⟨D10, 1, none⟩ = some (.slice a9_0 n9_0 c9_0)) := Lib.hid fun W h => ⟨h.cell (hb10_0.cell (i := 0) rfl), h.cell (hb10_0.cell (i := 1) rfl)⟩
  clear hb10_0
  obtain ⟨cc8_0, cc8_1⟩ := KB8.out wb10 (((x6.trans xb7).trans x9).trans xb10)
  obtain ⟨cc9_0, cc9_1⟩ := KB9.out wb10 (x9.trans xb10)
  have hq10 := hw10.symm
  have hp10 := hD10.symm
  clear hw10 hD10
  go_wp2_with fail
  clear hq10 hp10
  clear cc8_0 cc8_1 cc9_0 cc9_1
  refine (cmp_is _ _ (a) (b) (0) _ (HV3_0.out.ext ((((xb4.trans x6).trans xb7).trans x9).trans xb10)) (HV6_0.out.ext ((xb7.trans x9).trans xb10)) HO.out).mono ?_
  rintro e w11 ⟨rfl, x11⟩
  have wrn : IntKind.i64.wrap (0) = 0 := by decide
  have wrs2 : IntKind.i64.wrap (0 * sc) = 0 * sc := IntWalk.i64_in _ (by omega)
  have KX12 : Hid (∀ w', Ext w11 w' → w'.cell? ⟨D7, 0, none⟩ = some (.bool s6_0) ∧ w'.cell? ⟨D7, 1, none⟩ = some (.slice a6_0 n6_0 c6_0) ∧ w'.cell? ⟨D4, 0, none⟩ = some (.bool s3_0) ∧ w'.cell? ⟨D4, 1, none⟩ = some (.slice a3_0 n3_0 c3_0)) := Lib.hid fun w' h => by
    have q9 := KB9.out w' (((x9.trans xb10).trans x11).trans h)
    have q8 := KB8.out w' (((((x6.trans xb7).trans x9).trans xb10).trans x11).trans h)
    exact ⟨q9.1, q9.2, q8.1, q8.2⟩
  go_wp2_with fail
  have hz12 := Below.drewExt w11
  go_region_held3
    (fun w' => w'.cell? ⟨D7, 0, none⟩ = some (.bool s6_0) ∧ w'.cell? ⟨D7, 1, none⟩ = some (.slice a6_0 n6_0 c6_0) ∧ w'.cell? ⟨D4, 0, none⟩ = some (.bool s3_0) ∧ w'.cell? ⟨D4, 1, none⟩ = some (.slice a3_0 n3_0 c3_0))
    (with_reducible exact KX12.out _ (by assumption))
    (first
    | (go_at_call 16; (with_reducible refine (cmp_is _ _ (b) (a) (0) _ (HV6_0.out.ext ((((xb7.trans x9).trans xb10).trans x11).trans hz12)) (HV3_0.out.ext ((((((xb4.trans x6).trans xb7).trans x9).trans xb10).trans x11).trans hz12)) HE13.out).mono ?_); rintro e w14 ⟨rfl, x14⟩; have hz14 := hz12.trans x14)
    | (go_at_call 22; (with_reducible refine (neg_any _ (a) _ (HV3_0.out.ext (((((((xb4.trans x6).trans xb7).trans x9).trans xb10).trans x11).trans hz12).trans x14)) (HF2.out.mono (by omega))).mono ?_); rintro e w16 ⟨⟨v16_0, rfl, hv16_0⟩, x16⟩; have hz16 := hz14.trans x16)
    | (go_at_call 22; (with_reducible refine (neg_any _ (b) _ (HV6_0.out.ext ((((((xb7.trans x9).trans xb10).trans x11).trans hz12).trans x14).trans x16)) (HF5.out.mono (by omega))).mono ?_); rintro e w18 ⟨⟨v18_0, rfl, hv18_0⟩, x18⟩; have hz18 := hz16.trans x18)
    | (go_at_call 16; (with_reducible refine (cmp_is _ _ (-a) (-b) (0) _ (hv16_0.ext x18) hv18_0 HE19.out).mono ?_); rintro e w20 ⟨rfl, x20⟩; have hz20 := hz18.trans x20)
    | (go_at_call 19; (with_reducible refine (sub_any _ _ (a) (b) _ (HV3_0.out.ext ((((((((((xb4.trans x6).trans xb7).trans x9).trans xb10).trans x11).trans hz12).trans x14).trans x16).trans x18).trans x20)) (HV6_0.out.ext ((((((((xb7.trans x9).trans xb10).trans x11).trans hz12).trans x14).trans x16).trans x18).trans x20)) (HF2.out.mono (by omega)) (HF5.out.mono (by omega))).mono ?_); rintro e w22 ⟨⟨v22_0, rfl, hv22_0⟩, x22⟩; have hz22 := hz20.trans x22)
    | (go_at_call 24; (with_reducible refine (sign_is _ (a - b) (0) _ hv22_0 HE23.out).mono ?_); rintro e w24 ⟨rfl, x24⟩; have hz24 := hz22.trans x24)
    )
  clear KX12
  have KX25 : Hid (∀ w', Ext w24 w' → w'.cell? ⟨D4, 0, none⟩ = some (.bool s3_0) ∧ w'.cell? ⟨D4, 1, none⟩ = some (.slice a3_0 n3_0 c3_0) ∧ w'.cell? ⟨D10, 0, none⟩ = some (.bool s9_0) ∧ w'.cell? ⟨D10, 1, none⟩ = some (.slice a9_0 n9_0 c9_0) ∧ w'.cell? ⟨D7, 0, none⟩ = some (.bool s6_0) ∧ w'.cell? ⟨D7, 1, none⟩ = some (.slice a6_0 n6_0 c6_0)) := Lib.hid fun w' h => by
    have q8 := KB8.out w' ((((((((((((x6.trans xb7).trans x9).trans xb10).trans x11).trans hz12).trans x14).trans x16).trans x18).trans x20).trans x22).trans x24).trans h)
    have q10 := KB10.out w' ((((((((x11.trans hz12).trans x14).trans x16).trans x18).trans x20).trans x22).trans x24).trans h)
    have q9 := KB9.out w' ((((((((((x9.trans xb10).trans x11).trans hz12).trans x14).trans x16).trans x18).trans x20).trans x22).trans x24).trans h)
    exact ⟨q8.1, q8.2, q10.1, q10.2, q9.1, q9.2⟩
  go_wp2_with fail
  have hz25 := Below.drewExt w24
  go_region_held3
    (fun w' => w'.cell? ⟨D4, 0, none⟩ = some (.bool s3_0) ∧ w'.cell? ⟨D4, 1, none⟩ = some (.slice a3_0 n3_0 c3_0) ∧ w'.cell? ⟨D10, 0, none⟩ = some (.bool s9_0) ∧ w'.cell? ⟨D10, 1, none⟩ = some (.slice a9_0 n9_0 c9_0) ∧ w'.cell? ⟨D7, 0, none⟩ = some (.bool s6_0) ∧ w'.cell? ⟨D7, 1, none⟩ = some (.slice a6_0 n6_0 c6_0))
    (with_reducible exact KX25.out _ (by assumption))
    (first
    | (go_at_call 17; (with_reducible refine (add_any _ _ (a) (c) _ (HV3_0.out.ext (((((((((((((xb4.trans x6).trans xb7).trans x9).trans xb10).trans x11).trans hz12).trans x14).trans x16).trans x18).trans x20).trans x22).trans x24).trans hz25)) (HV9_0.out.ext (((((((((xb10.trans x11).trans hz12).trans x14).trans x16).trans x18).trans x20).trans x22).trans x24).trans hz25)) (HF2.out.mono (by omega)) (HF8.out.mono (by omega))).mono ?_); rintro e w27 ⟨⟨v27_0, rfl, hv27_0⟩, x27⟩; have hz27 := hz25.trans x27)
    | (go_at_call 17; (with_reducible refine (add_any _ _ (b) (c) _ (HV6_0.out.ext ((((((((((((xb7.trans x9).trans xb10).trans x11).trans hz12).trans x14).trans x16).trans x18).trans x20).trans x22).trans x24).trans hz25).trans x27)) (HV9_0.out.ext ((((((((((xb10.trans x11).trans hz12).trans x14).trans x16).trans x18).trans x20).trans x22).trans x24).trans hz25).trans x27)) (HF5.out.mono (by omega)) (HF8.out.mono (by omega))).mono ?_); rintro e w29 ⟨⟨v29_0, rfl, hv29_0⟩, x29⟩; have hz29 := hz27.trans x29)
    | (go_at_call 16; (with_reducible refine (cmp_is _ _ (a + c) (b + c) (0) _ (hv27_0.ext x29) hv29_0 HE30.out).mono ?_); rintro e w31 ⟨rfl, x31⟩; have hz31 := hz29.trans x31)
    | (go_at_call 18; (with_reducible refine (mul_any _ _ (a) (c) _ (HV3_0.out.ext ((((((((((((((((xb4.trans x6).trans xb7).trans x9).trans xb10).trans x11).trans hz12).trans x14).trans x16).trans x18).trans x20).trans x22).trans x24).trans hz25).trans x27).trans x29).trans x31)) (HV9_0.out.ext ((((((((((((xb10.trans x11).trans hz12).trans x14).trans x16).trans x18).trans x20).trans x22).trans x24).trans hz25).trans x27).trans x29).trans x31)) (HF2.out.mono (by omega)) (HF8.out.mono (by omega))).mono ?_); rintro e w33 ⟨⟨v33_0, rfl, hv33_0⟩, x33⟩; have hz33 := hz31.trans x33)
    | (go_at_call 18; (with_reducible refine (mul_any _ _ (b) (c) _ (HV6_0.out.ext (((((((((((((((xb7.trans x9).trans xb10).trans x11).trans hz12).trans x14).trans x16).trans x18).trans x20).trans x22).trans x24).trans hz25).trans x27).trans x29).trans x31).trans x33)) (HV9_0.out.ext (((((((((((((xb10.trans x11).trans hz12).trans x14).trans x16).trans x18).trans x20).trans x22).trans x24).trans hz25).trans x27).trans x29).trans x31).trans x33)) (HF5.out.mono (by omega)) (HF8.out.mono (by omega))).mono ?_); rintro e w35 ⟨⟨v35_0, rfl, hv35_0⟩, x35⟩; have hz35 := hz33.trans x35)
    | (go_at_call 16; (with_reducible refine (cmp_is _ _ (a * c) (b * c) (0 * sc) _ (hv33_0.ext x35) hv35_0 HE36.out).mono ?_); rintro e w37 ⟨rfl, x37⟩; have hz37 := hz35.trans x37)
    | (go_at_call 24; (with_reducible refine (sign_is _ (c) (sc) _ (HV9_0.out.ext (((((((((((((((xb10.trans x11).trans hz12).trans x14).trans x16).trans x18).trans x20).trans x22).trans x24).trans hz25).trans x27).trans x29).trans x31).trans x33).trans x35).trans x37)) HSC.out.symm).mono ?_); rintro e w38 ⟨rfl, x38⟩; have hz38 := hz37.trans x38)
    | (go_at_call 23; (with_reducible refine (lof_any (0) _ (by omega) (by omega)).mono ?_); rintro e w40 ⟨⟨v40_0, rfl, hv40_0⟩, x40⟩; have hz40 := hz38.trans x40)
    | (go_at_call 16; (with_reducible refine (cmp_is _ _ (a) (0) (sa) _ (HV3_0.out.ext (((((((((((((((((((((xb4.trans x6).trans xb7).trans x9).trans xb10).trans x11).trans hz12).trans x14).trans x16).trans x18).trans x20).trans x22).trans x24).trans hz25).trans x27).trans x29).trans x31).trans x33).trans x35).trans x37).trans x38).trans x40)) hv40_0 HSA.out.symm).mono ?_); rintro e w41 ⟨rfl, x41⟩; have hz41 := hz40.trans x41)
    | (go_at_call 24; (with_reducible refine (sign_is _ (a) (sa) _ (HV3_0.out.ext ((((((((((((((((((((((xb4.trans x6).trans xb7).trans x9).trans xb10).trans x11).trans hz12).trans x14).trans x16).trans x18).trans x20).trans x22).trans x24).trans hz25).trans x27).trans x29).trans x31).trans x33).trans x35).trans x37).trans x38).trans x40).trans x41)) HSA.out.symm).mono ?_); rintro e w42 ⟨rfl, x42⟩; have hz42 := hz41.trans x42)
    )
  clear KX25
  go_wp2_with fail
  go_ret
  exact ⟨rfl, ((((((((((((((((((((((((((x0.trans x1).trans x3).trans xb4).trans x6).trans xb7).trans x9).trans xb10).trans x11).trans hz12).trans x14).trans x16).trans x18).trans x20).trans x22).trans x24).trans hz25).trans x27).trans x29).trans x31).trans x33).trans x35).trans x37).trans x38).trans x40).trans x41).trans x42)⟩
set_option maxRecDepth 100000 in
set_option maxHeartbeats 8000000 in
theorem order_gt (nx : Bool) (ax : Option Addr) (kx cx : Nat) (lx : List Int) (a : Int) (ea : a = rawZ nx lx 8) (ny : Bool) (ay : Option Addr) (ky cy : Nat) (ly : List Int) (b : Int) (eb : b = rawZ ny ly 8) (nz : Bool) (az : Option Addr) (kz cz : Nat) (lz : List Int) (c : Int) (ec : c = rawZ nz lz 8) (w : World) (hx : Words w ax kx cx lx) (hy : Words w ay ky cy ly) (hz : Words w az kz cz lz) (ho : sgn a b = 1) :
    Calls Tryz.prog 5 #[.agg #[.bool nx, .slice ax kx cx], .agg #[.bool ny, .slice ay ky cy], .agg #[.bool nz, .slice az kz cz]] w fun e w' => e = .returned (.bool true) ∧ Ext w w' := by
  have E_a := Lib.hid ea
  have HWx := Lib.hid hx
  clear ea hx
  have E_b := Lib.hid eb
  have HWy := Lib.hid hy
  clear eb hy
  have E_c := Lib.hid ec
  have HWz := Lib.hid hz
  clear ec hz
  have HO := Lib.hid ho
  clear ho
  obtain ⟨sc, hsc⟩ : ∃ sc, sc = sgn c 0 := ⟨_, rfl⟩
  have sc0 : -1 ≤ sc := by rw [hsc]; exact (sgn_bd _ _).1
  have sc1 : sc ≤ 1 := by rw [hsc]; exact (sgn_bd _ _).2
  have HSC := Lib.hid hsc
  clear hsc
  obtain ⟨sa, hsa⟩ : ∃ sa, sa = sgn a 0 := ⟨_, rfl⟩
  have HSA := Lib.hid hsa
  clear hsa
  obtain ⟨B0, w0, hB0, hw0, hr0, hr1, hr2, x0⟩ := three w 25 25 25 [.bool nx, .slice ax kx cx] [.bool ny, .slice ay ky cy] [.bool nz, .slice az kz cz]
  have HF2 : Hid (Fits (a) 8) := Lib.hid (by rw [E_a.out]; exact fits_raw (HWx.out.wf) (by omega))
  have HF5 : Hid (Fits (b) 8) := Lib.hid (by rw [E_b.out]; exact fits_raw (HWy.out.wf) (by omega))
  have HF8 : Hid (Fits (c) 8) := Lib.hid (by rw [E_c.out]; exact fits_raw (HWz.out.wf) (by omega))
  have HE13 : Hid (sgn (b) (a) = -1) := Lib.hid (by have := sgn_swap a b; rw [HO.out] at this; omega)
  have HF15 : Hid (Fits (-a) 8) := Lib.hid (Fits.neg HF2.out)
  have HF17 : Hid (Fits (-b) 8) := Lib.hid (Fits.neg HF5.out)
  have HE19 : Hid (sgn (-a) (-b) = -1) := Lib.hid (by have := sgn_neg a b; rw [HO.out] at this; omega)
  have HF21 : Hid (Fits (a - b) 9) := Lib.hid (Fits.sub HF2.out HF5.out)
  have HE23 : Hid (sgn (a - b) 0 = 1) := Lib.hid (by rw [sgn_sub, HO.out])
  have HF26 : Hid (Fits (a + c) 9) := Lib.hid (Fits.add HF2.out HF8.out)
  have HF28 : Hid (Fits (b + c) 9) := Lib.hid (Fits.add HF5.out HF8.out)
  have HE30 : Hid (sgn (a + c) (b + c) = 1) := Lib.hid (by rw [sgn_add, HO.out])
  have HF32 : Hid (Fits (a * c) 16) := Lib.hid (Fits.mul HF2.out HF8.out)
  have HF34 : Hid (Fits (b * c) 16) := Lib.hid (Fits.mul HF5.out HF8.out)
  have HE36 : Hid (sgn (a * c) (b * c) = 1 * sc) := Lib.hid (by rw [sgn_mul, HO.out, HSC.out])
  have HF39 : Hid (Fits (0) 1) := Lib.hid (fits_small (by decide) (by omega))
  have KB3 : Hid (∀ W, Ext w0 W → W.cell? ⟨B0, 0, none⟩ = some (.bool nx) ∧ W.cell? ⟨B0, 1, none⟩ = some (.slice ax kx cx)) := Lib.hid fun W h => ⟨h.cell (hr0.cell (i := 0) rfl), h.cell (hr0.cell (i := 1) rfl)⟩
  have KB4 : Hid (∀ W, Ext w0 W → W.cell? ⟨B0 + 1, 0, none⟩ = some (.bool ny) ∧ W.cell? ⟨B0 + 1, 1, none⟩ = some (.slice ay ky cy)) := Lib.hid fun W h => ⟨h.cell (hr1.cell (i := 0) rfl), h.cell (hr1.cell (i := 1) rfl)⟩
  have KB5 : Hid (∀ W, Ext w0 W → W.cell? ⟨B0 + 1 + 1, 0, none⟩ = some (.bool nz) ∧ W.cell? ⟨B0 + 1 + 1, 1, none⟩ = some (.slice az kz cz)) := Lib.hid fun W h => ⟨h.cell (hr2.cell (i := 0) rfl), h.cell (hr2.cell (i := 1) rfl)⟩
  clear hr0 hr1 hr2
  go_enter Tryz.func5, Tryz.ntmps5
  go_wp2_with fail
  rw [← hw0, ← hB0]
  clear hw0 hB0
  refine (sanity_any _).mono ?_
  rintro e w1 ⟨rfl, x1⟩
  obtain ⟨cc3_0, cc3_1⟩ := KB3.out w1 x1
  go_wp2_with fail
  clear cc3_0 cc3_1
  refine (Made_any nx ax kx cx lx 8 a _ (HWx.out.ext (x0.trans x1)) (by omega) E_a.out).mono ?_
  rintro e w3 ⟨⟨v3_0, rfl, ⟨s3_0, a3_0, n3_0, c3_0, rfl, hi3_0⟩⟩, x3⟩
  have HV3_0 : Hid (IntV w3 (.agg #[.bool s3_0, .slice a3_0 n3_0 c3_0]) (a)) := Lib.hid ⟨_, _, _, _, rfl, hi3_0⟩
  clear hi3_0
  obtain ⟨D4, wb4, hD4, hw4, hb4_0, xb4⟩ := one w3 24 [.bool s3_0, .slice a3_0 n3_0 c3_0]
  have KB8 : Hid (∀ W, Ext wb4 W → W.cell? ⟨D4, 0, none⟩ = some (.bool s3_0) ∧ W.cell? ⟨D4, 1, none⟩ = some (.slice a3_0 n3_0 c3_0)) := Lib.hid fun W h => ⟨h.cell (hb4_0.cell (i := 0) rfl), h.cell (hb4_0.cell (i := 1) rfl)⟩
  clear hb4_0
  obtain ⟨cc4_0, cc4_1⟩ := KB4.out wb4 ((x1.trans x3).trans xb4)
  have hq4 := hw4.symm
  have hp4 := hD4.symm
  clear hw4 hD4
  go_wp2_with fail
  clear hq4 hp4
  clear cc4_0 cc4_1
  refine (Made_any ny ay ky cy ly 8 b _ (HWy.out.ext (((x0.trans x1).trans x3).trans xb4)) (by omega) E_b.out).mono ?_
  rintro e w6 ⟨⟨v6_0, rfl, ⟨s6_0, a6_0, n6_0, c6_0, rfl, hi6_0⟩⟩, x6⟩
  have HV6_0 : Hid (IntV w6 (.agg #[.bool s6_0, .slice a6_0 n6_0 c6_0]) (b)) := Lib.hid ⟨_, _, _, _, rfl, hi6_0⟩
  clear hi6_0
  obtain ⟨D7, wb7, hD7, hw7, hb7_0, xb7⟩ := one w6 24 [.bool s6_0, .slice a6_0 n6_0 c6_0]
  have KB9 : Hid (∀ W, Ext wb7 W → W.cell? ⟨D7, 0, none⟩ = some (.bool s6_0) ∧ W.cell? ⟨D7, 1, none⟩ = some (.slice a6_0 n6_0 c6_0)) := Lib.hid fun W h => ⟨h.cell (hb7_0.cell (i := 0) rfl), h.cell (hb7_0.cell (i := 1) rfl)⟩
  clear hb7_0
  obtain ⟨cc5_0, cc5_1⟩ := KB5.out wb7 ((((x1.trans x3).trans xb4).trans x6).trans xb7)
  have hq7 := hw7.symm
  have hp7 := hD7.symm
  clear hw7 hD7
  go_wp2_with fail
  clear hq7 hp7
  clear cc5_0 cc5_1
  refine (Made_any nz az kz cz lz 8 c _ (HWz.out.ext (((((x0.trans x1).trans x3).trans xb4).trans x6).trans xb7)) (by omega) E_c.out).mono ?_
  rintro e w9 ⟨⟨v9_0, rfl, ⟨s9_0, a9_0, n9_0, c9_0, rfl, hi9_0⟩⟩, x9⟩
  have HV9_0 : Hid (IntV w9 (.agg #[.bool s9_0, .slice a9_0 n9_0 c9_0]) (c)) := Lib.hid ⟨_, _, _, _, rfl, hi9_0⟩
  clear hi9_0
  obtain ⟨D10, wb10, hD10, hw10, hb10_0, xb10⟩ := one w9 24 [.bool s9_0, .slice a9_0 n9_0 c9_0]
  have KB10 : Hid (∀ W, Ext wb10 W → W.cell? ⟨D10, 0, none⟩ = some (.bool s9_0) ∧ W.cell? ⟨D10, 1, none⟩ = some (.slice a9_0 n9_0 c9_0)) := Lib.hid fun W h => ⟨h.cell (hb10_0.cell (i := 0) rfl), h.cell (hb10_0.cell (i := 1) rfl)⟩
  clear hb10_0
  obtain ⟨cc8_0, cc8_1⟩ := KB8.out wb10 (((x6.trans xb7).trans x9).trans xb10)
  obtain ⟨cc9_0, cc9_1⟩ := KB9.out wb10 (x9.trans xb10)
  have hq10 := hw10.symm
  have hp10 := hD10.symm
  clear hw10 hD10
  go_wp2_with fail
  clear hq10 hp10
  clear cc8_0 cc8_1 cc9_0 cc9_1
  refine (cmp_is _ _ (a) (b) (1) _ (HV3_0.out.ext ((((xb4.trans x6).trans xb7).trans x9).trans xb10)) (HV6_0.out.ext ((xb7.trans x9).trans xb10)) HO.out).mono ?_
  rintro e w11 ⟨rfl, x11⟩
  have wrn : IntKind.i64.wrap (-1) = -1 := by decide
  have wrs : IntKind.i64.wrap sc = sc := IntWalk.i64_in _ (by omega)
  have wrs2 : IntKind.i64.wrap (1 * sc) = 1 * sc := IntWalk.i64_in _ (by omega)
  have KX12 : Hid (∀ w', Ext w11 w' → w'.cell? ⟨D7, 0, none⟩ = some (.bool s6_0) ∧ w'.cell? ⟨D7, 1, none⟩ = some (.slice a6_0 n6_0 c6_0) ∧ w'.cell? ⟨D4, 0, none⟩ = some (.bool s3_0) ∧ w'.cell? ⟨D4, 1, none⟩ = some (.slice a3_0 n3_0 c3_0)) := Lib.hid fun w' h => by
    have q9 := KB9.out w' (((x9.trans xb10).trans x11).trans h)
    have q8 := KB8.out w' (((((x6.trans xb7).trans x9).trans xb10).trans x11).trans h)
    exact ⟨q9.1, q9.2, q8.1, q8.2⟩
  go_wp2_with fail
  have hz12 := Below.drewExt w11
  go_region_held3
    (fun w' => w'.cell? ⟨D7, 0, none⟩ = some (.bool s6_0) ∧ w'.cell? ⟨D7, 1, none⟩ = some (.slice a6_0 n6_0 c6_0) ∧ w'.cell? ⟨D4, 0, none⟩ = some (.bool s3_0) ∧ w'.cell? ⟨D4, 1, none⟩ = some (.slice a3_0 n3_0 c3_0))
    (with_reducible exact KX12.out _ (by assumption))
    (first
    | (go_at_call 16; (with_reducible refine (cmp_is _ _ (b) (a) (-1) _ (HV6_0.out.ext ((((xb7.trans x9).trans xb10).trans x11).trans hz12)) (HV3_0.out.ext ((((((xb4.trans x6).trans xb7).trans x9).trans xb10).trans x11).trans hz12)) HE13.out).mono ?_); rintro e w14 ⟨rfl, x14⟩; have hz14 := hz12.trans x14)
    | (go_at_call 22; (with_reducible refine (neg_any _ (a) _ (HV3_0.out.ext (((((((xb4.trans x6).trans xb7).trans x9).trans xb10).trans x11).trans hz12).trans x14)) (HF2.out.mono (by omega))).mono ?_); rintro e w16 ⟨⟨v16_0, rfl, hv16_0⟩, x16⟩; have hz16 := hz14.trans x16)
    | (go_at_call 22; (with_reducible refine (neg_any _ (b) _ (HV6_0.out.ext ((((((xb7.trans x9).trans xb10).trans x11).trans hz12).trans x14).trans x16)) (HF5.out.mono (by omega))).mono ?_); rintro e w18 ⟨⟨v18_0, rfl, hv18_0⟩, x18⟩; have hz18 := hz16.trans x18)
    | (go_at_call 16; (with_reducible refine (cmp_is _ _ (-a) (-b) (-1) _ (hv16_0.ext x18) hv18_0 HE19.out).mono ?_); rintro e w20 ⟨rfl, x20⟩; have hz20 := hz18.trans x20)
    | (go_at_call 19; (with_reducible refine (sub_any _ _ (a) (b) _ (HV3_0.out.ext ((((((((((xb4.trans x6).trans xb7).trans x9).trans xb10).trans x11).trans hz12).trans x14).trans x16).trans x18).trans x20)) (HV6_0.out.ext ((((((((xb7.trans x9).trans xb10).trans x11).trans hz12).trans x14).trans x16).trans x18).trans x20)) (HF2.out.mono (by omega)) (HF5.out.mono (by omega))).mono ?_); rintro e w22 ⟨⟨v22_0, rfl, hv22_0⟩, x22⟩; have hz22 := hz20.trans x22)
    | (go_at_call 24; (with_reducible refine (sign_is _ (a - b) (1) _ hv22_0 HE23.out).mono ?_); rintro e w24 ⟨rfl, x24⟩; have hz24 := hz22.trans x24)
    )
  clear KX12
  have KX25 : Hid (∀ w', Ext w24 w' → w'.cell? ⟨D4, 0, none⟩ = some (.bool s3_0) ∧ w'.cell? ⟨D4, 1, none⟩ = some (.slice a3_0 n3_0 c3_0) ∧ w'.cell? ⟨D10, 0, none⟩ = some (.bool s9_0) ∧ w'.cell? ⟨D10, 1, none⟩ = some (.slice a9_0 n9_0 c9_0) ∧ w'.cell? ⟨D7, 0, none⟩ = some (.bool s6_0) ∧ w'.cell? ⟨D7, 1, none⟩ = some (.slice a6_0 n6_0 c6_0)) := Lib.hid fun w' h => by
    have q8 := KB8.out w' ((((((((((((x6.trans xb7).trans x9).trans xb10).trans x11).trans hz12).trans x14).trans x16).trans x18).trans x20).trans x22).trans x24).trans h)
    have q10 := KB10.out w' ((((((((x11.trans hz12).trans x14).trans x16).trans x18).trans x20).trans x22).trans x24).trans h)
    have q9 := KB9.out w' ((((((((((x9.trans xb10).trans x11).trans hz12).trans x14).trans x16).trans x18).trans x20).trans x22).trans x24).trans h)
    exact ⟨q8.1, q8.2, q10.1, q10.2, q9.1, q9.2⟩
  go_wp2_with fail
  have hz25 := Below.drewExt w24
  go_region_held3
    (fun w' => w'.cell? ⟨D4, 0, none⟩ = some (.bool s3_0) ∧ w'.cell? ⟨D4, 1, none⟩ = some (.slice a3_0 n3_0 c3_0) ∧ w'.cell? ⟨D10, 0, none⟩ = some (.bool s9_0) ∧ w'.cell? ⟨D10, 1, none⟩ = some (.slice a9_0 n9_0 c9_0) ∧ w'.cell? ⟨D7, 0, none⟩ = some (.bool s6_0) ∧ w'.cell? ⟨D7, 1, none⟩ = some (.slice a6_0 n6_0 c6_0))
    (with_reducible exact KX25.out _ (by assumption))
    (first
    | (go_at_call 17; (with_reducible refine (add_any _ _ (a) (c) _ (HV3_0.out.ext (((((((((((((xb4.trans x6).trans xb7).trans x9).trans xb10).trans x11).trans hz12).trans x14).trans x16).trans x18).trans x20).trans x22).trans x24).trans hz25)) (HV9_0.out.ext (((((((((xb10.trans x11).trans hz12).trans x14).trans x16).trans x18).trans x20).trans x22).trans x24).trans hz25)) (HF2.out.mono (by omega)) (HF8.out.mono (by omega))).mono ?_); rintro e w27 ⟨⟨v27_0, rfl, hv27_0⟩, x27⟩; have hz27 := hz25.trans x27)
    | (go_at_call 17; (with_reducible refine (add_any _ _ (b) (c) _ (HV6_0.out.ext ((((((((((((xb7.trans x9).trans xb10).trans x11).trans hz12).trans x14).trans x16).trans x18).trans x20).trans x22).trans x24).trans hz25).trans x27)) (HV9_0.out.ext ((((((((((xb10.trans x11).trans hz12).trans x14).trans x16).trans x18).trans x20).trans x22).trans x24).trans hz25).trans x27)) (HF5.out.mono (by omega)) (HF8.out.mono (by omega))).mono ?_); rintro e w29 ⟨⟨v29_0, rfl, hv29_0⟩, x29⟩; have hz29 := hz27.trans x29)
    | (go_at_call 16; (with_reducible refine (cmp_is _ _ (a + c) (b + c) (1) _ (hv27_0.ext x29) hv29_0 HE30.out).mono ?_); rintro e w31 ⟨rfl, x31⟩; have hz31 := hz29.trans x31)
    | (go_at_call 18; (with_reducible refine (mul_any _ _ (a) (c) _ (HV3_0.out.ext ((((((((((((((((xb4.trans x6).trans xb7).trans x9).trans xb10).trans x11).trans hz12).trans x14).trans x16).trans x18).trans x20).trans x22).trans x24).trans hz25).trans x27).trans x29).trans x31)) (HV9_0.out.ext ((((((((((((xb10.trans x11).trans hz12).trans x14).trans x16).trans x18).trans x20).trans x22).trans x24).trans hz25).trans x27).trans x29).trans x31)) (HF2.out.mono (by omega)) (HF8.out.mono (by omega))).mono ?_); rintro e w33 ⟨⟨v33_0, rfl, hv33_0⟩, x33⟩; have hz33 := hz31.trans x33)
    | (go_at_call 18; (with_reducible refine (mul_any _ _ (b) (c) _ (HV6_0.out.ext (((((((((((((((xb7.trans x9).trans xb10).trans x11).trans hz12).trans x14).trans x16).trans x18).trans x20).trans x22).trans x24).trans hz25).trans x27).trans x29).trans x31).trans x33)) (HV9_0.out.ext (((((((((((((xb10.trans x11).trans hz12).trans x14).trans x16).trans x18).trans x20).trans x22).trans x24).trans hz25).trans x27).trans x29).trans x31).trans x33)) (HF5.out.mono (by omega)) (HF8.out.mono (by omega))).mono ?_); rintro e w35 ⟨⟨v35_0, rfl, hv35_0⟩, x35⟩; have hz35 := hz33.trans x35)
    | (go_at_call 16; (with_reducible refine (cmp_is _ _ (a * c) (b * c) (1 * sc) _ (hv33_0.ext x35) hv35_0 HE36.out).mono ?_); rintro e w37 ⟨rfl, x37⟩; have hz37 := hz35.trans x37)
    | (go_at_call 24; (with_reducible refine (sign_is _ (c) (sc) _ (HV9_0.out.ext (((((((((((((((xb10.trans x11).trans hz12).trans x14).trans x16).trans x18).trans x20).trans x22).trans x24).trans hz25).trans x27).trans x29).trans x31).trans x33).trans x35).trans x37)) HSC.out.symm).mono ?_); rintro e w38 ⟨rfl, x38⟩; have hz38 := hz37.trans x38)
    | (go_at_call 23; (with_reducible refine (lof_any (0) _ (by omega) (by omega)).mono ?_); rintro e w40 ⟨⟨v40_0, rfl, hv40_0⟩, x40⟩; have hz40 := hz38.trans x40)
    | (go_at_call 16; (with_reducible refine (cmp_is _ _ (a) (0) (sa) _ (HV3_0.out.ext (((((((((((((((((((((xb4.trans x6).trans xb7).trans x9).trans xb10).trans x11).trans hz12).trans x14).trans x16).trans x18).trans x20).trans x22).trans x24).trans hz25).trans x27).trans x29).trans x31).trans x33).trans x35).trans x37).trans x38).trans x40)) hv40_0 HSA.out.symm).mono ?_); rintro e w41 ⟨rfl, x41⟩; have hz41 := hz40.trans x41)
    | (go_at_call 24; (with_reducible refine (sign_is _ (a) (sa) _ (HV3_0.out.ext ((((((((((((((((((((((xb4.trans x6).trans xb7).trans x9).trans xb10).trans x11).trans hz12).trans x14).trans x16).trans x18).trans x20).trans x22).trans x24).trans hz25).trans x27).trans x29).trans x31).trans x33).trans x35).trans x37).trans x38).trans x40).trans x41)) HSA.out.symm).mono ?_); rintro e w42 ⟨rfl, x42⟩; have hz42 := hz41.trans x42)
    )
  clear KX25
  go_wp2_with fail
  go_ret
  exact ⟨rfl, ((((((((((((((((((((((((((x0.trans x1).trans x3).trans xb4).trans x6).trans xb7).trans x9).trans xb10).trans x11).trans hz12).trans x14).trans x16).trans x18).trans x20).trans x22).trans x24).trans hz25).trans x27).trans x29).trans x31).trans x33).trans x35).trans x37).trans x38).trans x40).trans x41).trans x42)⟩
theorem lawOrder (nx : Bool) (ax : Option Addr) (kx cx : Nat) (lx : List Int) (a : Int) (ea : a = rawZ nx lx 8) (ny : Bool) (ay : Option Addr) (ky cy : Nat) (ly : List Int) (b : Int) (eb : b = rawZ ny ly 8) (nz : Bool) (az : Option Addr) (kz cz : Nat) (lz : List Int) (c : Int) (ec : c = rawZ nz lz 8) (w : World) (hx : Words w ax kx cx lx) (hy : Words w ay ky cy ly) (hz : Words w az kz cz lz) :
    Calls Tryz.prog 5 #[.agg #[.bool nx, .slice ax kx cx], .agg #[.bool ny, .slice ay ky cy], .agg #[.bool nz, .slice az kz cz]] w fun e w' => e = .returned (.bool true) ∧ Ext w w' := by
  rcases sgn_cases a b with ⟨_, e⟩ | ⟨_, e⟩ | ⟨_, e⟩
  · rcases sgn_cases b c with ⟨_, f⟩ | ⟨_, f⟩ | ⟨_, f⟩
    · exact order_lt nx ax kx cx lx a ea ny ay ky cy ly b eb nz az kz cz lz c ec w hx hy hz e _ f (by omega)
    · exact order_lt nx ax kx cx lx a ea ny ay ky cy ly b eb nz az kz cz lz c ec w hx hy hz e _ f (by omega)
    · exact order_ltgt nx ax kx cx lx a ea ny ay ky cy ly b eb nz az kz cz lz c ec w hx hy hz e f
  · exact order_eq nx ax kx cx lx a ea ny ay ky cy ly b eb nz az kz cz lz c ec w hx hy hz e
  · exact order_gt nx ax kx cx lx a ea ny ay ky cy ly b eb nz az kz cz lz c ec w hx hy hz e
end Go.Proofs.YtddcgojpgdhefaaGreatDoor
