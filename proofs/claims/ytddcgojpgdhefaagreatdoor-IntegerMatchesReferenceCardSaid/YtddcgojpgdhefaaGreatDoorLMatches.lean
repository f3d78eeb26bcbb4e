/- The law IntegerMatchesReference, walked. Written by matches.py. -/
import Derived.Test.YtddcgojpgdhefaaGreatDoorMatchLib
namespace Go.Proofs.YtddcgojpgdhefaaGreatDoor
open Go.RowKit Go.El
set_option linter.unusedVariables false
set_option maxRecDepth 100000 in
set_option maxHeartbeats 8000000 in
theorem matches_neg (nx : Bool) (ax : Option Addr) (kx cx : Nat) (lx : List Int) (a : Int) (ea : a = rawZ nx lx 12) (ny : Bool) (ay : Option Addr) (ky cy : Nat) (ly : List Int) (b : Int) (eb : b = rawZ ny ly 12) (w : World) (hx : Words w ax kx cx lx) (hy : Words w ay ky cy ly) (v0 v1 : Int) (hv : v1 < 9223372036854775808) (hc : v0 < 0) :
    Calls Tryz.prog 11 #[.agg #[.bool nx, .slice ax kx cx], .agg #[.bool ny, .slice ay ky cy], .agg #[.int .i64 v0, .int .i64 v1]] w fun e w' => e = .returned (.bool true) ∧ Ext w w' := by
  have E_a := Lib.hid ea
  have HWx := Lib.hid hx
  clear ea hx
  have E_b := Lib.hid eb
  have HWy := Lib.hid hy
  clear eb hy
  have hd0 : decide (v0 < 0) = true := by simp; omega
  obtain ⟨er, h_er⟩ : ∃ x, errZ b = x := ⟨_, rfl⟩
  have HER := Lib.hid h_er
  clear h_er
  obtain ⟨q, h_q⟩ : ∃ x, a / b = x := ⟨_, rfl⟩
  have HQ := Lib.hid h_q
  clear h_q
  obtain ⟨r, h_r⟩ : ∃ x, remZ a b = x := ⟨_, rfl⟩
  have HR := Lib.hid h_r
  clear h_r
  obtain ⟨sg, h_sg⟩ : ∃ x, sgn a b = x := ⟨_, rfl⟩
  have HSG := Lib.hid h_sg
  clear h_sg
  obtain ⟨g, u, v, h_bz⟩ : ∃ g u v, bz a b = (g, u, v) := ⟨_, _, _, rfl⟩
  have HBZ := Lib.hid h_bz
  clear h_bz
  obtain ⟨pe0, h_pe0⟩ : ∃ x, powE v0 = x := ⟨_, rfl⟩
  have HPE := Lib.hid h_pe0
  clear h_pe0
  obtain ⟨pz0, h_pz0⟩ : ∃ x, powZ a v0 = x := ⟨_, rfl⟩
  have HPZ := Lib.hid h_pz0
  clear h_pz0
  obtain ⟨re0, h_re0⟩ : ∃ x, rootE a v1 = x := ⟨_, rfl⟩
  have HRE := Lib.hid h_re0
  clear h_re0
  obtain ⟨rz0, h_rz0⟩ : ∃ x, rootZ a v1 = x := ⟨_, rfl⟩
  have HRZ := Lib.hid h_rz0
  clear h_rz0
  have n_er : (er != er) = false := by simp
  have m_er : (er == er) = true := by simp
  have n_sg : (sg != sg) = false := by simp
  have m_sg : (sg == sg) = true := by simp
  have n_pe0 : (pe0 != pe0) = false := by simp
  have m_pe0 : (pe0 == pe0) = true := by simp
  have n_re0 : (re0 != re0) = false := by simp
  have m_re0 : (re0 == re0) = true := by simp
  have HV1 := Lib.hid hv
  clear hv
  obtain ⟨B0, w0, hB0, hw0, hr0, hr1, hr2, x0⟩ := three w 25 25 54 [.bool nx, .slice ax kx cx] [.bool ny, .slice ay ky cy] [.int .i64 v0, .int .i64 v1]
  have HF1 : Hid (Fits (a) 12) := Lib.hid (by rw [E_a.out]; exact fits_raw (HWx.out.wf) (by omega))
  have HF5 : Hid (Fits (b) 12) := Lib.hid (by rw [E_b.out]; exact fits_raw (HWy.out.wf) (by omega))
  have KB3 : Hid (∀ W, Ext w0 W → W.cell? ⟨B0, 0, none⟩ = some (.bool nx) ∧ W.cell? ⟨B0, 1, none⟩ = some (.slice ax kx cx)) := Lib.hid fun W h => ⟨h.cell (hr0.cell (i := 0) rfl), h.cell (hr0.cell (i := 1) rfl)⟩
  have KB4 : Hid (∀ W, Ext w0 W → W.cell? ⟨B0 + 1, 0, none⟩ = some (.bool ny) ∧ W.cell? ⟨B0 + 1, 1, none⟩ = some (.slice ay ky cy)) := Lib.hid fun W h => ⟨h.cell (hr1.cell (i := 0) rfl), h.cell (hr1.cell (i := 1) rfl)⟩
  have KB5 : Hid (∀ W, Ext w0 W → W.cell? ⟨B0 + 1 + 1, 0, none⟩ = some (.int .i64 v0) ∧ W.cell? ⟨B0 + 1 + 1, 1, none⟩ = some (.int .i64 v1)) := Lib.hid fun W h => ⟨h.cell (hr2.cell (i := 0) rfl), h.cell (hr2.cell (i := 1) rfl)⟩
  clear hr0 hr1 hr2
  go_enter Tryz.func11, Tryz.ntmps11
  go_wp2_with fail
  rw [← hw0, ← hB0]
  clear hw0 hB0
  refine (sanity_any _).mono ?_
  rintro e ws ⟨rfl, xs⟩
  obtain ⟨cc3_0_3, cc3_1_3⟩ := KB3.out ws xs
  go_wp2_with fail
  clear cc3_0_3 cc3_1_3
  refine (Made_any nx ax kx cx lx 12 a _ (HWx.out.ext (x0.trans xs)) (by omega) E_a.out).mono ?_
  rintro e w2 ⟨⟨v2_0, rfl, ⟨s2_0, a2_0, n2_0, c2_0, rfl, hi2_0⟩⟩, x2⟩
  have HV2_0 : Hid (IntV w2 (.agg #[.bool s2_0, .slice a2_0 n2_0 c2_0]) (a)) := Lib.hid ⟨_, _, _, _, rfl, hi2_0⟩
  clear hi2_0
  obtain ⟨D4, wb4, hD4, hw4, hb4_0, xb4⟩ := one w2 24 [.bool s2_0, .slice a2_0 n2_0 c2_0]
  have KB8 : Hid (∀ W, Ext wb4 W → W.cell? ⟨D4, 0, none⟩ = some (.bool s2_0) ∧ W.cell? ⟨D4, 1, none⟩ = some (.slice a2_0 n2_0 c2_0)) := Lib.hid fun W h => ⟨h.cell (hb4_0.cell (i := 0) rfl), h.cell (hb4_0.cell (i := 1) rfl)⟩
  clear hb4_0
  obtain ⟨cc4_0_7, cc4_1_7⟩ := KB4.out wb4 ((xs.trans x2).trans xb4)
  have hq4 := hw4.symm
  have hp4 := hD4.symm
  clear hw4 hD4
  go_wp2_with fail
  clear hq4 hp4
  clear cc4_0_7 cc4_1_7
  refine (Made_any ny ay ky cy ly 12 b _ (HWy.out.ext (((x0.trans xs).trans x2).trans xb4)) (by omega) E_b.out).mono ?_
  rintro e w6 ⟨⟨v6_0, rfl, ⟨s6_0, a6_0, n6_0, c6_0, rfl, hi6_0⟩⟩, x6⟩
  have HV6_0 : Hid (IntV w6 (.agg #[.bool s6_0, .slice a6_0 n6_0 c6_0]) (b)) := Lib.hid ⟨_, _, _, _, rfl, hi6_0⟩
  clear hi6_0
  obtain ⟨D8, wb8, hD8, hw8, hb8_0, xb8⟩ := one w6 24 [.bool s6_0, .slice a6_0 n6_0 c6_0]
  have KB9 : Hid (∀ W, Ext wb8 W → W.cell? ⟨D8, 0, none⟩ = some (.bool s6_0) ∧ W.cell? ⟨D8, 1, none⟩ = some (.slice a6_0 n6_0 c6_0)) := Lib.hid fun W h => ⟨h.cell (hb8_0.cell (i := 0) rfl), h.cell (hb8_0.cell (i := 1) rfl)⟩
  clear hb8_0
  obtain ⟨cc8_0_9, cc8_1_9⟩ := KB8.out wb8 (x6.trans xb8)
  obtain ⟨cc9_0_10, cc9_1_10⟩ := KB9.out wb8 (Ext.refl _)
  have hq8 := hw8.symm
  have hp8 := hD8.symm
  clear hw8 hD8
  go_wp2_with fail
  clear hq8 hp8
  clear cc8_0_9 cc8_1_9 cc9_0_10 cc9_1_10
  refine (divmod_z _ _ a b er q r _ (HV2_0.out.ext ((xb4.trans x6).trans xb8)) (HV6_0.out.ext xb8) (HF1.out.mono (by omega)) (HF5.out.mono (by omega)) HER.out HQ.out HR.out).mono ?_
  rintro e w11 ⟨⟨s11_0, a11_0, n11_0, c11_0, s11_1, a11_1, n11_1, c11_1, rfl, h11_0, h11_1⟩, x11⟩
  have HV11_0 : Hid (IntV w11 (.agg #[.bool s11_0, .slice a11_0 n11_0 c11_0]) (q)) := Lib.hid ⟨_, _, _, _, rfl, h11_0⟩
  clear h11_0
  have HV11_1 : Hid (IntV w11 (.agg #[.bool s11_1, .slice a11_1 n11_1 c11_1]) (r)) := Lib.hid ⟨_, _, _, _, rfl, h11_1⟩
  clear h11_1
  obtain ⟨D12, wb12, hD12, hw12, hb12_0, hb12_1, xb12⟩ := two w11 24 24 [.bool s11_0, .slice a11_0 n11_0 c11_0] [.bool s11_1, .slice a11_1 n11_1 c11_1]
  have KB10 : Hid (∀ W, Ext wb12 W → W.cell? ⟨D12, 0, none⟩ = some (.bool s11_0) ∧ W.cell? ⟨D12, 1, none⟩ = some (.slice a11_0 n11_0 c11_0)) := Lib.hid fun W h => ⟨h.cell (hb12_0.cell (i := 0) rfl), h.cell (hb12_0.cell (i := 1) rfl)⟩
  have KB11 : Hid (∀ W, Ext wb12 W → W.cell? ⟨D12 + 1, 0, none⟩ = some (.bool s11_1) ∧ W.cell? ⟨D12 + 1, 1, none⟩ = some (.slice a11_1 n11_1 c11_1)) := Lib.hid fun W h => ⟨h.cell (hb12_1.cell (i := 0) rfl), h.cell (hb12_1.cell (i := 1) rfl)⟩
  clear hb12_0 hb12_1
  obtain ⟨cc8_0_13, cc8_1_13⟩ := KB8.out wb12 (((x6.trans xb8).trans x11).trans xb12)
  obtain ⟨cc9_0_14, cc9_1_14⟩ := KB9.out wb12 (x11.trans xb12)
  have hq12 := hw12.symm
  have hp12 := hD12.symm
  clear hw12 hD12
  go_wp2_with fail
  clear hq12 hp12
  clear cc8_0_13 cc8_1_13 cc9_0_14 cc9_1_14
  refine (rdivmod_z _ _ a b er q r _ (HV2_0.out.ext ((((xb4.trans x6).trans xb8).trans x11).trans xb12)) (HV6_0.out.ext ((xb8.trans x11).trans xb12)) (HF1.out.mono (by omega)) (HF5.out.mono (by omega)) HER.out HQ.out HR.out).mono ?_
  rintro e w15 ⟨⟨s15_0, a15_0, n15_0, c15_0, s15_1, a15_1, n15_1, c15_1, rfl, h15_0, h15_1⟩, x15⟩
  have HV15_0 : Hid (IntV w15 (.agg #[.bool s15_0, .slice a15_0 n15_0 c15_0]) (q)) := Lib.hid ⟨_, _, _, _, rfl, h15_0⟩
  clear h15_0
  have HV15_1 : Hid (IntV w15 (.agg #[.bool s15_1, .slice a15_1 n15_1 c15_1]) (r)) := Lib.hid ⟨_, _, _, _, rfl, h15_1⟩
  clear h15_1
  obtain ⟨D16, wb16, hD16, hw16, hb16_0, hb16_1, xb16⟩ := two w15 24 24 [.bool s15_0, .slice a15_0 n15_0 c15_0] [.bool s15_1, .slice a15_1 n15_1 c15_1]
  have KB13 : Hid (∀ W, Ext wb16 W → W.cell? ⟨D16, 0, none⟩ = some (.bool s15_0) ∧ W.cell? ⟨D16, 1, none⟩ = some (.slice a15_0 n15_0 c15_0)) := Lib.hid fun W h => ⟨h.cell (hb16_0.cell (i := 0) rfl), h.cell (hb16_0.cell (i := 1) rfl)⟩
  have KB14 : Hid (∀ W, Ext wb16 W → W.cell? ⟨D16 + 1, 0, none⟩ = some (.bool s15_1) ∧ W.cell? ⟨D16 + 1, 1, none⟩ = some (.slice a15_1 n15_1 c15_1)) := Lib.hid fun W h => ⟨h.cell (hb16_1.cell (i := 0) rfl), h.cell (hb16_1.cell (i := 1) rfl)⟩
  clear hb16_0 hb16_1
  obtain ⟨cc8_0_17, cc8_1_17⟩ := KB8.out wb16 (((((x6.trans xb8).trans x11).trans xb12).trans x15).trans xb16)
  obtain ⟨cc9_0_18, cc9_1_18⟩ := KB9.out wb16 (((x11.trans xb12).trans x15).trans xb16)
  have hq16 := hw16.symm
  have hp16 := hD16.symm
  clear hw16 hD16
  go_wp2_with fail
  clear hq16 hp16
  clear cc8_0_17 cc8_1_17 cc9_0_18 cc9_1_18
  refine (bezout_z _ _ a b g u v _ (HV2_0.out.ext ((((((xb4.trans x6).trans xb8).trans x11).trans xb12).trans x15).trans xb16)) (HV6_0.out.ext ((((xb8.trans x11).trans xb12).trans x15).trans xb16)) (HF1.out.mono (by omega)) (HF5.out.mono (by omega)) HBZ.out).mono ?_
  rintro e w19 ⟨⟨s19_0, a19_0, n19_0, c19_0, s19_1, a19_1, n19_1, c19_1, s19_2, a19_2, n19_2, c19_2, rfl, h19_0, h19_1, h19_2⟩, x19⟩
  have HV19_0 : Hid (IntV w19 (.agg #[.bool s19_0, .slice a19_0 n19_0 c19_0]) (g)) := Lib.hid ⟨_, _, _, _, rfl, h19_0⟩
  clear h19_0
  have HV19_1 : Hid (IntV w19 (.agg #[.bool s19_1, .slice a19_1 n19_1 c19_1]) (u)) := Lib.hid ⟨_, _, _, _, rfl, h19_1⟩
  clear h19_1
  have HV19_2 : Hid (IntV w19 (.agg #[.bool s19_2, .slice a19_2 n19_2 c19_2]) (v)) := Lib.hid ⟨_, _, _, _, rfl, h19_2⟩
  clear h19_2
  obtain ⟨D20, wb20, hD20, hw20, hb20_0, hb20_1, hb20_2, xb20⟩ := three w19 24 24 24 [.bool s19_0, .slice a19_0 n19_0 c19_0] [.bool s19_1, .slice a19_1 n19_1 c19_1] [.bool s19_2, .slice a19_2 n19_2 c19_2]
  have KB16 : Hid (∀ W, Ext wb20 W → W.cell? ⟨D20, 0, none⟩ = some (.bool s19_0) ∧ W.cell? ⟨D20, 1, none⟩ = some (.slice a19_0 n19_0 c19_0)) := Lib.hid fun W h => ⟨h.cell (hb20_0.cell (i := 0) rfl), h.cell (hb20_0.cell (i := 1) rfl)⟩
  have KB17 : Hid (∀ W, Ext wb20 W → W.cell? ⟨D20 + 1, 0, none⟩ = some (.bool s19_1) ∧ W.cell? ⟨D20 + 1, 1, none⟩ = some (.slice a19_1 n19_1 c19_1)) := Lib.hid fun W h => ⟨h.cell (hb20_1.cell (i := 0) rfl), h.cell (hb20_1.cell (i := 1) rfl)⟩
  have KB18 : Hid (∀ W, Ext wb20 W → W.cell? ⟨D20 + 1 + 1, 0, none⟩ = some (.bool s19_2) ∧ W.cell? ⟨D20 + 1 + 1, 1, none⟩ = some (.slice a19_2 n19_2 c19_2)) := Lib.hid fun W h => ⟨h.cell (hb20_2.cell (i := 0) rfl), h.cell (hb20_2.cell (i := 1) rfl)⟩
  clear hb20_0 hb20_1 hb20_2
  obtain ⟨cc8_0_21, cc8_1_21⟩ := KB8.out wb20 (((((((x6.trans xb8).trans x11).trans xb12).trans x15).trans xb16).trans x19).trans xb20)
  obtain ⟨cc9_0_22, cc9_1_22⟩ := KB9.out wb20 (((((x11.trans xb12).trans x15).trans xb16).trans x19).trans xb20)
  have hq20 := hw20.symm
  have hp20 := hD20.symm
  clear hw20 hD20
  go_wp2_with fail
  clear hq20 hp20
  clear cc8_0_21 cc8_1_21 cc9_0_22 cc9_1_22
  refine (rbezout_z _ _ a b g u v _ (HV2_0.out.ext ((((((((xb4.trans x6).trans xb8).trans x11).trans xb12).trans x15).trans xb16).trans x19).trans xb20)) (HV6_0.out.ext ((((((xb8.trans x11).trans xb12).trans x15).trans xb16).trans x19).trans xb20)) (HF1.out.mono (by omega)) (HF5.out.mono (by omega)) HBZ.out).mono ?_
  rintro e w23 ⟨⟨s23_0, a23_0, n23_0, c23_0, s23_1, a23_1, n23_1, c23_1, s23_2, a23_2, n23_2, c23_2, rfl, h23_0, h23_1, h23_2⟩, x23⟩
  have HV23_0 : Hid (IntV w23 (.agg #[.bool s23_0, .slice a23_0 n23_0 c23_0]) (g)) := Lib.hid ⟨_, _, _, _, rfl, h23_0⟩
  clear h23_0
  have HV23_1 : Hid (IntV w23 (.agg #[.bool s23_1, .slice a23_1 n23_1 c23_1]) (u)) := Lib.hid ⟨_, _, _, _, rfl, h23_1⟩
  clear h23_1
  have HV23_2 : Hid (IntV w23 (.agg #[.bool s23_2, .slice a23_2 n23_2 c23_2]) (v)) := Lib.hid ⟨_, _, _, _, rfl, h23_2⟩
  clear h23_2
  obtain ⟨D24, wb24, hD24, hw24, hb24_0, hb24_1, hb24_2, xb24⟩ := three w23 24 24 24 [.bool s23_0, .slice a23_0 n23_0 c23_0] [.bool s23_1, .slice a23_1 n23_1 c23_1] [.bool s23_2, .slice a23_2 n23_2 c23_2]
  have KB19 : Hid (∀ W, Ext wb24 W → W.cell? ⟨D24, 0, none⟩ = some (.bool s23_0) ∧ W.cell? ⟨D24, 1, none⟩ = some (.slice a23_0 n23_0 c23_0)) := Lib.hid fun W h => ⟨h.cell (hb24_0.cell (i := 0) rfl), h.cell (hb24_0.cell (i := 1) rfl)⟩
  have KB20 : Hid (∀ W, Ext wb24 W → W.cell? ⟨D24 + 1, 0, none⟩ = some (.bool s23_1) ∧ W.cell? ⟨D24 + 1, 1, none⟩ = some (.slice a23_1 n23_1 c23_1)) := Lib.hid fun W h => ⟨h.cell (hb24_1.cell (i := 0) rfl), h.cell (hb24_1.cell (i := 1) rfl)⟩
  have KB21 : Hid (∀ W, Ext wb24 W → W.cell? ⟨D24 + 1 + 1, 0, none⟩ = some (.bool s23_2) ∧ W.cell? ⟨D24 + 1 + 1, 1, none⟩ = some (.slice a23_2 n23_2 c23_2)) := Lib.hid fun W h => ⟨h.cell (hb24_2.cell (i := 0) rfl), h.cell (hb24_2.cell (i := 1) rfl)⟩
  clear hb24_0 hb24_1 hb24_2
  have KX25 : Hid (∀ w', Ext wb24 w' → w'.cell? ⟨D12, 0, none⟩ = some (.bool s11_0) ∧ w'.cell? ⟨D12, 1, none⟩ = some (.slice a11_0 n11_0 c11_0) ∧ w'.cell? ⟨D16, 0, none⟩ = some (.bool s15_0) ∧ w'.cell? ⟨D16, 1, none⟩ = some (.slice a15_0 n15_0 c15_0) ∧ w'.cell? ⟨D12 + 1, 0, none⟩ = some (.bool s11_1) ∧ w'.cell? ⟨D12 + 1, 1, none⟩ = some (.slice a11_1 n11_1 c11_1) ∧ w'.cell? ⟨D16 + 1, 0, none⟩ = some (.bool s15_1) ∧ w'.cell? ⟨D16 + 1, 1, none⟩ = some (.slice a15_1 n15_1 c15_1) ∧ w'.cell? ⟨D20, 0, none⟩ = some (.bool s19_0) ∧ w'.cell? ⟨D20, 1, none⟩ = some (.slice a19_0 n19_0 c19_0) ∧ w'.cell? ⟨D20 + 1, 0, none⟩ = some (.bool s19_1) ∧ w'.cell? ⟨D20 + 1, 1, none⟩ = some (.slice a19_1 n19_1 c19_1) ∧ w'.cell? ⟨D20 + 1 + 1, 0, none⟩ = some (.bool s19_2) ∧ w'.cell? ⟨D20 + 1 + 1, 1, none⟩ = some (.slice a19_2 n19_2 c19_2) ∧ w'.cell? ⟨D24, 0, none⟩ = some (.bool s23_0) ∧ w'.cell? ⟨D24, 1, none⟩ = some (.slice a23_0 n23_0 c23_0) ∧ w'.cell? ⟨D24 + 1, 0, none⟩ = some (.bool s23_1) ∧ w'.cell? ⟨D24 + 1, 1, none⟩ = some (.slice a23_1 n23_1 c23_1) ∧ w'.cell? ⟨D24 + 1 + 1, 0, none⟩ = some (.bool s23_2) ∧ w'.cell? ⟨D24 + 1 + 1, 1, none⟩ = some (.slice a23_2 n23_2 c23_2) ∧ w'.cell? ⟨D4, 0, none⟩ = some (.bool s2_0) ∧ w'.cell? ⟨D4, 1, none⟩ = some (.slice a2_0 n2_0 c2_0) ∧ w'.cell? ⟨D8, 0, none⟩ = some (.bool s6_0) ∧ w'.cell? ⟨D8, 1, none⟩ = some (.slice a6_0 n6_0 c6_0)) := Lib.hid fun w' h => by
    have q10 := KB10.out w' ((((((x15.trans xb16).trans x19).trans xb20).trans x23).trans xb24).trans h)
    have q13 := KB13.out w' ((((x19.trans xb20).trans x23).trans xb24).trans h)
    have q11 := KB11.out w' ((((((x15.trans xb16).trans x19).trans xb20).trans x23).trans xb24).trans h)
    have q14 := KB14.out w' ((((x19.trans xb20).trans x23).trans xb24).trans h)
    have q16 := KB16.out w' ((x23.trans xb24).trans h)
    have q17 := KB17.out w' ((x23.trans xb24).trans h)
    have q18 := KB18.out w' ((x23.trans xb24).trans h)
    have q19 := KB19.out w' ((Ext.refl _).trans h)
    have q20 := KB20.out w' ((Ext.refl _).trans h)
    have q21 := KB21.out w' ((Ext.refl _).trans h)
    have q8 := KB8.out w' ((((((((((x6.trans xb8).trans x11).trans xb12).trans x15).trans xb16).trans x19).trans xb20).trans x23).trans xb24).trans h)
    have q9 := KB9.out w' ((((((((x11.trans xb12).trans x15).trans xb16).trans x19).trans xb20).trans x23).trans xb24).trans h)
    exact ⟨q10.1, q10.2, q13.1, q13.2, q11.1, q11.2, q14.1, q14.2, q16.1, q16.2, q17.1, q17.2, q18.1, q18.2, q19.1, q19.2, q20.1, q20.2, q21.1, q21.2, q8.1, q8.2, q9.1, q9.2⟩
  have hq24 := hw24.symm
  have hp24 := hD24.symm
  clear hw24 hD24
  go_wp2_with fail
  clear hq24 hp24
  have hz25 := Below.drewExt wb24
  go_region_held3
    (fun w' => w'.cell? ⟨D12, 0, none⟩ = some (.bool s11_0) ∧ w'.cell? ⟨D12, 1, none⟩ = some (.slice a11_0 n11_0 c11_0) ∧ w'.cell? ⟨D16, 0, none⟩ = some (.bool s15_0) ∧ w'.cell? ⟨D16, 1, none⟩ = some (.slice a15_0 n15_0 c15_0) ∧ w'.cell? ⟨D12 + 1, 0, none⟩ = some (.bool s11_1) ∧ w'.cell? ⟨D12 + 1, 1, none⟩ = some (.slice a11_1 n11_1 c11_1) ∧ w'.cell? ⟨D16 + 1, 0, none⟩ = some (.bool s15_1) ∧ w'.cell? ⟨D16 + 1, 1, none⟩ = some (.slice a15_1 n15_1 c15_1) ∧ w'.cell? ⟨D20, 0, none⟩ = some (.bool s19_0) ∧ w'.cell? ⟨D20, 1, none⟩ = some (.slice a19_0 n19_0 c19_0) ∧ w'.cell? ⟨D20 + 1, 0, none⟩ = some (.bool s19_1) ∧ w'.cell? ⟨D20 + 1, 1, none⟩ = some (.slice a19_1 n19_1 c19_1) ∧ w'.cell? ⟨D20 + 1 + 1, 0, none⟩ = some (.bool s19_2) ∧ w'.cell? ⟨D20 + 1 + 1, 1, none⟩ = some (.slice a19_2 n19_2 c19_2) ∧ w'.cell? ⟨D24, 0, none⟩ = some (.bool s23_0) ∧ w'.cell? ⟨D24, 1, none⟩ = some (.slice a23_0 n23_0 c23_0) ∧ w'.cell? ⟨D24 + 1, 0, none⟩ = some (.bool s23_1) ∧ w'.cell? ⟨D24 + 1, 1, none⟩ = some (.slice a23_1 n23_1 c23_1) ∧ w'.cell? ⟨D24 + 1 + 1, 0, none⟩ = some (.bool s23_2) ∧ w'.cell? ⟨D24 + 1 + 1, 1, none⟩ = some (.slice a23_2 n23_2 c23_2) ∧ w'.cell? ⟨D4, 0, none⟩ = some (.bool s2_0) ∧ w'.cell? ⟨D4, 1, none⟩ = some (.slice a2_0 n2_0 c2_0) ∧ w'.cell? ⟨D8, 0, none⟩ = some (.bool s6_0) ∧ w'.cell? ⟨D8, 1, none⟩ = some (.slice a6_0 n6_0 c6_0))
    (with_reducible exact KX25.out _ (by assumption))
    (first
    | (go_at_call 21; (with_reducible refine (same_eq _ _ (q) (q) _ (HV11_0.out.ext (((((((xb12.trans x15).trans xb16).trans x19).trans xb20).trans x23).trans xb24).trans hz25)) (HV15_0.out.ext (((((xb16.trans x19).trans xb20).trans x23).trans xb24).trans hz25)) (Eq.refl _)).mono ?_); rintro e w26 ⟨rfl, x26⟩; have hz26 := hz25.trans x26)
    | (go_at_call 21; (with_reducible refine (same_eq _ _ (r) (r) _ (HV11_1.out.ext ((((((((xb12.trans x15).trans xb16).trans x19).trans xb20).trans x23).trans xb24).trans hz25).trans x26)) (HV15_1.out.ext ((((((xb16.trans x19).trans xb20).trans x23).trans xb24).trans hz25).trans x26)) (Eq.refl _)).mono ?_); rintro e w27 ⟨rfl, x27⟩; have hz27 := hz26.trans x27)
    | (go_at_call 37; (with_reducible refine (same3_true s19_0 a19_0 n19_0 c19_0 s19_1 a19_1 n19_1 c19_1 s19_2 a19_2 n19_2 c19_2 s23_0 a23_0 n23_0 c23_0 s23_1 a23_1 n23_1 c23_1 s23_2 a23_2 n23_2 c23_2 g u v _ (HV19_0.out.ext (((((xb20.trans x23).trans xb24).trans hz25).trans x26).trans x27)) (HV19_1.out.ext (((((xb20.trans x23).trans xb24).trans hz25).trans x26).trans x27)) (HV19_2.out.ext (((((xb20.trans x23).trans xb24).trans hz25).trans x26).trans x27)) (HV23_0.out.ext (((xb24.trans hz25).trans x26).trans x27)) (HV23_1.out.ext (((xb24.trans hz25).trans x26).trans x27)) (HV23_2.out.ext (((xb24.trans hz25).trans x26).trans x27))).mono ?_); rintro e w28 ⟨rfl, x28⟩; have hz28 := hz27.trans x28)
    | (go_at_call 38; (with_reducible refine (gcd_any _ _ a b _ (HV2_0.out.ext ((((((((((((((xb4.trans x6).trans xb8).trans x11).trans xb12).trans x15).trans xb16).trans x19).trans xb20).trans x23).trans xb24).trans hz25).trans x26).trans x27).trans x28)) (HV6_0.out.ext ((((((((((((xb8.trans x11).trans xb12).trans x15).trans xb16).trans x19).trans xb20).trans x23).trans xb24).trans hz25).trans x26).trans x27).trans x28)) (HF1.out.mono (by omega)) (HF5.out.mono (by omega))).mono ?_); rintro e w29 ⟨⟨v29_0, rfl, hv29_0⟩, x29⟩; have hz29 := hz28.trans x29)
    | (go_at_call 39; (with_reducible refine (rgcd_any _ _ a b _ (HV2_0.out.ext (((((((((((((((xb4.trans x6).trans xb8).trans x11).trans xb12).trans x15).trans xb16).trans x19).trans xb20).trans x23).trans xb24).trans hz25).trans x26).trans x27).trans x28).trans x29)) (HV6_0.out.ext (((((((((((((xb8.trans x11).trans xb12).trans x15).trans xb16).trans x19).trans xb20).trans x23).trans xb24).trans hz25).trans x26).trans x27).trans x28).trans x29)) (HF1.out.mono (by omega)) (HF5.out.mono (by omega))).mono ?_); rintro e w30 ⟨⟨v30_0, rfl, hv30_0⟩, x30⟩; have hz30 := hz29.trans x30)
    | (go_at_call 21; (with_reducible refine (same_eq _ _ (((Int.gcd a b : Nat) : Int)) (((Int.gcd a b : Nat) : Int)) _ (hv29_0.ext x30) hv30_0 (Eq.refl _)).mono ?_); rintro e w31 ⟨rfl, x31⟩; have hz31 := hz30.trans x31)
    )
  clear KX25
  have KX32 : Hid (∀ w', Ext w31 w' → w'.cell? ⟨D4, 0, none⟩ = some (.bool s2_0) ∧ w'.cell? ⟨D4, 1, none⟩ = some (.slice a2_0 n2_0 c2_0) ∧ w'.cell? ⟨D8, 0, none⟩ = some (.bool s6_0) ∧ w'.cell? ⟨D8, 1, none⟩ = some (.slice a6_0 n6_0 c6_0)) := Lib.hid fun w' h => by
    have q8 := KB8.out w' (((((((((((((((((x6.trans xb8).trans x11).trans xb12).trans x15).trans xb16).trans x19).trans xb20).trans x23).trans xb24).trans hz25).trans x26).trans x27).trans x28).trans x29).trans x30).trans x31).trans h)
    have q9 := KB9.out w' (((((((((((((((x11.trans xb12).trans x15).trans xb16).trans x19).trans xb20).trans x23).trans xb24).trans hz25).trans x26).trans x27).trans x28).trans x29).trans x30).trans x31).trans h)
    exact ⟨q8.1, q8.2, q9.1, q9.2⟩
  go_wp2_with fail
  have hz32 := Below.drewExt w31
  go_region_held3
    (fun w' => w'.cell? ⟨D4, 0, none⟩ = some (.bool s2_0) ∧ w'.cell? ⟨D4, 1, none⟩ = some (.slice a2_0 n2_0 c2_0) ∧ w'.cell? ⟨D8, 0, none⟩ = some (.bool s6_0) ∧ w'.cell? ⟨D8, 1, none⟩ = some (.slice a6_0 n6_0 c6_0))
    (with_reducible exact KX32.out _ (by assumption))
    (first
    | (go_at_call 40; (with_reducible refine (numbers_true s2_0 a2_0 n2_0 c2_0 a _ (HV2_0.out.ext ((((((((((((((((((xb4.trans x6).trans xb8).trans x11).trans xb12).trans x15).trans xb16).trans x19).trans xb20).trans x23).trans xb24).trans hz25).trans x26).trans x27).trans x28).trans x29).trans x30).trans x31).trans hz32)) HF1.out).mono ?_); rintro e w33 ⟨rfl, x33⟩; have hz33 := hz32.trans x33)
    | (go_at_call 16; (with_reducible refine (cmp_is _ _ (a) (b) (sg) _ (HV2_0.out.ext (((((((((((((((((((xb4.trans x6).trans xb8).trans x11).trans xb12).trans x15).trans xb16).trans x19).trans xb20).trans x23).trans xb24).trans hz25).trans x26).trans x27).trans x28).trans x29).trans x30).trans x31).trans hz32).trans x33)) (HV6_0.out.ext (((((((((((((((((xb8.trans x11).trans xb12).trans x15).trans xb16).trans x19).trans xb20).trans x23).trans xb24).trans hz25).trans x26).trans x27).trans x28).trans x29).trans x30).trans x31).trans hz32).trans x33)) HSG.out).mono ?_); rintro e w34 ⟨rfl, x34⟩; have hz34 := hz33.trans x34)
    | (go_at_call 41; (with_reducible refine (rcmp_is _ _ a b sg _ (HV2_0.out.ext ((((((((((((((((((((xb4.trans x6).trans xb8).trans x11).trans xb12).trans x15).trans xb16).trans x19).trans xb20).trans x23).trans xb24).trans hz25).trans x26).trans x27).trans x28).trans x29).trans x30).trans x31).trans hz32).trans x33).trans x34)) (HV6_0.out.ext ((((((((((((((((((xb8.trans x11).trans xb12).trans x15).trans xb16).trans x19).trans xb20).trans x23).trans xb24).trans hz25).trans x26).trans x27).trans x28).trans x29).trans x30).trans x31).trans hz32).trans x33).trans x34)) HSG.out).mono ?_); rintro e w35 ⟨rfl, x35⟩; have hz35 := hz34.trans x35)
    | (go_at_call 17; (with_reducible refine (add_any _ _ a b _ (HV2_0.out.ext (((((((((((((((((((((xb4.trans x6).trans xb8).trans x11).trans xb12).trans x15).trans xb16).trans x19).trans xb20).trans x23).trans xb24).trans hz25).trans x26).trans x27).trans x28).trans x29).trans x30).trans x31).trans hz32).trans x33).trans x34).trans x35)) (HV6_0.out.ext (((((((((((((((((((xb8.trans x11).trans xb12).trans x15).trans xb16).trans x19).trans xb20).trans x23).trans xb24).trans hz25).trans x26).trans x27).trans x28).trans x29).trans x30).trans x31).trans hz32).trans x33).trans x34).trans x35)) (HF1.out.mono (by omega)) (HF5.out.mono (by omega))).mono ?_); rintro e w36 ⟨⟨v36_0, rfl, hv36_0⟩, x36⟩; have hz36 := hz35.trans x36)
    | (go_at_call 42; (with_reducible refine (radd_any _ _ a b _ (HV2_0.out.ext ((((((((((((((((((((((xb4.trans x6).trans xb8).trans x11).trans xb12).trans x15).trans xb16).trans x19).trans xb20).trans x23).trans xb24).trans hz25).trans x26).trans x27).trans x28).trans x29).trans x30).trans x31).trans hz32).trans x33).trans x34).trans x35).trans x36)) (HV6_0.out.ext ((((((((((((((((((((xb8.trans x11).trans xb12).trans x15).trans xb16).trans x19).trans xb20).trans x23).trans xb24).trans hz25).trans x26).trans x27).trans x28).trans x29).trans x30).trans x31).trans hz32).trans x33).trans x34).trans x35).trans x36)) (HF1.out.mono (by omega)) (HF5.out.mono (by omega))).mono ?_); rintro e w37 ⟨⟨v37_0, rfl, hv37_0⟩, x37⟩; have hz37 := hz36.trans x37)
    | (go_at_call 21; (with_reducible refine (same_eq _ _ (a + b) (a + b) _ (hv36_0.ext x37) hv37_0 (Eq.refl _)).mono ?_); rintro e w38 ⟨rfl, x38⟩; have hz38 := hz37.trans x38)
    | (go_at_call 19; (with_reducible refine (sub_any _ _ a b _ (HV2_0.out.ext ((((((((((((((((((((((((xb4.trans x6).trans xb8).trans x11).trans xb12).trans x15).trans xb16).trans x19).trans xb20).trans x23).trans xb24).trans hz25).trans x26).trans x27).trans x28).trans x29).trans x30).trans x31).trans hz32).trans x33).trans x34).trans x35).trans x36).trans x37).trans x38)) (HV6_0.out.ext ((((((((((((((((((((((xb8.trans x11).trans xb12).trans x15).trans xb16).trans x19).trans xb20).trans x23).trans xb24).trans hz25).trans x26).trans x27).trans x28).trans x29).trans x30).trans x31).trans hz32).trans x33).trans x34).trans x35).trans x36).trans x37).trans x38)) (HF1.out.mono (by omega)) (HF5.out.mono (by omega))).mono ?_); rintro e w39 ⟨⟨v39_0, rfl, hv39_0⟩, x39⟩; have hz39 := hz38.trans x39)
    | (go_at_call 43; (with_reducible refine (rsub_any _ _ a b _ (HV2_0.out.ext (((((((((((((((((((((((((xb4.trans x6).trans xb8).trans x11).trans xb12).trans x15).trans xb16).trans x19).trans xb20).trans x23).trans xb24).trans hz25).trans x26).trans x27).trans x28).trans x29).trans x30).trans x31).trans hz32).trans x33).trans x34).trans x35).trans x36).trans x37).trans x38).trans x39)) (HV6_0.out.ext (((((((((((((((((((((((xb8.trans x11).trans xb12).trans x15).trans xb16).trans x19).trans xb20).trans x23).trans xb24).trans hz25).trans x26).trans x27).trans x28).trans x29).trans x30).trans x31).trans hz32).trans x33).trans x34).trans x35).trans x36).trans x37).trans x38).trans x39)) (HF1.out.mono (by omega)) (HF5.out.mono (by omega))).mono ?_); rintro e w40 ⟨⟨v40_0, rfl, hv40_0⟩, x40⟩; have hz40 := hz39.trans x40)
    | (go_at_call 21; (with_reducible refine (same_eq _ _ (a - b) (a - b) _ (hv39_0.ext x40) hv40_0 (Eq.refl _)).mono ?_); rintro e w41 ⟨rfl, x41⟩; have hz41 := hz40.trans x41)
    | (go_at_call 18; (with_reducible refine (mul_any _ _ a b _ (HV2_0.out.ext (((((((((((((((((((((((((((xb4.trans x6).trans xb8).trans x11).trans xb12).trans x15).trans xb16).trans x19).trans xb20).trans x23).trans xb24).trans hz25).trans x26).trans x27).trans x28).trans x29).trans x30).trans x31).trans hz32).trans x33).trans x34).trans x35).trans x36).trans x37).trans x38).trans x39).trans x40).trans x41)) (HV6_0.out.ext (((((((((((((((((((((((((xb8.trans x11).trans xb12).trans x15).trans xb16).trans x19).trans xb20).trans x23).trans xb24).trans hz25).trans x26).trans x27).trans x28).trans x29).trans x30).trans x31).trans hz32).trans x33).trans x34).trans x35).trans x36).trans x37).trans x38).trans x39).trans x40).trans x41)) (HF1.out.mono (by omega)) (HF5.out.mono (by omega))).mono ?_); rintro e w42 ⟨⟨v42_0, rfl, hv42_0⟩, x42⟩; have hz42 := hz41.trans x42)
    | (go_at_call 44; (with_reducible refine (rmul_any _ _ a b _ (HV2_0.out.ext ((((((((((((((((((((((((((((xb4.trans x6).trans xb8).trans x11).trans xb12).trans x15).trans xb16).trans x19).trans xb20).trans x23).trans xb24).trans hz25).trans x26).trans x27).trans x28).trans x29).trans x30).trans x31).trans hz32).trans x33).trans x34).trans x35).trans x36).trans x37).trans x38).trans x39).trans x40).trans x41).trans x42)) (HV6_0.out.ext ((((((((((((((((((((((((((xb8.trans x11).trans xb12).trans x15).trans xb16).trans x19).trans xb20).trans x23).trans xb24).trans hz25).trans x26).trans x27).trans x28).trans x29).trans x30).trans x31).trans hz32).trans x33).trans x34).trans x35).trans x36).trans x37).trans x38).trans x39).trans x40).trans x41).trans x42)) (HF1.out.mono (by omega)) (HF5.out.mono (by omega))).mono ?_); rintro e w43 ⟨⟨v43_0, rfl, hv43_0⟩, x43⟩; have hz43 := hz42.trans x43)
    | (go_at_call 21; (with_reducible refine (same_eq _ _ (a * b) (a * b) _ (hv42_0.ext x43) hv43_0 (Eq.refl _)).mono ?_); rintro e w44 ⟨rfl, x44⟩; have hz44 := hz43.trans x44)
    )
  clear KX32
  go_wp2_with fail
  obtain ⟨cc5_0_45, cc5_1_45⟩ := KB5.out w44 ((((((((((((((((((((((((((((((((xs.trans x2).trans xb4).trans x6).trans xb8).trans x11).trans xb12).trans x15).trans xb16).trans x19).trans xb20).trans x23).trans xb24).trans hz25).trans x26).trans x27).trans x28).trans x29).trans x30).trans x31).trans hz32).trans x33).trans x34).trans x35).trans x36).trans x37).trans x38).trans x39).trans x40).trans x41).trans x42).trans x43).trans x44)
  go_quiet (fail)
  have xq := (Ext.refl w44).drewN nq
  clear cc5_0_45 cc5_1_45
  obtain ⟨cc8_0_46, cc8_1_46⟩ := KB8.out (w44.drewN nq) ((((((((((((((((((((((((((((((x6.trans xb8).trans x11).trans xb12).trans x15).trans xb16).trans x19).trans xb20).trans x23).trans xb24).trans hz25).trans x26).trans x27).trans x28).trans x29).trans x30).trans x31).trans hz32).trans x33).trans x34).trans x35).trans x36).trans x37).trans x38).trans x39).trans x40).trans x41).trans x42).trans x43).trans x44).trans xq)
  obtain ⟨cc5_0_47, cc5_1_47⟩ := KB5.out (w44.drewN nq) (((((((((((((((((((((((((((((((((xs.trans x2).trans xb4).trans x6).trans xb8).trans x11).trans xb12).trans x15).trans xb16).trans x19).trans xb20).trans x23).trans xb24).trans hz25).trans x26).trans x27).trans x28).trans x29).trans x30).trans x31).trans hz32).trans x33).trans x34).trans x35).trans x36).trans x37).trans x38).trans x39).trans x40).trans x41).trans x42).trans x43).trans x44).trans xq)
  go_wp2_with fail
  clear cc8_0_46 cc8_1_46 cc5_0_47 cc5_1_47
  refine (Pow_z _ a v0 pe0 pz0 _ (HV2_0.out.ext (((((((((((((((((((((((((((((((xb4.trans x6).trans xb8).trans x11).trans xb12).trans x15).trans xb16).trans x19).trans xb20).trans x23).trans xb24).trans hz25).trans x26).trans x27).trans x28).trans x29).trans x30).trans x31).trans hz32).trans x33).trans x34).trans x35).trans x36).trans x37).trans x38).trans x39).trans x40).trans x41).trans x42).trans x43).trans x44).trans xq)) HF1.out HPE.out HPZ.out).mono ?_
  rintro e w48 ⟨⟨s48_0, a48_0, n48_0, c48_0, rfl, h48_0⟩, x48⟩
  have HV48_0 : Hid (IntV w48 (.agg #[.bool s48_0, .slice a48_0 n48_0 c48_0]) (pz0)) := Lib.hid ⟨_, _, _, _, rfl, h48_0⟩
  clear h48_0
  obtain ⟨D49, wb49, hD49, hw49, hb49_0, xb49⟩ := one w48 24 [.bool s48_0, .slice a48_0 n48_0 c48_0]
  have KB22 : Hid (∀ W, Ext wb49 W → W.cell? ⟨D49, 0, none⟩ = some (.bool s48_0) ∧ W.cell? ⟨D49, 1, none⟩ = some (.slice a48_0 n48_0 c48_0)) := Lib.hid fun W h => ⟨h.cell (hb49_0.cell (i := 0) rfl), h.cell (hb49_0.cell (i := 1) rfl)⟩
  clear hb49_0
  obtain ⟨cc8_0_50, cc8_1_50⟩ := KB8.out wb49 ((((((((((((((((((((((((((((((((x6.trans xb8).trans x11).trans xb12).trans x15).trans xb16).trans x19).trans xb20).trans x23).trans xb24).trans hz25).trans x26).trans x27).trans x28).trans x29).trans x30).trans x31).trans hz32).trans x33).trans x34).trans x35).trans x36).trans x37).trans x38).trans x39).trans x40).trans x41).trans x42).trans x43).trans x44).trans xq).trans x48).trans xb49)
  obtain ⟨cc5_0_51, cc5_1_51⟩ := KB5.out wb49 (((((((((((((((((((((((((((((((((((xs.trans x2).trans xb4).trans x6).trans xb8).trans x11).trans xb12).trans x15).trans xb16).trans x19).trans xb20).trans x23).trans xb24).trans hz25).trans x26).trans x27).trans x28).trans x29).trans x30).trans x31).trans hz32).trans x33).trans x34).trans x35).trans x36).trans x37).trans x38).trans x39).trans x40).trans x41).trans x42).trans x43).trans x44).trans xq).trans x48).trans xb49)
  have hq49 := hw49.symm
  have hp49 := hD49.symm
  clear hw49 hD49
  go_wp2_with fail
  clear hq49 hp49
  clear cc8_0_50 cc8_1_50 cc5_0_51 cc5_1_51
  refine (rPow_z _ a v0 pe0 pz0 _ (HV2_0.out.ext (((((((((((((((((((((((((((((((((xb4.trans x6).trans xb8).trans x11).trans xb12).trans x15).trans xb16).trans x19).trans xb20).trans x23).trans xb24).trans hz25).trans x26).trans x27).trans x28).trans x29).trans x30).trans x31).trans hz32).trans x33).trans x34).trans x35).trans x36).trans x37).trans x38).trans x39).trans x40).trans x41).trans x42).trans x43).trans x44).trans xq).trans x48).trans xb49)) HF1.out HPE.out HPZ.out).mono ?_
  rintro e w52 ⟨⟨s52_0, a52_0, n52_0, c52_0, rfl, h52_0⟩, x52⟩
  have HV52_0 : Hid (IntV w52 (.agg #[.bool s52_0, .slice a52_0 n52_0 c52_0]) (pz0)) := Lib.hid ⟨_, _, _, _, rfl, h52_0⟩
  clear h52_0
  obtain ⟨D53, wb53, hD53, hw53, hb53_0, xb53⟩ := one w52 24 [.bool s52_0, .slice a52_0 n52_0 c52_0]
  have KB24 : Hid (∀ W, Ext wb53 W → W.cell? ⟨D53, 0, none⟩ = some (.bool s52_0) ∧ W.cell? ⟨D53, 1, none⟩ = some (.slice a52_0 n52_0 c52_0)) := Lib.hid fun W h => ⟨h.cell (hb53_0.cell (i := 0) rfl), h.cell (hb53_0.cell (i := 1) rfl)⟩
  clear hb53_0
  obtain ⟨cc22_0_55, cc22_1_55⟩ := KB22.out wb53 (x52.trans xb53)
  obtain ⟨cc24_0_56, cc24_1_56⟩ := KB24.out wb53 (Ext.refl _)
  have hq53 := hw53.symm
  have hp53 := hD53.symm
  clear hw53 hD53
  go_wp2_with fail
  clear hq53 hp53
  clear cc22_0_55 cc22_1_55 cc24_0_56 cc24_1_56
  refine (same_eq _ _ (pz0) (pz0) _ (HV48_0.out.ext ((xb49.trans x52).trans xb53)) (HV52_0.out.ext xb53) (Eq.refl _)).mono ?_
  rintro e w54 ⟨rfl, x54⟩
  obtain ⟨cc8_0_57, cc8_1_57⟩ := KB8.out w54 (((((((((((((((((((((((((((((((((((x6.trans xb8).trans x11).trans xb12).trans x15).trans xb16).trans x19).trans xb20).trans x23).trans xb24).trans hz25).trans x26).trans x27).trans x28).trans x29).trans x30).trans x31).trans hz32).trans x33).trans x34).trans x35).trans x36).trans x37).trans x38).trans x39).trans x40).trans x41).trans x42).trans x43).trans x44).trans xq).trans x48).trans xb49).trans x52).trans xb53).trans x54)
  obtain ⟨cc5_0_58, cc5_1_58⟩ := KB5.out w54 ((((((((((((((((((((((((((((((((((((((xs.trans x2).trans xb4).trans x6).trans xb8).trans x11).trans xb12).trans x15).trans xb16).trans x19).trans xb20).trans x23).trans xb24).trans hz25).trans x26).trans x27).trans x28).trans x29).trans x30).trans x31).trans hz32).trans x33).trans x34).trans x35).trans x36).trans x37).trans x38).trans x39).trans x40).trans x41).trans x42).trans x43).trans x44).trans xq).trans x48).trans xb49).trans x52).trans xb53).trans x54)
  go_wp2_with fail
  clear cc8_0_57 cc8_1_57 cc5_0_58 cc5_1_58
  refine (Root_z _ a v1 re0 rz0 _ (HV2_0.out.ext ((((((((((((((((((((((((((((((((((((xb4.trans x6).trans xb8).trans x11).trans xb12).trans x15).trans xb16).trans x19).trans xb20).trans x23).trans xb24).trans hz25).trans x26).trans x27).trans x28).trans x29).trans x30).trans x31).trans hz32).trans x33).trans x34).trans x35).trans x36).trans x37).trans x38).trans x39).trans x40).trans x41).trans x42).trans x43).trans x44).trans xq).trans x48).trans xb49).trans x52).trans xb53).trans x54)) HF1.out HV1.out HRE.out HRZ.out).mono ?_
  rintro e w59 ⟨⟨s59_0, a59_0, n59_0, c59_0, rfl, h59_0⟩, x59⟩
  have HV59_0 : Hid (IntV w59 (.agg #[.bool s59_0, .slice a59_0 n59_0 c59_0]) (rz0)) := Lib.hid ⟨_, _, _, _, rfl, h59_0⟩
  clear h59_0
  obtain ⟨D60, wb60, hD60, hw60, hb60_0, xb60⟩ := one w59 24 [.bool s59_0, .slice a59_0 n59_0 c59_0]
  have KB26 : Hid (∀ W, Ext wb60 W → W.cell? ⟨D60, 0, none⟩ = some (.bool s59_0) ∧ W.cell? ⟨D60, 1, none⟩ = some (.slice a59_0 n59_0 c59_0)) := Lib.hid fun W h => ⟨h.cell (hb60_0.cell (i := 0) rfl), h.cell (hb60_0.cell (i := 1) rfl)⟩
  clear hb60_0
  obtain ⟨cc8_0_61, cc8_1_61⟩ := KB8.out wb60 (((((((((((((((((((((((((((((((((((((x6.trans xb8).trans x11).trans xb12).trans x15).trans xb16).trans x19).trans xb20).trans x23).trans xb24).trans hz25).trans x26).trans x27).trans x28).trans x29).trans x30).trans x31).trans hz32).trans x33).trans x34).trans x35).trans x36).trans x37).trans x38).trans x39).trans x40).trans x41).trans x42).trans x43).trans x44).trans xq).trans x48).trans xb49).trans x52).trans xb53).trans x54).trans x59).trans xb60)
  obtain ⟨cc5_0_62, cc5_1_62⟩ := KB5.out wb60 ((((((((((((((((((((((((((((((((((((((((xs.trans x2).trans xb4).trans x6).trans xb8).trans x11).trans xb12).trans x15).trans xb16).trans x19).trans xb20).trans x23).trans xb24).trans hz25).trans x26).trans x27).trans x28).trans x29).trans x30).trans x31).trans hz32).trans x33).trans x34).trans x35).trans x36).trans x37).trans x38).trans x39).trans x40).trans x41).trans x42).trans x43).trans x44).trans xq).trans x48).trans xb49).trans x52).trans xb53).trans x54).trans x59).trans xb60)
  have hq60 := hw60.symm
  have hp60 := hD60.symm
  clear hw60 hD60
  go_wp2_with fail
  clear hq60 hp60
  clear cc8_0_61 cc8_1_61 cc5_0_62 cc5_1_62
  refine (rRoot_z _ a v1 re0 rz0 _ (HV2_0.out.ext ((((((((((((((((((((((((((((((((((((((xb4.trans x6).trans xb8).trans x11).trans xb12).trans x15).trans xb16).trans x19).trans xb20).trans x23).trans xb24).trans hz25).trans x26).trans x27).trans x28).trans x29).trans x30).trans x31).trans hz32).trans x33).trans x34).trans x35).trans x36).trans x37).trans x38).trans x39).trans x40).trans x41).trans x42).trans x43).trans x44).trans xq).trans x48).trans xb49).trans x52).trans xb53).trans x54).trans x59).trans xb60)) HF1.out HV1.out HRE.out HRZ.out).mono ?_
  rintro e w63 ⟨⟨s63_0, a63_0, n63_0, c63_0, rfl, h63_0⟩, x63⟩
  have HV63_0 : Hid (IntV w63 (.agg #[.bool s63_0, .slice a63_0 n63_0 c63_0]) (rz0)) := Lib.hid ⟨_, _, _, _, rfl, h63_0⟩
  clear h63_0
  obtain ⟨D64, wb64, hD64, hw64, hb64_0, xb64⟩ := one w63 24 [.bool s63_0, .slice a63_0 n63_0 c63_0]
  have KB28 : Hid (∀ W, Ext wb64 W → W.cell? ⟨D64, 0, none⟩ = some (.bool s63_0) ∧ W.cell? ⟨D64, 1, none⟩ = some (.slice a63_0 n63_0 c63_0)) := Lib.hid fun W h => ⟨h.cell (hb64_0.cell (i := 0) rfl), h.cell (hb64_0.cell (i := 1) rfl)⟩
  clear hb64_0
  obtain ⟨cc26_0_66, cc26_1_66⟩ := KB26.out wb64 (x63.trans xb64)
  obtain ⟨cc28_0_67, cc28_1_67⟩ := KB28.out wb64 (Ext.refl _)
  have hq64 := hw64.symm
  have hp64 := hD64.symm
  clear hw64 hD64
  go_wp2_with fail
  clear hq64 hp64
  clear cc26_0_66 cc26_1_66 cc28_0_67 cc28_1_67
  refine (same_eq _ _ (rz0) (rz0) _ (HV59_0.out.ext ((xb60.trans x63).trans xb64)) (HV63_0.out.ext xb64) (Eq.refl _)).mono ?_
  rintro e w65 ⟨rfl, x65⟩
  go_wp2_with fail
  go_ret
  exact ⟨rfl, ((((((((((((((((((((((((((((((((((((((((((((x0.trans xs).trans x2).trans xb4).trans x6).trans xb8).trans x11).trans xb12).trans x15).trans xb16).trans x19).trans xb20).trans x23).trans xb24).trans hz25).trans x26).trans x27).trans x28).trans x29).trans x30).trans x31).trans hz32).trans x33).trans x34).trans x35).trans x36).trans x37).trans x38).trans x39).trans x40).trans x41).trans x42).trans x43).trans x44).trans xq).trans x48).trans xb49).trans x52).trans xb53).trans x54).trans x59).trans xb60).trans x63).trans xb64).trans x65)⟩
set_option maxRecDepth 100000 in
set_option maxHeartbeats 8000000 in
theorem matches_big (nx : Bool) (ax : Option Addr) (kx cx : Nat) (lx : List Int) (a : Int) (ea : a = rawZ nx lx 12) (ny : Bool) (ay : Option Addr) (ky cy : Nat) (ly : List Int) (b : Int) (eb : b = rawZ ny ly 12) (w : World) (hx : Words w ax kx cx lx) (hy : Words w ay ky cy ly) (v0 v1 : Int) (hv : v1 < 9223372036854775808) (hc : 4096 < v0) :
    Calls Tryz.prog 11 #[.agg #[.bool nx, .slice ax kx cx], .agg #[.bool ny, .slice ay ky cy], .agg #[.int .i64 v0, .int .i64 v1]] w fun e w' => e = .returned (.bool true) ∧ Ext w w' := by
  have E_a := Lib.hid ea
  have HWx := Lib.hid hx
  clear ea hx
  have E_b := Lib.hid eb
  have HWy := Lib.hid hy
  clear eb hy
  have hd0 : decide (v0 < 0) = false := by simp; omega
  have hd1 : decide (4096 < v0) = true := by simp; omega
  obtain ⟨er, h_er⟩ : ∃ x, errZ b = x := ⟨_, rfl⟩
  have HER := Lib.hid h_er
  clear h_er
  obtain ⟨q, h_q⟩ : ∃ x, a / b = x := ⟨_, rfl⟩
  have HQ := Lib.hid h_q
  clear h_q
  obtain ⟨r, h_r⟩ : ∃ x, remZ a b = x := ⟨_, rfl⟩
  have HR := Lib.hid h_r
  clear h_r
  obtain ⟨sg, h_sg⟩ : ∃ x, sgn a b = x := ⟨_, rfl⟩
  have HSG := Lib.hid h_sg
  clear h_sg
  obtain ⟨g, u, v, h_bz⟩ : ∃ g u v, bz a b = (g, u, v) := ⟨_, _, _, rfl⟩
  have HBZ := Lib.hid h_bz
  clear h_bz
  obtain ⟨pe0, h_pe0⟩ : ∃ x, powE v0 = x := ⟨_, rfl⟩
  have HPE := Lib.hid h_pe0
  clear h_pe0
  obtain ⟨pz0, h_pz0⟩ : ∃ x, powZ a v0 = x := ⟨_, rfl⟩
  have HPZ := Lib.hid h_pz0
  clear h_pz0
  obtain ⟨re0, h_re0⟩ : ∃ x, rootE a v1 = x := ⟨_, rfl⟩
  have HRE := Lib.hid h_re0
  clear h_re0
  obtain ⟨rz0, h_rz0⟩ : ∃ x, rootZ a v1 = x := ⟨_, rfl⟩
  have HRZ := Lib.hid h_rz0
  clear h_rz0
  have n_er : (er != er) = false := by simp
  have m_er : (er == er) = true := by simp
  have n_sg : (sg != sg) = false := by simp
  have m_sg : (sg == sg) = true := by simp
  have n_pe0 : (pe0 != pe0) = false := by simp
  have m_pe0 : (pe0 == pe0) = true := by simp
  have n_re0 : (re0 != re0) = false := by simp
  have m_re0 : (re0 == re0) = true := by simp
  have HV1 := Lib.hid hv
  clear hv
  obtain ⟨B0, w0, hB0, hw0, hr0, hr1, hr2, x0⟩ := three w 25 25 54 [.bool nx, .slice ax kx cx] [.bool ny, .slice ay ky cy] [.int .i64 v0, .int .i64 v1]
  have HF1 : Hid (Fits (a) 12) := Lib.hid (by rw [E_a.out]; exact fits_raw (HWx.out.wf) (by omega))
  have HF5 : Hid (Fits (b) 12) := Lib.hid (by rw [E_b.out]; exact fits_raw (HWy.out.wf) (by omega))
  have KB3 : Hid (∀ W, Ext w0 W → W.cell? ⟨B0, 0, none⟩ = some (.bool nx) ∧ W.cell? ⟨B0, 1, none⟩ = some (.slice ax kx cx)) := Lib.hid fun W h => ⟨h.cell (hr0.cell (i := 0) rfl), h.cell (hr0.cell (i := 1) rfl)⟩
  have KB4 : Hid (∀ W, Ext w0 W → W.cell? ⟨B0 + 1, 0, none⟩ = some (.bool ny) ∧ W.cell? ⟨B0 + 1, 1, none⟩ = some (.slice ay ky cy)) := Lib.hid fun W h => ⟨h.cell (hr1.cell (i := 0) rfl), h.cell (hr1.cell (i := 1) rfl)⟩
  have KB5 : Hid (∀ W, Ext w0 W → W.cell? ⟨B0 + 1 + 1, 0, none⟩ = some (.int .i64 v0) ∧ W.cell? ⟨B0 + 1 + 1, 1, none⟩ = some (.int .i64 v1)) := Lib.hid fun W h => ⟨h.cell (hr2.cell (i := 0) rfl), h.cell (hr2.cell (i := 1) rfl)⟩
  clear hr0 hr1 hr2
  go_enter Tryz.func11, Tryz.ntmps11
  go_wp2_with fail
  rw [← hw0, ← hB0]
  clear hw0 hB0
  refine (sanity_any _).mono ?_
  rintro e ws ⟨rfl, xs⟩
  obtain ⟨cc3_0_3, cc3_1_3⟩ := KB3.out ws xs
  go_wp2_with fail
  clear cc3_0_3 cc3_1_3
  refine (Made_any nx ax kx cx lx 12 a _ (HWx.out.ext (x0.trans xs)) (by omega) E_a.out).mono ?_
  rintro e w2 ⟨⟨v2_0, rfl, ⟨s2_0, a2_0, n2_0, c2_0, rfl, hi2_0⟩⟩, x2⟩
  have HV2_0 : Hid (IntV w2 (.agg #[.bool s2_0, .slice a2_0 n2_0 c2_0]) (a)) := Lib.hid ⟨_, _, _, _, rfl, hi2_0⟩
  clear hi2_0
  obtain ⟨D4, wb4, hD4, hw4, hb4_0, xb4⟩ := one w2 24 [.bool s2_0, .slice a2_0 n2_0 c2_0]
  have KB8 : Hid (∀ W, Ext wb4 W → W.cell? ⟨D4, 0, none⟩ = some (.bool s2_0) ∧ W.cell? ⟨D4, 1, none⟩ = some (.slice a2_0 n2_0 c2_0)) := Lib.hid fun W h => ⟨h.cell (hb4_0.cell (i := 0) rfl), h.cell (hb4_0.cell (i := 1) rfl)⟩
  clear hb4_0
  obtain ⟨cc4_0_7, cc4_1_7⟩ := KB4.out wb4 ((xs.trans x2).trans xb4)
  have hq4 := hw4.symm
  have hp4 := hD4.symm
  clear hw4 hD4
  go_wp2_with fail
  clear hq4 hp4
  clear cc4_0_7 cc4_1_7
  refine (Made_any ny ay ky cy ly 12 b _ (HWy.out.ext (((x0.trans xs).trans x2).trans xb4)) (by omega) E_b.out).mono ?_
  rintro e w6 ⟨⟨v6_0, rfl, ⟨s6_0, a6_0, n6_0, c6_0, rfl, hi6_0⟩⟩, x6⟩
  have HV6_0 : Hid (IntV w6 (.agg #[.bool s6_0, .slice a6_0 n6_0 c6_0]) (b)) := Lib.hid ⟨_, _, _, _, rfl, hi6_0⟩
  clear hi6_0
  obtain ⟨D8, wb8, hD8, hw8, hb8_0, xb8⟩ := one w6 24 [.bool s6_0, .slice a6_0 n6_0 c6_0]
  have KB9 : Hid (∀ W, Ext wb8 W → W.cell? ⟨D8, 0, none⟩ = some (.bool s6_0) ∧ W.cell? ⟨D8, 1, none⟩ = some (.slice a6_0 n6_0 c6_0)) := Lib.hid fun W h => ⟨h.cell (hb8_0.cell (i := 0) rfl), h.cell (hb8_0.cell (i := 1) rfl)⟩
  clear hb8_0
  obtain ⟨cc8_0_9, cc8_1_9⟩ := KB8.out wb8 (x6.trans xb8)
  obtain ⟨cc9_0_10, cc9_1_10⟩ := KB9.out wb8 (Ext.refl _)
  have hq8 := hw8.symm
  have hp8 := hD8.symm
  clear hw8 hD8
  go_wp2_with fail
  clear hq8 hp8
  clear cc8_0_9 cc8_1_9 cc9_0_10 cc9_1_10
  refine (divmod_z _ _ a b er q r _ (HV2_0.out.ext ((xb4.trans x6).trans xb8)) (HV6_0.out.ext xb8) (HF1.out.mono (by omega)) (HF5.out.mono (by omega)) HER.out HQ.out HR.out).mono ?_
  rintro e w11 ⟨⟨s11_0, a11_0, n11_0, c11_0, s11_1, a11_1, n11_1, c11_1, rfl, h11_0, h11_1⟩, x11⟩
  have HV11_0 : Hid (IntV w11 (.agg #[.bool s11_0, .slice a11_0 n11_0 c11_0]) (q)) := Lib.hid ⟨_, _, _, _, rfl, h11_0⟩
  clear h11_0
  have HV11_1 : Hid (IntV w11 (.agg #[.bool s11_1, .slice a11_1 n11_1 c11_1]) (r)) := Lib.hid ⟨_, _, _, _, rfl, h11_1⟩
  clear h11_1
  obtain ⟨D12, wb12, hD12, hw12, hb12_0, hb12_1, xb12⟩ := two w11 24 24 [.bool s11_0, .slice a11_0 n11_0 c11_0] [.bool s11_1, .slice a11_1 n11_1 c11_1]
  have KB10 : Hid (∀ W, Ext wb12 W → W.cell? ⟨D12, 0, none⟩ = some (.bool s11_0) ∧ W.cell? ⟨D12, 1, none⟩ = some (.slice a11_0 n11_0 c11_0)) := Lib.hid fun W h => ⟨h.cell (hb12_0.cell (i := 0) rfl), h.cell (hb12_0.cell (i := 1) rfl)⟩
  have KB11 : Hid (∀ W, Ext wb12 W → W.cell? ⟨D12 + 1, 0, none⟩ = some (.bool s11_1) ∧ W.cell? ⟨D12 + 1, 1, none⟩ = some (.slice a11_1 n11_1 c11_1)) := Lib.hid fun W h => ⟨h.cell (hb12_1.cell (i := 0) rfl), h.cell (hb12_1.cell (i := 1) rfl)⟩
  clear hb12_0 hb12_1
  obtain ⟨cc8_0_13, cc8_1_13⟩ := KB8.out wb12 (((x6.trans xb8).trans x11).trans xb12)
  obtain ⟨cc9_0_14, cc9_1_14⟩ := KB9.out wb12 (x11.trans xb12)
  have hq12 := hw12.symm
  have hp12 := hD12.symm
  clear hw12 hD12
  go_wp2_with fail
  clear hq12 hp12
  clear cc8_0_13 cc8_1_13 cc9_0_14 cc9_1_14
  refine (rdivmod_z _ _ a b er q r _ (HV2_0.out.ext ((((xb4.trans x6).trans xb8).trans x11).trans xb12)) (HV6_0.out.ext ((xb8.trans x11).trans xb12)) (HF1.out.mono (by omega)) (HF5.out.mono (by omega)) HER.out HQ.out HR.out).mono ?_
  rintro e w15 ⟨⟨s15_0, a15_0, n15_0, c15_0, s15_1, a15_1, n15_1, c15_1, rfl, h15_0, h15_1⟩, x15⟩
  have HV15_0 : Hid (IntV w15 (.agg #[.bool s15_0, .slice a15_0 n15_0 c15_0]) (q)) := Lib.hid ⟨_, _, _, _, rfl, h15_0⟩
  clear h15_0
  have HV15_1 : Hid (IntV w15 (.agg #[.bool s15_1, .slice a15_1 n15_1 c15_1]) (r)) := Lib.hid ⟨_, _, _, _, rfl, h15_1⟩
  clear h15_1
  obtain ⟨D16, wb16, hD16, hw16, hb16_0, hb16_1, xb16⟩ := two w15 24 24 [.bool s15_0, .slice a15_0 n15_0 c15_0] [.bool s15_1, .slice a15_1 n15_1 c15_1]
  have KB13 : Hid (∀ W, Ext wb16 W → W.cell? ⟨D16, 0, none⟩ = some (.bool s15_0) ∧ W.cell? ⟨D16, 1, none⟩ = some (.slice a15_0 n15_0 c15_0)) := Lib.hid fun W h => ⟨h.cell (hb16_0.cell (i := 0) rfl), h.cell (hb16_0.cell (i := 1) rfl)⟩
  have KB14 : Hid (∀ W, Ext wb16 W → W.cell? ⟨D16 + 1, 0, none⟩ = some (.bool s15_1) ∧ W.cell? ⟨D16 + 1, 1, none⟩ = some (.slice a15_1 n15_1 c15_1)) := Lib.hid fun W h => ⟨h.cell (hb16_1.cell (i := 0) rfl), h.cell (hb16_1.cell (i := 1) rfl)⟩
  clear hb16_0 hb16_1
  obtain ⟨cc8_0_17, cc8_1_17⟩ := KB8.out wb16 (((((x6.trans xb8).trans x11).trans xb12).trans x15).trans xb16)
  obtain ⟨cc9_0_18, cc9_1_18⟩ := KB9.out wb16 (((x11.trans xb12).trans x15).trans xb16)
  have hq16 := hw16.symm
  have hp16 := hD16.symm
  clear hw16 hD16
  go_wp2_with fail
  clear hq16 hp16
  clear cc8_0_17 cc8_1_17 cc9_0_18 cc9_1_18
  refine (bezout_z _ _ a b g u v _ (HV2_0.out.ext ((((((xb4.trans x6).trans xb8).trans x11).trans xb12).trans x15).trans xb16)) (HV6_0.out.ext ((((xb8.trans x11).trans xb12).trans x15).trans xb16)) (HF1.out.mono (by omega)) (HF5.out.mono (by omega)) HBZ.out).mono ?_
  rintro e w19 ⟨⟨s19_0, a19_0, n19_0, c19_0, s19_1, a19_1, n19_1, c19_1, s19_2, a19_2, n19_2, c19_2, rfl, h19_0, h19_1, h19_2⟩, x19⟩
  have HV19_0 : Hid (IntV w19 (.agg #[.bool s19_0, .slice a19_0 n19_0 c19_0]) (g)) := Lib.hid ⟨_, _, _, _, rfl, h19_0⟩
  clear h19_0
  have HV19_1 : Hid (IntV w19 (.agg #[.bool s19_1, .slice a19_1 n19_1 c19_1]) (u)) := Lib.hid ⟨_, _, _, _, rfl, h19_1⟩
  clear h19_1
  have HV19_2 : Hid (IntV w19 (.agg #[.bool s19_2, .slice a19_2 n19_2 c19_2]) (v)) := Lib.hid ⟨_, _, _, _, rfl, h19_2⟩
  clear h19_2
  obtain ⟨D20, wb20, hD20, hw20, hb20_0, hb20_1, hb20_2, xb20⟩ := three w19 24 24 24 [.bool s19_0, .slice a19_0 n19_0 c19_0] [.bool s19_1, .slice a19_1 n19_1 c19_1] [.bool s19_2, .slice a19_2 n19_2 c19_2]
  have KB16 : Hid (∀ W, Ext wb20 W → W.cell? ⟨D20, 0, none⟩ = some (.bool s19_0) ∧ W.cell? ⟨D20, 1, none⟩ = some (.slice a19_0 n19_0 c19_0)) := Lib.hid fun W h => ⟨h.cell (hb20_0.cell (i := 0) rfl), h.cell (hb20_0.cell (i := 1) rfl)⟩
  have KB17 : Hid (∀ W, Ext wb20 W → W.cell? ⟨D20 + 1, 0, none⟩ = some (.bool s19_1) ∧ W.cell? ⟨D20 + 1, 1, none⟩ = some (.slice a19_1 n19_1 c19_1)) := Lib.hid fun W h => ⟨h.cell (hb20_1.cell (i := 0) rfl), h.cell (hb20_1.cell (i := 1) rfl)⟩
  have KB18 : Hid (∀ W, Ext wb20 W → W.cell? ⟨D20 + 1 + 1, 0, none⟩ = some (.bool s19_2) ∧ W.cell? ⟨D20 + 1 + 1, 1, none⟩ = some (.slice a19_2 n19_2 c19_2)) := Lib.hid fun W h => ⟨h.cell (hb20_2.cell (i := 0) rfl), h.cell (hb20_2.cell (i := 1) rfl)⟩
  clear hb20_0 hb20_1 hb20_2
  obtain ⟨cc8_0_21, cc8_1_21⟩ := KB8.out wb20 (((((((x6.trans xb8).trans x11).trans xb12).trans x15).trans xb16).trans x19).trans xb20)
  obtain ⟨cc9_0_22, cc9_1_22⟩ := KB9.out wb20 (((((x11.trans xb12).trans x15).trans xb16).trans x19).trans xb20)
  have hq20 := hw20.symm
  have hp20 := hD20.symm
  clear hw20 hD20
  go_wp2_with fail
  clear hq20 hp20
  clear cc8_0_21 cc8_1_21 cc9_0_22 cc9_1_22
  refine (rbezout_z _ _ a b g u v _ (HV2_0.out.ext ((((((((xb4.trans x6).trans xb8).trans x11).trans xb12).trans x15).trans xb16).trans x19).trans xb20)) (HV6_0.out.ext ((((((xb8.trans x11).trans xb12).trans x15).trans xb16).trans x19).trans xb20)) (HF1.out.mono (by omega)) (HF5.out.mono (by omega)) HBZ.out).mono ?_
  rintro e w23 ⟨⟨s23_0, a23_0, n23_0, c23_0, s23_1, a23_1, n23_1, c23_1, s23_2, a23_2, n23_2, c23_2, rfl, h23_0, h23_1, h23_2⟩, x23⟩
  have HV23_0 : Hid (IntV w23 (.agg #[.bool s23_0, .slice a23_0 n23_0 c23_0]) (g)) := Lib.hid ⟨_, _, _, _, rfl, h23_0⟩
  clear h23_0
  have HV23_1 : Hid (IntV w23 (.agg #[.bool s23_1, .slice a23_1 n23_1 c23_1]) (u)) := Lib.hid ⟨_, _, _, _, rfl, h23_1⟩
  clear h23_1
  have HV23_2 : Hid (IntV w23 (.agg #[.bool s23_2, .slice a23_2 n23_2 c23_2]) (v)) := Lib.hid ⟨_, _, _, _, rfl, h23_2⟩
  clear h23_2
  obtain ⟨D24, wb24, hD24, hw24, hb24_0, hb24_1, hb24_2, xb24⟩ := three w23 24 24 24 [.bool s23_0, .slice a23_0 n23_0 c23_0] [.bool s23_1, .slice a23_1 n23_1 c23_1] [.bool s23_2, .slice a23_2 n23_2 c23_2]
  have KB19 : Hid (∀ W, Ext wb24 W → W.cell? ⟨D24, 0, none⟩ = some (.bool s23_0) ∧ W.cell? ⟨D24, 1, none⟩ = some (.slice a23_0 n23_0 c23_0)) := Lib.hid fun W h => ⟨h.cell (hb24_0.cell (i := 0) rfl), h.cell (hb24_0.cell (i := 1) rfl)⟩
  have KB20 : Hid (∀ W, Ext wb24 W → W.cell? ⟨D24 + 1, 0, none⟩ = some (.bool s23_1) ∧ W.cell? ⟨D24 + 1, 1, none⟩ = some (.slice a23_1 n23_1 c23_1)) := Lib.hid fun W h => ⟨h.cell (hb24_1.cell (i := 0) rfl), h.cell (hb24_1.cell (i := 1) rfl)⟩
  have KB21 : Hid (∀ W, Ext wb24 W → W.cell? ⟨D24 + 1 + 1, 0, none⟩ = some (.bool s23_2) ∧ W.cell? ⟨D24 + 1 + 1, 1, none⟩ = some (.slice a23_2 n23_2 c23_2)) := Lib.hid fun W h => ⟨h.cell (hb24_2.cell (i := 0) rfl), h.cell (hb24_2.cell (i := 1) rfl)⟩
  clear hb24_0 hb24_1 hb24_2
  have KX25 : Hid (∀ w', Ext wb24 w' → w'.cell? ⟨D12, 0, none⟩ = some (.bool s11_0) ∧ w'.cell? ⟨D12, 1, none⟩ = some (.slice a11_0 n11_0 c11_0) ∧ w'.cell? ⟨D16, 0, none⟩ = some (.bool s15_0) ∧ w'.cell? ⟨D16, 1, none⟩ = some (.slice a15_0 n15_0 c15_0) ∧ w'.cell? ⟨D12 + 1, 0, none⟩ = some (.bool s11_1) ∧ w'.cell? ⟨D12 + 1, 1, none⟩ = some (.slice a11_1 n11_1 c11_1) ∧ w'.cell? ⟨D16 + 1, 0, none⟩ = some (.bool s15_1) ∧ w'.cell? ⟨D16 + 1, 1, none⟩ = some (.slice a15_1 n15_1 c15_1) ∧ w'.cell? ⟨D20, 0, none⟩ = some (.bool s19_0) ∧ w'.cell? ⟨D20, 1, none⟩ = some (.slice a19_0 n19_0 c19_0) ∧ w'.cell? ⟨D20 + 1, 0, none⟩ = some (.bool s19_1) ∧ w'.cell? ⟨D20 + 1, 1, none⟩ = some (.slice a19_1 n19_1 c19_1) ∧ w'.cell? ⟨D20 + 1 + 1, 0, none⟩ = some (.bool s19_2) ∧ w'.cell? ⟨D20 + 1 + 1, 1, none⟩ = some (.slice a19_2 n19_2 c19_2) ∧ w'.cell? ⟨D24, 0, none⟩ = some (.bool s23_0) ∧ w'.cell? ⟨D24, 1, none⟩ = some (.slice a23_0 n23_0 c23_0) ∧ w'.cell? ⟨D24 + 1, 0, none⟩ = some (.bool s23_1) ∧ w'.cell? ⟨D24 + 1, 1, none⟩ = some (.slice a23_1 n23_1 c23_1) ∧ w'.cell? ⟨D24 + 1 + 1, 0, none⟩ = some (.bool s23_2) ∧ w'.cell? ⟨D24 + 1 + 1, 1, none⟩ = some (.slice a23_2 n23_2 c23_2) ∧ w'.cell? ⟨D4, 0, none⟩ = some (.bool s2_0) ∧ w'.cell? ⟨D4, 1, none⟩ = some (.slice a2_0 n2_0 c2_0) ∧ w'.cell? ⟨D8, 0, none⟩ = some (.bool s6_0) ∧ w'.cell? ⟨D8, 1, none⟩ = some (.slice a6_0 n6_0 c6_0)) := Lib.hid fun w' h => by
    have q10 := KB10.out w' ((((((x15.trans xb16).trans x19).trans xb20).trans x23).trans xb24).trans h)
    have q13 := KB13.out w' ((((x19.trans xb20).trans x23).trans xb24).trans h)
    have q11 := KB11.out w' ((((((x15.trans xb16).trans x19).trans xb20).trans x23).trans xb24).trans h)
    have q14 := KB14.out w' ((((x19.trans xb20).trans x23).trans xb24).trans h)
    have q16 := KB16.out w' ((x23.trans xb24).trans h)
    have q17 := KB17.out w' ((x23.trans xb24).trans h)
    have q18 := KB18.out w' ((x23.trans xb24).trans h)
    have q19 := KB19.out w' ((Ext.refl _).trans h)
    have q20 := KB20.out w' ((Ext.refl _).trans h)
    have q21 := KB21.out w' ((Ext.refl _).trans h)
    have q8 := KB8.out w' ((((((((((x6.trans xb8).trans x11).trans xb12).trans x15).trans xb16).trans x19).trans xb20).trans x23).trans xb24).trans h)
    have q9 := KB9.out w' ((((((((x11.trans xb12).trans x15).trans xb16).trans x19).trans xb20).trans x23).trans xb24).trans h)
    exact ⟨q10.1, q10.2, q13.1, q13.2, q11.1, q11.2, q14.1, q14.2, q16.1, q16.2, q17.1, q17.2, q18.1, q18.2, q19.1, q19.2, q20.1, q20.2, q21.1, q21.2, q8.1, q8.2, q9.1, q9.2⟩
  have hq24 := hw24.symm
  have hp24 := hD24.symm
  clear hw24 hD24
  go_wp2_with fail
  clear hq24 hp24
  have hz25 := Below.drewExt wb24
  go_region_held3
    (fun w' => w'.cell? ⟨D12, 0, none⟩ = some (.bool s11_0) ∧ w'.cell? ⟨D12, 1, none⟩ = some (.slice a11_0 n11_0 c11_0) ∧ w'.cell? ⟨D16, 0, none⟩ = some (.bool s15_0) ∧ w'.cell? ⟨D16, 1, none⟩ = some (.slice a15_0 n15_0 c15_0) ∧ w'.cell? ⟨D12 + 1, 0, none⟩ = some (.bool s11_1) ∧ w'.cell? ⟨D12 + 1, 1, none⟩ = some (.slice a11_1 n11_1 c11_1) ∧ w'.cell? ⟨D16 + 1, 0, none⟩ = some (.bool s15_1) ∧ w'.cell? ⟨D16 + 1, 1, none⟩ = some (.slice a15_1 n15_1 c15_1) ∧ w'.cell? ⟨D20, 0, none⟩ = some (.bool s19_0) ∧ w'.cell? ⟨D20, 1, none⟩ = some (.slice a19_0 n19_0 c19_0) ∧ w'.cell? ⟨D20 + 1, 0, none⟩ = some (.bool s19_1) ∧ w'.cell? ⟨D20 + 1, 1, none⟩ = some (.slice a19_1 n19_1 c19_1) ∧ w'.cell? ⟨D20 + 1 + 1, 0, none⟩ = some (.bool s19_2) ∧ w'.cell? ⟨D20 + 1 + 1, 1, none⟩ = some (.slice a19_2 n19_2 c19_2) ∧ w'.cell? ⟨D24, 0, none⟩ = some (.bool s23_0) ∧ w'.cell? ⟨D24, 1, none⟩ = some (.slice a23_0 n23_0 c23_0) ∧ w'.cell? ⟨D24 + 1, 0, none⟩ = some (.bool s23_1) ∧ w'.cell? ⟨D24 + 1, 1, none⟩ = some (.slice a23_1 n23_1 c23_1) ∧ w'.cell? ⟨D24 + 1 + 1, 0, none⟩ = some (.bool s23_2) ∧ w'.cell? ⟨D24 + 1 + 1, 1, none⟩ = some (.slice a23_2 n23_2 c23_2) ∧ w'.cell? ⟨D4, 0, none⟩ = some (.bool s2_0) ∧ w'.cell? ⟨D4, 1, none⟩ = some (.slice a2_0 n2_0 c2_0) ∧ w'.cell? ⟨D8, 0, none⟩ = some (.bool s6_0) ∧ w'.cell? ⟨D8, 1, none⟩ = some (.slice a6_0 n6_0 c6_0))
    (with_reducible exact KX25.out _ (by assumption))
    (first
    | (go_at_call 21; (with_reducible refine (same_eq _ _ (q) (q) _ (HV11_0.out.ext (((((((xb12.trans x15).trans xb16).trans x19).trans xb20).trans x23).trans xb24).trans hz25)) (HV15_0.out.ext (((((xb16.trans x19).trans xb20).trans x23).trans xb24).trans hz25)) (Eq.refl _)).mono ?_); rintro e w26 ⟨rfl, x26⟩; have hz26 := hz25.trans x26)
    | (go_at_call 21; (with_reducible refine (same_eq _ _ (r) (r) _ (HV11_1.out.ext ((((((((xb12.trans x15).trans xb16).trans x19).trans xb20).trans x23).trans xb24).trans hz25).trans x26)) (HV15_1.out.ext ((((((xb16.trans x19).trans xb20).trans x23).trans xb24).trans hz25).trans x26)) (Eq.refl _)).mono ?_); rintro e w27 ⟨rfl, x27⟩; have hz27 := hz26.trans x27)
    | (go_at_call 37; (with_reducible refine (same3_true s19_0 a19_0 n19_0 c19_0 s19_1 a19_1 n19_1 c19_1 s19_2 a19_2 n19_2 c19_2 s23_0 a23_0 n23_0 c23_0 s23_1 a23_1 n23_1 c23_1 s23_2 a23_2 n23_2 c23_2 g u v _ (HV19_0.out.ext (((((xb20.trans x23).trans xb24).trans hz25).trans x26).trans x27)) (HV19_1.out.ext (((((xb20.trans x23).trans xb24).trans hz25).trans x26).trans x27)) (HV19_2.out.ext (((((xb20.trans x23).trans xb24).trans hz25).trans x26).trans x27)) (HV23_0.out.ext (((xb24.trans hz25).trans x26).trans x27)) (HV23_1.out.ext (((xb24.trans hz25).trans x26).trans x27)) (HV23_2.out.ext (((xb24.trans hz25).trans x26).trans x27))).mono ?_); rintro e w28 ⟨rfl, x28⟩; have hz28 := hz27.trans x28)
    | (go_at_call 38; (with_reducible refine (gcd_any _ _ a b _ (HV2_0.out.ext ((((((((((((((xb4.trans x6).trans xb8).trans x11).trans xb12).trans x15).trans xb16).trans x19).trans xb20).trans x23).trans xb24).trans hz25).trans x26).trans x27).trans x28)) (HV6_0.out.ext ((((((((((((xb8.trans x11).trans xb12).trans x15).trans xb16).trans x19).trans xb20).trans x23).trans xb24).trans hz25).trans x26).trans x27).trans x28)) (HF1.out.mono (by omega)) (HF5.out.mono (by omega))).mono ?_); rintro e w29 ⟨⟨v29_0, rfl, hv29_0⟩, x29⟩; have hz29 := hz28.trans x29)
    | (go_at_call 39; (with_reducible refine (rgcd_any _ _ a b _ (HV2_0.out.ext (((((((((((((((xb4.trans x6).trans xb8).trans x11).trans xb12).trans x15).trans xb16).trans x19).trans xb20).trans x23).trans xb24).trans hz25).trans x26).trans x27).trans x28).trans x29)) (HV6_0.out.ext (((((((((((((xb8.trans x11).trans xb12).trans x15).trans xb16).trans x19).trans xb20).trans x23).trans xb24).trans hz25).trans x26).trans x27).trans x28).trans x29)) (HF1.out.mono (by omega)) (HF5.out.mono (by omega))).mono ?_); rintro e w30 ⟨⟨v30_0, rfl, hv30_0⟩, x30⟩; have hz30 := hz29.trans x30)
    | (go_at_call 21; (with_reducible refine (same_eq _ _ (((Int.gcd a b : Nat) : Int)) (((Int.gcd a b : Nat) : Int)) _ (hv29_0.ext x30) hv30_0 (Eq.refl _)).mono ?_); rintro e w31 ⟨rfl, x31⟩; have hz31 := hz30.trans x31)
    )
  clear KX25
  have KX32 : Hid (∀ w', Ext w31 w' → w'.cell? ⟨D4, 0, none⟩ = some (.bool s2_0) ∧ w'.cell? ⟨D4, 1, none⟩ = some (.slice a2_0 n2_0 c2_0) ∧ w'.cell? ⟨D8, 0, none⟩ = some (.bool s6_0) ∧ w'.cell? ⟨D8, 1, none⟩ = some (.slice a6_0 n6_0 c6_0)) := Lib.hid fun w' h => by
    have q8 := KB8.out w' (((((((((((((((((x6.trans xb8).trans x11).trans xb12).trans x15).trans xb16).trans x19).trans xb20).trans x23).trans xb24).trans hz25).trans x26).trans x27).trans x28).trans x29).trans x30).trans x31).trans h)
    have q9 := KB9.out w' (((((((((((((((x11.trans xb12).trans x15).trans xb16).trans x19).trans xb20).trans x23).trans xb24).trans hz25).trans x26).trans x27).trans x28).trans x29).trans x30).trans x31).trans h)
    exact ⟨q8.1, q8.2, q9.1, q9.2⟩
  go_wp2_with fail
  have hz32 := Below.drewExt w31
  go_region_held3
    (fun w' => w'.cell? ⟨D4, 0, none⟩ = some (.bool s2_0) ∧ w'.cell? ⟨D4, 1, none⟩ = some (.slice a2_0 n2_0 c2_0) ∧ w'.cell? ⟨D8, 0, none⟩ = some (.bool s6_0) ∧ w'.cell? ⟨D8, 1, none⟩ = some (.slice a6_0 n6_0 c6_0))
    (with_reducible exact KX32.out _ (by assumption))
    (first
    | (go_at_call 40; (with_reducible refine (numbers_true s2_0 a2_0 n2_0 c2_0 a _ (HV2_0.out.ext ((((((((((((((((((xb4.trans x6).trans xb8).trans x11).trans xb12).trans x15).trans xb16).trans x19).trans xb20).trans x23).trans xb24).trans hz25).trans x26).trans x27).trans x28).trans x29).trans x30).trans x31).trans hz32)) HF1.out).mono ?_); rintro e w33 ⟨rfl, x33⟩; have hz33 := hz32.trans x33)
    | (go_at_call 16; (with_reducible refine (cmp_is _ _ (a) (b) (sg) _ (HV2_0.out.ext (((((((((((((((((((xb4.trans x6).trans xb8).trans x11).trans xb12).trans x15).trans xb16).trans x19).trans xb20).trans x23).trans xb24).trans hz25).trans x26).trans x27).trans x28).trans x29).trans x30).trans x31).trans hz32).trans x33)) (HV6_0.out.ext (((((((((((((((((xb8.trans x11).trans xb12).trans x15).trans xb16).trans x19).trans xb20).trans x23).trans xb24).trans hz25).trans x26).trans x27).trans x28).trans x29).trans x30).trans x31).trans hz32).trans x33)) HSG.out).mono ?_); rintro e w34 ⟨rfl, x34⟩; have hz34 := hz33.trans x34)
    | (go_at_call 41; (with_reducible refine (rcmp_is _ _ a b sg _ (HV2_0.out.ext ((((((((((((((((((((xb4.trans x6).trans xb8).trans x11).trans xb12).trans x15).trans xb16).trans x19).trans xb20).trans x23).trans xb24).trans hz25).trans x26).trans x27).trans x28).trans x29).trans x30).trans x31).trans hz32).trans x33).trans x34)) (HV6_0.out.ext ((((((((((((((((((xb8.trans x11).trans xb12).trans x15).trans xb16).trans x19).trans xb20).trans x23).trans xb24).trans hz25).trans x26).trans x27).trans x28).trans x29).trans x30).trans x31).trans hz32).trans x33).trans x34)) HSG.out).mono ?_); rintro e w35 ⟨rfl, x35⟩; have hz35 := hz34.trans x35)
    | (go_at_call 17; (with_reducible refine (add_any _ _ a b _ (HV2_0.out.ext (((((((((((((((((((((xb4.trans x6).trans xb8).trans x11).trans xb12).trans x15).trans xb16).trans x19).trans xb20).trans x23).trans xb24).trans hz25).trans x26).trans x27).trans x28).trans x29).trans x30).trans x31).trans hz32).trans x33).trans x34).trans x35)) (HV6_0.out.ext (((((((((((((((((((xb8.trans x11).trans xb12).trans x15).trans xb16).trans x19).trans xb20).trans x23).trans xb24).trans hz25).trans x26).trans x27).trans x28).trans x29).trans x30).trans x31).trans hz32).trans x33).trans x34).trans x35)) (HF1.out.mono (by omega)) (HF5.out.mono (by omega))).mono ?_); rintro e w36 ⟨⟨v36_0, rfl, hv36_0⟩, x36⟩; have hz36 := hz35.trans x36)
    | (go_at_call 42; (with_reducible refine (radd_any _ _ a b _ (HV2_0.out.ext ((((((((((((((((((((((xb4.trans x6).trans xb8).trans x11).trans xb12).trans x15).trans xb16).trans x19).trans xb20).trans x23).trans xb24).trans hz25).trans x26).trans x27).trans x28).trans x29).trans x30).trans x31).trans hz32).trans x33).trans x34).trans x35).trans x36)) (HV6_0.out.ext ((((((((((((((((((((xb8.trans x11).trans xb12).trans x15).trans xb16).trans x19).trans xb20).trans x23).trans xb24).trans hz25).trans x26).trans x27).trans x28).trans x29).trans x30).trans x31).trans hz32).trans x33).trans x34).trans x35).trans x36)) (HF1.out.mono (by omega)) (HF5.out.mono (by omega))).mono ?_); rintro e w37 ⟨⟨v37_0, rfl, hv37_0⟩, x37⟩; have hz37 := hz36.trans x37)
    | (go_at_call 21; (with_reducible refine (same_eq _ _ (a + b) (a + b) _ (hv36_0.ext x37) hv37_0 (Eq.refl _)).mono ?_); rintro e w38 ⟨rfl, x38⟩; have hz38 := hz37.trans x38)
    | (go_at_call 19; (with_reducible refine (sub_any _ _ a b _ (HV2_0.out.ext ((((((((((((((((((((((((xb4.trans x6).trans xb8).trans x11).trans xb12).trans x15).trans xb16).trans x19).trans xb20).trans x23).trans xb24).trans hz25).trans x26).trans x27).trans x28).trans x29).trans x30).trans x31).trans hz32).trans x33).trans x34).trans x35).trans x36).trans x37).trans x38)) (HV6_0.out.ext ((((((((((((((((((((((xb8.trans x11).trans xb12).trans x15).trans xb16).trans x19).trans xb20).trans x23).trans xb24).trans hz25).trans x26).trans x27).trans x28).trans x29).trans x30).trans x31).trans hz32).trans x33).trans x34).trans x35).trans x36).trans x37).trans x38)) (HF1.out.mono (by omega)) (HF5.out.mono (by omega))).mono ?_); rintro e w39 ⟨⟨v39_0, rfl, hv39_0⟩, x39⟩; have hz39 := hz38.trans x39)
    | (go_at_call 43; (with_reducible refine (rsub_any _ _ a b _ (HV2_0.out.ext (((((((((((((((((((((((((xb4.trans x6).trans xb8).trans x11).trans xb12).trans x15).trans xb16).trans x19).trans xb20).trans x23).trans xb24).trans hz25).trans x26).trans x27).trans x28).trans x29).trans x30).trans x31).trans hz32).trans x33).trans x34).trans x35).trans x36).trans x37).trans x38).trans x39)) (HV6_0.out.ext (((((((((((((((((((((((xb8.trans x11).trans xb12).trans x15).trans xb16).trans x19).trans xb20).trans x23).trans xb24).trans hz25).trans x26).trans x27).trans x28).trans x29).trans x30).trans x31).trans hz32).trans x33).trans x34).trans x35).trans x36).trans x37).trans x38).trans x39)) (HF1.out.mono (by omega)) (HF5.out.mono (by omega))).mono ?_); rintro e w40 ⟨⟨v40_0, rfl, hv40_0⟩, x40⟩; have hz40 := hz39.trans x40)
    | (go_at_call 21; (with_reducible refine (same_eq _ _ (a - b) (a - b) _ (hv39_0.ext x40) hv40_0 (Eq.refl _)).mono ?_); rintro e w41 ⟨rfl, x41⟩; have hz41 := hz40.trans x41)
    | (go_at_call 18; (with_reducible refine (mul_any _ _ a b _ (HV2_0.out.ext (((((((((((((((((((((((((((xb4.trans x6).trans xb8).trans x11).trans xb12).trans x15).trans xb16).trans x19).trans xb20).trans x23).trans xb24).trans hz25).trans x26).trans x27).trans x28).trans x29).trans x30).trans x31).trans hz32).trans x33).trans x34).trans x35).trans x36).trans x37).trans x38).trans x39).trans x40).trans x41)) (HV6_0.out.ext (((((((((((((((((((((((((xb8.trans x11).trans xb12).trans x15).trans xb16).trans x19).trans xb20).trans x23).trans xb24).trans hz25).trans x26).trans x27).trans x28).trans x29).trans x30).trans x31).trans hz32).trans x33).trans x34).trans x35).trans x36).trans x37).trans x38).trans x39).trans x40).trans x41)) (HF1.out.mono (by omega)) (HF5.out.mono (by omega))).mono ?_); rintro e w42 ⟨⟨v42_0, rfl, hv42_0⟩, x42⟩; have hz42 := hz41.trans x42)
    | (go_at_call 44; (with_reducible refine (rmul_any _ _ a b _ (HV2_0.out.ext ((((((((((((((((((((((((((((xb4.trans x6).trans xb8).trans x11).trans xb12).trans x15).trans xb16).trans x19).trans xb20).trans x23).trans xb24).trans hz25).trans x26).trans x27).trans x28).trans x29).trans x30).trans x31).trans hz32).trans x33).trans x34).trans x35).trans x36).trans x37).trans x38).trans x39).trans x40).trans x41).trans x42)) (HV6_0.out.ext ((((((((((((((((((((((((((xb8.trans x11).trans xb12).trans x15).trans xb16).trans x19).trans xb20).trans x23).trans xb24).trans hz25).trans x26).trans x27).trans x28).trans x29).trans x30).trans x31).trans hz32).trans x33).trans x34).trans x35).trans x36).trans x37).trans x38).trans x39).trans x40).trans x41).trans x42)) (HF1.out.mono (by omega)) (HF5.out.mono (by omega))).mono ?_); rintro e w43 ⟨⟨v43_0, rfl, hv43_0⟩, x43⟩; have hz43 := hz42.trans x43)
    | (go_at_call 21; (with_reducible refine (same_eq _ _ (a * b) (a * b) _ (hv42_0.ext x43) hv43_0 (Eq.refl _)).mono ?_); rintro e w44 ⟨rfl, x44⟩; have hz44 := hz43.trans x44)
    )
  clear KX32
  go_wp2_with fail
  obtain ⟨cc5_0_45, cc5_1_45⟩ := KB5.out w44 ((((((((((((((((((((((((((((((((xs.trans x2).trans xb4).trans x6).trans xb8).trans x11).trans xb12).trans x15).trans xb16).trans x19).trans xb20).trans x23).trans xb24).trans hz25).trans x26).trans x27).trans x28).trans x29).trans x30).trans x31).trans hz32).trans x33).trans x34).trans x35).trans x36).trans x37).trans x38).trans x39).trans x40).trans x41).trans x42).trans x43).trans x44)
  go_quiet (fail)
  have xq := (Ext.refl w44).drewN nq
  clear cc5_0_45 cc5_1_45
  obtain ⟨cc8_0_46, cc8_1_46⟩ := KB8.out (w44.drewN nq) ((((((((((((((((((((((((((((((x6.trans xb8).trans x11).trans xb12).trans x15).trans xb16).trans x19).trans xb20).trans x23).trans xb24).trans hz25).trans x26).trans x27).trans x28).trans x29).trans x30).trans x31).trans hz32).trans x33).trans x34).trans x35).trans x36).trans x37).trans x38).trans x39).trans x40).trans x41).trans x42).trans x43).trans x44).trans xq)
  obtain ⟨cc5_0_47, cc5_1_47⟩ := KB5.out (w44.drewN nq) (((((((((((((((((((((((((((((((((xs.trans x2).trans xb4).trans x6).trans xb8).trans x11).trans xb12).trans x15).trans xb16).trans x19).trans xb20).trans x23).trans xb24).trans hz25).trans x26).trans x27).trans x28).trans x29).trans x30).trans x31).trans hz32).trans x33).trans x34).trans x35).trans x36).trans x37).trans x38).trans x39).trans x40).trans x41).trans x42).trans x43).trans x44).trans xq)
  go_wp2_with fail
  clear cc8_0_46 cc8_1_46 cc5_0_47 cc5_1_47
  refine (Pow_z _ a v0 pe0 pz0 _ (HV2_0.out.ext (((((((((((((((((((((((((((((((xb4.trans x6).trans xb8).trans x11).trans xb12).trans x15).trans xb16).trans x19).trans xb20).trans x23).trans xb24).trans hz25).trans x26).trans x27).trans x28).trans x29).trans x30).trans x31).trans hz32).trans x33).trans x34).trans x35).trans x36).trans x37).trans x38).trans x39).trans x40).trans x41).trans x42).trans x43).trans x44).trans xq)) HF1.out HPE.out HPZ.out).mono ?_
  rintro e w48 ⟨⟨s48_0, a48_0, n48_0, c48_0, rfl, h48_0⟩, x48⟩
  have HV48_0 : Hid (IntV w48 (.agg #[.bool s48_0, .slice a48_0 n48_0 c48_0]) (pz0)) := Lib.hid ⟨_, _, _, _, rfl, h48_0⟩
  clear h48_0
  obtain ⟨D49, wb49, hD49, hw49, hb49_0, xb49⟩ := one w48 24 [.bool s48_0, .slice a48_0 n48_0 c48_0]
  have KB22 : Hid (∀ W, Ext wb49 W → W.cell? ⟨D49, 0, none⟩ = some (.bool s48_0) ∧ W.cell? ⟨D49, 1, none⟩ = some (.slice a48_0 n48_0 c48_0)) := Lib.hid fun W h => ⟨h.cell (hb49_0.cell (i := 0) rfl), h.cell (hb49_0.cell (i := 1) rfl)⟩
  clear hb49_0
  obtain ⟨cc8_0_50, cc8_1_50⟩ := KB8.out wb49 ((((((((((((((((((((((((((((((((x6.trans xb8).trans x11).trans xb12).trans x15).trans xb16).trans x19).trans xb20).trans x23).trans xb24).trans hz25).trans x26).trans x27).trans x28).trans x29).trans x30).trans x31).trans hz32).trans x33).trans x34).trans x35).trans x36).trans x37).trans x38).trans x39).trans x40).trans x41).trans x42).trans x43).trans x44).trans xq).trans x48).trans xb49)
  obtain ⟨cc5_0_51, cc5_1_51⟩ := KB5.out wb49 (((((((((((((((((((((((((((((((((((xs.trans x2).trans xb4).trans x6).trans xb8).trans x11).trans xb12).trans x15).trans xb16).trans x19).trans xb20).trans x23).trans xb24).trans hz25).trans x26).trans x27).trans x28).trans x29).trans x30).trans x31).trans hz32).trans x33).trans x34).trans x35).trans x36).trans x37).trans x38).trans x39).trans x40).trans x41).trans x42).trans x43).trans x44).trans xq).trans x48).trans xb49)
  have hq49 := hw49.symm
  have hp49 := hD49.symm
  clear hw49 hD49
  go_wp2_with fail
  clear hq49 hp49
  clear cc8_0_50 cc8_1_50 cc5_0_51 cc5_1_51
  refine (rPow_z _ a v0 pe0 pz0 _ (HV2_0.out.ext (((((((((((((((((((((((((((((((((xb4.trans x6).trans xb8).trans x11).trans xb12).trans x15).trans xb16).trans x19).trans xb20).trans x23).trans xb24).trans hz25).trans x26).trans x27).trans x28).trans x29).trans x30).trans x31).trans hz32).trans x33).trans x34).trans x35).trans x36).trans x37).trans x38).trans x39).trans x40).trans x41).trans x42).trans x43).trans x44).trans xq).trans x48).trans xb49)) HF1.out HPE.out HPZ.out).mono ?_
  rintro e w52 ⟨⟨s52_0, a52_0, n52_0, c52_0, rfl, h52_0⟩, x52⟩
  have HV52_0 : Hid (IntV w52 (.agg #[.bool s52_0, .slice a52_0 n52_0 c52_0]) (pz0)) := Lib.hid ⟨_, _, _, _, rfl, h52_0⟩
  clear h52_0
  obtain ⟨D53, wb53, hD53, hw53, hb53_0, xb53⟩ := one w52 24 [.bool s52_0, .slice a52_0 n52_0 c52_0]
  have KB24 : Hid (∀ W, Ext wb53 W → W.cell? ⟨D53, 0, none⟩ = some (.bool s52_0) ∧ W.cell? ⟨D53, 1, none⟩ = some (.slice a52_0 n52_0 c52_0)) := Lib.hid fun W h => ⟨h.cell (hb53_0.cell (i := 0) rfl), h.cell (hb53_0.cell (i := 1) rfl)⟩
  clear hb53_0
  obtain ⟨cc22_0_55, cc22_1_55⟩ := KB22.out wb53 (x52.trans xb53)
  obtain ⟨cc24_0_56, cc24_1_56⟩ := KB24.out wb53 (Ext.refl _)
  have hq53 := hw53.symm
  have hp53 := hD53.symm
  clear hw53 hD53
  go_wp2_with fail
  clear hq53 hp53
  clear cc22_0_55 cc22_1_55 cc24_0_56 cc24_1_56
  refine (same_eq _ _ (pz0) (pz0) _ (HV48_0.out.ext ((xb49.trans x52).trans xb53)) (HV52_0.out.ext xb53) (Eq.refl _)).mono ?_
  rintro e w54 ⟨rfl, x54⟩
  obtain ⟨cc8_0_57, cc8_1_57⟩ := KB8.out w54 (((((((((((((((((((((((((((((((((((x6.trans xb8).trans x11).trans xb12).trans x15).trans xb16).trans x19).trans xb20).trans x23).trans xb24).trans hz25).trans x26).trans x27).trans x28).trans x29).trans x30).trans x31).trans hz32).trans x33).trans x34).trans x35).trans x36).trans x37).trans x38).trans x39).trans x40).trans x41).trans x42).trans x43).trans x44).trans xq).trans x48).trans xb49).trans x52).trans xb53).trans x54)
  obtain ⟨cc5_0_58, cc5_1_58⟩ := KB5.out w54 ((((((((((((((((((((((((((((((((((((((xs.trans x2).trans xb4).trans x6).trans xb8).trans x11).trans xb12).trans x15).trans xb16).trans x19).trans xb20).trans x23).trans xb24).trans hz25).trans x26).trans x27).trans x28).trans x29).trans x30).trans x31).trans hz32).trans x33).trans x34).trans x35).trans x36).trans x37).trans x38).trans x39).trans x40).trans x41).trans x42).trans x43).trans x44).trans xq).trans x48).trans xb49).trans x52).trans xb53).trans x54)
  go_wp2_with fail
  clear cc8_0_57 cc8_1_57 cc5_0_58 cc5_1_58
  refine (Root_z _ a v1 re0 rz0 _ (HV2_0.out.ext ((((((((((((((((((((((((((((((((((((xb4.trans x6).trans xb8).trans x11).trans xb12).trans x15).trans xb16).trans x19).trans xb20).trans x23).trans xb24).trans hz25).trans x26).trans x27).trans x28).trans x29).trans x30).trans x31).trans hz32).trans x33).trans x34).trans x35).trans x36).trans x37).trans x38).trans x39).trans x40).trans x41).trans x42).trans x43).trans x44).trans xq).trans x48).trans xb49).trans x52).trans xb53).trans x54)) HF1.out HV1.out HRE.out HRZ.out).mono ?_
  rintro e w59 ⟨⟨s59_0, a59_0, n59_0, c59_0, rfl, h59_0⟩, x59⟩
  have HV59_0 : Hid (IntV w59 (.agg #[.bool s59_0, .slice a59_0 n59_0 c59_0]) (rz0)) := Lib.hid ⟨_, _, _, _, rfl, h59_0⟩
  clear h59_0
  obtain ⟨D60, wb60, hD60, hw60, hb60_0, xb60⟩ := one w59 24 [.bool s59_0, .slice a59_0 n59_0 c59_0]
  have KB26 : Hid (∀ W, Ext wb60 W → W.cell? ⟨D60, 0, none⟩ = some (.bool s59_0) ∧ W.cell? ⟨D60, 1, none⟩ = some (.slice a59_0 n59_0 c59_0)) := Lib.hid fun W h => ⟨h.cell (hb60_0.cell (i := 0) rfl), h.cell (hb60_0.cell (i := 1) rfl)⟩
  clear hb60_0
  obtain ⟨cc8_0_61, cc8_1_61⟩ := KB8.out wb60 (((((((((((((((((((((((((((((((((((((x6.trans xb8).trans x11).trans xb12).trans x15).trans xb16).trans x19).trans xb20).trans x23).trans xb24).trans hz25).trans x26).trans x27).trans x28).trans x29).trans x30).trans x31).trans hz32).trans x33).trans x34).trans x35).trans x36).trans x37).trans x38).trans x39).trans x40).trans x41).trans x42).trans x43).trans x44).trans xq).trans x48).trans xb49).trans x52).trans xb53).trans x54).trans x59).trans xb60)
  obtain ⟨cc5_0_62, cc5_1_62⟩ := KB5.out wb60 ((((((((((((((((((((((((((((((((((((((((xs.trans x2).trans xb4).trans x6).trans xb8).trans x11).trans xb12).trans x15).trans xb16).trans x19).trans xb20).trans x23).trans xb24).trans hz25).trans x26).trans x27).trans x28).trans x29).trans x30).trans x31).trans hz32).trans x33).trans x34).trans x35).trans x36).trans x37).trans x38).trans x39).trans x40).trans x41).trans x42).trans x43).trans x44).trans xq).trans x48).trans xb49).trans x52).trans xb53).trans x54).trans x59).trans xb60)
  have hq60 := hw60.symm
  have hp60 := hD60.symm
  clear hw60 hD60
  go_wp2_with fail
  clear hq60 hp60
  clear cc8_0_61 cc8_1_61 cc5_0_62 cc5_1_62
  refine (rRoot_z _ a v1 re0 rz0 _ (HV2_0.out.ext ((((((((((((((((((((((((((((((((((((((xb4.trans x6).trans xb8).trans x11).trans xb12).trans x15).trans xb16).trans x19).trans xb20).trans x23).trans xb24).trans hz25).trans x26).trans x27).trans x28).trans x29).trans x30).trans x31).trans hz32).trans x33).trans x34).trans x35).trans x36).trans x37).trans x38).trans x39).trans x40).trans x41).trans x42).trans x43).trans x44).trans xq).trans x48).trans xb49).trans x52).trans xb53).trans x54).trans x59).trans xb60)) HF1.out HV1.out HRE.out HRZ.out).mono ?_
  rintro e w63 ⟨⟨s63_0, a63_0, n63_0, c63_0, rfl, h63_0⟩, x63⟩
  have HV63_0 : Hid (IntV w63 (.agg #[.bool s63_0, .slice a63_0 n63_0 c63_0]) (rz0)) := Lib.hid ⟨_, _, _, _, rfl, h63_0⟩
  clear h63_0
  obtain ⟨D64, wb64, hD64, hw64, hb64_0, xb64⟩ := one w63 24 [.bool s63_0, .slice a63_0 n63_0 c63_0]
  have KB28 : Hid (∀ W, Ext wb64 W → W.cell? ⟨D64, 0, none⟩ = some (.bool s63_0) ∧ W.cell? ⟨D64, 1, none⟩ = some (.slice a63_0 n63_0 c63_0)) := Lib.hid fun W h => ⟨h.cell (hb64_0.cell (i := 0) rfl), h.cell (hb64_0.cell (i := 1) rfl)⟩
  clear hb64_0
  obtain ⟨cc26_0_66, cc26_1_66⟩ := KB26.out wb64 (x63.trans xb64)
  obtain ⟨cc28_0_67, cc28_1_67⟩ := KB28.out wb64 (Ext.refl _)
  have hq64 := hw64.symm
  have hp64 := hD64.symm
  clear hw64 hD64
  go_wp2_with fail
  clear hq64 hp64
  clear cc26_0_66 cc26_1_66 cc28_0_67 cc28_1_67
  refine (same_eq _ _ (rz0) (rz0) _ (HV59_0.out.ext ((xb60.trans x63).trans xb64)) (HV63_0.out.ext xb64) (Eq.refl _)).mono ?_
  rintro e w65 ⟨rfl, x65⟩
  go_wp2_with fail
  go_ret
  exact ⟨rfl, ((((((((((((((((((((((((((((((((((((((((((((x0.trans xs).trans x2).trans xb4).trans x6).trans xb8).trans x11).trans xb12).trans x15).trans xb16).trans x19).trans xb20).trans x23).trans xb24).trans hz25).trans x26).trans x27).trans x28).trans x29).trans x30).trans x31).trans hz32).trans x33).trans x34).trans x35).trans x36).trans x37).trans x38).trans x39).trans x40).trans x41).trans x42).trans x43).trans x44).trans xq).trans x48).trans xb49).trans x52).trans xb53).trans x54).trans x59).trans xb60).trans x63).trans xb64).trans x65)⟩
set_option maxRecDepth 100000 in
set_option maxHeartbeats 8000000 in
theorem matches_yes (nx : Bool) (ax : Option Addr) (kx cx : Nat) (lx : List Int) (a : Int) (ea : a = rawZ nx lx 12) (ny : Bool) (ay : Option Addr) (ky cy : Nat) (ly : List Int) (b : Int) (eb : b = rawZ ny ly 12) (w : World) (hx : Words w ax kx cx lx) (hy : Words w ay ky cy ly) (v0 v1 : Int) (hv : v1 < 9223372036854775808) (h0 : 0 ≤ v0) (h1 : v0 ≤ 4096) (hc : v0 * (blen a.natAbs : Int) ≤ 20000) :
    Calls Tryz.prog 11 #[.agg #[.bool nx, .slice ax kx cx], .agg #[.bool ny, .slice ay ky cy], .agg #[.int .i64 v0, .int .i64 v1]] w fun e w' => e = .returned (.bool true) ∧ Ext w w' := by
  have E_a := Lib.hid ea
  have HWx := Lib.hid hx
  clear ea hx
  have E_b := Lib.hid eb
  have HWy := Lib.hid hy
  clear eb hy
  have hbl2 : blen a.natAbs ≤ 384 := Nat.le_trans (fits_blen (by rw [E_a.out]; exact fits_raw HWx.out.wf (Nat.le_refl _))) (by omega)
  obtain ⟨bl, hbl⟩ : ∃ bl, blen a.natAbs = bl := ⟨_, rfl⟩
  rw [hbl] at hc hbl2
  have HBL := Lib.hid hbl
  clear hbl
  have hmul0 : 0 ≤ v0 * (bl : Int) := Int.mul_nonneg h0 (by omega)
  have hmul1 : v0 * (bl : Int) ≤ 4096 * 384 := Int.mul_le_mul h1 (by omega) (by omega) (by omega)
  obtain ⟨pr, hpr⟩ : ∃ pr, v0 * (bl : Int) = pr := ⟨_, rfl⟩
  rw [hpr] at hc hmul0 hmul1
  have HPR : Hid (IntKind.i64.wrap (v0 * (bl : Int)) = pr) := Lib.hid (by rw [hpr]; exact IntWalk.i64_in _ (by omega))
  clear hpr
  have hd0 : decide (v0 < 0) = false := by simp; omega
  have hd1 : decide (4096 < v0) = false := by simp; omega
  have hd2 : decide (pr ≤ 20000) = true := by simp; omega
  obtain ⟨er, h_er⟩ : ∃ x, errZ b = x := ⟨_, rfl⟩
  have HER := Lib.hid h_er
  clear h_er
  obtain ⟨q, h_q⟩ : ∃ x, a / b = x := ⟨_, rfl⟩
  have HQ := Lib.hid h_q
  clear h_q
  obtain ⟨r, h_r⟩ : ∃ x, remZ a b = x := ⟨_, rfl⟩
  have HR := Lib.hid h_r
  clear h_r
  obtain ⟨sg, h_sg⟩ : ∃ x, sgn a b = x := ⟨_, rfl⟩
  have HSG := Lib.hid h_sg
  clear h_sg
  obtain ⟨g, u, v, h_bz⟩ : ∃ g u v, bz a b = (g, u, v) := ⟨_, _, _, rfl⟩
  have HBZ := Lib.hid h_bz
  clear h_bz
  obtain ⟨pe0, h_pe0⟩ : ∃ x, powE v0 = x := ⟨_, rfl⟩
  have HPE := Lib.hid h_pe0
  clear h_pe0
  obtain ⟨pz0, h_pz0⟩ : ∃ x, powZ a v0 = x := ⟨_, rfl⟩
  have HPZ := Lib.hid h_pz0
  clear h_pz0
  obtain ⟨re0, h_re0⟩ : ∃ x, rootE a v1 = x := ⟨_, rfl⟩
  have HRE := Lib.hid h_re0
  clear h_re0
  obtain ⟨rz0, h_rz0⟩ : ∃ x, rootZ a v1 = x := ⟨_, rfl⟩
  have HRZ := Lib.hid h_rz0
  clear h_rz0
  have n_er : (er != er) = false := by simp
  have m_er : (er == er) = true := by simp
  have n_sg : (sg != sg) = false := by simp
  have m_sg : (sg == sg) = true := by simp
  have n_pe0 : (pe0 != pe0) = false := by simp
  have m_pe0 : (pe0 == pe0) = true := by simp
  have n_re0 : (re0 != re0) = false := by simp
  have m_re0 : (re0 == re0) = true := by simp
  have HV1 := Lib.hid hv
  clear hv
  obtain ⟨B0, w0, hB0, hw0, hr0, hr1, hr2, x0⟩ := three w 25 25 54 [.bool nx, .slice ax kx cx] [.bool ny, .slice ay ky cy] [.int .i64 v0, .int .i64 v1]
  have HF1 : Hid (Fits (a) 12) := Lib.hid (by rw [E_a.out]; exact fits_raw (HWx.out.wf) (by omega))
  have HF5 : Hid (Fits (b) 12) := Lib.hid (by rw [E_b.out]; exact fits_raw (HWy.out.wf) (by omega))
  have KB3 : Hid (∀ W, Ext w0 W → W.cell? ⟨B0, 0, none⟩ = some (.bool nx) ∧ W.cell? ⟨B0, 1, none⟩ = some (.slice ax kx cx)) := Lib.hid fun W h => ⟨h.cell (hr0.cell (i := 0) rfl), h.cell (hr0.cell (i := 1) rfl)⟩
  have KB4 : Hid (∀ W, Ext w0 W → W.cell? ⟨B0 + 1, 0, none⟩ = some (.bool ny) ∧ W.cell? ⟨B0 + 1, 1, none⟩ = some (.slice ay ky cy)) := Lib.hid fun W h => ⟨h.cell (hr1.cell (i := 0) rfl), h.cell (hr1.cell (i := 1) rfl)⟩
  have KB5 : Hid (∀ W, Ext w0 W → W.cell? ⟨B0 + 1 + 1, 0, none⟩ = some (.int .i64 v0) ∧ W.cell? ⟨B0 + 1 + 1, 1, none⟩ = some (.int .i64 v1)) := Lib.hid fun W h => ⟨h.cell (hr2.cell (i := 0) rfl), h.cell (hr2.cell (i := 1) rfl)⟩
  clear hr0 hr1 hr2
  go_enter Tryz.func11, Tryz.ntmps11
  go_wp2_with fail
  rw [← hw0, ← hB0]
  clear hw0 hB0
  refine (sanity_any _).mono ?_
  rintro e ws ⟨rfl, xs⟩
  obtain ⟨cc3_0_3, cc3_1_3⟩ := KB3.out ws xs
  go_wp2_with fail
  clear cc3_0_3 cc3_1_3
  refine (Made_any nx ax kx cx lx 12 a _ (HWx.out.ext (x0.trans xs)) (by omega) E_a.out).mono ?_
  rintro e w2 ⟨⟨v2_0, rfl, ⟨s2_0, a2_0, n2_0, c2_0, rfl, hi2_0⟩⟩, x2⟩
  have HV2_0 : Hid (IntV w2 (.agg #[.bool s2_0, .slice a2_0 n2_0 c2_0]) (a)) := Lib.hid ⟨_, _, _, _, rfl, hi2_0⟩
  clear hi2_0
  obtain ⟨D4, wb4, hD4, hw4, hb4_0, xb4⟩ := one w2 24 [.bool s2_0, .slice a2_0 n2_0 c2_0]
  have KB8 : Hid (∀ W, Ext wb4 W → W.cell? ⟨D4, 0, none⟩ = some (.bool s2_0) ∧ W.cell? ⟨D4, 1, none⟩ = some (.slice a2_0 n2_0 c2_0)) := Lib.hid fun W h => ⟨h.cell (hb4_0.cell (i := 0) rfl), h.cell (hb4_0.cell (i := 1) rfl)⟩
  clear hb4_0
  obtain ⟨cc4_0_7, cc4_1_7⟩ := KB4.out wb4 ((xs.trans x2).trans xb4)
  have hq4 := hw4.symm
  have hp4 := hD4.symm
  clear hw4 hD4
  go_wp2_with fail
  clear hq4 hp4
  clear cc4_0_7 cc4_1_7
  refine (Made_any ny ay ky cy ly 12 b _ (HWy.out.ext (((x0.trans xs).trans x2).trans xb4)) (by omega) E_b.out).mono ?_
  rintro e w6 ⟨⟨v6_0, rfl, ⟨s6_0, a6_0, n6_0, c6_0, rfl, hi6_0⟩⟩, x6⟩
  have HV6_0 : Hid (IntV w6 (.agg #[.bool s6_0, .slice a6_0 n6_0 c6_0]) (b)) := Lib.hid ⟨_, _, _, _, rfl, hi6_0⟩
  clear hi6_0
  obtain ⟨D8, wb8, hD8, hw8, hb8_0, xb8⟩ := one w6 24 [.bool s6_0, .slice a6_0 n6_0 c6_0]
  have KB9 : Hid (∀ W, Ext wb8 W → W.cell? ⟨D8, 0, none⟩ = some (.bool s6_0) ∧ W.cell? ⟨D8, 1, none⟩ = some (.slice a6_0 n6_0 c6_0)) := Lib.hid fun W h => ⟨h.cell (hb8_0.cell (i := 0) rfl), h.cell (hb8_0.cell (i := 1) rfl)⟩
  clear hb8_0
  obtain ⟨cc8_0_9, cc8_1_9⟩ := KB8.out wb8 (x6.trans xb8)
  obtain ⟨cc9_0_10, cc9_1_10⟩ := KB9.out wb8 (Ext.refl _)
  have hq8 := hw8.symm
  have hp8 := hD8.symm
  clear hw8 hD8
  go_wp2_with fail
  clear hq8 hp8
  clear cc8_0_9 cc8_1_9 cc9_0_10 cc9_1_10
  refine (divmod_z _ _ a b er q r _ (HV2_0.out.ext ((xb4.trans x6).trans xb8)) (HV6_0.out.ext xb8) (HF1.out.mono (by omega)) (HF5.out.mono (by omega)) HER.out HQ.out HR.out).mono ?_
  rintro e w11 ⟨⟨s11_0, a11_0, n11_0, c11_0, s11_1, a11_1, n11_1, c11_1, rfl, h11_0, h11_1⟩, x11⟩
  have HV11_0 : Hid (IntV w11 (.agg #[.bool s11_0, .slice a11_0 n11_0 c11_0]) (q)) := Lib.hid ⟨_, _, _, _, rfl, h11_0⟩
  clear h11_0
  have HV11_1 : Hid (IntV w11 (.agg #[.bool s11_1, .slice a11_1 n11_1 c11_1]) (r)) := Lib.hid ⟨_, _, _, _, rfl, h11_1⟩
  clear h11_1
  obtain ⟨D12, wb12, hD12, hw12, hb12_0, hb12_1, xb12⟩ := two w11 24 24 [.bool s11_0, .slice a11_0 n11_0 c11_0] [.bool s11_1, .slice a11_1 n11_1 c11_1]
  have KB10 : Hid (∀ W, Ext wb12 W → W.cell? ⟨D12, 0, none⟩ = some (.bool s11_0) ∧ W.cell? ⟨D12, 1, none⟩ = some (.slice a11_0 n11_0 c11_0)) := Lib.hid fun W h => ⟨h.cell (hb12_0.cell (i := 0) rfl), h.cell (hb12_0.cell (i := 1) rfl)⟩
  have KB11 : Hid (∀ W, Ext wb12 W → W.cell? ⟨D12 + 1, 0, none⟩ = some (.bool s11_1) ∧ W.cell? ⟨D12 + 1, 1, none⟩ = some (.slice a11_1 n11_1 c11_1)) := Lib.hid fun W h => ⟨h.cell (hb12_1.cell (i := 0) rfl), h.cell (hb12_1.cell (i := 1) rfl)⟩
  clear hb12_0 hb12_1
  obtain ⟨cc8_0_13, cc8_1_13⟩ := KB8.out wb12 (((x6.trans xb8).trans x11).trans xb12)
  obtain ⟨cc9_0_14, cc9_1_14⟩ := KB9.out wb12 (x11.trans xb12)
  have hq12 := hw12.symm
  have hp12 := hD12.symm
  clear hw12 hD12
  go_wp2_with fail
  clear hq12 hp12
  clear cc8_0_13 cc8_1_13 cc9_0_14 cc9_1_14
  refine (rdivmod_z _ _ a b er q r _ (HV2_0.out.ext ((((xb4.trans x6).trans xb8).trans x11).trans xb12)) (HV6_0.out.ext ((xb8.trans x11).trans xb12)) (HF1.out.mono (by omega)) (HF5.out.mono (by omega)) HER.out HQ.out HR.out).mono ?_
  rintro e w15 ⟨⟨s15_0, a15_0, n15_0, c15_0, s15_1, a15_1, n15_1, c15_1, rfl, h15_0, h15_1⟩, x15⟩
  have HV15_0 : Hid (IntV w15 (.agg #[.bool s15_0, .slice a15_0 n15_0 c15_0]) (q)) := Lib.hid ⟨_, _, _, _, rfl, h15_0⟩
  clear h15_0
  have HV15_1 : Hid (IntV w15 (.agg #[.bool s15_1, .slice a15_1 n15_1 c15_1]) (r)) := Lib.hid ⟨_, _, _, _, rfl, h15_1⟩
  clear h15_1
  obtain ⟨D16, wb16, hD16, hw16, hb16_0, hb16_1, xb16⟩ := two w15 24 24 [.bool s15_0, .slice a15_0 n15_0 c15_0] [.bool s15_1, .slice a15_1 n15_1 c15_1]
  have KB13 : Hid (∀ W, Ext wb16 W → W.cell? ⟨D16, 0, none⟩ = some (.bool s15_0) ∧ W.cell? ⟨D16, 1, none⟩ = some (.slice a15_0 n15_0 c15_0)) := Lib.hid fun W h => ⟨h.cell (hb16_0.cell (i := 0) rfl), h.cell (hb16_0.cell (i := 1) rfl)⟩
  have KB14 : Hid (∀ W, Ext wb16 W → W.cell? ⟨D16 + 1, 0, none⟩ = some (.bool s15_1) ∧ W.cell? ⟨D16 + 1, 1, none⟩ = some (.slice a15_1 n15_1 c15_1)) := Lib.hid fun W h => ⟨h.cell (hb16_1.cell (i := 0) rfl), h.cell (hb16_1.cell (i := 1) rfl)⟩
  clear hb16_0 hb16_1
  obtain ⟨cc8_0_17, cc8_1_17⟩ := KB8.out wb16 (((((x6.trans xb8).trans x11).trans xb12).trans x15).trans xb16)
  obtain ⟨cc9_0_18, cc9_1_18⟩ := KB9.out wb16 (((x11.trans xb12).trans x15).trans xb16)
  have hq16 := hw16.symm
  have hp16 := hD16.symm
  clear hw16 hD16
  go_wp2_with fail
  clear hq16 hp16
  clear cc8_0_17 cc8_1_17 cc9_0_18 cc9_1_18
  refine (bezout_z _ _ a b g u v _ (HV2_0.out.ext ((((((xb4.trans x6).trans xb8).trans x11).trans xb12).trans x15).trans xb16)) (HV6_0.out.ext ((((xb8.trans x11).trans xb12).trans x15).trans xb16)) (HF1.out.mono (by omega)) (HF5.out.mono (by omega)) HBZ.out).mono ?_
  rintro e w19 ⟨⟨s19_0, a19_0, n19_0, c19_0, s19_1, a19_1, n19_1, c19_1, s19_2, a19_2, n19_2, c19_2, rfl, h19_0, h19_1, h19_2⟩, x19⟩
  have HV19_0 : Hid (IntV w19 (.agg #[.bool s19_0, .slice a19_0 n19_0 c19_0]) (g)) := Lib.hid ⟨_, _, _, _, rfl, h19_0⟩
  clear h19_0
  have HV19_1 : Hid (IntV w19 (.agg #[.bool s19_1, .slice a19_1 n19_1 c19_1]) (u)) := Lib.hid ⟨_, _, _, _, rfl, h19_1⟩
  clear h19_1
  have HV19_2 : Hid (IntV w19 (.agg #[.bool s19_2, .slice a19_2 n19_2 c19_2]) (v)) := Lib.hid ⟨_, _, _, _, rfl, h19_2⟩
  clear h19_2
  obtain ⟨D20, wb20, hD20, hw20, hb20_0, hb20_1, hb20_2, xb20⟩ := three w19 24 24 24 [.bool s19_0, .slice a19_0 n19_0 c19_0] [.bool s19_1, .slice a19_1 n19_1 c19_1] [.bool s19_2, .slice a19_2 n19_2 c19_2]
  have KB16 : Hid (∀ W, Ext wb20 W → W.cell? ⟨D20, 0, none⟩ = some (.bool s19_0) ∧ W.cell? ⟨D20, 1, none⟩ = some (.slice a19_0 n19_0 c19_0)) := Lib.hid fun W h => ⟨h.cell (hb20_0.cell (i := 0) rfl), h.cell (hb20_0.cell (i := 1) rfl)⟩
  have KB17 : Hid (∀ W, Ext wb20 W → W.cell? ⟨D20 + 1, 0, none⟩ = some (.bool s19_1) ∧ W.cell? ⟨D20 + 1, 1, none⟩ = some (.slice a19_1 n19_1 c19_1)) := Lib.hid fun W h => ⟨h.cell (hb20_1.cell (i := 0) rfl), h.cell (hb20_1.cell (i := 1) rfl)⟩
  have KB18 : Hid (∀ W, Ext wb20 W → W.cell? ⟨D20 + 1 + 1, 0, none⟩ = some (.bool s19_2) ∧ W.cell? ⟨D20 + 1 + 1, 1, none⟩ = some (.slice a19_2 n19_2 c19_2)) := Lib.hid fun W h => ⟨h.cell (hb20_2.cell (i := 0) rfl), h.cell (hb20_2.cell (i := 1) rfl)⟩
  clear hb20_0 hb20_1 hb20_2
  obtain ⟨cc8_0_21, cc8_1_21⟩ := KB8.out wb20 (((((((x6.trans xb8).trans x11).trans xb12).trans x15).trans xb16).trans x19).trans xb20)
  obtain ⟨cc9_0_22, cc9_1_22⟩ := KB9.out wb20 (((((x11.trans xb12).trans x15).trans xb16).trans x19).trans xb20)
  have hq20 := hw20.symm
  have hp20 := hD20.symm
  clear hw20 hD20
  go_wp2_with fail
  clear hq20 hp20
  clear cc8_0_21 cc8_1_21 cc9_0_22 cc9_1_22
  refine (rbezout_z _ _ a b g u v _ (HV2_0.out.ext ((((((((xb4.trans x6).trans xb8).trans x11).trans xb12).trans x15).trans xb16).trans x19).trans xb20)) (HV6_0.out.ext ((((((xb8.trans x11).trans xb12).trans x15).trans xb16).trans x19).trans xb20)) (HF1.out.mono (by omega)) (HF5.out.mono (by omega)) HBZ.out).mono ?_
  rintro e w23 ⟨⟨s23_0, a23_0, n23_0, c23_0, s23_1, a23_1, n23_1, c23_1, s23_2, a23_2, n23_2, c23_2, rfl, h23_0, h23_1, h23_2⟩, x23⟩
  have HV23_0 : Hid (IntV w23 (.agg #[.bool s23_0, .slice a23_0 n23_0 c23_0]) (g)) := Lib.hid ⟨_, _, _, _, rfl, h23_0⟩
  clear h23_0
  have HV23_1 : Hid (IntV w23 (.agg #[.bool s23_1, .slice a23_1 n23_1 c23_1]) (u)) := Lib.hid ⟨_, _, _, _, rfl, h23_1⟩
  clear h23_1
  have HV23_2 : Hid (IntV w23 (.agg #[.bool s23_2, .slice a23_2 n23_2 c23_2]) (v)) := Lib.hid ⟨_, _, _, _, rfl, h23_2⟩
  clear h23_2
  obtain ⟨D24, wb24, hD24, hw24, hb24_0, hb24_1, hb24_2, xb24⟩ := three w23 24 24 24 [.bool s23_0, .slice a23_0 n23_0 c23_0] [.bool s23_1, .slice a23_1 n23_1 c23_1] [.bool s23_2, .slice a23_2 n23_2 c23_2]
  have KB19 : Hid (∀ W, Ext wb24 W → W.cell? ⟨D24, 0, none⟩ = some (.bool s23_0) ∧ W.cell? ⟨D24, 1, none⟩ = some (.slice a23_0 n23_0 c23_0)) := Lib.hid fun W h => ⟨h.cell (hb24_0.cell (i := 0) rfl), h.cell (hb24_0.cell (i := 1) rfl)⟩
  have KB20 : Hid (∀ W, Ext wb24 W → W.cell? ⟨D24 + 1, 0, none⟩ = some (.bool s23_1) ∧ W.cell? ⟨D24 + 1, 1, none⟩ = some (.slice a23_1 n23_1 c23_1)) := Lib.hid fun W h => ⟨h.cell (hb24_1.cell (i := 0) rfl), h.cell (hb24_1.cell (i := 1) rfl)⟩
  have KB21 : Hid (∀ W, Ext wb24 W → W.cell? ⟨D24 + 1 + 1, 0, none⟩ = some (.bool s23_2) ∧ W.cell? ⟨D24 + 1 + 1, 1, none⟩ = some (.slice a23_2 n23_2 c23_2)) := Lib.hid fun W h => ⟨h.cell (hb24_2.cell (i := 0) rfl), h.cell (hb24_2.cell (i := 1) rfl)⟩
  clear hb24_0 hb24_1 hb24_2
  have KX25 : Hid (∀ w', Ext wb24 w' → w'.cell? ⟨D12, 0, none⟩ = some (.bool s11_0) ∧ w'.cell? ⟨D12, 1, none⟩ = some (.slice a11_0 n11_0 c11_0) ∧ w'.cell? ⟨D16, 0, none⟩ = some (.bool s15_0) ∧ w'.cell? ⟨D16, 1, none⟩ = some (.slice a15_0 n15_0 c15_0) ∧ w'.cell? ⟨D12 + 1, 0, none⟩ = some (.bool s11_1) ∧ w'.cell? ⟨D12 + 1, 1, none⟩ = some (.slice a11_1 n11_1 c11_1) ∧ w'.cell? ⟨D16 + 1, 0, none⟩ = some (.bool s15_1) ∧ w'.cell? ⟨D16 + 1, 1, none⟩ = some (.slice a15_1 n15_1 c15_1) ∧ w'.cell? ⟨D20, 0, none⟩ = some (.bool s19_0) ∧ w'.cell? ⟨D20, 1, none⟩ = some (.slice a19_0 n19_0 c19_0) ∧ w'.cell? ⟨D20 + 1, 0, none⟩ = some (.bool s19_1) ∧ w'.cell? ⟨D20 + 1, 1, none⟩ = some (.slice a19_1 n19_1 c19_1) ∧ w'.cell? ⟨D20 + 1 + 1, 0, none⟩ = some (.bool s19_2) ∧ w'.cell? ⟨D20 + 1 + 1, 1, none⟩ = some (.slice a19_2 n19_2 c19_2) ∧ w'.cell? ⟨D24, 0, none⟩ = some (.bool s23_0) ∧ w'.cell? ⟨D24, 1, none⟩ = some (.slice a23_0 n23_0 c23_0) ∧ w'.cell? ⟨D24 + 1, 0, none⟩ = some (.bool s23_1) ∧ w'.cell? ⟨D24 + 1, 1, none⟩ = some (.slice a23_1 n23_1 c23_1) ∧ w'.cell? ⟨D24 + 1 + 1, 0, none⟩ = some (.bool s23_2) ∧ w'.cell? ⟨D24 + 1 + 1, 1, none⟩ = some (.slice a23_2 n23_2 c23_2) ∧ w'.cell? ⟨D4, 0, none⟩ = some (.bool s2_0) ∧ w'.cell? ⟨D4, 1, none⟩ = some (.slice a2_0 n2_0 c2_0) ∧ w'.cell? ⟨D8, 0, none⟩ = some (.bool s6_0) ∧ w'.cell? ⟨D8, 1, none⟩ = some (.slice a6_0 n6_0 c6_0)) := Lib.hid fun w' h => by
    have q10 := KB10.out w' ((((((x15.trans xb16).trans x19).trans xb20).trans x23).trans xb24).trans h)
    have q13 := KB13.out w' ((((x19.trans xb20).trans x23).trans xb24).trans h)
    have q11 := KB11.out w' ((((((x15.trans xb16).trans x19).trans xb20).trans x23).trans xb24).trans h)
    have q14 := KB14.out w' ((((x19.trans xb20).trans x23).trans xb24).trans h)
    have q16 := KB16.out w' ((x23.trans xb24).trans h)
    have q17 := KB17.out w' ((x23.trans xb24).trans h)
    have q18 := KB18.out w' ((x23.trans xb24).trans h)
    have q19 := KB19.out w' ((Ext.refl _).trans h)
    have q20 := KB20.out w' ((Ext.refl _).trans h)
    have q21 := KB21.out w' ((Ext.refl _).trans h)
    have q8 := KB8.out w' ((((((((((x6.trans xb8).trans x11).trans xb12).trans x15).trans xb16).trans x19).trans xb20).trans x23).trans xb24).trans h)
    have q9 := KB9.out w' ((((((((x11.trans xb12).trans x15).trans xb16).trans x19).trans xb20).trans x23).trans xb24).trans h)
    exact ⟨q10.1, q10.2, q13.1, q13.2, q11.1, q11.2, q14.1, q14.2, q16.1, q16.2, q17.1, q17.2, q18.1, q18.2, q19.1, q19.2, q20.1, q20.2, q21.1, q21.2, q8.1, q8.2, q9.1, q9.2⟩
  have hq24 := hw24.symm
  have hp24 := hD24.symm
  clear hw24 hD24
  go_wp2_with fail
  clear hq24 hp24
  have hz25 := Below.drewExt wb24
  go_region_held3
    (fun w' => w'.cell? ⟨D12, 0, none⟩ = some (.bool s11_0) ∧ w'.cell? ⟨D12, 1, none⟩ = some (.slice a11_0 n11_0 c11_0) ∧ w'.cell? ⟨D16, 0, none⟩ = some (.bool s15_0) ∧ w'.cell? ⟨D16, 1, none⟩ = some (.slice a15_0 n15_0 c15_0) ∧ w'.cell? ⟨D12 + 1, 0, none⟩ = some (.bool s11_1) ∧ w'.cell? ⟨D12 + 1, 1, none⟩ = some (.slice a11_1 n11_1 c11_1) ∧ w'.cell? ⟨D16 + 1, 0, none⟩ = some (.bool s15_1) ∧ w'.cell? ⟨D16 + 1, 1, none⟩ = some (.slice a15_1 n15_1 c15_1) ∧ w'.cell? ⟨D20, 0, none⟩ = some (.bool s19_0) ∧ w'.cell? ⟨D20, 1, none⟩ = some (.slice a19_0 n19_0 c19_0) ∧ w'.cell? ⟨D20 + 1, 0, none⟩ = some (.bool s19_1) ∧ w'.cell? ⟨D20 + 1, 1, none⟩ = some (.slice a19_1 n19_1 c19_1) ∧ w'.cell? ⟨D20 + 1 + 1, 0, none⟩ = some (.bool s19_2) ∧ w'.cell? ⟨D20 + 1 + 1, 1, none⟩ = some (.slice a19_2 n19_2 c19_2) ∧ w'.cell? ⟨D24, 0, none⟩ = some (.bool s23_0) ∧ w'.cell? ⟨D24, 1, none⟩ = some (.slice a23_0 n23_0 c23_0) ∧ w'.cell? ⟨D24 + 1, 0, none⟩ = some (.bool s23_1) ∧ w'.cell? ⟨D24 + 1, 1, none⟩ = some (.slice a23_1 n23_1 c23_1) ∧ w'.cell? ⟨D24 + 1 + 1, 0, none⟩ = some (.bool s23_2) ∧ w'.cell? ⟨D24 + 1 + 1, 1, none⟩ = some (.slice a23_2 n23_2 c23_2) ∧ w'.cell? ⟨D4, 0, none⟩ = some (.bool s2_0) ∧ w'.cell? ⟨D4, 1, none⟩ = some (.slice a2_0 n2_0 c2_0) ∧ w'.cell? ⟨D8, 0, none⟩ = some (.bool s6_0) ∧ w'.cell? ⟨D8, 1, none⟩ = some (.slice a6_0 n6_0 c6_0))
    (with_reducible exact KX25.out _ (by assumption))
    (first
    | (go_at_call 21; (with_reducible refine (same_eq _ _ (q) (q) _ (HV11_0.out.ext (((((((xb12.trans x15).trans xb16).trans x19).trans xb20).trans x23).trans xb24).trans hz25)) (HV15_0.out.ext (((((xb16.trans x19).trans xb20).trans x23).trans xb24).trans hz25)) (Eq.refl _)).mono ?_); rintro e w26 ⟨rfl, x26⟩; have hz26 := hz25.trans x26)
    | (go_at_call 21; (with_reducible refine (same_eq _ _ (r) (r) _ (HV11_1.out.ext ((((((((xb12.trans x15).trans xb16).trans x19).trans xb20).trans x23).trans xb24).trans hz25).trans x26)) (HV15_1.out.ext ((((((xb16.trans x19).trans xb20).trans x23).trans xb24).trans hz25).trans x26)) (Eq.refl _)).mono ?_); rintro e w27 ⟨rfl, x27⟩; have hz27 := hz26.trans x27)
    | (go_at_call 37; (with_reducible refine (same3_true s19_0 a19_0 n19_0 c19_0 s19_1 a19_1 n19_1 c19_1 s19_2 a19_2 n19_2 c19_2 s23_0 a23_0 n23_0 c23_0 s23_1 a23_1 n23_1 c23_1 s23_2 a23_2 n23_2 c23_2 g u v _ (HV19_0.out.ext (((((xb20.trans x23).trans xb24).trans hz25).trans x26).trans x27)) (HV19_1.out.ext (((((xb20.trans x23).trans xb24).trans hz25).trans x26).trans x27)) (HV19_2.out.ext (((((xb20.trans x23).trans xb24).trans hz25).trans x26).trans x27)) (HV23_0.out.ext (((xb24.trans hz25).trans x26).trans x27)) (HV23_1.out.ext (((xb24.trans hz25).trans x26).trans x27)) (HV23_2.out.ext (((xb24.trans hz25).trans x26).trans x27))).mono ?_); rintro e w28 ⟨rfl, x28⟩; have hz28 := hz27.trans x28)
    | (go_at_call 38; (with_reducible refine (gcd_any _ _ a b _ (HV2_0.out.ext ((((((((((((((xb4.trans x6).trans xb8).trans x11).trans xb12).trans x15).trans xb16).trans x19).trans xb20).trans x23).trans xb24).trans hz25).trans x26).trans x27).trans x28)) (HV6_0.out.ext ((((((((((((xb8.trans x11).trans xb12).trans x15).trans xb16).trans x19).trans xb20).trans x23).trans xb24).trans hz25).trans x26).trans x27).trans x28)) (HF1.out.mono (by omega)) (HF5.out.mono (by omega))).mono ?_); rintro e w29 ⟨⟨v29_0, rfl, hv29_0⟩, x29⟩; have hz29 := hz28.trans x29)
    | (go_at_call 39; (with_reducible refine (rgcd_any _ _ a b _ (HV2_0.out.ext (((((((((((((((xb4.trans x6).trans xb8).trans x11).trans xb12).trans x15).trans xb16).trans x19).trans xb20).trans x23).trans xb24).trans hz25).trans x26).trans x27).trans x28).trans x29)) (HV6_0.out.ext (((((((((((((xb8.trans x11).trans xb12).trans x15).trans xb16).trans x19).trans xb20).trans x23).trans xb24).trans hz25).trans x26).trans x27).trans x28).trans x29)) (HF1.out.mono (by omega)) (HF5.out.mono (by omega))).mono ?_); rintro e w30 ⟨⟨v30_0, rfl, hv30_0⟩, x30⟩; have hz30 := hz29.trans x30)
    | (go_at_call 21; (with_reducible refine (same_eq _ _ (((Int.gcd a b : Nat) : Int)) (((Int.gcd a b : Nat) : Int)) _ (hv29_0.ext x30) hv30_0 (Eq.refl _)).mono ?_); rintro e w31 ⟨rfl, x31⟩; have hz31 := hz30.trans x31)
    )
  clear KX25
  have KX32 : Hid (∀ w', Ext w31 w' → w'.cell? ⟨D4, 0, none⟩ = some (.bool s2_0) ∧ w'.cell? ⟨D4, 1, none⟩ = some (.slice a2_0 n2_0 c2_0) ∧ w'.cell? ⟨D8, 0, none⟩ = some (.bool s6_0) ∧ w'.cell? ⟨D8, 1, none⟩ = some (.slice a6_0 n6_0 c6_0)) := Lib.hid fun w' h => by
    have q8 := KB8.out w' (((((((((((((((((x6.trans xb8).trans x11).trans xb12).trans x15).trans xb16).trans x19).trans xb20).trans x23).trans xb24).trans hz25).trans x26).trans x27).trans x28).trans x29).trans x30).trans x31).trans h)
    have q9 := KB9.out w' (((((((((((((((x11.trans xb12).trans x15).trans xb16).trans x19).trans xb20).trans x23).trans xb24).trans hz25).trans x26).trans x27).trans x28).trans x29).trans x30).trans x31).trans h)
    exact ⟨q8.1, q8.2, q9.1, q9.2⟩
  go_wp2_with fail
  have hz32 := Below.drewExt w31
  go_region_held3
    (fun w' => w'.cell? ⟨D4, 0, none⟩ = some (.bool s2_0) ∧ w'.cell? ⟨D4, 1, none⟩ = some (.slice a2_0 n2_0 c2_0) ∧ w'.cell? ⟨D8, 0, none⟩ = some (.bool s6_0) ∧ w'.cell? ⟨D8, 1, none⟩ = some (.slice a6_0 n6_0 c6_0))
    (with_reducible exact KX32.out _ (by assumption))
    (first
    | (go_at_call 40; (with_reducible refine (numbers_true s2_0 a2_0 n2_0 c2_0 a _ (HV2_0.out.ext ((((((((((((((((((xb4.trans x6).trans xb8).trans x11).trans xb12).trans x15).trans xb16).trans x19).trans xb20).trans x23).trans xb24).trans hz25).trans x26).trans x27).trans x28).trans x29).trans x30).trans x31).trans hz32)) HF1.out).mono ?_); rintro e w33 ⟨rfl, x33⟩; have hz33 := hz32.trans x33)
    | (go_at_call 16; (with_reducible refine (cmp_is _ _ (a) (b) (sg) _ (HV2_0.out.ext (((((((((((((((((((xb4.trans x6).trans xb8).trans x11).trans xb12).trans x15).trans xb16).trans x19).trans xb20).trans x23).trans xb24).trans hz25).trans x26).trans x27).trans x28).trans x29).trans x30).trans x31).trans hz32).trans x33)) (HV6_0.out.ext (((((((((((((((((xb8.trans x11).trans xb12).trans x15).trans xb16).trans x19).trans xb20).trans x23).trans xb24).trans hz25).trans x26).trans x27).trans x28).trans x29).trans x30).trans x31).trans hz32).trans x33)) HSG.out).mono ?_); rintro e w34 ⟨rfl, x34⟩; have hz34 := hz33.trans x34)
    | (go_at_call 41; (with_reducible refine (rcmp_is _ _ a b sg _ (HV2_0.out.ext ((((((((((((((((((((xb4.trans x6).trans xb8).trans x11).trans xb12).trans x15).trans xb16).trans x19).trans xb20).trans x23).trans xb24).trans hz25).trans x26).trans x27).trans x28).trans x29).trans x30).trans x31).trans hz32).trans x33).trans x34)) (HV6_0.out.ext ((((((((((((((((((xb8.trans x11).trans xb12).trans x15).trans xb16).trans x19).trans xb20).trans x23).trans xb24).trans hz25).trans x26).trans x27).trans x28).trans x29).trans x30).trans x31).trans hz32).trans x33).trans x34)) HSG.out).mono ?_); rintro e w35 ⟨rfl, x35⟩; have hz35 := hz34.trans x35)
    | (go_at_call 17; (with_reducible refine (add_any _ _ a b _ (HV2_0.out.ext (((((((((((((((((((((xb4.trans x6).trans xb8).trans x11).trans xb12).trans x15).trans xb16).trans x19).trans xb20).trans x23).trans xb24).trans hz25).trans x26).trans x27).trans x28).trans x29).trans x30).trans x31).trans hz32).trans x33).trans x34).trans x35)) (HV6_0.out.ext (((((((((((((((((((xb8.trans x11).trans xb12).trans x15).trans xb16).trans x19).trans xb20).trans x23).trans xb24).trans hz25).trans x26).trans x27).trans x28).trans x29).trans x30).trans x31).trans hz32).trans x33).trans x34).trans x35)) (HF1.out.mono (by omega)) (HF5.out.mono (by omega))).mono ?_); rintro e w36 ⟨⟨v36_0, rfl, hv36_0⟩, x36⟩; have hz36 := hz35.trans x36)
    | (go_at_call 42; (with_reducible refine (radd_any _ _ a b _ (HV2_0.out.ext ((((((((((((((((((((((xb4.trans x6).trans xb8).trans x11).trans xb12).trans x15).trans xb16).trans x19).trans xb20).trans x23).trans xb24).trans hz25).trans x26).trans x27).trans x28).trans x29).trans x30).trans x31).trans hz32).trans x33).trans x34).trans x35).trans x36)) (HV6_0.out.ext ((((((((((((((((((((xb8.trans x11).trans xb12).trans x15).trans xb16).trans x19).trans xb20).trans x23).trans xb24).trans hz25).trans x26).trans x27).trans x28).trans x29).trans x30).trans x31).trans hz32).trans x33).trans x34).trans x35).trans x36)) (HF1.out.mono (by omega)) (HF5.out.mono (by omega))).mono ?_); rintro e w37 ⟨⟨v37_0, rfl, hv37_0⟩, x37⟩; have hz37 := hz36.trans x37)
    | (go_at_call 21; (with_reducible refine (same_eq _ _ (a + b) (a + b) _ (hv36_0.ext x37) hv37_0 (Eq.refl _)).mono ?_); rintro e w38 ⟨rfl, x38⟩; have hz38 := hz37.trans x38)
    | (go_at_call 19; (with_reducible refine (sub_any _ _ a b _ (HV2_0.out.ext ((((((((((((((((((((((((xb4.trans x6).trans xb8).trans x11).trans xb12).trans x15).trans xb16).trans x19).trans xb20).trans x23).trans xb24).trans hz25).trans x26).trans x27).trans x28).trans x29).trans x30).trans x31).trans hz32).trans x33).trans x34).trans x35).trans x36).trans x37).trans x38)) (HV6_0.out.ext ((((((((((((((((((((((xb8.trans x11).trans xb12).trans x15).trans xb16).trans x19).trans xb20).trans x23).trans xb24).trans hz25).trans x26).trans x27).trans x28).trans x29).trans x30).trans x31).trans hz32).trans x33).trans x34).trans x35).trans x36).trans x37).trans x38)) (HF1.out.mono (by omega)) (HF5.out.mono (by omega))).mono ?_); rintro e w39 ⟨⟨v39_0, rfl, hv39_0⟩, x39⟩; have hz39 := hz38.trans x39)
    | (go_at_call 43; (with_reducible refine (rsub_any _ _ a b _ (HV2_0.out.ext (((((((((((((((((((((((((xb4.trans x6).trans xb8).trans x11).trans xb12).trans x15).trans xb16).trans x19).trans xb20).trans x23).trans xb24).trans hz25).trans x26).trans x27).trans x28).trans x29).trans x30).trans x31).trans hz32).trans x33).trans x34).trans x35).trans x36).trans x37).trans x38).trans x39)) (HV6_0.out.ext (((((((((((((((((((((((xb8.trans x11).trans xb12).trans x15).trans xb16).trans x19).trans xb20).trans x23).trans xb24).trans hz25).trans x26).trans x27).trans x28).trans x29).trans x30).trans x31).trans hz32).trans x33).trans x34).trans x35).trans x36).trans x37).trans x38).trans x39)) (HF1.out.mono (by omega)) (HF5.out.mono (by omega))).mono ?_); rintro e w40 ⟨⟨v40_0, rfl, hv40_0⟩, x40⟩; have hz40 := hz39.trans x40)
    | (go_at_call 21; (with_reducible refine (same_eq _ _ (a - b) (a - b) _ (hv39_0.ext x40) hv40_0 (Eq.refl _)).mono ?_); rintro e w41 ⟨rfl, x41⟩; have hz41 := hz40.trans x41)
    | (go_at_call 18; (with_reducible refine (mul_any _ _ a b _ (HV2_0.out.ext (((((((((((((((((((((((((((xb4.trans x6).trans xb8).trans x11).trans xb12).trans x15).trans xb16).trans x19).trans xb20).trans x23).trans xb24).trans hz25).trans x26).trans x27).trans x28).trans x29).trans x30).trans x31).trans hz32).trans x33).trans x34).trans x35).trans x36).trans x37).trans x38).trans x39).trans x40).trans x41)) (HV6_0.out.ext (((((((((((((((((((((((((xb8.trans x11).trans xb12).trans x15).trans xb16).trans x19).trans xb20).trans x23).trans xb24).trans hz25).trans x26).trans x27).trans x28).trans x29).trans x30).trans x31).trans hz32).trans x33).trans x34).trans x35).trans x36).trans x37).trans x38).trans x39).trans x40).trans x41)) (HF1.out.mono (by omega)) (HF5.out.mono (by omega))).mono ?_); rintro e w42 ⟨⟨v42_0, rfl, hv42_0⟩, x42⟩; have hz42 := hz41.trans x42)
    | (go_at_call 44; (with_reducible refine (rmul_any _ _ a b _ (HV2_0.out.ext ((((((((((((((((((((((((((((xb4.trans x6).trans xb8).trans x11).trans xb12).trans x15).trans xb16).trans x19).trans xb20).trans x23).trans xb24).trans hz25).trans x26).trans x27).trans x28).trans x29).trans x30).trans x31).trans hz32).trans x33).trans x34).trans x35).trans x36).trans x37).trans x38).trans x39).trans x40).trans x41).trans x42)) (HV6_0.out.ext ((((((((((((((((((((((((((xb8.trans x11).trans xb12).trans x15).trans xb16).trans x19).trans xb20).trans x23).trans xb24).trans hz25).trans x26).trans x27).trans x28).trans x29).trans x30).trans x31).trans hz32).trans x33).trans x34).trans x35).trans x36).trans x37).trans x38).trans x39).trans x40).trans x41).trans x42)) (HF1.out.mono (by omega)) (HF5.out.mono (by omega))).mono ?_); rintro e w43 ⟨⟨v43_0, rfl, hv43_0⟩, x43⟩; have hz43 := hz42.trans x43)
    | (go_at_call 21; (with_reducible refine (same_eq _ _ (a * b) (a * b) _ (hv42_0.ext x43) hv43_0 (Eq.refl _)).mono ?_); rintro e w44 ⟨rfl, x44⟩; have hz44 := hz43.trans x44)
    )
  clear KX32
  have hpr := HPR.out
  have KX45 : Hid (∀ w', Ext w44 w' → w'.cell? ⟨B0 + 1 + 1, 0, none⟩ = some (.int .i64 v0) ∧ w'.cell? ⟨B0 + 1 + 1, 1, none⟩ = some (.int .i64 v1) ∧ w'.cell? ⟨D4, 0, none⟩ = some (.bool s2_0) ∧ w'.cell? ⟨D4, 1, none⟩ = some (.slice a2_0 n2_0 c2_0)) := Lib.hid fun w' h => by
    have q5 := KB5.out w' (((((((((((((((((((((((((((((((((xs.trans x2).trans xb4).trans x6).trans xb8).trans x11).trans xb12).trans x15).trans xb16).trans x19).trans xb20).trans x23).trans xb24).trans hz25).trans x26).trans x27).trans x28).trans x29).trans x30).trans x31).trans hz32).trans x33).trans x34).trans x35).trans x36).trans x37).trans x38).trans x39).trans x40).trans x41).trans x42).trans x43).trans x44).trans h)
    have q8 := KB8.out w' ((((((((((((((((((((((((((((((x6.trans xb8).trans x11).trans xb12).trans x15).trans xb16).trans x19).trans xb20).trans x23).trans xb24).trans hz25).trans x26).trans x27).trans x28).trans x29).trans x30).trans x31).trans hz32).trans x33).trans x34).trans x35).trans x36).trans x37).trans x38).trans x39).trans x40).trans x41).trans x42).trans x43).trans x44).trans h)
    exact ⟨q5.1, q5.2, q8.1, q8.2⟩
  go_wp2_with fail
  have hz45 := Below.drewExt w44
  go_region_held3
    (fun w' => w'.cell? ⟨B0 + 1 + 1, 0, none⟩ = some (.int .i64 v0) ∧ w'.cell? ⟨B0 + 1 + 1, 1, none⟩ = some (.int .i64 v1) ∧ w'.cell? ⟨D4, 0, none⟩ = some (.bool s2_0) ∧ w'.cell? ⟨D4, 1, none⟩ = some (.slice a2_0 n2_0 c2_0))
    (with_reducible exact KX45.out _ (by assumption))
    (first
    | (go_at_call 45; (with_reducible refine (rbits_is _ a bl _ (HV2_0.out.ext (((((((((((((((((((((((((((((((xb4.trans x6).trans xb8).trans x11).trans xb12).trans x15).trans xb16).trans x19).trans xb20).trans x23).trans xb24).trans hz25).trans x26).trans x27).trans x28).trans x29).trans x30).trans x31).trans hz32).trans x33).trans x34).trans x35).trans x36).trans x37).trans x38).trans x39).trans x40).trans x41).trans x42).trans x43).trans x44).trans hz45)) HF1.out HBL.out).mono ?_); rintro e w46 ⟨rfl, x46⟩; have hz46 := hz45.trans x46)
    )
  clear KX45
  obtain ⟨cc8_0_47, cc8_1_47⟩ := KB8.out w46 (((((((((((((((((((((((((((((((x6.trans xb8).trans x11).trans xb12).trans x15).trans xb16).trans x19).trans xb20).trans x23).trans xb24).trans hz25).trans x26).trans x27).trans x28).trans x29).trans x30).trans x31).trans hz32).trans x33).trans x34).trans x35).trans x36).trans x37).trans x38).trans x39).trans x40).trans x41).trans x42).trans x43).trans x44).trans hz45).trans x46)
  obtain ⟨cc5_0_48, cc5_1_48⟩ := KB5.out w46 ((((((((((((((((((((((((((((((((((xs.trans x2).trans xb4).trans x6).trans xb8).trans x11).trans xb12).trans x15).trans xb16).trans x19).trans xb20).trans x23).trans xb24).trans hz25).trans x26).trans x27).trans x28).trans x29).trans x30).trans x31).trans hz32).trans x33).trans x34).trans x35).trans x36).trans x37).trans x38).trans x39).trans x40).trans x41).trans x42).trans x43).trans x44).trans hz45).trans x46)
  go_wp2_with fail
  clear cc8_0_47 cc8_1_47 cc5_0_48 cc5_1_48
  refine (Pow_z _ a v0 pe0 pz0 _ (HV2_0.out.ext ((((((((((((((((((((((((((((((((xb4.trans x6).trans xb8).trans x11).trans xb12).trans x15).trans xb16).trans x19).trans xb20).trans x23).trans xb24).trans hz25).trans x26).trans x27).trans x28).trans x29).trans x30).trans x31).trans hz32).trans x33).trans x34).trans x35).trans x36).trans x37).trans x38).trans x39).trans x40).trans x41).trans x42).trans x43).trans x44).trans hz45).trans x46)) HF1.out HPE.out HPZ.out).mono ?_
  rintro e w49 ⟨⟨s49_0, a49_0, n49_0, c49_0, rfl, h49_0⟩, x49⟩
  have HV49_0 : Hid (IntV w49 (.agg #[.bool s49_0, .slice a49_0 n49_0 c49_0]) (pz0)) := Lib.hid ⟨_, _, _, _, rfl, h49_0⟩
  clear h49_0
  obtain ⟨D50, wb50, hD50, hw50, hb50_0, xb50⟩ := one w49 24 [.bool s49_0, .slice a49_0 n49_0 c49_0]
  have KB22 : Hid (∀ W, Ext wb50 W → W.cell? ⟨D50, 0, none⟩ = some (.bool s49_0) ∧ W.cell? ⟨D50, 1, none⟩ = some (.slice a49_0 n49_0 c49_0)) := Lib.hid fun W h => ⟨h.cell (hb50_0.cell (i := 0) rfl), h.cell (hb50_0.cell (i := 1) rfl)⟩
  clear hb50_0
  obtain ⟨cc8_0_51, cc8_1_51⟩ := KB8.out wb50 (((((((((((((((((((((((((((((((((x6.trans xb8).trans x11).trans xb12).trans x15).trans xb16).trans x19).trans xb20).trans x23).trans xb24).trans hz25).trans x26).trans x27).trans x28).trans x29).trans x30).trans x31).trans hz32).trans x33).trans x34).trans x35).trans x36).trans x37).trans x38).trans x39).trans x40).trans x41).trans x42).trans x43).trans x44).trans hz45).trans x46).trans x49).trans xb50)
  obtain ⟨cc5_0_52, cc5_1_52⟩ := KB5.out wb50 ((((((((((((((((((((((((((((((((((((xs.trans x2).trans xb4).trans x6).trans xb8).trans x11).trans xb12).trans x15).trans xb16).trans x19).trans xb20).trans x23).trans xb24).trans hz25).trans x26).trans x27).trans x28).trans x29).trans x30).trans x31).trans hz32).trans x33).trans x34).trans x35).trans x36).trans x37).trans x38).trans x39).trans x40).trans x41).trans x42).trans x43).trans x44).trans hz45).trans x46).trans x49).trans xb50)
  have hq50 := hw50.symm
  have hp50 := hD50.symm
  clear hw50 hD50
  go_wp2_with fail
  clear hq50 hp50
  clear cc8_0_51 cc8_1_51 cc5_0_52 cc5_1_52
  refine (rPow_z _ a v0 pe0 pz0 _ (HV2_0.out.ext ((((((((((((((((((((((((((((((((((xb4.trans x6).trans xb8).trans x11).trans xb12).trans x15).trans xb16).trans x19).trans xb20).trans x23).trans xb24).trans hz25).trans x26).trans x27).trans x28).trans x29).trans x30).trans x31).trans hz32).trans x33).trans x34).trans x35).trans x36).trans x37).trans x38).trans x39).trans x40).trans x41).trans x42).trans x43).trans x44).trans hz45).trans x46).trans x49).trans xb50)) HF1.out HPE.out HPZ.out).mono ?_
  rintro e w53 ⟨⟨s53_0, a53_0, n53_0, c53_0, rfl, h53_0⟩, x53⟩
  have HV53_0 : Hid (IntV w53 (.agg #[.bool s53_0, .slice a53_0 n53_0 c53_0]) (pz0)) := Lib.hid ⟨_, _, _, _, rfl, h53_0⟩
  clear h53_0
  obtain ⟨D54, wb54, hD54, hw54, hb54_0, xb54⟩ := one w53 24 [.bool s53_0, .slice a53_0 n53_0 c53_0]
  have KB24 : Hid (∀ W, Ext wb54 W → W.cell? ⟨D54, 0, none⟩ = some (.bool s53_0) ∧ W.cell? ⟨D54, 1, none⟩ = some (.slice a53_0 n53_0 c53_0)) := Lib.hid fun W h => ⟨h.cell (hb54_0.cell (i := 0) rfl), h.cell (hb54_0.cell (i := 1) rfl)⟩
  clear hb54_0
  obtain ⟨cc22_0_56, cc22_1_56⟩ := KB22.out wb54 (x53.trans xb54)
  obtain ⟨cc24_0_57, cc24_1_57⟩ := KB24.out wb54 (Ext.refl _)
  have hq54 := hw54.symm
  have hp54 := hD54.symm
  clear hw54 hD54
  go_wp2_with fail
  clear hq54 hp54
  clear cc22_0_56 cc22_1_56 cc24_0_57 cc24_1_57
  refine (same_eq _ _ (pz0) (pz0) _ (HV49_0.out.ext ((xb50.trans x53).trans xb54)) (HV53_0.out.ext xb54) (Eq.refl _)).mono ?_
  rintro e w55 ⟨rfl, x55⟩
  obtain ⟨cc8_0_58, cc8_1_58⟩ := KB8.out w55 ((((((((((((((((((((((((((((((((((((x6.trans xb8).trans x11).trans xb12).trans x15).trans xb16).trans x19).trans xb20).trans x23).trans xb24).trans hz25).trans x26).trans x27).trans x28).trans x29).trans x30).trans x31).trans hz32).trans x33).trans x34).trans x35).trans x36).trans x37).trans x38).trans x39).trans x40).trans x41).trans x42).trans x43).trans x44).trans hz45).trans x46).trans x49).trans xb50).trans x53).trans xb54).trans x55)
  obtain ⟨cc5_0_59, cc5_1_59⟩ := KB5.out w55 (((((((((((((((((((((((((((((((((((((((xs.trans x2).trans xb4).trans x6).trans xb8).trans x11).trans xb12).trans x15).trans xb16).trans x19).trans xb20).trans x23).trans xb24).trans hz25).trans x26).trans x27).trans x28).trans x29).trans x30).trans x31).trans hz32).trans x33).trans x34).trans x35).trans x36).trans x37).trans x38).trans x39).trans x40).trans x41).trans x42).trans x43).trans x44).trans hz45).trans x46).trans x49).trans xb50).trans x53).trans xb54).trans x55)
  go_wp2_with fail
  clear cc8_0_58 cc8_1_58 cc5_0_59 cc5_1_59
  refine (Root_z _ a v1 re0 rz0 _ (HV2_0.out.ext (((((((((((((((((((((((((((((((((((((xb4.trans x6).trans xb8).trans x11).trans xb12).trans x15).trans xb16).trans x19).trans xb20).trans x23).trans xb24).trans hz25).trans x26).trans x27).trans x28).trans x29).trans x30).trans x31).trans hz32).trans x33).trans x34).trans x35).trans x36).trans x37).trans x38).trans x39).trans x40).trans x41).trans x42).trans x43).trans x44).trans hz45).trans x46).trans x49).trans xb50).trans x53).trans xb54).trans x55)) HF1.out HV1.out HRE.out HRZ.out).mono ?_
  rintro e w60 ⟨⟨s60_0, a60_0, n60_0, c60_0, rfl, h60_0⟩, x60⟩
  have HV60_0 : Hid (IntV w60 (.agg #[.bool s60_0, .slice a60_0 n60_0 c60_0]) (rz0)) := Lib.hid ⟨_, _, _, _, rfl, h60_0⟩
  clear h60_0
  obtain ⟨D61, wb61, hD61, hw61, hb61_0, xb61⟩ := one w60 24 [.bool s60_0, .slice a60_0 n60_0 c60_0]
  have KB26 : Hid (∀ W, Ext wb61 W → W.cell? ⟨D61, 0, none⟩ = some (.bool s60_0) ∧ W.cell? ⟨D61, 1, none⟩ = some (.slice a60_0 n60_0 c60_0)) := Lib.hid fun W h => ⟨h.cell (hb61_0.cell (i := 0) rfl), h.cell (hb61_0.cell (i := 1) rfl)⟩
  clear hb61_0
  obtain ⟨cc8_0_62, cc8_1_62⟩ := KB8.out wb61 ((((((((((((((((((((((((((((((((((((((x6.trans xb8).trans x11).trans xb12).trans x15).trans xb16).trans x19).trans xb20).trans x23).trans xb24).trans hz25).trans x26).trans x27).trans x28).trans x29).trans x30).trans x31).trans hz32).trans x33).trans x34).trans x35).trans x36).trans x37).trans x38).trans x39).trans x40).trans x41).trans x42).trans x43).trans x44).trans hz45).trans x46).trans x49).trans xb50).trans x53).trans xb54).trans x55).trans x60).trans xb61)
  obtain ⟨cc5_0_63, cc5_1_63⟩ := KB5.out wb61 (((((((((((((((((((((((((((((((((((((((((xs.trans x2).trans xb4).trans x6).trans xb8).trans x11).trans xb12).trans x15).trans xb16).trans x19).trans xb20).trans x23).trans xb24).trans hz25).trans x26).trans x27).trans x28).trans x29).trans x30).trans x31).trans hz32).trans x33).trans x34).trans x35).trans x36).trans x37).trans x38).trans x39).trans x40).trans x41).trans x42).trans x43).trans x44).trans hz45).trans x46).trans x49).trans xb50).trans x53).trans xb54).trans x55).trans x60).trans xb61)
  have hq61 := hw61.symm
  have hp61 := hD61.symm
  clear hw61 hD61
  go_wp2_with fail
  clear hq61 hp61
  clear cc8_0_62 cc8_1_62 cc5_0_63 cc5_1_63
  refine (rRoot_z _ a v1 re0 rz0 _ (HV2_0.out.ext (((((((((((((((((((((((((((((((((((((((xb4.trans x6).trans xb8).trans x11).trans xb12).trans x15).trans xb16).trans x19).trans xb20).trans x23).trans xb24).trans hz25).trans x26).trans x27).trans x28).trans x29).trans x30).trans x31).trans hz32).trans x33).trans x34).trans x35).trans x36).trans x37).trans x38).trans x39).trans x40).trans x41).trans x42).trans x43).trans x44).trans hz45).trans x46).trans x49).trans xb50).trans x53).trans xb54).trans x55).trans x60).trans xb61)) HF1.out HV1.out HRE.out HRZ.out).mono ?_
  rintro e w64 ⟨⟨s64_0, a64_0, n64_0, c64_0, rfl, h64_0⟩, x64⟩
  have HV64_0 : Hid (IntV w64 (.agg #[.bool s64_0, .slice a64_0 n64_0 c64_0]) (rz0)) := Lib.hid ⟨_, _, _, _, rfl, h64_0⟩
  clear h64_0
  obtain ⟨D65, wb65, hD65, hw65, hb65_0, xb65⟩ := one w64 24 [.bool s64_0, .slice a64_0 n64_0 c64_0]
  have KB28 : Hid (∀ W, Ext wb65 W → W.cell? ⟨D65, 0, none⟩ = some (.bool s64_0) ∧ W.cell? ⟨D65, 1, none⟩ = some (.slice a64_0 n64_0 c64_0)) := Lib.hid fun W h => ⟨h.cell (hb65_0.cell (i := 0) rfl), h.cell (hb65_0.cell (i := 1) rfl)⟩
  clear hb65_0
  obtain ⟨cc26_0_67, cc26_1_67⟩ := KB26.out wb65 (x64.trans xb65)
  obtain ⟨cc28_0_68, cc28_1_68⟩ := KB28.out wb65 (Ext.refl _)
  have hq65 := hw65.symm
  have hp65 := hD65.symm
  clear hw65 hD65
  go_wp2_with fail
  clear hq65 hp65
  clear cc26_0_67 cc26_1_67 cc28_0_68 cc28_1_68
  refine (same_eq _ _ (rz0) (rz0) _ (HV60_0.out.ext ((xb61.trans x64).trans xb65)) (HV64_0.out.ext xb65) (Eq.refl _)).mono ?_
  rintro e w66 ⟨rfl, x66⟩
  go_wp2_with fail
  go_ret
  exact ⟨rfl, (((((((((((((((((((((((((((((((((((((((((((((x0.trans xs).trans x2).trans xb4).trans x6).trans xb8).trans x11).trans xb12).trans x15).trans xb16).trans x19).trans xb20).trans x23).trans xb24).trans hz25).trans x26).trans x27).trans x28).trans x29).trans x30).trans x31).trans hz32).trans x33).trans x34).trans x35).trans x36).trans x37).trans x38).trans x39).trans x40).trans x41).trans x42).trans x43).trans x44).trans hz45).trans x46).trans x49).trans xb50).trans x53).trans xb54).trans x55).trans x60).trans xb61).trans x64).trans xb65).trans x66)⟩
set_option maxRecDepth 100000 in
set_option maxHeartbeats 8000000 in
theorem matches_no (nx : Bool) (ax : Option Addr) (kx cx : Nat) (lx : List Int) (a : Int) (ea : a = rawZ nx lx 12) (ny : Bool) (ay : Option Addr) (ky cy : Nat) (ly : List Int) (b : Int) (eb : b = rawZ ny ly 12) (w : World) (hx : Words w ax kx cx lx) (hy : Words w ay ky cy ly) (v0 v1 : Int) (hv : v1 < 9223372036854775808) (h0 : 0 ≤ v0) (h1 : v0 ≤ 4096) (hc : ¬ v0 * (blen a.natAbs : Int) ≤ 20000) :
    Calls Tryz.prog 11 #[.agg #[.bool nx, .slice ax kx cx], .agg #[.bool ny, .slice ay ky cy], .agg #[.int .i64 v0, .int .i64 v1]] w fun e w' => e = .returned (.bool true) ∧ Ext w w' := by
  have E_a := Lib.hid ea
  have HWx := Lib.hid hx
  clear ea hx
  have E_b := Lib.hid eb
  have HWy := Lib.hid hy
  clear eb hy
  have hbl2 : blen a.natAbs ≤ 384 := Nat.le_trans (fits_blen (by rw [E_a.out]; exact fits_raw HWx.out.wf (Nat.le_refl _))) (by omega)
  obtain ⟨bl, hbl⟩ : ∃ bl, blen a.natAbs = bl := ⟨_, rfl⟩
  rw [hbl] at hc hbl2
  have HBL := Lib.hid hbl
  clear hbl
  have hmul0 : 0 ≤ v0 * (bl : Int) := Int.mul_nonneg h0 (by omega)
  have hmul1 : v0 * (bl : Int) ≤ 4096 * 384 := Int.mul_le_mul h1 (by omega) (by omega) (by omega)
  obtain ⟨pr, hpr⟩ : ∃ pr, v0 * (bl : Int) = pr := ⟨_, rfl⟩
  rw [hpr] at hc hmul0 hmul1
  have HPR : Hid (IntKind.i64.wrap (v0 * (bl : Int)) = pr) := Lib.hid (by rw [hpr]; exact IntWalk.i64_in _ (by omega))
  clear hpr
  have hd0 : decide (v0 < 0) = false := by simp; omega
  have hd1 : decide (4096 < v0) = false := by simp; omega
  have hd2 : decide (pr ≤ 20000) = false := by simp; omega
  obtain ⟨er, h_er⟩ : ∃ x, errZ b = x := ⟨_, rfl⟩
  have HER := Lib.hid h_er
  clear h_er
  obtain ⟨q, h_q⟩ : ∃ x, a / b = x := ⟨_, rfl⟩
  have HQ := Lib.hid h_q
  clear h_q
  obtain ⟨r, h_r⟩ : ∃ x, remZ a b = x := ⟨_, rfl⟩
  have HR := Lib.hid h_r
  clear h_r
  obtain ⟨sg, h_sg⟩ : ∃ x, sgn a b = x := ⟨_, rfl⟩
  have HSG := Lib.hid h_sg
  clear h_sg
  obtain ⟨g, u, v, h_bz⟩ : ∃ g u v, bz a b = (g, u, v) := ⟨_, _, _, rfl⟩
  have HBZ := Lib.hid h_bz
  clear h_bz
  obtain ⟨pe0, h_pe0⟩ : ∃ x, powE v0 = x := ⟨_, rfl⟩
  have HPE := Lib.hid h_pe0
  clear h_pe0
  obtain ⟨pz0, h_pz0⟩ : ∃ x, powZ a v0 = x := ⟨_, rfl⟩
  have HPZ := Lib.hid h_pz0
  clear h_pz0
  obtain ⟨re0, h_re0⟩ : ∃ x, rootE a v1 = x := ⟨_, rfl⟩
  have HRE := Lib.hid h_re0
  clear h_re0
  obtain ⟨rz0, h_rz0⟩ : ∃ x, rootZ a v1 = x := ⟨_, rfl⟩
  have HRZ := Lib.hid h_rz0
  clear h_rz0
  have n_er : (er != er) = false := by simp
  have m_er : (er == er) = true := by simp
  have n_sg : (sg != sg) = false := by simp
  have m_sg : (sg == sg) = true := by simp
  have n_pe0 : (pe0 != pe0) = false := by simp
  have m_pe0 : (pe0 == pe0) = true := by simp
  have n_re0 : (re0 != re0) = false := by simp
  have m_re0 : (re0 == re0) = true := by simp
  have HV1 := Lib.hid hv
  clear hv
  obtain ⟨B0, w0, hB0, hw0, hr0, hr1, hr2, x0⟩ := three w 25 25 54 [.bool nx, .slice ax kx cx] [.bool ny, .slice ay ky cy] [.int .i64 v0, .int .i64 v1]
  have HF1 : Hid (Fits (a) 12) := Lib.hid (by rw [E_a.out]; exact fits_raw (HWx.out.wf) (by omega))
  have HF5 : Hid (Fits (b) 12) := Lib.hid (by rw [E_b.out]; exact fits_raw (HWy.out.wf) (by omega))
  have KB3 : Hid (∀ W, Ext w0 W → W.cell? ⟨B0, 0, none⟩ = some (.bool nx) ∧ W.cell? ⟨B0, 1, none⟩ = some (.slice ax kx cx)) := Lib.hid fun W h => ⟨h.cell (hr0.cell (i := 0) rfl), h.cell (hr0.cell (i := 1) rfl)⟩
  have KB4 : Hid (∀ W, Ext w0 W → W.cell? ⟨B0 + 1, 0, none⟩ = some (.bool ny) ∧ W.cell? ⟨B0 + 1, 1, none⟩ = some (.slice ay ky cy)) := Lib.hid fun W h => ⟨h.cell (hr1.cell (i := 0) rfl), h.cell (hr1.cell (i := 1) rfl)⟩
  have KB5 : Hid (∀ W, Ext w0 W → W.cell? ⟨B0 + 1 + 1, 0, none⟩ = some (.int .i64 v0) ∧ W.cell? ⟨B0 + 1 + 1, 1, none⟩ = some (.int .i64 v1)) := Lib.hid fun W h => ⟨h.cell (hr2.cell (i := 0) rfl), h.cell (hr2.cell (i := 1) rfl)⟩
  clear hr0 hr1 hr2
  go_enter Tryz.func11, Tryz.ntmps11
  go_wp2_with fail
  rw [← hw0, ← hB0]
  clear hw0 hB0
  refine (sanity_any _).mono ?_
  rintro e ws ⟨rfl, xs⟩
  obtain ⟨cc3_0_3, cc3_1_3⟩ := KB3.out ws xs
  go_wp2_with fail
  clear cc3_0_3 cc3_1_3
  refine (Made_any nx ax kx cx lx 12 a _ (HWx.out.ext (x0.trans xs)) (by omega) E_a.out).mono ?_
  rintro e w2 ⟨⟨v2_0, rfl, ⟨s2_0, a2_0, n2_0, c2_0, rfl, hi2_0⟩⟩, x2⟩
  have HV2_0 : Hid (IntV w2 (.agg #[.bool s2_0, .slice a2_0 n2_0 c2_0]) (a)) := Lib.hid ⟨_, _, _, _, rfl, hi2_0⟩
  clear hi2_0
  obtain ⟨D4, wb4, hD4, hw4, hb4_0, xb4⟩ := one w2 24 [.bool s2_0, .slice a2_0 n2_0 c2_0]
  have KB8 : Hid (∀ W, Ext wb4 W → W.cell? ⟨D4, 0, none⟩ = some (.bool s2_0) ∧ W.cell? ⟨D4, 1, none⟩ = some (.slice a2_0 n2_0 c2_0)) := Lib.hid fun W h => ⟨h.cell (hb4_0.cell (i := 0) rfl), h.cell (hb4_0.cell (i := 1) rfl)⟩
  clear hb4_0
  obtain ⟨cc4_0_7, cc4_1_7⟩ := KB4.out wb4 ((xs.trans x2).trans xb4)
  have hq4 := hw4.symm
  have hp4 := hD4.symm
  clear hw4 hD4
  go_wp2_with fail
  clear hq4 hp4
  clear cc4_0_7 cc4_1_7
  refine (Made_any ny ay ky cy ly 12 b _ (HWy.out.ext (((x0.trans xs).trans x2).trans xb4)) (by omega) E_b.out).mono ?_
  rintro e w6 ⟨⟨v6_0, rfl, ⟨s6_0, a6_0, n6_0, c6_0, rfl, hi6_0⟩⟩, x6⟩
  have HV6_0 : Hid (IntV w6 (.agg #[.bool s6_0, .slice a6_0 n6_0 c6_0]) (b)) := Lib.hid ⟨_, _, _, _, rfl, hi6_0⟩
  clear hi6_0
  obtain ⟨D8, wb8, hD8, hw8, hb8_0, xb8⟩ := one w6 24 [.bool s6_0, .slice a6_0 n6_0 c6_0]
  have KB9 : Hid (∀ W, Ext wb8 W → W.cell? ⟨D8, 0, none⟩ = some (.bool s6_0) ∧ W.cell? ⟨D8, 1, none⟩ = some (.slice a6_0 n6_0 c6_0)) := Lib.hid fun W h => ⟨h.cell (hb8_0.cell (i := 0) rfl), h.cell (hb8_0.cell (i := 1) rfl)⟩
  clear hb8_0
  obtain ⟨cc8_0_9, cc8_1_9⟩ := KB8.out wb8 (x6.trans xb8)
  obtain ⟨cc9_0_10, cc9_1_10⟩ := KB9.out wb8 (Ext.refl _)
  have hq8 := hw8.symm
  have hp8 := hD8.symm
  clear hw8 hD8
  go_wp2_with fail
  clear hq8 hp8
  clear cc8_0_9 cc8_1_9 cc9_0_10 cc9_1_10
  refine (divmod_z _ _ a b er q r _ (HV2_0.out.ext ((xb4.trans x6).trans xb8)) (HV6_0.out.ext xb8) (HF1.out.mono (by omega)) (HF5.out.mono (by omega)) HER.out HQ.out HR.out).mono ?_
  rintro e w11 ⟨⟨s11_0, a11_0, n11_0, c11_0, s11_1, a11_1, n11_1, c11_1, rfl, h11_0, h11_1⟩, x11⟩
  have HV11_0 : Hid (IntV w11 (.agg #[.bool s11_0, .slice a11_0 n11_0 c11_0]) (q)) := Lib.hid ⟨_, _, _, _, rfl, h11_0⟩
  clear h11_0
  have HV11_1 : Hid (IntV w11 (.agg #[.bool s11_1, .slice a11_1 n11_1 c11_1]) (r)) := Lib.hid ⟨_, _, _, _, rfl, h11_1⟩
  clear h11_1
  obtain ⟨D12, wb12, hD12, hw12, hb12_0, hb12_1, xb12⟩ := two w11 24 24 [.bool s11_0, .slice a11_0 n11_0 c11_0] [.bool s11_1, .slice a11_1 n11_1 c11_1]
  have KB10 : Hid (∀ W, Ext wb12 W → W.cell? ⟨D12, 0, none⟩ = some (.bool s11_0) ∧ W.cell? ⟨D12, 1, none⟩ = some (.slice a11_0 n11_0 c11_0)) := Lib.hid fun W h => ⟨h.cell (hb12_0.cell (i := 0) rfl), h.cell (hb12_0.cell (i := 1) rfl)⟩
  have KB11 : Hid (∀ W, Ext wb12 W → W.cell? ⟨D12 + 1, 0, none⟩ = some (.bool s11_1) ∧ W.cell? ⟨D12 + 1, 1, none⟩ = some (.slice a11_1 n11_1 c11_1)) := Lib.hid fun W h => ⟨h.cell (hb12_1.cell (i := 0) rfl), h.cell (hb12_1.cell (i := 1) rfl)⟩
  clear hb12_0 hb12_1
  obtain ⟨cc8_0_13, cc8_1_13⟩ := KB8.out wb12 (((x6.trans xb8).trans x11).trans xb12)
  obtain ⟨cc9_0_14, cc9_1_14⟩ := KB9.out wb12 (x11.trans xb12)
  have hq12 := hw12.symm
  have hp12 := hD12.symm
  clear hw12 hD12
  go_wp2_with fail
  clear hq12 hp12
  clear cc8_0_13 cc8_1_13 cc9_0_14 cc9_1_14
  refine (rdivmod_z _ _ a b er q r _ (HV2_0.out.ext ((((xb4.trans x6).trans xb8).trans x11).trans xb12)) (HV6_0.out.ext ((xb8.trans x11).trans xb12)) (HF1.out.mono (by omega)) (HF5.out.mono (by omega)) HER.out HQ.out HR.out).mono ?_
  rintro e w15 ⟨⟨s15_0, a15_0, n15_0, c15_0, s15_1, a15_1, n15_1, c15_1, rfl, h15_0, h15_1⟩, x15⟩
  have HV15_0 : Hid (IntV w15 (.agg #[.bool s15_0, .slice a15_0 n15_0 c15_0]) (q)) := Lib.hid ⟨_, _, _, _, rfl, h15_0⟩
  clear h15_0
  have HV15_1 : Hid (IntV w15 (.agg #[.bool s15_1, .slice a15_1 n15_1 c15_1]) (r)) := Lib.hid ⟨_, _, _, _, rfl, h15_1⟩
  clear h15_1
  obtain ⟨D16, wb16, hD16, hw16, hb16_0, hb16_1, xb16⟩ := two w15 24 24 [.bool s15_0, .slice a15_0 n15_0 c15_0] [.bool s15_1, .slice a15_1 n15_1 c15_1]
  have KB13 : Hid (∀ W, Ext wb16 W → W.cell? ⟨D16, 0, none⟩ = some (.bool s15_0) ∧ W.cell? ⟨D16, 1, none⟩ = some (.slice a15_0 n15_0 c15_0)) := Lib.hid fun W h => ⟨h.cell (hb16_0.cell (i := 0) rfl), h.cell (hb16_0.cell (i := 1) rfl)⟩
  have KB14 : Hid (∀ W, Ext wb16 W → W.cell? ⟨D16 + 1, 0, none⟩ = some (.bool s15_1) ∧ W.cell? ⟨D16 + 1, 1, none⟩ = some (.slice a15_1 n15_1 c15_1)) := Lib.hid fun W h => ⟨h.cell (hb16_1.cell (i := 0) rfl), h.cell (hb16_1.cell (i := 1) rfl)⟩
  clear hb16_0 hb16_1
  obtain ⟨cc8_0_17, cc8_1_17⟩ := KB8.out wb16 (((((x6.trans xb8).trans x11).trans xb12).trans x15).trans xb16)
  obtain ⟨cc9_0_18, cc9_1_18⟩ := KB9.out wb16 (((x11.trans xb12).trans x15).trans xb16)
  have hq16 := hw16.symm
  have hp16 := hD16.symm
  clear hw16 hD16
  go_wp2_with fail
  clear hq16 hp16
  clear cc8_0_17 cc8_1_17 cc9_0_18 cc9_1_18
  refine (bezout_z _ _ a b g u v _ (HV2_0.out.ext ((((((xb4.trans x6).trans xb8).trans x11).trans xb12).trans x15).trans xb16)) (HV6_0.out.ext ((((xb8.trans x11).trans xb12).trans x15).trans xb16)) (HF1.out.mono (by omega)) (HF5.out.mono (by omega)) HBZ.out).mono ?_
  rintro e w19 ⟨⟨s19_0, a19_0, n19_0, c19_0, s19_1, a19_1, n19_1, c19_1, s19_2, a19_2, n19_2, c19_2, rfl, h19_0, h19_1, h19_2⟩, x19⟩
  have HV19_0 : Hid (IntV w19 (.agg #[.bool s19_0, .slice a19_0 n19_0 c19_0]) (g)) := Lib.hid ⟨_, _, _, _, rfl, h19_0⟩
  clear h19_0
  have HV19_1 : Hid (IntV w19 (.agg #[.bool s19_1, .slice a19_1 n19_1 c19_1]) (u)) := Lib.hid ⟨_, _, _, _, rfl, h19_1⟩
  clear h19_1
  have HV19_2 : Hid (IntV w19 (.agg #[.bool s19_2, .slice a19_2 n19_2 c19_2]) (v)) := Lib.hid ⟨_, _, _, _, rfl, h19_2⟩
  clear h19_2
  obtain ⟨D20, wb20, hD20, hw20, hb20_0, hb20_1, hb20_2, xb20⟩ := three w19 24 24 24 [.bool s19_0, .slice a19_0 n19_0 c19_0] [.bool s19_1, .slice a19_1 n19_1 c19_1] [.bool s19_2, .slice a19_2 n19_2 c19_2]
  have KB16 : Hid (∀ W, Ext wb20 W → W.cell? ⟨D20, 0, none⟩ = some (.bool s19_0) ∧ W.cell? ⟨D20, 1, none⟩ = some (.slice a19_0 n19_0 c19_0)) := Lib.hid fun W h => ⟨h.cell (hb20_0.cell (i := 0) rfl), h.cell (hb20_0.cell (i := 1) rfl)⟩
  have KB17 : Hid (∀ W, Ext wb20 W → W.cell? ⟨D20 + 1, 0, none⟩ = some (.bool s19_1) ∧ W.cell? ⟨D20 + 1, 1, none⟩ = some (.slice a19_1 n19_1 c19_1)) := Lib.hid fun W h => ⟨h.cell (hb20_1.cell (i := 0) rfl), h.cell (hb20_1.cell (i := 1) rfl)⟩
  have KB18 : Hid (∀ W, Ext wb20 W → W.cell? ⟨D20 + 1 + 1, 0, none⟩ = some (.bool s19_2) ∧ W.cell? ⟨D20 + 1 + 1, 1, none⟩ = some (.slice a19_2 n19_2 c19_2)) := Lib.hid fun W h => ⟨h.cell (hb20_2.cell (i := 0) rfl), h.cell (hb20_2.cell (i := 1) rfl)⟩
  clear hb20_0 hb20_1 hb20_2
  obtain ⟨cc8_0_21, cc8_1_21⟩ := KB8.out wb20 (((((((x6.trans xb8).trans x11).trans xb12).trans x15).trans xb16).trans x19).trans xb20)
  obtain ⟨cc9_0_22, cc9_1_22⟩ := KB9.out wb20 (((((x11.trans xb12).trans x15).trans xb16).trans x19).trans xb20)
  have hq20 := hw20.symm
  have hp20 := hD20.symm
  clear hw20 hD20
  go_wp2_with fail
  clear hq20 hp20
  clear cc8_0_21 cc8_1_21 cc9_0_22 cc9_1_22
  refine (rbezout_z _ _ a b g u v _ (HV2_0.out.ext ((((((((xb4.trans x6).trans xb8).trans x11).trans xb12).trans x15).trans xb16).trans x19).trans xb20)) (HV6_0.out.ext ((((((xb8.trans x11).trans xb12).trans x15).trans xb16).trans x19).trans xb20)) (HF1.out.mono (by omega)) (HF5.out.mono (by omega)) HBZ.out).mono ?_
  rintro e w23 ⟨⟨s23_0, a23_0, n23_0, c23_0, s23_1, a23_1, n23_1, c23_1, s23_2, a23_2, n23_2, c23_2, rfl, h23_0, h23_1, h23_2⟩, x23⟩
  have HV23_0 : Hid (IntV w23 (.agg #[.bool s23_0, .slice a23_0 n23_0 c23_0]) (g)) := Lib.hid ⟨_, _, _, _, rfl, h23_0⟩
  clear h23_0
  have HV23_1 : Hid (IntV w23 (.agg #[.bool s23_1, .slice a23_1 n23_1 c23_1]) (u)) := Lib.hid ⟨_, _, _, _, rfl, h23_1⟩
  clear h23_1
  have HV23_2 : Hid (IntV w23 (.agg #[.bool s23_2, .slice a23_2 n23_2 c23_2]) (v)) := Lib.hid ⟨_, _, _, _, rfl, h23_2⟩
  clear h23_2
  obtain ⟨D24, wb24, hD24, hw24, hb24_0, hb24_1, hb24_2, xb24⟩ := three w23 24 24 24 [.bool s23_0, .slice a23_0 n23_0 c23_0] [.bool s23_1, .slice a23_1 n23_1 c23_1] [.bool s23_2, .slice a23_2 n23_2 c23_2]
  have KB19 : Hid (∀ W, Ext wb24 W → W.cell? ⟨D24, 0, none⟩ = some (.bool s23_0) ∧ W.cell? ⟨D24, 1, none⟩ = some (.slice a23_0 n23_0 c23_0)) := Lib.hid fun W h => ⟨h.cell (hb24_0.cell (i := 0) rfl), h.cell (hb24_0.cell (i := 1) rfl)⟩
  have KB20 : Hid (∀ W, Ext wb24 W → W.cell? ⟨D24 + 1, 0, none⟩ = some (.bool s23_1) ∧ W.cell? ⟨D24 + 1, 1, none⟩ = some (.slice a23_1 n23_1 c23_1)) := Lib.hid fun W h => ⟨h.cell (hb24_1.cell (i := 0) rfl), h.cell (hb24_1.cell (i := 1) rfl)⟩
  have KB21 : Hid (∀ W, Ext wb24 W → W.cell? ⟨D24 + 1 + 1, 0, none⟩ = some (.bool s23_2) ∧ W.cell? ⟨D24 + 1 + 1, 1, none⟩ = some (.slice a23_2 n23_2 c23_2)) := Lib.hid fun W h => ⟨h.cell (hb24_2.cell (i := 0) rfl), h.cell (hb24_2.cell (i := 1) rfl)⟩
  clear hb24_0 hb24_1 hb24_2
  have KX25 : Hid (∀ w', Ext wb24 w' → w'.cell? ⟨D12, 0, none⟩ = some (.bool s11_0) ∧ w'.cell? ⟨D12, 1, none⟩ = some (.slice a11_0 n11_0 c11_0) ∧ w'.cell? ⟨D16, 0, none⟩ = some (.bool s15_0) ∧ w'.cell? ⟨D16, 1, none⟩ = some (.slice a15_0 n15_0 c15_0) ∧ w'.cell? ⟨D12 + 1, 0, none⟩ = some (.bool s11_1) ∧ w'.cell? ⟨D12 + 1, 1, none⟩ = some (.slice a11_1 n11_1 c11_1) ∧ w'.cell? ⟨D16 + 1, 0, none⟩ = some (.bool s15_1) ∧ w'.cell? ⟨D16 + 1, 1, none⟩ = some (.slice a15_1 n15_1 c15_1) ∧ w'.cell? ⟨D20, 0, none⟩ = some (.bool s19_0) ∧ w'.cell? ⟨D20, 1, none⟩ = some (.slice a19_0 n19_0 c19_0) ∧ w'.cell? ⟨D20 + 1, 0, none⟩ = some (.bool s19_1) ∧ w'.cell? ⟨D20 + 1, 1, none⟩ = some (.slice a19_1 n19_1 c19_1) ∧ w'.cell? ⟨D20 + 1 + 1, 0, none⟩ = some (.bool s19_2) ∧ w'.cell? ⟨D20 + 1 + 1, 1, none⟩ = some (.slice a19_2 n19_2 c19_2) ∧ w'.cell? ⟨D24, 0, none⟩ = some (.bool s23_0) ∧ w'.cell? ⟨D24, 1, none⟩ = some (.slice a23_0 n23_0 c23_0) ∧ w'.cell? ⟨D24 + 1, 0, none⟩ = some (.bool s23_1) ∧ w'.cell? ⟨D24 + 1, 1, none⟩ = some (.slice a23_1 n23_1 c23_1) ∧ w'.cell? ⟨D24 + 1 + 1, 0, none⟩ = some (.bool s23_2) ∧ w'.cell? ⟨D24 + 1 + 1, 1, none⟩ = some (.slice a23_2 n23_2 c23_2) ∧ w'.cell? ⟨D4, 0, none⟩ = some (.bool s2_0) ∧ w'.cell? ⟨D4, 1, none⟩ = some (.slice a2_0 n2_0 c2_0) ∧ w'.cell? ⟨D8, 0, none⟩ = some (.bool s6_0) ∧ w'.cell? ⟨D8, 1, none⟩ = some (.slice a6_0 n6_0 c6_0)) := Lib.hid fun w' h => by
    have q10 := KB10.out w' ((((((x15.trans xb16).trans x19).trans xb20).trans x23).trans xb24).trans h)
    have q13 := KB13.out w' ((((x19.trans xb20).trans x23).trans xb24).trans h)
    have q11 := KB11.out w' ((((((x15.trans xb16).trans x19).trans xb20).trans x23).trans xb24).trans h)
    have q14 := KB14.out w' ((((x19.trans xb20).trans x23).trans xb24).trans h)
    have q16 := KB16.out w' ((x23.trans xb24).trans h)
    have q17 := KB17.out w' ((x23.trans xb24).trans h)
    have q18 := KB18.out w' ((x23.trans xb24).trans h)
    have q19 := KB19.out w' ((Ext.refl _).trans h)
    have q20 := KB20.out w' ((Ext.refl _).trans h)
    have q21 := KB21.out w' ((Ext.refl _).trans h)
    have q8 := KB8.out w' ((((((((((x6.trans xb8).trans x11).trans xb12).trans x15).trans xb16).trans x19).trans xb20).trans x23).trans xb24).trans h)
    have q9 := KB9.out w' ((((((((x11.trans xb12).trans x15).trans xb16).trans x19).trans xb20).trans x23).trans xb24).trans h)
    exact ⟨q10.1, q10.2, q13.1, q13.2, q11.1, q11.2, q14.1, q14.2, q16.1, q16.2, q17.1, q17.2, q18.1, q18.2, q19.1, q19.2, q20.1, q20.2, q21.1, q21.2, q8.1, q8.2, q9.1, q9.2⟩
  have hq24 := hw24.symm
  have hp24 := hD24.symm
  clear hw24 hD24
  go_wp2_with fail
  clear hq24 hp24
  have hz25 := Below.drewExt wb24
  go_region_held3
    (fun w' => w'.cell? ⟨D12, 0, none⟩ = some (.bool s11_0) ∧ w'.cell? ⟨D12, 1, none⟩ = some (.slice a11_0 n11_0 c11_0) ∧ w'.cell? ⟨D16, 0, none⟩ = some (.bool s15_0) ∧ w'.cell? ⟨D16, 1, none⟩ = some (.slice a15_0 n15_0 c15_0) ∧ w'.cell? ⟨D12 + 1, 0, none⟩ = some (.bool s11_1) ∧ w'.cell? ⟨D12 + 1, 1, none⟩ = some (.slice a11_1 n11_1 c11_1) ∧ w'.cell? ⟨D16 + 1, 0, none⟩ = some (.bool s15_1) ∧ w'.cell? ⟨D16 + 1, 1, none⟩ = some (.slice a15_1 n15_1 c15_1) ∧ w'.cell? ⟨D20, 0, none⟩ = some (.bool s19_0) ∧ w'.cell? ⟨D20, 1, none⟩ = some (.slice a19_0 n19_0 c19_0) ∧ w'.cell? ⟨D20 + 1, 0, none⟩ = some (.bool s19_1) ∧ w'.cell? ⟨D20 + 1, 1, none⟩ = some (.slice a19_1 n19_1 c19_1) ∧ w'.cell? ⟨D20 + 1 + 1, 0, none⟩ = some (.bool s19_2) ∧ w'.cell? ⟨D20 + 1 + 1, 1, none⟩ = some (.slice a19_2 n19_2 c19_2) ∧ w'.cell? ⟨D24, 0, none⟩ = some (.bool s23_0) ∧ w'.cell? ⟨D24, 1, none⟩ = some (.slice a23_0 n23_0 c23_0) ∧ w'.cell? ⟨D24 + 1, 0, none⟩ = some (.bool s23_1) ∧ w'.cell? ⟨D24 + 1, 1, none⟩ = some (.slice a23_1 n23_1 c23_1) ∧ w'.cell? ⟨D24 + 1 + 1, 0, none⟩ = some (.bool s23_2) ∧ w'.cell? ⟨D24 + 1 + 1, 1, none⟩ = some (.slice a23_2 n23_2 c23_2) ∧ w'.cell? ⟨D4, 0, none⟩ = some (.bool s2_0) ∧ w'.cell? ⟨D4, 1, none⟩ = some (.slice a2_0 n2_0 c2_0) ∧ w'.cell? ⟨D8, 0, none⟩ = some (.bool s6_0) ∧ w'.cell? ⟨D8, 1, none⟩ = some (.slice a6_0 n6_0 c6_0))
    (with_reducible exact KX25.out _ (by assumption))
    (first
    | (go_at_call 21; (with_reducible refine (same_eq _ _ (q) (q) _ (HV11_0.out.ext (((((((xb12.trans x15).trans xb16).trans x19).trans xb20).trans x23).trans xb24).trans hz25)) (HV15_0.out.ext (((((xb16.trans x19).trans xb20).trans x23).trans xb24).trans hz25)) (Eq.refl _)).mono ?_); rintro e w26 ⟨rfl, x26⟩; have hz26 := hz25.trans x26)
    | (go_at_call 21; (with_reducible refine (same_eq _ _ (r) (r) _ (HV11_1.out.ext ((((((((xb12.trans x15).trans xb16).trans x19).trans xb20).trans x23).trans xb24).trans hz25).trans x26)) (HV15_1.out.ext ((((((xb16.trans x19).trans xb20).trans x23).trans xb24).trans hz25).trans x26)) (Eq.refl _)).mono ?_); rintro e w27 ⟨rfl, x27⟩; have hz27 := hz26.trans x27)
    | (go_at_call 37; (with_reducible refine (same3_true s19_0 a19_0 n19_0 c19_0 s19_1 a19_1 n19_1 c19_1 s19_2 a19_2 n19_2 c19_2 s23_0 a23_0 n23_0 c23_0 s23_1 a23_1 n23_1 c23_1 s23_2 a23_2 n23_2 c23_2 g u v _ (HV19_0.out.ext (((((xb20.trans x23).trans xb24).trans hz25).trans x26).trans x27)) (HV19_1.out.ext (((((xb20.trans x23).trans xb24).trans hz25).trans x26).trans x27)) (HV19_2.out.ext (((((xb20.trans x23).trans xb24).trans hz25).trans x26).trans x27)) (HV23_0.out.ext (((xb24.trans hz25).trans x26).trans x27)) (HV23_1.out.ext (((xb24.trans hz25).trans x26).trans x27)) (HV23_2.out.ext (((xb24.trans hz25).trans x26).trans x27))).mono ?_); rintro e w28 ⟨rfl, x28⟩; have hz28 := hz27.trans x28)
    | (go_at_call 38; (with_reducible refine (gcd_any _ _ a b _ (HV2_0.out.ext ((((((((((((((xb4.trans x6).trans xb8).trans x11).trans xb12).trans x15).trans xb16).trans x19).trans xb20).trans x23).trans xb24).trans hz25).trans x26).trans x27).trans x28)) (HV6_0.out.ext ((((((((((((xb8.trans x11).trans xb12).trans x15).trans xb16).trans x19).trans xb20).trans x23).trans xb24).trans hz25).trans x26).trans x27).trans x28)) (HF1.out.mono (by omega)) (HF5.out.mono (by omega))).mono ?_); rintro e w29 ⟨⟨v29_0, rfl, hv29_0⟩, x29⟩; have hz29 := hz28.trans x29)
    | (go_at_call 39; (with_reducible refine (rgcd_any _ _ a b _ (HV2_0.out.ext (((((((((((((((xb4.trans x6).trans xb8).trans x11).trans xb12).trans x15).trans xb16).trans x19).trans xb20).trans x23).trans xb24).trans hz25).trans x26).trans x27).trans x28).trans x29)) (HV6_0.out.ext (((((((((((((xb8.trans x11).trans xb12).trans x15).trans xb16).trans x19).trans xb20).trans x23).trans xb24).trans hz25).trans x26).trans x27).trans x28).trans x29)) (HF1.out.mono (by omega)) (HF5.out.mono (by omega))).mono ?_); rintro e w30 ⟨⟨v30_0, rfl, hv30_0⟩, x30⟩; have hz30 := hz29.trans x30)
    | (go_at_call 21; (with_reducible refine (same_eq _ _ (((Int.gcd a b : Nat) : Int)) (((Int.gcd a b : Nat) : Int)) _ (hv29_0.ext x30) hv30_0 (Eq.refl _)).mono ?_); rintro e w31 ⟨rfl, x31⟩; have hz31 := hz30.trans x31)
    )
  clear KX25
  have KX32 : Hid (∀ w', Ext w31 w' → w'.cell? ⟨D4, 0, none⟩ = some (.bool s2_0) ∧ w'.cell? ⟨D4, 1, none⟩ = some (.slice a2_0 n2_0 c2_0) ∧ w'.cell? ⟨D8, 0, none⟩ = some (.bool s6_0) ∧ w'.cell? ⟨D8, 1, none⟩ = some (.slice a6_0 n6_0 c6_0)) := Lib.hid fun w' h => by
    have q8 := KB8.out w' (((((((((((((((((x6.trans xb8).trans x11).trans xb12).trans x15).trans xb16).trans x19).trans xb20).trans x23).trans xb24).trans hz25).trans x26).trans x27).trans x28).trans x29).trans x30).trans x31).trans h)
    have q9 := KB9.out w' (((((((((((((((x11.trans xb12).trans x15).trans xb16).trans x19).trans xb20).trans x23).trans xb24).trans hz25).trans x26).trans x27).trans x28).trans x29).trans x30).trans x31).trans h)
    exact ⟨q8.1, q8.2, q9.1, q9.2⟩
  go_wp2_with fail
  have hz32 := Below.drewExt w31
  go_region_held3
    (fun w' => w'.cell? ⟨D4, 0, none⟩ = some (.bool s2_0) ∧ w'.cell? ⟨D4, 1, none⟩ = some (.slice a2_0 n2_0 c2_0) ∧ w'.cell? ⟨D8, 0, none⟩ = some (.bool s6_0) ∧ w'.cell? ⟨D8, 1, none⟩ = some (.slice a6_0 n6_0 c6_0))
    (with_reducible exact KX32.out _ (by assumption))
    (first
    | (go_at_call 40; (with_reducible refine (numbers_true s2_0 a2_0 n2_0 c2_0 a _ (HV2_0.out.ext ((((((((((((((((((xb4.trans x6).trans xb8).trans x11).trans xb12).trans x15).trans xb16).trans x19).trans xb20).trans x23).trans xb24).trans hz25).trans x26).trans x27).trans x28).trans x29).trans x30).trans x31).trans hz32)) HF1.out).mono ?_); rintro e w33 ⟨rfl, x33⟩; have hz33 := hz32.trans x33)
    | (go_at_call 16; (with_reducible refine (cmp_is _ _ (a) (b) (sg) _ (HV2_0.out.ext (((((((((((((((((((xb4.trans x6).trans xb8).trans x11).trans xb12).trans x15).trans xb16).trans x19).trans xb20).trans x23).trans xb24).trans hz25).trans x26).trans x27).trans x28).trans x29).trans x30).trans x31).trans hz32).trans x33)) (HV6_0.out.ext (((((((((((((((((xb8.trans x11).trans xb12).trans x15).trans xb16).trans x19).trans xb20).trans x23).trans xb24).trans hz25).trans x26).trans x27).trans x28).trans x29).trans x30).trans x31).trans hz32).trans x33)) HSG.out).mono ?_); rintro e w34 ⟨rfl, x34⟩; have hz34 := hz33.trans x34)
    | (go_at_call 41; (with_reducible refine (rcmp_is _ _ a b sg _ (HV2_0.out.ext ((((((((((((((((((((xb4.trans x6).trans xb8).trans x11).trans xb12).trans x15).trans xb16).trans x19).trans xb20).trans x23).trans xb24).trans hz25).trans x26).trans x27).trans x28).trans x29).trans x30).trans x31).trans hz32).trans x33).trans x34)) (HV6_0.out.ext ((((((((((((((((((xb8.trans x11).trans xb12).trans x15).trans xb16).trans x19).trans xb20).trans x23).trans xb24).trans hz25).trans x26).trans x27).trans x28).trans x29).trans x30).trans x31).trans hz32).trans x33).trans x34)) HSG.out).mono ?_); rintro e w35 ⟨rfl, x35⟩; have hz35 := hz34.trans x35)
    | (go_at_call 17; (with_reducible refine (add_any _ _ a b _ (HV2_0.out.ext (((((((((((((((((((((xb4.trans x6).trans xb8).trans x11).trans xb12).trans x15).trans xb16).trans x19).trans xb20).trans x23).trans xb24).trans hz25).trans x26).trans x27).trans x28).trans x29).trans x30).trans x31).trans hz32).trans x33).trans x34).trans x35)) (HV6_0.out.ext (((((((((((((((((((xb8.trans x11).trans xb12).trans x15).trans xb16).trans x19).trans xb20).trans x23).trans xb24).trans hz25).trans x26).trans x27).trans x28).trans x29).trans x30).trans x31).trans hz32).trans x33).trans x34).trans x35)) (HF1.out.mono (by omega)) (HF5.out.mono (by omega))).mono ?_); rintro e w36 ⟨⟨v36_0, rfl, hv36_0⟩, x36⟩; have hz36 := hz35.trans x36)
    | (go_at_call 42; (with_reducible refine (radd_any _ _ a b _ (HV2_0.out.ext ((((((((((((((((((((((xb4.trans x6).trans xb8).trans x11).trans xb12).trans x15).trans xb16).trans x19).trans xb20).trans x23).trans xb24).trans hz25).trans x26).trans x27).trans x28).trans x29).trans x30).trans x31).trans hz32).trans x33).trans x34).trans x35).trans x36)) (HV6_0.out.ext ((((((((((((((((((((xb8.trans x11).trans xb12).trans x15).trans xb16).trans x19).trans xb20).trans x23).trans xb24).trans hz25).trans x26).trans x27).trans x28).trans x29).trans x30).trans x31).trans hz32).trans x33).trans x34).trans x35).trans x36)) (HF1.out.mono (by omega)) (HF5.out.mono (by omega))).mono ?_); rintro e w37 ⟨⟨v37_0, rfl, hv37_0⟩, x37⟩; have hz37 := hz36.trans x37)
    | (go_at_call 21; (with_reducible refine (same_eq _ _ (a + b) (a + b) _ (hv36_0.ext x37) hv37_0 (Eq.refl _)).mono ?_); rintro e w38 ⟨rfl, x38⟩; have hz38 := hz37.trans x38)
    | (go_at_call 19; (with_reducible refine (sub_any _ _ a b _ (HV2_0.out.ext ((((((((((((((((((((((((xb4.trans x6).trans xb8).trans x11).trans xb12).trans x15).trans xb16).trans x19).trans xb20).trans x23).trans xb24).trans hz25).trans x26).trans x27).trans x28).trans x29).trans x30).trans x31).trans hz32).trans x33).trans x34).trans x35).trans x36).trans x37).trans x38)) (HV6_0.out.ext ((((((((((((((((((((((xb8.trans x11).trans xb12).trans x15).trans xb16).trans x19).trans xb20).trans x23).trans xb24).trans hz25).trans x26).trans x27).trans x28).trans x29).trans x30).trans x31).trans hz32).trans x33).trans x34).trans x35).trans x36).trans x37).trans x38)) (HF1.out.mono (by omega)) (HF5.out.mono (by omega))).mono ?_); rintro e w39 ⟨⟨v39_0, rfl, hv39_0⟩, x39⟩; have hz39 := hz38.trans x39)
    | (go_at_call 43; (with_reducible refine (rsub_any _ _ a b _ (HV2_0.out.ext (((((((((((((((((((((((((xb4.trans x6).trans xb8).trans x11).trans xb12).trans x15).trans xb16).trans x19).trans xb20).trans x23).trans xb24).trans hz25).trans x26).trans x27).trans x28).trans x29).trans x30).trans x31).trans hz32).trans x33).trans x34).trans x35).trans x36).trans x37).trans x38).trans x39)) (HV6_0.out.ext (((((((((((((((((((((((xb8.trans x11).trans xb12).trans x15).trans xb16).trans x19).trans xb20).trans x23).trans xb24).trans hz25).trans x26).trans x27).trans x28).trans x29).trans x30).trans x31).trans hz32).trans x33).trans x34).trans x35).trans x36).trans x37).trans x38).trans x39)) (HF1.out.mono (by omega)) (HF5.out.mono (by omega))).mono ?_); rintro e w40 ⟨⟨v40_0, rfl, hv40_0⟩, x40⟩; have hz40 := hz39.trans x40)
    | (go_at_call 21; (with_reducible refine (same_eq _ _ (a - b) (a - b) _ (hv39_0.ext x40) hv40_0 (Eq.refl _)).mono ?_); rintro e w41 ⟨rfl, x41⟩; have hz41 := hz40.trans x41)
    | (go_at_call 18; (with_reducible refine (mul_any _ _ a b _ (HV2_0.out.ext (((((((((((((((((((((((((((xb4.trans x6).trans xb8).trans x11).trans xb12).trans x15).trans xb16).trans x19).trans xb20).trans x23).trans xb24).trans hz25).trans x26).trans x27).trans x28).trans x29).trans x30).trans x31).trans hz32).trans x33).trans x34).trans x35).trans x36).trans x37).trans x38).trans x39).trans x40).trans x41)) (HV6_0.out.ext (((((((((((((((((((((((((xb8.trans x11).trans xb12).trans x15).trans xb16).trans x19).trans xb20).trans x23).trans xb24).trans hz25).trans x26).trans x27).trans x28).trans x29).trans x30).trans x31).trans hz32).trans x33).trans x34).trans x35).trans x36).trans x37).trans x38).trans x39).trans x40).trans x41)) (HF1.out.mono (by omega)) (HF5.out.mono (by omega))).mono ?_); rintro e w42 ⟨⟨v42_0, rfl, hv42_0⟩, x42⟩; have hz42 := hz41.trans x42)
    | (go_at_call 44; (with_reducible refine (rmul_any _ _ a b _ (HV2_0.out.ext ((((((((((((((((((((((((((((xb4.trans x6).trans xb8).trans x11).trans xb12).trans x15).trans xb16).trans x19).trans xb20).trans x23).trans xb24).trans hz25).trans x26).trans x27).trans x28).trans x29).trans x30).trans x31).trans hz32).trans x33).trans x34).trans x35).trans x36).trans x37).trans x38).trans x39).trans x40).trans x41).trans x42)) (HV6_0.out.ext ((((((((((((((((((((((((((xb8.trans x11).trans xb12).trans x15).trans xb16).trans x19).trans xb20).trans x23).trans xb24).trans hz25).trans x26).trans x27).trans x28).trans x29).trans x30).trans x31).trans hz32).trans x33).trans x34).trans x35).trans x36).trans x37).trans x38).trans x39).trans x40).trans x41).trans x42)) (HF1.out.mono (by omega)) (HF5.out.mono (by omega))).mono ?_); rintro e w43 ⟨⟨v43_0, rfl, hv43_0⟩, x43⟩; have hz43 := hz42.trans x43)
    | (go_at_call 21; (with_reducible refine (same_eq _ _ (a * b) (a * b) _ (hv42_0.ext x43) hv43_0 (Eq.refl _)).mono ?_); rintro e w44 ⟨rfl, x44⟩; have hz44 := hz43.trans x44)
    )
  clear KX32
  have hpr := HPR.out
  have KX45 : Hid (∀ w', Ext w44 w' → w'.cell? ⟨B0 + 1 + 1, 0, none⟩ = some (.int .i64 v0) ∧ w'.cell? ⟨B0 + 1 + 1, 1, none⟩ = some (.int .i64 v1) ∧ w'.cell? ⟨D4, 0, none⟩ = some (.bool s2_0) ∧ w'.cell? ⟨D4, 1, none⟩ = some (.slice a2_0 n2_0 c2_0)) := Lib.hid fun w' h => by
    have q5 := KB5.out w' (((((((((((((((((((((((((((((((((xs.trans x2).trans xb4).trans x6).trans xb8).trans x11).trans xb12).trans x15).trans xb16).trans x19).trans xb20).trans x23).trans xb24).trans hz25).trans x26).trans x27).trans x28).trans x29).trans x30).trans x31).trans hz32).trans x33).trans x34).trans x35).trans x36).trans x37).trans x38).trans x39).trans x40).trans x41).trans x42).trans x43).trans x44).trans h)
    have q8 := KB8.out w' ((((((((((((((((((((((((((((((x6.trans xb8).trans x11).trans xb12).trans x15).trans xb16).trans x19).trans xb20).trans x23).trans xb24).trans hz25).trans x26).trans x27).trans x28).trans x29).trans x30).trans x31).trans hz32).trans x33).trans x34).trans x35).trans x36).trans x37).trans x38).trans x39).trans x40).trans x41).trans x42).trans x43).trans x44).trans h)
    exact ⟨q5.1, q5.2, q8.1, q8.2⟩
  go_wp2_with fail
  have hz45 := Below.drewExt w44
  go_region_held3
    (fun w' => w'.cell? ⟨B0 + 1 + 1, 0, none⟩ = some (.int .i64 v0) ∧ w'.cell? ⟨B0 + 1 + 1, 1, none⟩ = some (.int .i64 v1) ∧ w'.cell? ⟨D4, 0, none⟩ = some (.bool s2_0) ∧ w'.cell? ⟨D4, 1, none⟩ = some (.slice a2_0 n2_0 c2_0))
    (with_reducible exact KX45.out _ (by assumption))
    (first
    | (go_at_call 45; (with_reducible refine (rbits_is _ a bl _ (HV2_0.out.ext (((((((((((((((((((((((((((((((xb4.trans x6).trans xb8).trans x11).trans xb12).trans x15).trans xb16).trans x19).trans xb20).trans x23).trans xb24).trans hz25).trans x26).trans x27).trans x28).trans x29).trans x30).trans x31).trans hz32).trans x33).trans x34).trans x35).trans x36).trans x37).trans x38).trans x39).trans x40).trans x41).trans x42).trans x43).trans x44).trans hz45)) HF1.out HBL.out).mono ?_); rintro e w46 ⟨rfl, x46⟩; have hz46 := hz45.trans x46)
    )
  clear KX45
  obtain ⟨cc8_0_47, cc8_1_47⟩ := KB8.out w46 (((((((((((((((((((((((((((((((x6.trans xb8).trans x11).trans xb12).trans x15).trans xb16).trans x19).trans xb20).trans x23).trans xb24).trans hz25).trans x26).trans x27).trans x28).trans x29).trans x30).trans x31).trans hz32).trans x33).trans x34).trans x35).trans x36).trans x37).trans x38).trans x39).trans x40).trans x41).trans x42).trans x43).trans x44).trans hz45).trans x46)
  obtain ⟨cc5_0_48, cc5_1_48⟩ := KB5.out w46 ((((((((((((((((((((((((((((((((((xs.trans x2).trans xb4).trans x6).trans xb8).trans x11).trans xb12).trans x15).trans xb16).trans x19).trans xb20).trans x23).trans xb24).trans hz25).trans x26).trans x27).trans x28).trans x29).trans x30).trans x31).trans hz32).trans x33).trans x34).trans x35).trans x36).trans x37).trans x38).trans x39).trans x40).trans x41).trans x42).trans x43).trans x44).trans hz45).trans x46)
  go_wp2_with fail
  clear cc8_0_47 cc8_1_47 cc5_0_48 cc5_1_48
  refine (Root_z _ a v1 re0 rz0 _ (HV2_0.out.ext ((((((((((((((((((((((((((((((((xb4.trans x6).trans xb8).trans x11).trans xb12).trans x15).trans xb16).trans x19).trans xb20).trans x23).trans xb24).trans hz25).trans x26).trans x27).trans x28).trans x29).trans x30).trans x31).trans hz32).trans x33).trans x34).trans x35).trans x36).trans x37).trans x38).trans x39).trans x40).trans x41).trans x42).trans x43).trans x44).trans hz45).trans x46)) HF1.out HV1.out HRE.out HRZ.out).mono ?_
  rintro e w49 ⟨⟨s49_0, a49_0, n49_0, c49_0, rfl, h49_0⟩, x49⟩
  have HV49_0 : Hid (IntV w49 (.agg #[.bool s49_0, .slice a49_0 n49_0 c49_0]) (rz0)) := Lib.hid ⟨_, _, _, _, rfl, h49_0⟩
  clear h49_0
  obtain ⟨D50, wb50, hD50, hw50, hb50_0, xb50⟩ := one w49 24 [.bool s49_0, .slice a49_0 n49_0 c49_0]
  have KB26 : Hid (∀ W, Ext wb50 W → W.cell? ⟨D50, 0, none⟩ = some (.bool s49_0) ∧ W.cell? ⟨D50, 1, none⟩ = some (.slice a49_0 n49_0 c49_0)) := Lib.hid fun W h => ⟨h.cell (hb50_0.cell (i := 0) rfl), h.cell (hb50_0.cell (i := 1) rfl)⟩
  clear hb50_0
  obtain ⟨cc8_0_51, cc8_1_51⟩ := KB8.out wb50 (((((((((((((((((((((((((((((((((x6.trans xb8).trans x11).trans xb12).trans x15).trans xb16).trans x19).trans xb20).trans x23).trans xb24).trans hz25).trans x26).trans x27).trans x28).trans x29).trans x30).trans x31).trans hz32).trans x33).trans x34).trans x35).trans x36).trans x37).trans x38).trans x39).trans x40).trans x41).trans x42).trans x43).trans x44).trans hz45).trans x46).trans x49).trans xb50)
  obtain ⟨cc5_0_52, cc5_1_52⟩ := KB5.out wb50 ((((((((((((((((((((((((((((((((((((xs.trans x2).trans xb4).trans x6).trans xb8).trans x11).trans xb12).trans x15).trans xb16).trans x19).trans xb20).trans x23).trans xb24).trans hz25).trans x26).trans x27).trans x28).trans x29).trans x30).trans x31).trans hz32).trans x33).trans x34).trans x35).trans x36).trans x37).trans x38).trans x39).trans x40).trans x41).trans x42).trans x43).trans x44).trans hz45).trans x46).trans x49).trans xb50)
  have hq50 := hw50.symm
  have hp50 := hD50.symm
  clear hw50 hD50
  go_wp2_with fail
  clear hq50 hp50
  clear cc8_0_51 cc8_1_51 cc5_0_52 cc5_1_52
  refine (rRoot_z _ a v1 re0 rz0 _ (HV2_0.out.ext ((((((((((((((((((((((((((((((((((xb4.trans x6).trans xb8).trans x11).trans xb12).trans x15).trans xb16).trans x19).trans xb20).trans x23).trans xb24).trans hz25).trans x26).trans x27).trans x28).trans x29).trans x30).trans x31).trans hz32).trans x33).trans x34).trans x35).trans x36).trans x37).trans x38).trans x39).trans x40).trans x41).trans x42).trans x43).trans x44).trans hz45).trans x46).trans x49).trans xb50)) HF1.out HV1.out HRE.out HRZ.out).mono ?_
  rintro e w53 ⟨⟨s53_0, a53_0, n53_0, c53_0, rfl, h53_0⟩, x53⟩
  have HV53_0 : Hid (IntV w53 (.agg #[.bool s53_0, .slice a53_0 n53_0 c53_0]) (rz0)) := Lib.hid ⟨_, _, _, _, rfl, h53_0⟩
  clear h53_0
  obtain ⟨D54, wb54, hD54, hw54, hb54_0, xb54⟩ := one w53 24 [.bool s53_0, .slice a53_0 n53_0 c53_0]
  have KB28 : Hid (∀ W, Ext wb54 W → W.cell? ⟨D54, 0, none⟩ = some (.bool s53_0) ∧ W.cell? ⟨D54, 1, none⟩ = some (.slice a53_0 n53_0 c53_0)) := Lib.hid fun W h => ⟨h.cell (hb54_0.cell (i := 0) rfl), h.cell (hb54_0.cell (i := 1) rfl)⟩
  clear hb54_0
  obtain ⟨cc26_0_56, cc26_1_56⟩ := KB26.out wb54 (x53.trans xb54)
  obtain ⟨cc28_0_57, cc28_1_57⟩ := KB28.out wb54 (Ext.refl _)
  have hq54 := hw54.symm
  have hp54 := hD54.symm
  clear hw54 hD54
  go_wp2_with fail
  clear hq54 hp54
  clear cc26_0_56 cc26_1_56 cc28_0_57 cc28_1_57
  refine (same_eq _ _ (rz0) (rz0) _ (HV49_0.out.ext ((xb50.trans x53).trans xb54)) (HV53_0.out.ext xb54) (Eq.refl _)).mono ?_
  rintro e w55 ⟨rfl, x55⟩
  go_wp2_with fail
  go_ret
  exact ⟨rfl, ((((((((((((((((((((((((((((((((((((((((x0.trans xs).trans x2).trans xb4).trans x6).trans xb8).trans x11).trans xb12).trans x15).trans xb16).trans x19).trans xb20).trans x23).trans xb24).trans hz25).trans x26).trans x27).trans x28).trans x29).trans x30).trans x31).trans hz32).trans x33).trans x34).trans x35).trans x36).trans x37).trans x38).trans x39).trans x40).trans x41).trans x42).trans x43).trans x44).trans hz45).trans x46).trans x49).trans xb50).trans x53).trans xb54).trans x55)⟩
theorem lawMatches (nx : Bool) (ax : Option Addr) (kx cx : Nat) (lx : List Int) (a : Int) (ea : a = rawZ nx lx 12) (ny : Bool) (ay : Option Addr) (ky cy : Nat) (ly : List Int) (b : Int) (eb : b = rawZ ny ly 12) (w : World) (hx : Words w ax kx cx lx) (hy : Words w ay ky cy ly) (v0 v1 : Int) (hv : v1 < 9223372036854775808) :
    Calls Tryz.prog 11 #[.agg #[.bool nx, .slice ax kx cx], .agg #[.bool ny, .slice ay ky cy], .agg #[.int .i64 v0, .int .i64 v1]] w fun e w' => e = .returned (.bool true) ∧ Ext w w' := by
  by_cases h0 : v0 < 0
  · exact matches_neg nx ax kx cx lx a ea ny ay ky cy ly b eb w hx hy v0 v1 hv h0
  · by_cases h1 : 4096 < v0
    · exact matches_big nx ax kx cx lx a ea ny ay ky cy ly b eb w hx hy v0 v1 hv h1
    · by_cases h2 : v0 * (blen a.natAbs : Int) ≤ 20000
      · exact matches_yes nx ax kx cx lx a ea ny ay ky cy ly b eb w hx hy v0 v1 hv (by omega) (by omega) h2
      · exact matches_no nx ax kx cx lx a ea ny ay ky cy ly b eb w hx hy v0 v1 hv (by omega) (by omega) h2
end Go.Proofs.YtddcgojpgdhefaaGreatDoor
