/- What more laws' walks share: a tuple of an integer and no error; the law's function divides; powers and roots. -/
import Derived.Test.YtddcgojpgdhefaaGreatDoorLawLib
import Derived.Test.YtddcgojpgdhefaaGreatDoorRefB
namespace Go.El
open Go.RowKit
theorem Fits.pow {a : Int} {k : Nat} (h : Fits a k) (n : Nat) : Fits (a ^ n) (k * n + 1) := by
  induction n with
  | zero => rw [Int.pow_zero, Nat.mul_zero]; exact fits_small (by decide) (by omega)
  | succ n ih =>
    rw [Int.pow_succ, Nat.mul_succ, Nat.add_right_comm]; exact ih.mul h
theorem root_le {a r : Int} {k : Nat} (h : IsRoot a k r) (hk : 1 ≤ k) : r ≤ a := by
  obtain ⟨h0, h1, _⟩ := h
  by_cases hr : r = 0
  · subst hr
    rw [Int.zero_pow (by omega)] at h1; exact h1
  · obtain ⟨m, rfl⟩ : ∃ m, k = m + 1 := ⟨k - 1, by omega⟩
    rw [Int.pow_succ] at h1
    have h2 : 0 < r ^ m := Int.pow_pos (by omega)
    have h3 : 1 * r ≤ r ^ m * r := Int.mul_le_mul_of_nonneg_right (by omega) h0
    omega
end Go.El
namespace Go.Proofs.YtddcgojpgdhefaaGreatDoor
open Go.RowKit Go.El
set_option linter.unusedVariables false
def OneT (w : World) (y : Value) (z : Int) : Prop := ∃ a, y = .tuple #[a, .int .i64 0] ∧ IntV w a z
theorem OneT.ext {w w' : World} {y : Value} {z : Int} (h : OneT w y z) (he : Ext w w') : OneT w' y z := by
  obtain ⟨a, rfl, h1⟩ := h
  exact ⟨a, rfl, h1.ext he⟩
theorem OneT.stay {w w' : World} {y : Value} {z : Int} (h : OneT w y z) (he : Stay w w') : OneT w' y z := by
  obtain ⟨a, rfl, h1⟩ := h
  exact ⟨a, rfl, IntV.stay h1 he⟩
set_option maxRecDepth 100000 in
set_option maxHeartbeats 4000000 in
theorem divides_00 (sx : Bool) (ax : Option Addr) (kx cx : Nat) (sy : Bool) (ay : Option Addr) (cy : Nat) (g a : Int) (w : World) (hx : IntV w (.agg #[.bool sx, .slice ax kx cx]) g) (hy : IntV w (.agg #[.bool sy, .slice ay 0 cy]) a) (hg : g = 0) :
    Calls Tryz.prog 48 #[.agg #[.bool sx, .slice ax kx cx], .agg #[.bool sy, .slice ay 0 cy]] w fun e w' => e = .returned (.bool true) ∧ Ext w w' := by
  have HX := Lib.hid hx
  have HY := Lib.hid hy
  clear hx hy
  obtain ⟨B0, w0, hB0, hw0, hr0, hr1, x0⟩ := two w 24 24 [.bool sx, .slice ax kx cx] [.bool sy, .slice ay 0 cy]
  have KB2 : Hid (∀ W, Ext w0 W → W.cell? ⟨B0, 0, none⟩ = some (.bool sx) ∧ W.cell? ⟨B0, 1, none⟩ = some (.slice ax kx cx)) := Lib.hid fun W h => ⟨h.cell (hr0.cell (i := 0) rfl), h.cell (hr0.cell (i := 1) rfl)⟩
  have KB3 : Hid (∀ W, Ext w0 W → W.cell? ⟨B0 + 1, 0, none⟩ = some (.bool sy) ∧ W.cell? ⟨B0 + 1, 1, none⟩ = some (.slice ay 0 cy)) := Lib.hid fun W h => ⟨h.cell (hr1.cell (i := 0) rfl), h.cell (hr1.cell (i := 1) rfl)⟩
  have hq0 := hw0.symm
  have hp0 := hB0.symm
  clear hr0 hr1 hw0 hB0
  obtain ⟨cc2_0_1, cc2_1_1⟩ := KB2.out w0 (Ext.refl _)
  obtain ⟨cc3_0_2, cc3_1_2⟩ := KB3.out w0 (Ext.refl _)
  go_enter Tryz.func48, Tryz.ntmps48
  go_wp2_with fail
  clear hq0 hp0 cc2_0_1 cc2_1_1 cc3_0_2 cc3_1_2
  refine (divmod_zero' _ _ a g _ (HY.out.ext x0) (HX.out.ext x0) hg).mono ?_
  rintro e w1 ⟨rfl, x1⟩
  obtain ⟨D3, wb3, hD3, hw3, hb3_0, hb3_1, xb3⟩ := two w1 24 24 [.bool false, .slice none 0 0] [.bool false, .slice none 0 0]
  have KB5 : Hid (∀ W, Ext wb3 W → W.cell? ⟨D3, 0, none⟩ = some (.bool false) ∧ W.cell? ⟨D3, 1, none⟩ = some (.slice none 0 0)) := Lib.hid fun W h => ⟨h.cell (hb3_0.cell (i := 0) rfl), h.cell (hb3_0.cell (i := 1) rfl)⟩
  have KB6 : Hid (∀ W, Ext wb3 W → W.cell? ⟨D3 + 1, 0, none⟩ = some (.bool false) ∧ W.cell? ⟨D3 + 1, 1, none⟩ = some (.slice none 0 0)) := Lib.hid fun W h => ⟨h.cell (hb3_1.cell (i := 0) rfl), h.cell (hb3_1.cell (i := 1) rfl)⟩
  have ze3_00 := setCell_same hb3_0 (i := 0) rfl
  have zf3_00 := hb3_0.free 0
  have ze3_01 := setCell_same hb3_0 (i := 1) rfl
  have zf3_01 := hb3_0.free 1
  have ze3_10 := setCell_same hb3_1 (i := 0) rfl
  have zf3_10 := hb3_1.free 0
  have ze3_11 := setCell_same hb3_1 (i := 1) rfl
  have zf3_11 := hb3_1.free 1
  clear hb3_0 hb3_1
  obtain ⟨cc3_0_4, cc3_1_4⟩ := KB3.out wb3 (x1.trans xb3)
  obtain ⟨cc5_0_5, cc5_1_5⟩ := KB5.out wb3 (Ext.refl _)
  obtain ⟨cc6_0_6, cc6_1_6⟩ := KB6.out wb3 (Ext.refl _)
  have hq3 := hw3.symm
  have hp3 := hD3.symm
  clear hw3 hD3
  go_wp2_with fail
  clear hq3 hp3
  clear ze3_00 zf3_00 ze3_01 zf3_01 ze3_10 zf3_10 ze3_11 zf3_11 cc3_0_4 cc3_1_4 cc5_0_5 cc5_1_5 cc6_0_6 cc6_1_6
  go_ret
  exact ⟨rfl, ((x0.trans x1).trans xb3)⟩
set_option maxRecDepth 100000 in
set_option maxHeartbeats 4000000 in
theorem divides_0 (sx : Bool) (ax : Option Addr) (kx cx : Nat) (sy : Bool) (ay : Option Addr) (cy : Nat) (g a : Int) (w : World) (hx : IntV w (.agg #[.bool sx, .slice ax kx cx]) g) (hy : IntV w (.agg #[.bool sy, .slice ay 0 cy]) a) (hg : g ≠ 0) (hfa : Fits a 1073741824) (hfg : Fits g 1073741824) :
    Calls Tryz.prog 48 #[.agg #[.bool sx, .slice ax kx cx], .agg #[.bool sy, .slice ay 0 cy]] w fun e w' => e = .returned (.bool true) ∧ Ext w w' := by
  have HG := Lib.hid hg
  have HFa := Lib.hid hfa
  have HFg := Lib.hid hfg
  clear hg hfa hfg
  have HX := Lib.hid hx
  have HY := Lib.hid hy
  clear hx hy
  obtain ⟨B0, w0, hB0, hw0, hr0, hr1, x0⟩ := two w 24 24 [.bool sx, .slice ax kx cx] [.bool sy, .slice ay 0 cy]
  have KB2 : Hid (∀ W, Ext w0 W → W.cell? ⟨B0, 0, none⟩ = some (.bool sx) ∧ W.cell? ⟨B0, 1, none⟩ = some (.slice ax kx cx)) := Lib.hid fun W h => ⟨h.cell (hr0.cell (i := 0) rfl), h.cell (hr0.cell (i := 1) rfl)⟩
  have KB3 : Hid (∀ W, Ext w0 W → W.cell? ⟨B0 + 1, 0, none⟩ = some (.bool sy) ∧ W.cell? ⟨B0 + 1, 1, none⟩ = some (.slice ay 0 cy)) := Lib.hid fun W h => ⟨h.cell (hr1.cell (i := 0) rfl), h.cell (hr1.cell (i := 1) rfl)⟩
  have hq0 := hw0.symm
  have hp0 := hB0.symm
  clear hr0 hr1 hw0 hB0
  obtain ⟨cc2_0_1, cc2_1_1⟩ := KB2.out w0 (Ext.refl _)
  obtain ⟨cc3_0_2, cc3_1_2⟩ := KB3.out w0 (Ext.refl _)
  go_enter Tryz.func48, Tryz.ntmps48
  go_wp2_with fail
  clear hq0 hp0 cc2_0_1 cc2_1_1 cc3_0_2 cc3_1_2
  refine (divmod_rem _ _ a g _ (HY.out.ext x0) (HX.out.ext x0) HFa.out HFg.out HG.out).mono ?_
  rintro e w1 ⟨⟨u, ar, nr, cr, rfl, ⟨sq, aq, nq, cq, rfl, hq⟩, hr⟩, x1⟩
  clear hq hr
  obtain ⟨D3, wb3, hD3, hw3, hb3_0, hb3_1, xb3⟩ := two w1 24 24 [.bool sq, .slice aq nq cq] [.bool false, .slice ar nr cr]
  have KB5 : Hid (∀ W, Ext wb3 W → W.cell? ⟨D3, 0, none⟩ = some (.bool sq) ∧ W.cell? ⟨D3, 1, none⟩ = some (.slice aq nq cq)) := Lib.hid fun W h => ⟨h.cell (hb3_0.cell (i := 0) rfl), h.cell (hb3_0.cell (i := 1) rfl)⟩
  have KB6 : Hid (∀ W, Ext wb3 W → W.cell? ⟨D3 + 1, 0, none⟩ = some (.bool false) ∧ W.cell? ⟨D3 + 1, 1, none⟩ = some (.slice ar nr cr)) := Lib.hid fun W h => ⟨h.cell (hb3_1.cell (i := 0) rfl), h.cell (hb3_1.cell (i := 1) rfl)⟩
  clear hb3_0 hb3_1
  obtain ⟨cc3_0_4, cc3_1_4⟩ := KB3.out wb3 (x1.trans xb3)
  obtain ⟨cc5_0_5, cc5_1_5⟩ := KB5.out wb3 (Ext.refl _)
  obtain ⟨cc6_0_6, cc6_1_6⟩ := KB6.out wb3 (Ext.refl _)
  have hq3 := hw3.symm
  have hp3 := hD3.symm
  clear hw3 hD3
  go_wp2_with fail
  clear hq3 hp3
  clear cc3_0_4 cc3_1_4 cc5_0_5 cc5_1_5 cc6_0_6 cc6_1_6
  go_ret
  exact ⟨rfl, ((x0.trans x1).trans xb3)⟩
set_option maxRecDepth 100000 in
set_option maxHeartbeats 4000000 in
theorem divides_some (sx : Bool) (ax : Option Addr) (kx cx : Nat) (sy : Bool) (ay : Option Addr) (ky cy : Nat) (g a : Int) (w : World) (hx : IntV w (.agg #[.bool sx, .slice ax kx cx]) g) (hy : IntV w (.agg #[.bool sy, .slice ay ky cy]) a) (hg : g ≠ 0) (hfa : Fits a 1073741824) (hfg : Fits g 1073741824) (ha : ((ky : Int) == 0) = false) (hm : a % g = 0) :
    Calls Tryz.prog 48 #[.agg #[.bool sx, .slice ax kx cx], .agg #[.bool sy, .slice ay ky cy]] w fun e w' => e = .returned (.bool true) ∧ Ext w w' := by
  have HG := Lib.hid hg
  have HFa := Lib.hid hfa
  have HFg := Lib.hid hfg
  clear hg hfa hfg
  have HM := Lib.hid hm
  clear hm
  have HX := Lib.hid hx
  have HY := Lib.hid hy
  clear hx hy
  obtain ⟨B0, w0, hB0, hw0, hr0, hr1, x0⟩ := two w 24 24 [.bool sx, .slice ax kx cx] [.bool sy, .slice ay ky cy]
  have KB2 : Hid (∀ W, Ext w0 W → W.cell? ⟨B0, 0, none⟩ = some (.bool sx) ∧ W.cell? ⟨B0, 1, none⟩ = some (.slice ax kx cx)) := Lib.hid fun W h => ⟨h.cell (hr0.cell (i := 0) rfl), h.cell (hr0.cell (i := 1) rfl)⟩
  have KB3 : Hid (∀ W, Ext w0 W → W.cell? ⟨B0 + 1, 0, none⟩ = some (.bool sy) ∧ W.cell? ⟨B0 + 1, 1, none⟩ = some (.slice ay ky cy)) := Lib.hid fun W h => ⟨h.cell (hr1.cell (i := 0) rfl), h.cell (hr1.cell (i := 1) rfl)⟩
  have hq0 := hw0.symm
  have hp0 := hB0.symm
  clear hr0 hr1 hw0 hB0
  obtain ⟨cc2_0_1, cc2_1_1⟩ := KB2.out w0 (Ext.refl _)
  obtain ⟨cc3_0_2, cc3_1_2⟩ := KB3.out w0 (Ext.refl _)
  go_enter Tryz.func48, Tryz.ntmps48
  go_wp2_with fail
  clear hq0 hp0 cc2_0_1 cc2_1_1 cc3_0_2 cc3_1_2
  refine (divmod_rem _ _ a g _ (HY.out.ext x0) (HX.out.ext x0) HFa.out HFg.out HG.out).mono ?_
  rintro e w1 ⟨⟨u, ar, nr, cr, rfl, ⟨sq, aq, nq, cq, rfl, hq⟩, hr⟩, x1⟩
  obtain rfl : nr = 0 := intW_len0 hr HM.out
  clear hq hr
  obtain ⟨D3, wb3, hD3, hw3, hb3_0, hb3_1, xb3⟩ := two w1 24 24 [.bool sq, .slice aq nq cq] [.bool false, .slice ar 0 cr]
  have KB5 : Hid (∀ W, Ext wb3 W → W.cell? ⟨D3, 0, none⟩ = some (.bool sq) ∧ W.cell? ⟨D3, 1, none⟩ = some (.slice aq nq cq)) := Lib.hid fun W h => ⟨h.cell (hb3_0.cell (i := 0) rfl), h.cell (hb3_0.cell (i := 1) rfl)⟩
  have KB6 : Hid (∀ W, Ext wb3 W → W.cell? ⟨D3 + 1, 0, none⟩ = some (.bool false) ∧ W.cell? ⟨D3 + 1, 1, none⟩ = some (.slice ar 0 cr)) := Lib.hid fun W h => ⟨h.cell (hb3_1.cell (i := 0) rfl), h.cell (hb3_1.cell (i := 1) rfl)⟩
  clear hb3_0 hb3_1
  obtain ⟨cc3_0_4, cc3_1_4⟩ := KB3.out wb3 (x1.trans xb3)
  obtain ⟨cc5_0_5, cc5_1_5⟩ := KB5.out wb3 (Ext.refl _)
  obtain ⟨cc6_0_6, cc6_1_6⟩ := KB6.out wb3 (Ext.refl _)
  have hq3 := hw3.symm
  have hp3 := hD3.symm
  clear hw3 hD3
  go_wp2_with fail
  clear hq3 hp3
  clear cc3_0_4 cc3_1_4 cc5_0_5 cc5_1_5 cc6_0_6 cc6_1_6
  go_ret
  exact ⟨rfl, ((x0.trans x1).trans xb3)⟩
/-- g divides a. -/
theorem divides_true (x y : Value) (g a : Int) (w : World) (hx : IntV w x g) (hy : IntV w y a) (hfa : Fits a 1073741824) (hfg : Fits g 1073741824) (h : g ∣ a) :
    Calls Tryz.prog 48 #[x, y] w fun e w' => e = .returned (.bool true) ∧ Ext w w' := by
  obtain ⟨sx, ax, kx, cx, rfl, h1⟩ := hx
  obtain ⟨sy, ay, ky, cy, rfl, h2⟩ := hy
  by_cases ha : a = 0
  · obtain rfl : ky = 0 := intW_len0 h2 ha
    by_cases hg : g = 0
    · exact divides_00 sx ax kx cx sy ay cy g a w ⟨_, _, _, _, rfl, h1⟩ ⟨_, _, _, _, rfl, h2⟩ hg
    · exact divides_0 sx ax kx cx sy ay cy g a w ⟨_, _, _, _, rfl, h1⟩ ⟨_, _, _, _, rfl, h2⟩ hg hfa hfg
  · have hg : g ≠ 0 := by
      rintro rfl
      exact ha (Int.zero_dvd.1 h)
    exact divides_some sx ax kx cx sy ay ky cy g a w ⟨_, _, _, _, rfl, h1⟩ ⟨_, _, _, _, rfl, h2⟩ hg hfa hfg (intW_len h2 ha) (Int.emod_eq_zero_of_dvd h)
end Go.Proofs.YtddcgojpgdhefaaGreatDoor
