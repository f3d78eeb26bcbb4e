/- The law's fixed examples: sanity. -/
import Derived.Test.YtddcgojpgdhefaaGreatDoorThree
namespace Go.El
open Go.RowKit
theorem fits_small {z : Int} {k : Nat} (h : (z.natAbs : Int) < 4294967296) (hk : 1 ≤ k) : Fits z k := Fits.mono (show Fits z 1 by unfold Fits; simp only [pw]; omega) hk
theorem bez_6_4 {g u v : Int} (h : BezRes 6 4 g u v) : 2 = g ∧ 1 = u ∧ -1 = v := by
  obtain ⟨hg, h1, h2, h3⟩ := h
  rw [show Int.gcd 6 4 = 2 by decide] at hg
  obtain rfl : g = 2 := hg
  rw [show ((4 : Int) / 2).natAbs = 2 by decide] at h3
  omega
theorem bez_0_3 {g u v : Int} (h : BezRes 0 (-3) g u v) : 3 = g ∧ 0 = u ∧ -1 = v := by
  obtain ⟨hg, h1, h2, h3⟩ := h
  rw [show Int.gcd 0 (-3) = 3 by decide] at hg
  obtain rfl : g = 3 := hg
  rw [show ((-3 : Int) / 3).natAbs = 1 by decide] at h3
  omega
theorem root_99 {r : Int} (h : IsRoot 99 2 r) : 9 = r := by
  refine IsRoot.uniq (a := 99) (k := 2) ⟨by decide, by decide, by decide⟩ h
theorem text_120 : textL (-120) = [45, 49, 50, 48] := by simp [textL, decN, dig]
theorem blen_8 : blen (Int.natAbs (-8)) = 4 := blen_of (m := 3) (by decide) (by decide)
end Go.El
namespace Go.Proofs.YtddcgojpgdhefaaGreatDoor
open Go.RowKit Go.El
set_option linter.unusedVariables false
theorem parse_minus0 (w : World) : Calls Tryz.prog 29 #[.string ⟨#[45, 48]⟩] w fun e w' => e = .returned (.tuple #[.agg #[.bool false, .slice none 0 0], .int .i64 3]) ∧ Ext w w' := by
  refine (parse_any [45, 48] w).mono ?_
  rintro e w' ⟨h | ⟨_, h, _⟩ | ⟨_, _, h⟩, he⟩
  · simp at h
  · exfalso
    revert h
    rw [show parseZ [45, 48] = 0 by decide]
    decide
  · exact ⟨h, he⟩
set_option maxRecDepth 100000 in
set_option maxHeartbeats 4000000 in
/-- sanity answers true. -/
theorem sanity_any (w : World) : Calls Tryz.prog 13 #[] w fun e w' => e = .returned (.bool true) ∧ Ext w w' := by
  go_enter Tryz.func13, Tryz.ntmps13
  go_wp2_with fail
  refine (lof_any (-7) _ (by omega) (by omega)).mono ?_
  rintro e wo1 ⟨⟨v1, rfl, h1⟩, x1⟩
  have Hh1 := Lib.hid h1
  clear h1
  go_wp2_with fail
  refine (lof_any (2) _ (by omega) (by omega)).mono ?_
  rintro e wo2 ⟨⟨v2, rfl, h2⟩, x2⟩
  have Hh2 := Lib.hid h2
  clear h2
  go_wp2_with fail
  refine (divmod_any _ _ (-7) (2) _ (Hh1.out.ext x2) Hh2.out (fits_small (by decide) (by omega)) (fits_small (by decide) (by omega)) (by omega)).mono ?_
  rintro e wc3 ⟨⟨u, v, rfl, ⟨s3_0, a3_0, n3_0, c3_0, rfl, hi3_0⟩, ⟨s3_1, a3_1, n3_1, c3_1, rfl, hi3_1⟩⟩, x3⟩
  have HI3_0 := Lib.hid hi3_0
  have HI3_1 := Lib.hid hi3_1
  clear hi3_0 hi3_1
  obtain ⟨D4, wb4, hD, hw, hb4_0, hb4_1, x4⟩ := two wc3 24 24 [.bool s3_0, .slice a3_0 n3_0 c3_0] [.bool s3_1, .slice a3_1 n3_1 c3_1]
  go_wp2_with fail
  rw [← hw, ← hD]
  clear hw hD
  go_wp2_with fail
  refine (lof_any (7) _ (by omega) (by omega)).mono ?_
  rintro e wo5 ⟨⟨v5, rfl, h5⟩, x5⟩
  have Hh5 := Lib.hid h5
  clear h5
  go_wp2_with fail
  refine (lof_any (-2) _ (by omega) (by omega)).mono ?_
  rintro e wo6 ⟨⟨v6, rfl, h6⟩, x6⟩
  have Hh6 := Lib.hid h6
  clear h6
  go_wp2_with fail
  refine (divmod_any _ _ (7) (-2) _ (Hh5.out.ext x6) Hh6.out (fits_small (by decide) (by omega)) (fits_small (by decide) (by omega)) (by omega)).mono ?_
  rintro e wc7 ⟨⟨u, v, rfl, ⟨s7_0, a7_0, n7_0, c7_0, rfl, hi7_0⟩, ⟨s7_1, a7_1, n7_1, c7_1, rfl, hi7_1⟩⟩, x7⟩
  have HI7_0 := Lib.hid hi7_0
  have HI7_1 := Lib.hid hi7_1
  clear hi7_0 hi7_1
  obtain ⟨D8, wb8, hD, hw, hb8_0, hb8_1, x8⟩ := two wc7 24 24 [.bool s7_0, .slice a7_0 n7_0 c7_0] [.bool s7_1, .slice a7_1 n7_1 c7_1]
  go_wp2_with fail
  rw [← hw, ← hD]
  clear hw hD
  go_wp2_with fail
  refine (lof_any (7) _ (by omega) (by omega)).mono ?_
  rintro e wo9 ⟨⟨v9, rfl, h9⟩, x9⟩
  have Hh9 := Lib.hid h9
  clear h9
  go_wp2_with fail
  refine (lof_any (0) _ (by omega) (by omega)).mono ?_
  rintro e wo10 ⟨⟨v10, rfl, h10⟩, x10⟩
  have Hh10 := Lib.hid h10
  clear h10
  go_wp2_with fail
  refine (divmod_zero _ _ (7) _ (Hh9.out.ext x10) Hh10.out).mono ?_
  rintro e wc11 ⟨rfl, x11⟩
  obtain ⟨D12, wb12, hD, hw, hb12_0, hb12_1, x12⟩ := two wc11 24 24 [.bool false, .slice none 0 0] [.bool false, .slice none 0 0]
  go_wp2_with fail
  rw [← hw, ← hD]
  clear hw hD
  go_wp2_with fail
  refine (lof_any (6) _ (by omega) (by omega)).mono ?_
  rintro e wo13 ⟨⟨v13, rfl, h13⟩, x13⟩
  have Hh13 := Lib.hid h13
  clear h13
  go_wp2_with fail
  refine (lof_any (4) _ (by omega) (by omega)).mono ?_
  rintro e wo14 ⟨⟨v14, rfl, h14⟩, x14⟩
  have Hh14 := Lib.hid h14
  clear h14
  go_wp2_with fail
  refine (bezout_any _ _ (6) (4) _ (Hh13.out.ext x14) Hh14.out (fits_small (by decide) (by omega)) (fits_small (by decide) (by omega)) (by omega)).mono ?_
  rintro e wc15 ⟨⟨g, u, v, gi, ui, vi, rfl, ⟨s15_0, a15_0, n15_0, c15_0, rfl, hi15_0⟩, ⟨s15_1, a15_1, n15_1, c15_1, rfl, hi15_1⟩, ⟨s15_2, a15_2, n15_2, c15_2, rfl, hi15_2⟩, hres⟩, x15⟩
  obtain ⟨rfl, rfl, rfl⟩ := bez_6_4 hres
  clear hres
  have HI15_0 := Lib.hid hi15_0
  have HI15_1 := Lib.hid hi15_1
  have HI15_2 := Lib.hid hi15_2
  clear hi15_0 hi15_1 hi15_2
  obtain ⟨D16, wb16, hD, hw, hb16_0, hb16_1, hb16_2, x16⟩ := three wc15 24 24 24 [.bool s15_0, .slice a15_0 n15_0 c15_0] [.bool s15_1, .slice a15_1 n15_1 c15_1] [.bool s15_2, .slice a15_2 n15_2 c15_2]
  go_wp2_with fail
  rw [← hw, ← hD]
  clear hw hD
  go_wp2_with fail
  refine (lof_any (-5) _ (by omega) (by omega)).mono ?_
  rintro e wo17 ⟨⟨v17, rfl, h17⟩, x17⟩
  have Hh17 := Lib.hid h17
  clear h17
  go_wp2_with fail
  refine (lof_any (0) _ (by omega) (by omega)).mono ?_
  rintro e wo18 ⟨⟨v18, rfl, h18⟩, x18⟩
  have Hh18 := Lib.hid h18
  clear h18
  go_wp2_with fail
  refine (bezout_zero _ _ (-5) _ (Hh17.out.ext x18) Hh18.out (fits_small (by decide) (by omega))).mono ?_
  rintro e wc19 ⟨⟨g, u, v, rfl, ⟨s19_0, a19_0, n19_0, c19_0, rfl, hi19_0⟩, ⟨s19_1, a19_1, n19_1, c19_1, rfl, hi19_1⟩, ⟨s19_2, a19_2, n19_2, c19_2, rfl, hi19_2⟩⟩, x19⟩
  have HI19_0 := Lib.hid hi19_0
  have HI19_1 := Lib.hid hi19_1
  have HI19_2 := Lib.hid hi19_2
  clear hi19_0 hi19_1 hi19_2
  obtain ⟨D20, wb20, hD, hw, hb20_0, hb20_1, hb20_2, x20⟩ := three wc19 24 24 24 [.bool s19_0, .slice a19_0 n19_0 c19_0] [.bool s19_1, .slice a19_1 n19_1 c19_1] [.bool s19_2, .slice a19_2 n19_2 c19_2]
  go_wp2_with fail
  rw [← hw, ← hD]
  clear hw hD
  go_wp2_with fail
  refine (lof_any (0) _ (by omega) (by omega)).mono ?_
  rintro e wo21 ⟨⟨v21, rfl, h21⟩, x21⟩
  have Hh21 := Lib.hid h21
  clear h21
  go_wp2_with fail
  refine (lof_any (-3) _ (by omega) (by omega)).mono ?_
  rintro e wo22 ⟨⟨v22, rfl, h22⟩, x22⟩
  have Hh22 := Lib.hid h22
  clear h22
  go_wp2_with fail
  refine (bezout_any _ _ (0) (-3) _ (Hh21.out.ext x22) Hh22.out (fits_small (by decide) (by omega)) (fits_small (by decide) (by omega)) (by omega)).mono ?_
  rintro e wc23 ⟨⟨g, u, v, gi, ui, vi, rfl, ⟨s23_0, a23_0, n23_0, c23_0, rfl, hi23_0⟩, ⟨s23_1, a23_1, n23_1, c23_1, rfl, hi23_1⟩, ⟨s23_2, a23_2, n23_2, c23_2, rfl, hi23_2⟩, hres⟩, x23⟩
  obtain ⟨rfl, rfl, rfl⟩ := bez_0_3 hres
  clear hres
  have HI23_0 := Lib.hid hi23_0
  have HI23_1 := Lib.hid hi23_1
  have HI23_2 := Lib.hid hi23_2
  clear hi23_0 hi23_1 hi23_2
  obtain ⟨D24, wb24, hD, hw, hb24_0, hb24_1, hb24_2, x24⟩ := three wc23 24 24 24 [.bool s23_0, .slice a23_0 n23_0 c23_0] [.bool s23_1, .slice a23_1 n23_1 c23_1] [.bool s23_2, .slice a23_2 n23_2 c23_2]
  go_wp2_with fail
  rw [← hw, ← hD]
  clear hw hD
  go_wp2_with fail
  refine (lof_any (-2) _ (by omega) (by omega)).mono ?_
  rintro e wo25 ⟨⟨v25, rfl, h25⟩, x25⟩
  have Hh25 := Lib.hid h25
  clear h25
  go_wp2_with fail
  refine (Pow_any _ (-2) 33 1 _ Hh25.out (fits_small (by decide) (by omega)) (by omega) (by omega)).mono ?_
  rintro e wc26 ⟨⟨p, rfl, ⟨s26_0, a26_0, n26_0, c26_0, rfl, hi26_0⟩⟩, x26⟩
  have HI26_0 := Lib.hid hi26_0
  clear hi26_0
  obtain ⟨D27, wb27, hD, hw, hb27_0, x27⟩ := one wc26 24 [.bool s26_0, .slice a26_0 n26_0 c26_0]
  go_wp2_with fail
  rw [← hw, ← hD]
  clear hw hD
  go_wp2_with fail
  refine (lof_any (99) _ (by omega) (by omega)).mono ?_
  rintro e wo28 ⟨⟨v28, rfl, h28⟩, x28⟩
  have Hh28 := Lib.hid h28
  clear h28
  go_wp2_with fail
  refine (Root_any _ 99 2 _ Hh28.out (fits_small (by decide) (by omega)) (by omega) (by omega) (by omega)).mono ?_
  rintro e wc29 ⟨⟨p, r, rfl, ⟨s29_0, a29_0, n29_0, c29_0, rfl, hi29_0⟩, hroot⟩, x29⟩
  obtain rfl := root_99 hroot
  clear hroot
  have HI29_0 := Lib.hid hi29_0
  clear hi29_0
  obtain ⟨D30, wb30, hD, hw, hb30_0, x30⟩ := one wc29 24 [.bool s29_0, .slice a29_0 n29_0 c29_0]
  go_wp2_with fail
  rw [← hw, ← hD]
  clear hw hD
  go_wp2_with fail
  refine (lof_any (2) _ (by omega) (by omega)).mono ?_
  rintro e wo31 ⟨⟨v31, rfl, h31⟩, x31⟩
  have Hh31 := Lib.hid h31
  clear h31
  go_wp2_with fail
  refine (Pow_err _ 2 (-1) _ Hh31.out (Or.inl (by omega))).mono ?_
  rintro e wc32 ⟨rfl, x32⟩
  obtain ⟨D33, wb33, hD, hw, hb33_0, x33⟩ := one wc32 24 [.bool false, .slice none 0 0]
  go_wp2_with fail
  rw [← hw, ← hD]
  clear hw hD
  go_wp2_with fail
  refine (lof_any (-1) _ (by omega) (by omega)).mono ?_
  rintro e wo34 ⟨⟨v34, rfl, h34⟩, x34⟩
  have Hh34 := Lib.hid h34
  clear h34
  go_wp2_with fail
  refine (Root_err _ (-1) 3 _ Hh34.out (Or.inl (by omega))).mono ?_
  rintro e wc35 ⟨rfl, x35⟩
  obtain ⟨D36, wb36, hD, hw, hb36_0, x36⟩ := one wc35 24 [.bool false, .slice none 0 0]
  go_wp2_with fail
  rw [← hw, ← hD]
  clear hw hD
  go_wp2_with fail
  refine (parse_minus0 _).mono ?_
  rintro e wc37 ⟨rfl, x37⟩
  obtain ⟨D38, wb38, hD, hw, hb38_0, x38⟩ := one wc37 24 [.bool false, .slice none 0 0]
  go_wp2_with fail
  rw [← hw, ← hD]
  clear hw hD
  go_wp2_with fail
  refine (lof_any (-9) _ (by omega) (by omega)).mono ?_
  rintro e wo39 ⟨⟨v39, rfl, h39⟩, x39⟩
  have Hh39 := Lib.hid h39
  clear h39
  go_wp2_with fail
  refine (small_any _ (-9) _ Hh39.out).mono ?_
  rintro e wc40 ⟨rfl, x40⟩
  rw [show smallOf (-9) = (Value.int .i64 (-9), Value.bool true) by rfl]
  go_wp2_with fail
  have A1 : Hid (∀ W, Ext wc40 W → IntV W (.agg #[.bool s3_0, .slice a3_0 n3_0 c3_0]) (-4)) := Lib.hid fun W hW => ⟨_, _, _, _, rfl, HI3_0.out.ext (((((((((((((((((((((((((((((((((((((x4.trans x5).trans x6).trans x7).trans x8).trans x9).trans x10).trans x11).trans x12).trans x13).trans x14).trans x15).trans x16).trans x17).trans x18).trans x19).trans x20).trans x21).trans x22).trans x23).trans x24).trans x25).trans x26).trans x27).trans x28).trans x29).trans x30).trans x31).trans x32).trans x33).trans x34).trans x35).trans x36).trans x37).trans x38).trans x39).trans x40).trans hW)⟩
  have A2 : Hid (∀ W, Ext wc40 W → IntV W (.agg #[.bool s3_1, .slice a3_1 n3_1 c3_1]) (1)) := Lib.hid fun W hW => ⟨_, _, _, _, rfl, HI3_1.out.ext (((((((((((((((((((((((((((((((((((((x4.trans x5).trans x6).trans x7).trans x8).trans x9).trans x10).trans x11).trans x12).trans x13).trans x14).trans x15).trans x16).trans x17).trans x18).trans x19).trans x20).trans x21).trans x22).trans x23).trans x24).trans x25).trans x26).trans x27).trans x28).trans x29).trans x30).trans x31).trans x32).trans x33).trans x34).trans x35).trans x36).trans x37).trans x38).trans x39).trans x40).trans hW)⟩
  have A4 : Hid (∀ W, Ext wc40 W → IntV W (.agg #[.bool s7_0, .slice a7_0 n7_0 c7_0]) (-3)) := Lib.hid fun W hW => ⟨_, _, _, _, rfl, HI7_0.out.ext (((((((((((((((((((((((((((((((((x8.trans x9).trans x10).trans x11).trans x12).trans x13).trans x14).trans x15).trans x16).trans x17).trans x18).trans x19).trans x20).trans x21).trans x22).trans x23).trans x24).trans x25).trans x26).trans x27).trans x28).trans x29).trans x30).trans x31).trans x32).trans x33).trans x34).trans x35).trans x36).trans x37).trans x38).trans x39).trans x40).trans hW)⟩
  have A5 : Hid (∀ W, Ext wc40 W → IntV W (.agg #[.bool s7_1, .slice a7_1 n7_1 c7_1]) (1)) := Lib.hid fun W hW => ⟨_, _, _, _, rfl, HI7_1.out.ext (((((((((((((((((((((((((((((((((x8.trans x9).trans x10).trans x11).trans x12).trans x13).trans x14).trans x15).trans x16).trans x17).trans x18).trans x19).trans x20).trans x21).trans x22).trans x23).trans x24).trans x25).trans x26).trans x27).trans x28).trans x29).trans x30).trans x31).trans x32).trans x33).trans x34).trans x35).trans x36).trans x37).trans x38).trans x39).trans x40).trans hW)⟩
  have A10 : Hid (∀ W, Ext wc40 W → IntV W (.agg #[.bool s15_0, .slice a15_0 n15_0 c15_0]) (2)) := Lib.hid fun W hW => ⟨_, _, _, _, rfl, HI15_0.out.ext (((((((((((((((((((((((((x16.trans x17).trans x18).trans x19).trans x20).trans x21).trans x22).trans x23).trans x24).trans x25).trans x26).trans x27).trans x28).trans x29).trans x30).trans x31).trans x32).trans x33).trans x34).trans x35).trans x36).trans x37).trans x38).trans x39).trans x40).trans hW)⟩
  have A11 : Hid (∀ W, Ext wc40 W → IntV W (.agg #[.bool s15_1, .slice a15_1 n15_1 c15_1]) (1)) := Lib.hid fun W hW => ⟨_, _, _, _, rfl, HI15_1.out.ext (((((((((((((((((((((((((x16.trans x17).trans x18).trans x19).trans x20).trans x21).trans x22).trans x23).trans x24).trans x25).trans x26).trans x27).trans x28).trans x29).trans x30).trans x31).trans x32).trans x33).trans x34).trans x35).trans x36).trans x37).trans x38).trans x39).trans x40).trans hW)⟩
  have A12 : Hid (∀ W, Ext wc40 W → IntV W (.agg #[.bool s15_2, .slice a15_2 n15_2 c15_2]) (-1)) := Lib.hid fun W hW => ⟨_, _, _, _, rfl, HI15_2.out.ext (((((((((((((((((((((((((x16.trans x17).trans x18).trans x19).trans x20).trans x21).trans x22).trans x23).trans x24).trans x25).trans x26).trans x27).trans x28).trans x29).trans x30).trans x31).trans x32).trans x33).trans x34).trans x35).trans x36).trans x37).trans x38).trans x39).trans x40).trans hW)⟩
  have A13 : Hid (∀ W, Ext wc40 W → IntV W (.agg #[.bool s19_0, .slice a19_0 n19_0 c19_0]) (5)) := Lib.hid fun W hW => ⟨_, _, _, _, rfl, HI19_0.out.ext (((((((((((((((((((((x20.trans x21).trans x22).trans x23).trans x24).trans x25).trans x26).trans x27).trans x28).trans x29).trans x30).trans x31).trans x32).trans x33).trans x34).trans x35).trans x36).trans x37).trans x38).trans x39).trans x40).trans hW)⟩
  have A14 : Hid (∀ W, Ext wc40 W → IntV W (.agg #[.bool s19_1, .slice a19_1 n19_1 c19_1]) (-1)) := Lib.hid fun W hW => ⟨_, _, _, _, rfl, HI19_1.out.ext (((((((((((((((((((((x20.trans x21).trans x22).trans x23).trans x24).trans x25).trans x26).trans x27).trans x28).trans x29).trans x30).trans x31).trans x32).trans x33).trans x34).trans x35).trans x36).trans x37).trans x38).trans x39).trans x40).trans hW)⟩
  have A15 : Hid (∀ W, Ext wc40 W → IntV W (.agg #[.bool s19_2, .slice a19_2 n19_2 c19_2]) (0)) := Lib.hid fun W hW => ⟨_, _, _, _, rfl, HI19_2.out.ext (((((((((((((((((((((x20.trans x21).trans x22).trans x23).trans x24).trans x25).trans x26).trans x27).trans x28).trans x29).trans x30).trans x31).trans x32).trans x33).trans x34).trans x35).trans x36).trans x37).trans x38).trans x39).trans x40).trans hW)⟩
  have A16 : Hid (∀ W, Ext wc40 W → IntV W (.agg #[.bool s23_0, .slice a23_0 n23_0 c23_0]) (3)) := Lib.hid fun W hW => ⟨_, _, _, _, rfl, HI23_0.out.ext (((((((((((((((((x24.trans x25).trans x26).trans x27).trans x28).trans x29).trans x30).trans x31).trans x32).trans x33).trans x34).trans x35).trans x36).trans x37).trans x38).trans x39).trans x40).trans hW)⟩
  have A17 : Hid (∀ W, Ext wc40 W → IntV W (.agg #[.bool s23_1, .slice a23_1 n23_1 c23_1]) (0)) := Lib.hid fun W hW => ⟨_, _, _, _, rfl, HI23_1.out.ext (((((((((((((((((x24.trans x25).trans x26).trans x27).trans x28).trans x29).trans x30).trans x31).trans x32).trans x33).trans x34).trans x35).trans x36).trans x37).trans x38).trans x39).trans x40).trans hW)⟩
  have A18 : Hid (∀ W, Ext wc40 W → IntV W (.agg #[.bool s23_2, .slice a23_2 n23_2 c23_2]) (-1)) := Lib.hid fun W hW => ⟨_, _, _, _, rfl, HI23_2.out.ext (((((((((((((((((x24.trans x25).trans x26).trans x27).trans x28).trans x29).trans x30).trans x31).trans x32).trans x33).trans x34).trans x35).trans x36).trans x37).trans x38).trans x39).trans x40).trans hW)⟩
  have A19 : Hid (∀ W, Ext wc40 W → IntV W (.agg #[.bool s26_0, .slice a26_0 n26_0 c26_0]) (-8589934592)) := Lib.hid fun W hW => ⟨_, _, _, _, rfl, HI26_0.out.ext ((((((((((((((x27.trans x28).trans x29).trans x30).trans x31).trans x32).trans x33).trans x34).trans x35).trans x36).trans x37).trans x38).trans x39).trans x40).trans hW)⟩
  have A21 : Hid (∀ W, Ext wc40 W → IntV W (.agg #[.bool s29_0, .slice a29_0 n29_0 c29_0]) (9)) := Lib.hid fun W hW => ⟨_, _, _, _, rfl, HI29_0.out.ext (((((((((((x30.trans x31).trans x32).trans x33).trans x34).trans x35).trans x36).trans x37).trans x38).trans x39).trans x40).trans hW)⟩
  have hz0 := Below.drewExt wc40
  have KX : Hid (∀ w', Ext wc40 w' → w'.cell? ⟨D4, 0, none⟩ = some (.bool s3_0) ∧ w'.cell? ⟨D4, 1, none⟩ = some (.slice a3_0 n3_0 c3_0) ∧ w'.cell? ⟨D4 + 1, 0, none⟩ = some (.bool s3_1) ∧ w'.cell? ⟨D4 + 1, 1, none⟩ = some (.slice a3_1 n3_1 c3_1) ∧ w'.cell? ⟨D8, 0, none⟩ = some (.bool s7_0) ∧ w'.cell? ⟨D8, 1, none⟩ = some (.slice a7_0 n7_0 c7_0) ∧ w'.cell? ⟨D8 + 1, 0, none⟩ = some (.bool s7_1) ∧ w'.cell? ⟨D8 + 1, 1, none⟩ = some (.slice a7_1 n7_1 c7_1) ∧ w'.cell? ⟨D16, 0, none⟩ = some (.bool s15_0) ∧ w'.cell? ⟨D16, 1, none⟩ = some (.slice a15_0 n15_0 c15_0) ∧ w'.cell? ⟨D16 + 1, 0, none⟩ = some (.bool s15_1) ∧ w'.cell? ⟨D16 + 1, 1, none⟩ = some (.slice a15_1 n15_1 c15_1) ∧ w'.cell? ⟨D16 + 1 + 1, 0, none⟩ = some (.bool s15_2) ∧ w'.cell? ⟨D16 + 1 + 1, 1, none⟩ = some (.slice a15_2 n15_2 c15_2) ∧ w'.cell? ⟨D20, 0, none⟩ = some (.bool s19_0) ∧ w'.cell? ⟨D20, 1, none⟩ = some (.slice a19_0 n19_0 c19_0) ∧ w'.cell? ⟨D20 + 1, 0, none⟩ = some (.bool s19_1) ∧ w'.cell? ⟨D20 + 1, 1, none⟩ = some (.slice a19_1 n19_1 c19_1) ∧ w'.cell? ⟨D20 + 1 + 1, 0, none⟩ = some (.bool s19_2) ∧ w'.cell? ⟨D20 + 1 + 1, 1, none⟩ = some (.slice a19_2 n19_2 c19_2) ∧ w'.cell? ⟨D24, 0, none⟩ = some (.bool s23_0) ∧ w'.cell? ⟨D24, 1, none⟩ = some (.slice a23_0 n23_0 c23_0) ∧ w'.cell? ⟨D24 + 1, 0, none⟩ = some (.bool s23_1) ∧ w'.cell? ⟨D24 + 1, 1, none⟩ = some (.slice a23_1 n23_1 c23_1) ∧ w'.cell? ⟨D24 + 1 + 1, 0, none⟩ = some (.bool s23_2) ∧ w'.cell? ⟨D24 + 1 + 1, 1, none⟩ = some (.slice a23_2 n23_2 c23_2)) :=
    Lib.hid fun w' h => ⟨h.cell ((hb4_0.ext (((((((((((((((((((((((((((((((((((x5.trans x6).trans x7).trans x8).trans x9).trans x10).trans x11).trans x12).trans x13).trans x14).trans x15).trans x16).trans x17).trans x18).trans x19).trans x20).trans x21).trans x22).trans x23).trans x24).trans x25).trans x26).trans x27).trans x28).trans x29).trans x30).trans x31).trans x32).trans x33).trans x34).trans x35).trans x36).trans x37).trans x38).trans x39).trans x40)).cell (i := 0) rfl), h.cell ((hb4_0.ext (((((((((((((((((((((((((((((((((((x5.trans x6).trans x7).trans x8).trans x9).trans x10).trans x11).trans x12).trans x13).trans x14).trans x15).trans x16).trans x17).trans x18).trans x19).trans x20).trans x21).trans x22).trans x23).trans x24).trans x25).trans x26).trans x27).trans x28).trans x29).trans x30).trans x31).trans x32).trans x33).trans x34).trans x35).trans x36).trans x37).trans x38).trans x39).trans x40)).cell (i := 1) rfl), h.cell ((hb4_1.ext (((((((((((((((((((((((((((((((((((x5.trans x6).trans x7).trans x8).trans x9).trans x10).trans x11).trans x12).trans x13).trans x14).trans x15).trans x16).trans x17).trans x18).trans x19).trans x20).trans x21).trans x22).trans x23).trans x24).trans x25).trans x26).trans x27).trans x28).trans x29).trans x30).trans x31).trans x32).trans x33).trans x34).trans x35).trans x36).trans x37).trans x38).trans x39).trans x40)).cell (i := 0) rfl), h.cell ((hb4_1.ext (((((((((((((((((((((((((((((((((((x5.trans x6).trans x7).trans x8).trans x9).trans x10).trans x11).trans x12).trans x13).trans x14).trans x15).trans x16).trans x17).trans x18).trans x19).trans x20).trans x21).trans x22).trans x23).trans x24).trans x25).trans x26).trans x27).trans x28).trans x29).trans x30).trans x31).trans x32).trans x33).trans x34).trans x35).trans x36).trans x37).trans x38).trans x39).trans x40)).cell (i := 1) rfl), h.cell ((hb8_0.ext (((((((((((((((((((((((((((((((x9.trans x10).trans x11).trans x12).trans x13).trans x14).trans x15).trans x16).trans x17).trans x18).trans x19).trans x20).trans x21).trans x22).trans x23).trans x24).trans x25).trans x26).trans x27).trans x28).trans x29).trans x30).trans x31).trans x32).trans x33).trans x34).trans x35).trans x36).trans x37).trans x38).trans x39).trans x40)).cell (i := 0) rfl), h.cell ((hb8_0.ext (((((((((((((((((((((((((((((((x9.trans x10).trans x11).trans x12).trans x13).trans x14).trans x15).trans x16).trans x17).trans x18).trans x19).trans x20).trans x21).trans x22).trans x23).trans x24).trans x25).trans x26).trans x27).trans x28).trans x29).trans x30).trans x31).trans x32).trans x33).trans x34).trans x35).trans x36).trans x37).trans x38).trans x39).trans x40)).cell (i := 1) rfl), h.cell ((hb8_1.ext (((((((((((((((((((((((((((((((x9.trans x10).trans x11).trans x12).trans x13).trans x14).trans x15).trans x16).trans x17).trans x18).trans x19).trans x20).trans x21).trans x22).trans x23).trans x24).trans x25).trans x26).trans x27).trans x28).trans x29).trans x30).trans x31).trans x32).trans x33).trans x34).trans x35).trans x36).trans x37).trans x38).trans x39).trans x40)).cell (i := 0) rfl), h.cell ((hb8_1.ext (((((((((((((((((((((((((((((((x9.trans x10).trans x11).trans x12).trans x13).trans x14).trans x15).trans x16).trans x17).trans x18).trans x19).trans x20).trans x21).trans x22).trans x23).trans x24).trans x25).trans x26).trans x27).trans x28).trans x29).trans x30).trans x31).trans x32).trans x33).trans x34).trans x35).trans x36).trans x37).trans x38).trans x39).trans x40)).cell (i := 1) rfl), h.cell ((hb16_0.ext (((((((((((((((((((((((x17.trans x18).trans x19).trans x20).trans x21).trans x22).trans x23).trans x24).trans x25).trans x26).trans x27).trans x28).trans x29).trans x30).trans x31).trans x32).trans x33).trans x34).trans x35).trans x36).trans x37).trans x38).trans x39).trans x40)).cell (i := 0) rfl), h.cell ((hb16_0.ext (((((((((((((((((((((((x17.trans x18).trans x19).trans x20).trans x21).trans x22).trans x23).trans x24).trans x25).trans x26).trans x27).trans x28).trans x29).trans x30).trans x31).trans x32).trans x33).trans x34).trans x35).trans x36).trans x37).trans x38).trans x39).trans x40)).cell (i := 1) rfl), h.cell ((hb16_1.ext (((((((((((((((((((((((x17.trans x18).trans x19).trans x20).trans x21).trans x22).trans x23).trans x24).trans x25).trans x26).trans x27).trans x28).trans x29).trans x30).trans x31).trans x32).trans x33).trans x34).trans x35).trans x36).trans x37).trans x38).trans x39).trans x40)).cell (i := 0) rfl), h.cell ((hb16_1.ext (((((((((((((((((((((((x17.trans x18).trans x19).trans x20).trans x21).trans x22).trans x23).trans x24).trans x25).trans x26).trans x27).trans x28).trans x29).trans x30).trans x31).trans x32).trans x33).trans x34).trans x35).trans x36).trans x37).trans x38).trans x39).trans x40)).cell (i := 1) rfl), h.cell ((hb16_2.ext (((((((((((((((((((((((x17.trans x18).trans x19).trans x20).trans x21).trans x22).trans x23).trans x24).trans x25).trans x26).trans x27).trans x28).trans x29).trans x30).trans x31).trans x32).trans x33).trans x34).trans x35).trans x36).trans x37).trans x38).trans x39).trans x40)).cell (i := 0) rfl), h.cell ((hb16_2.ext (((((((((((((((((((((((x17.trans x18).trans x19).trans x20).trans x21).trans x22).trans x23).trans x24).trans x25).trans x26).trans x27).trans x28).trans x29).trans x30).trans x31).trans x32).trans x33).trans x34).trans x35).trans x36).trans x37).trans x38).trans x39).trans x40)).cell (i := 1) rfl), h.cell ((hb20_0.ext (((((((((((((((((((x21.trans x22).trans x23).trans x24).trans x25).trans x26).trans x27).trans x28).trans x29).trans x30).trans x31).trans x32).trans x33).trans x34).trans x35).trans x36).trans x37).trans x38).trans x39).trans x40)).cell (i := 0) rfl), h.cell ((hb20_0.ext (((((((((((((((((((x21.trans x22).trans x23).trans x24).trans x25).trans x26).trans x27).trans x28).trans x29).trans x30).trans x31).trans x32).trans x33).trans x34).trans x35).trans x36).trans x37).trans x38).trans x39).trans x40)).cell (i := 1) rfl), h.cell ((hb20_1.ext (((((((((((((((((((x21.trans x22).trans x23).trans x24).trans x25).trans x26).trans x27).trans x28).trans x29).trans x30).trans x31).trans x32).trans x33).trans x34).trans x35).trans x36).trans x37).trans x38).trans x39).trans x40)).cell (i := 0) rfl), h.cell ((hb20_1.ext (((((((((((((((((((x21.trans x22).trans x23).trans x24).trans x25).trans x26).trans x27).trans x28).trans x29).trans x30).trans x31).trans x32).trans x33).trans x34).trans x35).trans x36).trans x37).trans x38).trans x39).trans x40)).cell (i := 1) rfl), h.cell ((hb20_2.ext (((((((((((((((((((x21.trans x22).trans x23).trans x24).trans x25).trans x26).trans x27).trans x28).trans x29).trans x30).trans x31).trans x32).trans x33).trans x34).trans x35).trans x36).trans x37).trans x38).trans x39).trans x40)).cell (i := 0) rfl), h.cell ((hb20_2.ext (((((((((((((((((((x21.trans x22).trans x23).trans x24).trans x25).trans x26).trans x27).trans x28).trans x29).trans x30).trans x31).trans x32).trans x33).trans x34).trans x35).trans x36).trans x37).trans x38).trans x39).trans x40)).cell (i := 1) rfl), h.cell ((hb24_0.ext (((((((((((((((x25.trans x26).trans x27).trans x28).trans x29).trans x30).trans x31).trans x32).trans x33).trans x34).trans x35).trans x36).trans x37).trans x38).trans x39).trans x40)).cell (i := 0) rfl), h.cell ((hb24_0.ext (((((((((((((((x25.trans x26).trans x27).trans x28).trans x29).trans x30).trans x31).trans x32).trans x33).trans x34).trans x35).trans x36).trans x37).trans x38).trans x39).trans x40)).cell (i := 1) rfl), h.cell ((hb24_1.ext (((((((((((((((x25.trans x26).trans x27).trans x28).trans x29).trans x30).trans x31).trans x32).trans x33).trans x34).trans x35).trans x36).trans x37).trans x38).trans x39).trans x40)).cell (i := 0) rfl), h.cell ((hb24_1.ext (((((((((((((((x25.trans x26).trans x27).trans x28).trans x29).trans x30).trans x31).trans x32).trans x33).trans x34).trans x35).trans x36).trans x37).trans x38).trans x39).trans x40)).cell (i := 1) rfl), h.cell ((hb24_2.ext (((((((((((((((x25.trans x26).trans x27).trans x28).trans x29).trans x30).trans x31).trans x32).trans x33).trans x34).trans x35).trans x36).trans x37).trans x38).trans x39).trans x40)).cell (i := 0) rfl), h.cell ((hb24_2.ext (((((((((((((((x25.trans x26).trans x27).trans x28).trans x29).trans x30).trans x31).trans x32).trans x33).trans x34).trans x35).trans x36).trans x37).trans x38).trans x39).trans x40)).cell (i := 1) rfl)⟩
  go_region_held3
    (fun w' => w'.cell? ⟨D4, 0, none⟩ = some (.bool s3_0) ∧ w'.cell? ⟨D4, 1, none⟩ = some (.slice a3_0 n3_0 c3_0) ∧ w'.cell? ⟨D4 + 1, 0, none⟩ = some (.bool s3_1) ∧ w'.cell? ⟨D4 + 1, 1, none⟩ = some (.slice a3_1 n3_1 c3_1) ∧ w'.cell? ⟨D8, 0, none⟩ = some (.bool s7_0) ∧ w'.cell? ⟨D8, 1, none⟩ = some (.slice a7_0 n7_0 c7_0) ∧ w'.cell? ⟨D8 + 1, 0, none⟩ = some (.bool s7_1) ∧ w'.cell? ⟨D8 + 1, 1, none⟩ = some (.slice a7_1 n7_1 c7_1) ∧ w'.cell? ⟨D16, 0, none⟩ = some (.bool s15_0) ∧ w'.cell? ⟨D16, 1, none⟩ = some (.slice a15_0 n15_0 c15_0) ∧ w'.cell? ⟨D16 + 1, 0, none⟩ = some (.bool s15_1) ∧ w'.cell? ⟨D16 + 1, 1, none⟩ = some (.slice a15_1 n15_1 c15_1) ∧ w'.cell? ⟨D16 + 1 + 1, 0, none⟩ = some (.bool s15_2) ∧ w'.cell? ⟨D16 + 1 + 1, 1, none⟩ = some (.slice a15_2 n15_2 c15_2) ∧ w'.cell? ⟨D20, 0, none⟩ = some (.bool s19_0) ∧ w'.cell? ⟨D20, 1, none⟩ = some (.slice a19_0 n19_0 c19_0) ∧ w'.cell? ⟨D20 + 1, 0, none⟩ = some (.bool s19_1) ∧ w'.cell? ⟨D20 + 1, 1, none⟩ = some (.slice a19_1 n19_1 c19_1) ∧ w'.cell? ⟨D20 + 1 + 1, 0, none⟩ = some (.bool s19_2) ∧ w'.cell? ⟨D20 + 1 + 1, 1, none⟩ = some (.slice a19_2 n19_2 c19_2) ∧ w'.cell? ⟨D24, 0, none⟩ = some (.bool s23_0) ∧ w'.cell? ⟨D24, 1, none⟩ = some (.slice a23_0 n23_0 c23_0) ∧ w'.cell? ⟨D24 + 1, 0, none⟩ = some (.bool s23_1) ∧ w'.cell? ⟨D24 + 1, 1, none⟩ = some (.slice a23_1 n23_1 c23_1) ∧ w'.cell? ⟨D24 + 1 + 1, 0, none⟩ = some (.bool s23_2) ∧ w'.cell? ⟨D24 + 1 + 1, 1, none⟩ = some (.slice a23_2 n23_2 c23_2))
    (with_reducible exact KX.out _ (by assumption))
    (first
    | (go_at_call 50; (with_reducible refine (three_true _ _ _ (-4) (1) (-3) _ (A1.out _ hz0) (A2.out _ hz0) (A4.out _ hz0) (by omega) (by omega) (by omega) (by omega) (by omega) (by omega)).mono ?_); rintro e wt0 ⟨rfl, he⟩; have hz1 := hz0.trans he)
    | (go_at_call 50; (with_reducible refine (three_true _ _ _ (1) (2) (1) _ (A5.out _ hz1) (A10.out _ hz1) (A11.out _ hz1) (by omega) (by omega) (by omega) (by omega) (by omega) (by omega)).mono ?_); rintro e wt1 ⟨rfl, he⟩; have hz2 := hz1.trans he)
    | (go_at_call 50; (with_reducible refine (three_true _ _ _ (-1) (5) (-1) _ (A12.out _ hz2) (A13.out _ hz2) (A14.out _ hz2) (by omega) (by omega) (by omega) (by omega) (by omega) (by omega)).mono ?_); rintro e wt2 ⟨rfl, he⟩; have hz3 := hz2.trans he)
    | (go_at_call 50; (with_reducible refine (three_true _ _ _ (0) (3) (0) _ (A15.out _ hz3) (A16.out _ hz3) (A17.out _ hz3) (by omega) (by omega) (by omega) (by omega) (by omega) (by omega)).mono ?_); rintro e wt3 ⟨rfl, he⟩; have hz4 := hz3.trans he)
    | (go_at_call 23; (with_reducible refine (lof_any (-1) _ (by omega) (by omega)).mono ?_); rintro e wt4 ⟨⟨vt, rfl, hvt⟩, he⟩; have hz5 := hz4.trans he)
    | (go_at_call 21; (with_reducible refine (same_true _ vt (-1) _ (A18.out _ hz5) hvt).mono ?_); rintro e wt5 ⟨rfl, he⟩; have hz6 := hz5.trans he)
    )
  go_wp2_with fail
  have hy0 := hz6.trans (Below.drewExt wt5)
  have KY : Hid (∀ w', Ext wc40 w' → w'.cell? ⟨D27, 0, none⟩ = some (.bool s26_0) ∧ w'.cell? ⟨D27, 1, none⟩ = some (.slice a26_0 n26_0 c26_0) ∧ w'.cell? ⟨D30, 0, none⟩ = some (.bool s29_0) ∧ w'.cell? ⟨D30, 1, none⟩ = some (.slice a29_0 n29_0 c29_0)) :=
    Lib.hid fun w' h => ⟨h.cell ((hb27_0.ext ((((((((((((x28.trans x29).trans x30).trans x31).trans x32).trans x33).trans x34).trans x35).trans x36).trans x37).trans x38).trans x39).trans x40)).cell (i := 0) rfl), h.cell ((hb27_0.ext ((((((((((((x28.trans x29).trans x30).trans x31).trans x32).trans x33).trans x34).trans x35).trans x36).trans x37).trans x38).trans x39).trans x40)).cell (i := 1) rfl), h.cell ((hb30_0.ext (((((((((x31.trans x32).trans x33).trans x34).trans x35).trans x36).trans x37).trans x38).trans x39).trans x40)).cell (i := 0) rfl), h.cell ((hb30_0.ext (((((((((x31.trans x32).trans x33).trans x34).trans x35).trans x36).trans x37).trans x38).trans x39).trans x40)).cell (i := 1) rfl)⟩
  go_region_held3
    (fun w' => w'.cell? ⟨D27, 0, none⟩ = some (.bool s26_0) ∧ w'.cell? ⟨D27, 1, none⟩ = some (.slice a26_0 n26_0 c26_0) ∧ w'.cell? ⟨D30, 0, none⟩ = some (.bool s29_0) ∧ w'.cell? ⟨D30, 1, none⟩ = some (.slice a29_0 n29_0 c29_0))
    (with_reducible exact KY.out _ (by assumption))
    (first
    | (go_at_call 23; (with_reducible refine (lof_any (-8589934592) _ (by omega) (by omega)).mono ?_); rintro e wt6 ⟨⟨vt, rfl, hvt6⟩, he⟩; have hy1 := hy0.trans he)
    | (go_at_call 21; (with_reducible refine (same_true _ _ (-8589934592) _ (A19.out _ hy1) hvt6).mono ?_); rintro e wt7 ⟨rfl, he⟩; have hy2 := hy1.trans he)
    | (go_at_call 23; (with_reducible refine (lof_any 9 _ (by omega) (by omega)).mono ?_); rintro e wt8 ⟨⟨vt, rfl, hvt8⟩, he⟩; have hy3 := hy2.trans he)
    | (go_at_call 21; (with_reducible refine (same_true _ _ 9 _ (A21.out _ hy3) hvt8).mono ?_); rintro e wt9 ⟨rfl, he⟩; have hy4 := hy3.trans he)
    )
  go_wp2_with fail
  refine (lof_any (-120) _ (by omega) (by omega)).mono ?_
  rintro e wo41 ⟨⟨v41, rfl, h41⟩, x41⟩
  have Hh41 := Lib.hid h41
  clear h41
  go_wp2_with fail
  refine (text_any _ (-120) _ Hh41.out (fits_small (by decide) (by omega))).mono ?_
  rintro e wc42 ⟨rfl, x42⟩
  rw [show (⟨(textL (-120)).toArray⟩ : ByteArray) = ⟨#[45, 49, 50, 48]⟩ by rw [text_120]]
  go_wp2_with fail
  refine (lof_any (-8) _ (by omega) (by omega)).mono ?_
  rintro e wo43 ⟨⟨v43, rfl, h43⟩, x43⟩
  have Hh43 := Lib.hid h43
  clear h43
  go_wp2_with fail
  refine (bits_any _ (-8) _ Hh43.out (fits_small (by decide) (by omega))).mono ?_
  rintro e wc44 ⟨rfl, x44⟩
  rw [show ((blen (Int.natAbs (-8)) : Nat) : Int) = 4 by rw [blen_8]; rfl]
  go_wp2_with fail
  refine (lof_any (-1) _ (by omega) (by omega)).mono ?_
  rintro e wo45 ⟨⟨v45, rfl, h45⟩, x45⟩
  have Hh45 := Lib.hid h45
  clear h45
  go_wp2_with fail
  refine (valid_any _ (-1) _ Hh45.out).mono ?_
  rintro e wc46 ⟨rfl, x46⟩
  go_wp2_with fail
  refine (valid_raw true none 0 0 [] _ (Words.nil' _)).mono ?_
  rintro e wc47 ⟨rfl, x47⟩
  rw [show validB true [] = false by rfl]
  go_wp2_with fail
  refine (lof_any (-4) _ (by omega) (by omega)).mono ?_
  rintro e wo48 ⟨⟨v48, rfl, h48⟩, x48⟩
  have Hh48 := Lib.hid h48
  clear h48
  go_wp2_with fail
  refine (sign_any _ (-4) _ Hh48.out).mono ?_
  rintro e wc49 ⟨rfl, x49⟩
  rw [show sgn (-4) 0 = -1 by rfl]
  go_wp2_with fail
  refine (lof_any (-4) _ (by omega) (by omega)).mono ?_
  rintro e wo50 ⟨⟨v50, rfl, h50⟩, x50⟩
  have Hh50 := Lib.hid h50
  clear h50
  go_wp2_with fail
  refine (lof_any (3) _ (by omega) (by omega)).mono ?_
  rintro e wo51 ⟨⟨v51, rfl, h51⟩, x51⟩
  have Hh51 := Lib.hid h51
  clear h51
  go_wp2_with fail
  refine (cmp_any _ _ (-4) 3 _ (Hh50.out.ext x51) Hh51.out).mono ?_
  rintro e wc52 ⟨rfl, x52⟩
  rw [show sgn (-4) 3 = -1 by rfl]
  go_wp2_with fail
  refine (lof_any (3) _ (by omega) (by omega)).mono ?_
  rintro e wo53 ⟨⟨v53, rfl, h53⟩, x53⟩
  have Hh53 := Lib.hid h53
  clear h53
  go_wp2_with fail
  refine (lof_any (5) _ (by omega) (by omega)).mono ?_
  rintro e wo54 ⟨⟨v54, rfl, h54⟩, x54⟩
  have Hh54 := Lib.hid h54
  clear h54
  go_wp2_with fail
  refine (sub_any _ _ 3 5 _ (Hh53.out.ext x54) Hh54.out (fits_small (by decide) (by omega)) (fits_small (by decide) (by omega))).mono ?_
  rintro e wc55 ⟨⟨vs, rfl, hvs⟩, x55⟩
  have HVS := Lib.hid hvs
  clear hvs
  go_wp2_with fail
  refine (lof_any (2) _ (by omega) (by omega)).mono ?_
  rintro e wo56 ⟨⟨v56, rfl, h56⟩, x56⟩
  have Hh56 := Lib.hid h56
  clear h56
  go_wp2_with fail
  refine (neg_any _ 2 _ Hh56.out (fits_small (by decide) (by omega))).mono ?_
  rintro e wc57 ⟨⟨vn, rfl, hvn⟩, x57⟩
  have HVN := Lib.hid hvn
  clear hvn
  go_wp2_with fail
  refine (same_true _ _ (-2) _ (HVS.out.ext (x56.trans x57)) HVN.out).mono ?_
  rintro e wc58 ⟨rfl, x58⟩
  go_wp2_with fail
  go_ret
  exact ⟨rfl, ((((((((((((((((((((((((((((((((((((((((((((((((((((((((((x1.trans x2).trans x3).trans x4).trans x5).trans x6).trans x7).trans x8).trans x9).trans x10).trans x11).trans x12).trans x13).trans x14).trans x15).trans x16).trans x17).trans x18).trans x19).trans x20).trans x21).trans x22).trans x23).trans x24).trans x25).trans x26).trans x27).trans x28).trans x29).trans x30).trans x31).trans x32).trans x33).trans x34).trans x35).trans x36).trans x37).trans x38).trans x39).trans x40).trans hy4).trans x41).trans x42).trans x43).trans x44).trans x45).trans x46).trans x47).trans x48).trans x49).trans x50).trans x51).trans x52).trans x53).trans x54).trans x55).trans x56).trans x57).trans x58)⟩
end Go.Proofs.YtddcgojpgdhefaaGreatDoor
