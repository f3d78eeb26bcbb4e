/- Contracts in the forms that the law IntegerMatchesReference uses: one answer for the program and the reference. -/
import Derived.Test.YtddcgojpgdhefaaGreatDoorLawLib2
import Derived.Test.YtddcgojpgdhefaaGreatDoorRefG
import Derived.Test.YtddcgojpgdhefaaGreatDoorRefJ
namespace Go.Proofs.YtddcgojpgdhefaaGreatDoor
/-- BezRes of three numbers. -/
def BezRes0 (a b : Int) (t : Int × Int × Int) : Prop := Go.El.BezRes a b t.1 t.2.1 t.2.2
end Go.Proofs.YtddcgojpgdhefaaGreatDoor
namespace Go.El
def remZ (a b : Int) : Int := if b = 0 then 0 else a % b
def errZ (b : Int) : Int := if b = 0 then 10 else 0
open Classical in
/-- What Bezout gives. -/
noncomputable def bz (a b : Int) : Int × Int × Int := if b = 0 then ((a.natAbs : Int), sgn a 0, 0) else if h : ∃ t : Int × Int × Int, Proofs.YtddcgojpgdhefaaGreatDoor.BezRes0 a b t then h.choose else (0, 0, 0)
def powE (n : Int) : Int := if n < 0 ∨ 4096 < n then 1 else 0
def powZ (a n : Int) : Int := if n < 0 ∨ 4096 < n then 0 else a ^ n.toNat
def rootE (a k : Int) : Int := if a < 0 ∨ k < 1 then 1 else 0
open Classical in
noncomputable def rootZ (a k : Int) : Int := if a < 0 ∨ k < 1 then 0 else if h : ∃ r, IsRoot a k.toNat r then h.choose else 0
theorem rootZ_is {a k r : Int} (h : ¬ (a < 0 ∨ k < 1)) (hr : IsRoot a k.toNat r) : rootZ a k = r := by
  have hx : ∃ r, IsRoot a k.toNat r := ⟨r, hr⟩
  unfold rootZ
  rw [if_neg h, dif_pos hx]
  exact IsRoot.uniq hx.choose_spec hr
end Go.El
namespace Go.Proofs.YtddcgojpgdhefaaGreatDoor
open Go.RowKit Go.El
set_option linter.unusedVariables false
theorem bz_zero (a : Int) : bz a 0 = ((a.natAbs : Int), sgn a 0, 0) := by unfold bz; rw [if_pos rfl]
theorem bz_is {a b g u v : Int} (hb : b ≠ 0) (h : BezRes a b g u v) : bz a b = (g, u, v) := by
  have hx : ∃ t : Int × Int × Int, BezRes0 a b t := ⟨(g, u, v), h⟩
  unfold bz
  rw [if_neg hb, dif_pos hx]
  have h2 : BezRes a b hx.choose.1 hx.choose.2.1 hx.choose.2.2 := hx.choose_spec
  obtain ⟨e1, e2, e3⟩ := BezRes.uniq hb h2 h
  exact Prod.ext e1 (Prod.ext e2 e3)
theorem intV_z (w : World) : IntV w (.agg #[.bool false, .slice none 0 0]) 0 := ⟨_, _, _, _, rfl, intW_zero w⟩
theorem divmod_z (x y : Value) (a b e q r : Int) (w : World) (hx : IntV w x a) (hy : IntV w y b) (ha : Fits a 1073741824) (hb : Fits b 1073741824) (he : errZ b = e) (hq : a / b = q) (hr : remZ a b = r) :
    Calls Tryz.prog 25 #[x, y] w fun e' w' => (∃ s1 a1 n1 c1 s2 a2 n2 c2, e' = .returned (.tuple #[.agg #[.bool s1, .slice a1 n1 c1], .agg #[.bool s2, .slice a2 n2 c2], .int .i64 e]) ∧ IntW w' s1 a1 n1 c1 q ∧ IntW w' s2 a2 n2 c2 r) ∧ Ext w w' := by
  subst he; subst hq; subst hr
  by_cases h : b = 0
  · subst h
    refine (divmod_zero x y a w hx hy).mono ?_
    rintro e w' ⟨rfl, he⟩
    exact ⟨⟨_, _, _, _, _, _, _, _, rfl, by rw [Int.ediv_zero]; exact intW_zero w', by rw [remZ, if_pos rfl]; exact intW_zero w'⟩, he⟩
  · refine (divmod_any x y a b w hx hy ha hb h).mono ?_
    rintro e w' ⟨⟨_, _, rfl, ⟨s1, a1, n1, c1, rfl, h1⟩, ⟨s2, a2, n2, c2, rfl, h2⟩⟩, he⟩
    exact ⟨⟨_, _, _, _, _, _, _, _, by rw [errZ, if_neg h], h1, by rw [remZ, if_neg h]; exact h2⟩, he⟩
theorem rdivmod_z (x y : Value) (a b e q r : Int) (w : World) (hx : IntV w x a) (hy : IntV w y b) (ha : Fits a 1073741824) (hb : Fits b 1073741824) (he : errZ b = e) (hq : a / b = q) (hr : remZ a b = r) :
    Calls Tryz.prog 34 #[x, y] w fun e' w' => (∃ s1 a1 n1 c1 s2 a2 n2 c2, e' = .returned (.tuple #[.agg #[.bool s1, .slice a1 n1 c1], .agg #[.bool s2, .slice a2 n2 c2], .int .i64 e]) ∧ IntW w' s1 a1 n1 c1 q ∧ IntW w' s2 a2 n2 c2 r) ∧ Ext w w' := by
  subst he; subst hq; subst hr
  by_cases h : b = 0
  · subst h
    refine (rdivmod_zero x y a w hx hy).mono ?_
    rintro e w' ⟨rfl, he⟩
    exact ⟨⟨_, _, _, _, _, _, _, _, rfl, by rw [Int.ediv_zero]; exact intW_zero w', by rw [remZ, if_pos rfl]; exact intW_zero w'⟩, he⟩
  · refine (rdivmod_any x y a b w hx hy ha hb h).mono ?_
    rintro e w' ⟨⟨_, _, rfl, ⟨s1, a1, n1, c1, rfl, h1⟩, ⟨s2, a2, n2, c2, rfl, h2⟩⟩, he⟩
    exact ⟨⟨_, _, _, _, _, _, _, _, by rw [errZ, if_neg h], h1, by rw [remZ, if_neg h]; exact h2⟩, he⟩
theorem bezout_z (x y : Value) (a b g u v : Int) (w : World) (hx : IntV w x a) (hy : IntV w y b) (ha : Fits a 1000) (hb : Fits b 1000) (hz : bz a b = (g, u, v)) :
    Calls Tryz.prog 35 #[x, y] w fun e' w' => (∃ s1 a1 n1 c1 s2 a2 n2 c2 s3 a3 n3 c3, e' = .returned (.tuple #[.agg #[.bool s1, .slice a1 n1 c1], .agg #[.bool s2, .slice a2 n2 c2], .agg #[.bool s3, .slice a3 n3 c3]]) ∧ IntW w' s1 a1 n1 c1 g ∧ IntW w' s2 a2 n2 c2 u ∧ IntW w' s3 a3 n3 c3 v) ∧ Ext w w' := by
  by_cases h : b = 0
  · subst h
    rw [bz_zero] at hz
    injection hz with h1 h2
    injection h2 with h2 h3
    subst h1; subst h2; subst h3
    refine (bezout_zero x y a w hx hy (ha.mono (by omega))).mono ?_
    rintro e w' ⟨⟨_, _, _, rfl, ⟨s1, a1, n1, c1, rfl, h1⟩, ⟨s2, a2, n2, c2, rfl, h2⟩, ⟨s3, a3, n3, c3, rfl, h3⟩⟩, he⟩
    exact ⟨⟨_, _, _, _, _, _, _, _, _, _, _, _, rfl, h1, h2, h3⟩, he⟩
  · refine (bezout_any x y a b w hx hy ha hb h).mono ?_
    rintro e w' ⟨⟨_, _, _, gi, ui, vi, rfl, ⟨s1, a1, n1, c1, rfl, h1⟩, ⟨s2, a2, n2, c2, rfl, h2⟩, ⟨s3, a3, n3, c3, rfl, h3⟩, hres⟩, he⟩
    rw [bz_is h hres] at hz
    injection hz with e1 e2
    injection e2 with e2 e3
    subst e1; subst e2; subst e3
    exact ⟨⟨_, _, _, _, _, _, _, _, _, _, _, _, rfl, h1, h2, h3⟩, he⟩
theorem Pow_z (x : Value) (a n e z : Int) (w : World) (hx : IntV w x a) (ha : Fits a 12) (he : powE n = e) (hz : powZ a n = z) :
    Calls Tryz.prog 26 #[x, .int .i64 n] w fun e' w' => (∃ s1 a1 n1 c1, e' = .returned (.tuple #[.agg #[.bool s1, .slice a1 n1 c1], .int .i64 e]) ∧ IntW w' s1 a1 n1 c1 z) ∧ Ext w w' := by
  subst he; subst hz
  by_cases h : n < 0 ∨ 4096 < n
  · refine (Pow_err x a n w hx h).mono ?_
    rintro e w' ⟨rfl, he⟩
    exact ⟨⟨_, _, _, _, by rw [powE, if_pos h], by rw [powZ, if_pos h]; exact intW_zero w'⟩, he⟩
  · obtain ⟨m, rfl⟩ := Int.eq_ofNat_of_zero_le (show 0 ≤ n by omega)
    refine (Pow_any x a m 12 w hx ha (by omega) (by omega)).mono ?_
    rintro e w' ⟨⟨_, rfl, ⟨s1, a1, n1, c1, rfl, h1⟩⟩, he⟩
    exact ⟨⟨_, _, _, _, by rw [powE, if_neg h], by rw [powZ, if_neg h, Int.toNat_natCast]; exact h1⟩, he⟩
theorem Root_z (x : Value) (a k e z : Int) (w : World) (hx : IntV w x a) (ha : Fits a 12) (hk : k < 9223372036854775808) (he : rootE a k = e) (hz : rootZ a k = z) :
    Calls Tryz.prog 27 #[x, .int .i64 k] w fun e' w' => (∃ s1 a1 n1 c1, e' = .returned (.tuple #[.agg #[.bool s1, .slice a1 n1 c1], .int .i64 e]) ∧ IntW w' s1 a1 n1 c1 z) ∧ Ext w w' := by
  subst he; subst hz
  by_cases h : a < 0 ∨ k < 1
  · refine (Root_err x a k w hx h).mono ?_
    rintro e w' ⟨rfl, he⟩
    exact ⟨⟨_, _, _, _, by rw [rootE, if_pos h], by rw [rootZ, if_pos h]; exact intW_zero w'⟩, he⟩
  · obtain ⟨m, rfl⟩ := Int.eq_ofNat_of_zero_le (show 0 ≤ k by omega)
    refine (Root_any x a m w hx (ha.mono (by omega)) (by omega) (by omega) (by omega)).mono ?_
    rintro e w' ⟨⟨_, r, rfl, ⟨s1, a1, n1, c1, rfl, h1⟩, hr⟩, he⟩
    rw [rootZ_is h (by rw [Int.toNat_natCast]; exact hr)]
    exact ⟨⟨_, _, _, _, by rw [rootE, if_neg h], h1⟩, he⟩
theorem rbezout_z (x y : Value) (a b g u v : Int) (w : World) (hx : IntV w x a) (hy : IntV w y b) (ha : Fits a 1000) (hb : Fits b 1000) (hz : bz a b = (g, u, v)) :
    Calls Tryz.prog 36 #[x, y] w fun e' w' => (∃ s1 a1 n1 c1 s2 a2 n2 c2 s3 a3 n3 c3, e' = .returned (.tuple #[.agg #[.bool s1, .slice a1 n1 c1], .agg #[.bool s2, .slice a2 n2 c2], .agg #[.bool s3, .slice a3 n3 c3]]) ∧ IntW w' s1 a1 n1 c1 g ∧ IntW w' s2 a2 n2 c2 u ∧ IntW w' s3 a3 n3 c3 v) ∧ Ext w w' := by
  by_cases h : b = 0
  · subst h
    rw [bz_zero] at hz
    injection hz with h1 h2
    injection h2 with h2 h3
    subst h1; subst h2; subst h3
    refine (rbezout_zero x y a w hx hy (ha.mono (by omega))).mono ?_
    rintro e w' ⟨⟨_, _, _, rfl, ⟨s1, a1, n1, c1, rfl, h1⟩, ⟨s2, a2, n2, c2, rfl, h2⟩, ⟨s3, a3, n3, c3, rfl, h3⟩⟩, he⟩
    exact ⟨⟨_, _, _, _, _, _, _, _, _, _, _, _, rfl, h1, h2, h3⟩, he⟩
  · refine (rbezout_some x y a b w hx hy ha hb h).mono ?_
    rintro e w' ⟨⟨_, _, _, gi, ui, vi, rfl, ⟨s1, a1, n1, c1, rfl, h1⟩, ⟨s2, a2, n2, c2, rfl, h2⟩, ⟨s3, a3, n3, c3, rfl, h3⟩, hres⟩, he⟩
    rw [bz_is h hres] at hz
    injection hz with e1 e2
    injection e2 with e2 e3
    subst e1; subst e2; subst e3
    exact ⟨⟨_, _, _, _, _, _, _, _, _, _, _, _, rfl, h1, h2, h3⟩, he⟩
theorem rPow_z (x : Value) (a n e z : Int) (w : World) (hx : IntV w x a) (ha : Fits a 12) (he : powE n = e) (hz : powZ a n = z) :
    Calls Tryz.prog 46 #[x, .int .i64 n] w fun e' w' => (∃ s1 a1 n1 c1, e' = .returned (.tuple #[.agg #[.bool s1, .slice a1 n1 c1], .int .i64 e]) ∧ IntW w' s1 a1 n1 c1 z) ∧ Ext w w' := by
  subst he; subst hz
  by_cases h : n < 0 ∨ 4096 < n
  · refine (rPow_err x a n w hx h).mono ?_
    rintro e w' ⟨rfl, he⟩
    exact ⟨⟨_, _, _, _, by rw [powE, if_pos h], by rw [powZ, if_pos h]; exact intW_zero w'⟩, he⟩
  · obtain ⟨m, rfl⟩ := Int.eq_ofNat_of_zero_le (show 0 ≤ n by omega)
    refine (rPow_any x a m 12 w hx ha (by omega) (by omega)).mono ?_
    rintro e w' ⟨⟨_, rfl, ⟨s1, a1, n1, c1, rfl, h1⟩⟩, he⟩
    exact ⟨⟨_, _, _, _, by rw [powE, if_neg h], by rw [powZ, if_neg h, Int.toNat_natCast]; exact h1⟩, he⟩
theorem rRoot_z (x : Value) (a k e z : Int) (w : World) (hx : IntV w x a) (ha : Fits a 12) (hk : k < 9223372036854775808) (he : rootE a k = e) (hz : rootZ a k = z) :
    Calls Tryz.prog 47 #[x, .int .i64 k] w fun e' w' => (∃ s1 a1 n1 c1, e' = .returned (.tuple #[.agg #[.bool s1, .slice a1 n1 c1], .int .i64 e]) ∧ IntW w' s1 a1 n1 c1 z) ∧ Ext w w' := by
  subst he; subst hz
  by_cases h : a < 0 ∨ k < 1
  · refine (rRoot_err x a k w hx h).mono ?_
    rintro e w' ⟨rfl, he⟩
    exact ⟨⟨_, _, _, _, by rw [rootE, if_pos h], by rw [rootZ, if_pos h]; exact intW_zero w'⟩, he⟩
  · obtain ⟨m, rfl⟩ := Int.eq_ofNat_of_zero_le (show 0 ≤ k by omega)
    refine (rRoot_any x a m w hx ha (by omega) (by omega)).mono ?_
    rintro e w' ⟨⟨_, r, rfl, ⟨s1, a1, n1, c1, rfl, h1⟩, hr⟩, he⟩
    rw [rootZ_is h (by rw [Int.toNat_natCast]; exact hr)]
    exact ⟨⟨_, _, _, _, by rw [rootE, if_neg h], h1⟩, he⟩
theorem rsign_is (x : Value) (a o : Int) (w : World) (hx : IntV w x a) (h : sgn a 0 = o) :
    Calls Tryz.prog 49 #[x] w fun e w' => e = .returned (.int .i64 o) ∧ Ext w w' := by
  subst h; exact rsign_any x a w hx
theorem bits_is (x : Value) (a : Int) (b : Nat) (w : World) (hx : IntV w x a) (ha : Fits a 12) (h : blen a.natAbs = b) :
    Calls Tryz.prog 33 #[x] w fun e w' => e = .returned (.int .i64 b) ∧ Ext w w' := by
  subst h; exact bits_any x a w hx (ha.mono (by omega))
theorem rbits_is (x : Value) (a : Int) (b : Nat) (w : World) (hx : IntV w x a) (ha : Fits a 12) (h : blen a.natAbs = b) :
    Calls Tryz.prog 45 #[x] w fun e w' => e = .returned (.int .i64 b) ∧ Ext w w' := by
  subst h; exact rbits_any x a w hx (ha.mono (by omega))
theorem text_t (x : Value) (a : Int) (T : List UInt8) (w : World) (hx : IntV w x a) (hf : Fits a 12) (h : textL a = T) :
    Calls Tryz.prog 28 #[x] w fun e w' => e = .returned (.string ⟨T.toArray⟩) ∧ Ext w w' := by
  subst h; exact text_any x a w hx (hf.mono (by omega))
theorem rtext_t (x : Value) (a : Int) (T : List UInt8) (w : World) (hx : IntV w x a) (hf : Fits a 12) (h : textL a = T) :
    Calls Tryz.prog 82 #[x] w fun e w' => e = .returned (.string ⟨T.toArray⟩) ∧ Ext w w' := by
  subst h; exact rtext_any x a w hx (hf.mono (by omega))
theorem small_is (x : Value) (a n : Int) (b : Bool) (w : World) (hx : IntV w x a) (h : smallOf a = (.int .i64 n, .bool b)) :
    Calls Tryz.prog 32 #[x] w fun e w' => e = .returned (.tuple #[.int .i64 n, .bool b]) ∧ Ext w w' := by
  have := small_any x a w hx
  rw [h] at this; exact this
theorem rsmall_is (x : Value) (a n : Int) (b : Bool) (w : World) (hx : IntV w x a) (h : smallOf a = (.int .i64 n, .bool b)) :
    Calls Tryz.prog 80 #[x] w fun e w' => e = .returned (.tuple #[.int .i64 n, .bool b]) ∧ Ext w w' := by
  have := rsmall_any x a w hx
  rw [h] at this; exact this
theorem small_pair (a : Int) : ∃ n b, smallOf a = (.int .i64 n, .bool b) := by
  unfold smallOf; split
  · exact ⟨_, _, rfl⟩
  · exact ⟨_, _, rfl⟩
set_option maxRecDepth 100000 in
set_option maxHeartbeats 8000000 in
/-- numbers -/
theorem numbers_true (s0 : Bool) (a0 : Option Addr) (n0 c0 : Nat) (a : Int) (w : World) (hx : IntV w (.agg #[.bool s0, .slice a0 n0 c0]) a) (hf : Fits a 12) :
    Calls Tryz.prog 40 #[.agg #[.bool s0, .slice a0 n0 c0]] w fun e w' => e = .returned (.bool true) ∧ Ext w w' := by
  have HX := Lib.hid hx
  have HF := Lib.hid hf
  clear hx hf
  obtain ⟨n, fb, hs⟩ := small_pair a
  have HS := Lib.hid hs
  clear hs
  obtain ⟨sg, hsg⟩ : ∃ sg, sgn a 0 = sg := ⟨_, rfl⟩
  have HSG := Lib.hid hsg
  clear hsg
  obtain ⟨bl, hbl⟩ : ∃ bl, blen a.natAbs = bl := ⟨_, rfl⟩
  have HBL := Lib.hid hbl
  clear hbl
  obtain ⟨T, hT⟩ : ∃ T, textL a = T := ⟨_, rfl⟩
  have HT := Lib.hid hT
  clear hT
  have z1 : (n == n) = true := by simp
  have z2 : (sg == sg) = true := by simp
  have z3 : (T == T) = true := by simp
  have z4 : (fb == fb) = true := by simp
  have z5 : ((bl : Int) == bl) = true := by simp
  obtain ⟨B0, w0, hB0, hw0, hr0, x0⟩ := one w 24 [.bool s0, .slice a0 n0 c0]
  have KB1 : Hid (∀ W, Ext w0 W → W.cell? ⟨B0, 0, none⟩ = some (.bool s0) ∧ W.cell? ⟨B0, 1, none⟩ = some (.slice a0 n0 c0)) := Lib.hid fun W h => ⟨h.cell (hr0.cell (i := 0) rfl), h.cell (hr0.cell (i := 1) rfl)⟩
  have hq0 := hw0.symm
  have hp0 := hB0.symm
  clear hr0 hw0 hB0
  obtain ⟨cc1_0_1, cc1_1_1⟩ := KB1.out w0 (Ext.refl _)
  go_enter Tryz.func40, Tryz.ntmps40
  go_wp2_with fail
  clear hq0 hp0 cc1_0_1 cc1_1_1
  refine (small_is _ a n fb _ (HX.out.ext x0) HS.out).mono ?_
  rintro e w2 ⟨rfl, x2⟩
  obtain ⟨cc1_0_4, cc1_1_4⟩ := KB1.out w2 x2
  go_wp2_with fail
  clear cc1_0_4 cc1_1_4
  refine (rsmall_is _ a n fb _ (HX.out.ext (x0.trans x2)) HS.out).mono ?_
  rintro e w3 ⟨rfl, x3⟩
  have KX5 : Hid (∀ w', Ext w3 w' → w'.cell? ⟨B0, 0, none⟩ = some (.bool s0) ∧ w'.cell? ⟨B0, 1, none⟩ = some (.slice a0 n0 c0)) := Lib.hid fun w' h => by
    have q1 := KB1.out w' ((x2.trans x3).trans h)
    exact ⟨q1.1, q1.2⟩
  go_wp2_with fail
  have hz5 := Below.drewExt w3
  go_region_held3
    (fun w' => w'.cell? ⟨B0, 0, none⟩ = some (.bool s0) ∧ w'.cell? ⟨B0, 1, none⟩ = some (.slice a0 n0 c0))
    (with_reducible exact KX5.out _ (by assumption))
    (first
    | (go_at_call 24; (with_reducible refine (sign_is _ a sg _ (HX.out.ext (((x0.trans x2).trans x3).trans hz5)) HSG.out).mono ?_); rintro e w6 ⟨rfl, x6⟩; have hz6 := hz5.trans x6)
    | (go_at_call 49; (with_reducible refine (rsign_is _ a sg _ (HX.out.ext ((((x0.trans x2).trans x3).trans hz5).trans x6)) HSG.out).mono ?_); rintro e w7 ⟨rfl, x7⟩; have hz7 := hz6.trans x7)
    | (go_at_call 22; (with_reducible refine (neg_any _ a _ (HX.out.ext (((((x0.trans x2).trans x3).trans hz5).trans x6).trans x7)) (HF.out.mono (by omega))).mono ?_); rintro e w8 ⟨⟨v8_0, rfl, hv8_0⟩, x8⟩; have hz8 := hz7.trans x8)
    | (go_at_call 81; (with_reducible refine (rneg_any _ a _ (HX.out.ext ((((((x0.trans x2).trans x3).trans hz5).trans x6).trans x7).trans x8)) (HF.out.mono (by omega))).mono ?_); rintro e w9 ⟨⟨v9_0, rfl, hv9_0⟩, x9⟩; have hz9 := hz8.trans x9)
    | (go_at_call 21; (with_reducible refine (same_eq _ _ (-a) (-a) _ (hv8_0.ext x9) hv9_0 (Eq.refl _)).mono ?_); rintro e w10 ⟨rfl, x10⟩; have hz10 := hz9.trans x10)
    | (go_at_call 33; (with_reducible refine (bits_is _ a bl _ (HX.out.ext ((((((((x0.trans x2).trans x3).trans hz5).trans x6).trans x7).trans x8).trans x9).trans x10)) HF.out HBL.out).mono ?_); rintro e w11 ⟨rfl, x11⟩; have hz11 := hz10.trans x11)
    | (go_at_call 45; (with_reducible refine (rbits_is _ a bl _ (HX.out.ext (((((((((x0.trans x2).trans x3).trans hz5).trans x6).trans x7).trans x8).trans x9).trans x10).trans x11)) HF.out HBL.out).mono ?_); rintro e w12 ⟨rfl, x12⟩; have hz12 := hz11.trans x12)
    | (go_at_call 28; (with_reducible refine (text_t _ a T _ (HX.out.ext ((((((((((x0.trans x2).trans x3).trans hz5).trans x6).trans x7).trans x8).trans x9).trans x10).trans x11).trans x12)) HF.out HT.out).mono ?_); rintro e w13 ⟨rfl, x13⟩; have hz13 := hz12.trans x13)
    | (go_at_call 82; (with_reducible refine (rtext_t _ a T _ (HX.out.ext (((((((((((x0.trans x2).trans x3).trans hz5).trans x6).trans x7).trans x8).trans x9).trans x10).trans x11).trans x12).trans x13)) HF.out HT.out).mono ?_); rintro e w14 ⟨rfl, x14⟩; have hz14 := hz13.trans x14)
    )
  clear KX5
  go_wp2_with fail
  go_ret
  exact ⟨rfl, ((((((((((((x0.trans x2).trans x3).trans hz5).trans x6).trans x7).trans x8).trans x9).trans x10).trans x11).trans x12).trans x13).trans x14)⟩
set_option maxRecDepth 100000 in
set_option maxHeartbeats 8000000 in
theorem same3_true (s0 : Bool) (a0 : Option Addr) (n0 c0 : Nat) (s1 : Bool) (a1 : Option Addr) (n1 c1 : Nat) (s2 : Bool) (a2 : Option Addr) (n2 c2 : Nat) (s3 : Bool) (a3 : Option Addr) (n3 c3 : Nat) (s4 : Bool) (a4 : Option Addr) (n4 c4 : Nat) (s5 : Bool) (a5 : Option Addr) (n5 c5 : Nat) (g u v : Int) (w : World) (h0 : IntV w (.agg #[.bool s0, .slice a0 n0 c0]) g) (h1 : IntV w (.agg #[.bool s1, .slice a1 n1 c1]) u) (h2 : IntV w (.agg #[.bool s2, .slice a2 n2 c2]) v) (h3 : IntV w (.agg #[.bool s3, .slice a3 n3 c3]) g) (h4 : IntV w (.agg #[.bool s4, .slice a4 n4 c4]) u) (h5 : IntV w (.agg #[.bool s5, .slice a5 n5 c5]) v) :
    Calls Tryz.prog 37 #[.agg #[.bool s0, .slice a0 n0 c0], .agg #[.bool s1, .slice a1 n1 c1], .agg #[.bool s2, .slice a2 n2 c2], .agg #[.bool s3, .slice a3 n3 c3], .agg #[.bool s4, .slice a4 n4 c4], .agg #[.bool s5, .slice a5 n5 c5]] w fun e w' => e = .returned (.bool true) ∧ Ext w w' := by
  have H0 := Lib.hid h0
  have H1 := Lib.hid h1
  have H2 := Lib.hid h2
  have H3 := Lib.hid h3
  have H4 := Lib.hid h4
  have H5 := Lib.hid h5
  clear h0 h1 h2 h3 h4 h5
  obtain ⟨D1, wb1, hD1, hw1, hr0, hr1, hr2, xb1⟩ := three w 24 24 24 [.bool s0, .slice a0 n0 c0] [.bool s1, .slice a1 n1 c1] [.bool s2, .slice a2 n2 c2]
  have KB6 : Hid (∀ W, Ext wb1 W → W.cell? ⟨D1, 0, none⟩ = some (.bool s0) ∧ W.cell? ⟨D1, 1, none⟩ = some (.slice a0 n0 c0)) := Lib.hid fun W h => ⟨h.cell (hr0.cell (i := 0) rfl), h.cell (hr0.cell (i := 1) rfl)⟩
  have KB7 : Hid (∀ W, Ext wb1 W → W.cell? ⟨D1 + 1, 0, none⟩ = some (.bool s1) ∧ W.cell? ⟨D1 + 1, 1, none⟩ = some (.slice a1 n1 c1)) := Lib.hid fun W h => ⟨h.cell (hr1.cell (i := 0) rfl), h.cell (hr1.cell (i := 1) rfl)⟩
  have KB8 : Hid (∀ W, Ext wb1 W → W.cell? ⟨D1 + 1 + 1, 0, none⟩ = some (.bool s2) ∧ W.cell? ⟨D1 + 1 + 1, 1, none⟩ = some (.slice a2 n2 c2)) := Lib.hid fun W h => ⟨h.cell (hr2.cell (i := 0) rfl), h.cell (hr2.cell (i := 1) rfl)⟩
  have hq1 := hw1.symm
  have hp1 := hD1.symm
  clear hw1 hD1 hr0 hr1 hr2
  obtain ⟨D2, wb2, hD2, hw2, hr3, hr4, hr5, xb2⟩ := three wb1 24 24 24 [.bool s3, .slice a3 n3 c3] [.bool s4, .slice a4 n4 c4] [.bool s5, .slice a5 n5 c5]
  have KB9 : Hid (∀ W, Ext wb2 W → W.cell? ⟨D2, 0, none⟩ = some (.bool s3) ∧ W.cell? ⟨D2, 1, none⟩ = some (.slice a3 n3 c3)) := Lib.hid fun W h => ⟨h.cell (hr3.cell (i := 0) rfl), h.cell (hr3.cell (i := 1) rfl)⟩
  have KB10 : Hid (∀ W, Ext wb2 W → W.cell? ⟨D2 + 1, 0, none⟩ = some (.bool s4) ∧ W.cell? ⟨D2 + 1, 1, none⟩ = some (.slice a4 n4 c4)) := Lib.hid fun W h => ⟨h.cell (hr4.cell (i := 0) rfl), h.cell (hr4.cell (i := 1) rfl)⟩
  have KB11 : Hid (∀ W, Ext wb2 W → W.cell? ⟨D2 + 1 + 1, 0, none⟩ = some (.bool s5) ∧ W.cell? ⟨D2 + 1 + 1, 1, none⟩ = some (.slice a5 n5 c5)) := Lib.hid fun W h => ⟨h.cell (hr5.cell (i := 0) rfl), h.cell (hr5.cell (i := 1) rfl)⟩
  have hq2 := hw2.symm
  have hp2 := hD2.symm
  clear hw2 hD2 hr3 hr4 hr5
  obtain ⟨cc6_0_3, cc6_1_3⟩ := KB6.out wb2 xb2
  obtain ⟨cc7_0_4, cc7_1_4⟩ := KB7.out wb2 xb2
  obtain ⟨cc8_0_5, cc8_1_5⟩ := KB8.out wb2 xb2
  obtain ⟨cc9_0_6, cc9_1_6⟩ := KB9.out wb2 (Ext.refl _)
  obtain ⟨cc10_0_7, cc10_1_7⟩ := KB10.out wb2 (Ext.refl _)
  obtain ⟨cc11_0_8, cc11_1_8⟩ := KB11.out wb2 (Ext.refl _)
  go_enter Tryz.func37, Tryz.ntmps37
  go_wp2_with fail
  clear hq1 hp1 hq2 hp2 cc6_0_3 cc6_1_3 cc7_0_4 cc7_1_4 cc8_0_5 cc8_1_5 cc9_0_6 cc9_1_6 cc10_0_7 cc10_1_7 cc11_0_8 cc11_1_8
  refine (same_eq _ _ g g _ (H0.out.ext (xb1.trans xb2)) (H3.out.ext (xb1.trans xb2)) rfl).mono ?_
  rintro e w9 ⟨rfl, x9⟩
  obtain ⟨cc7_0_11, cc7_1_11⟩ := KB7.out w9 (xb2.trans x9)
  obtain ⟨cc10_0_12, cc10_1_12⟩ := KB10.out w9 x9
  go_wp2_with fail
  clear cc7_0_11 cc7_1_11 cc10_0_12 cc10_1_12
  refine (same_eq _ _ (u) (u) _ (H1.out.ext ((xb1.trans xb2).trans x9)) (H4.out.ext ((xb1.trans xb2).trans x9)) rfl).mono ?_
  rintro e w10 ⟨rfl, x10⟩
  obtain ⟨cc8_0_14, cc8_1_14⟩ := KB8.out w10 ((xb2.trans x9).trans x10)
  obtain ⟨cc11_0_15, cc11_1_15⟩ := KB11.out w10 (x9.trans x10)
  go_wp2_with fail
  clear cc8_0_14 cc8_1_14 cc11_0_15 cc11_1_15
  refine (same_eq _ _ (v) (v) _ (H2.out.ext (((xb1.trans xb2).trans x9).trans x10)) (H5.out.ext (((xb1.trans xb2).trans x9).trans x10)) rfl).mono ?_
  rintro e w13 ⟨rfl, x13⟩
  go_wp2_with fail
  go_ret
  exact ⟨rfl, ((((xb1.trans xb2).trans x9).trans x10).trans x13)⟩
end Go.Proofs.YtddcgojpgdhefaaGreatDoor
