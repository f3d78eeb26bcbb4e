/- The law IntegerCanonical, walked. -/
import Derived.Test.YtddcgojpgdhefaaGreatDoorLawLib
namespace Go.Proofs.YtddcgojpgdhefaaGreatDoor
open Go.RowKit Go.El
set_option linter.unusedVariables false
theorem valid_is (na : Bool) (ax : Option Addr) (nx cx : Nat) (l : List Int) (v : Bool) (w : World) (hw : Words w ax nx cx l) (h : validB na l = v) :
    Calls Tryz.prog 15 #[.agg #[.bool na, .slice ax nx cx]] w fun e w' => e = .returned (.bool v) ∧ Ext w w' := by
  subst h; exact valid_raw na ax nx cx l w hw
theorem canon_val {w : World} {na : Bool} {a : Option Addr} {n c : Nat} {l : List Int} (h : Words w a n c l) (hv : validB na l = true) : IntW w na a n c (if na then - val l else val l) := by
  have h0 := val_nonneg h.wf
  have hd : digs (val l) = l ∧ (na = true → val l ≠ 0) := by
    cases l with
    | nil =>
      rw [validB_nil] at hv
      refine ⟨by rw [show val [] = 0 from rfl, digs_zero], fun e => ?_⟩
      rw [e] at hv; cases hv
    | cons x xs =>
      rw [validB_cons (by simp)] at hv
      have ht := take_digs (l := x :: xs) h.wf (Nat.le_refl _) (fun i hi => getD_ge hi) (Or.inr (by simpa using hv))
      rw [List.take_of_length_le (Nat.le_refl _)] at ht
      refine ⟨ht.symm, fun _ e => ?_⟩
      rw [e, digs_zero] at ht
      cases ht
  refine ⟨?_, ?_⟩
  · cases na
    · simp; exact h0
    · have := hd.2 rfl; simp; omega
  · have : ((if na = true then - val l else val l).natAbs : Int) = val l := by cases na <;> simp <;> omega
    rw [this, hd.1]; exact h
theorem intV_W {w : World} {s : Bool} {a : Option Addr} {n c : Nat} {z : Int} (h : IntV w (.agg #[.bool s, .slice a n c]) z) : IntW w s a n c z := by
  obtain ⟨s', a', n', c', e, hi⟩ := h
  cases e
  exact hi
theorem sgn_ne {a b : Int} (h : a ≠ b) : (sgn a b == 0) = false := by
  rcases sgn_cases a b with ⟨_, e⟩ | ⟨k, e⟩ | ⟨_, e⟩
  · rw [e]; rfl
  · exact absurd k h
  · rw [e]; rfl
theorem run_max_m (m : Nat) (w' : World) : (Builtin.max_ #[3, 3] 3 #[.int .i64 (m : Int), .int .i64 0]).run Tryz.prog w' = .ok (.int .i64 (m : Int)) w' := by
  have := run_max_int (P := Tryz.prog) #[3, 3] 3 m 0 w'
  simpa using this
set_option maxRecDepth 100000 in
set_option maxHeartbeats 8000000 in
theorem canon_big (na : Bool) (aa : Option Addr) (ka : Nat) (ca : Nat) (la : List Int) (ny : Bool) (ay : Option Addr) (ky cy : Nat) (ly : List Int) (b : Int) (eb : b = rawZ ny ly 40) (w : World) (hx : Words w aa ka ca la) (hy : Words w ay ky cy ly) (hk : 40 < ka) :
    Calls Tryz.prog 3 #[.agg #[.bool na, .slice aa ka ca], .agg #[.bool ny, .slice ay ky cy]] w fun e w' => e = .returned (.bool true) ∧ Ext w w' := by
  have hk2 : (40 : Int) < (ka : Int) := by omega
  have E_b := Lib.hid eb
  have HWa := Lib.hid hx
  have HWy := Lib.hid hy
  clear eb hx hy
  obtain ⟨B0, w0, hB0, hw0, hr0, hr1, x0⟩ := two w 24 25 [.bool na, .slice aa ka ca] [.bool ny, .slice ay ky cy]
  have KB2 : Hid (∀ W, Ext w0 W → W.cell? ⟨B0, 0, none⟩ = some (.bool na) ∧ W.cell? ⟨B0, 1, none⟩ = some (.slice aa ka ca)) := Lib.hid fun W h => ⟨h.cell (hr0.cell (i := 0) rfl), h.cell (hr0.cell (i := 1) rfl)⟩
  have KB3 : Hid (∀ W, Ext w0 W → W.cell? ⟨B0 + 1, 0, none⟩ = some (.bool ny) ∧ W.cell? ⟨B0 + 1, 1, none⟩ = some (.slice ay ky cy)) := Lib.hid fun W h => ⟨h.cell (hr1.cell (i := 0) rfl), h.cell (hr1.cell (i := 1) rfl)⟩
  clear hr0 hr1
  go_enter Tryz.func3, Tryz.ntmps3
  go_wp2_with fail
  rw [← hw0, ← hB0]
  clear hw0 hB0
  refine (sanity_any _).mono ?_
  rintro e ws ⟨rfl, xs⟩
  obtain ⟨cc2_0_1, cc2_1_1⟩ := KB2.out ws xs
  go_wp2_with fail
  clear cc2_0_1 cc2_1_1
  go_ret
  exact ⟨rfl, (x0.trans xs)⟩
set_option maxRecDepth 100000 in
set_option maxHeartbeats 8000000 in
theorem canon_bad0 (aa : Option Addr) (ca : Nat) (la : List Int) (ny : Bool) (ay : Option Addr) (ky cy : Nat) (ly : List Int) (b : Int) (eb : b = rawZ ny ly 40) (w : World) (hx : Words w aa 0 ca la) (hy : Words w ay ky cy ly) (hval : validB true la = false)  :
    Calls Tryz.prog 3 #[.agg #[.bool true, .slice aa 0 ca], .agg #[.bool ny, .slice ay ky cy]] w fun e w' => e = .returned (.bool true) ∧ Ext w w' := by
  have HVA : Hid (validB true la = false) := Lib.hid hval
  clear hval
  have E_b := Lib.hid eb
  have HWa := Lib.hid hx
  have HWy := Lib.hid hy
  clear eb hx hy
  obtain ⟨B0, w0, hB0, hw0, hr0, hr1, x0⟩ := two w 24 25 [.bool true, .slice aa 0 ca] [.bool ny, .slice ay ky cy]
  have HF1 : Hid (Fits (b) 40) := Lib.hid (by rw [E_b.out]; exact fits_raw (HWy.out.wf) (by omega))
  have KB2 : Hid (∀ W, Ext w0 W → W.cell? ⟨B0, 0, none⟩ = some (.bool true) ∧ W.cell? ⟨B0, 1, none⟩ = some (.slice aa 0 ca)) := Lib.hid fun W h => ⟨h.cell (hr0.cell (i := 0) rfl), h.cell (hr0.cell (i := 1) rfl)⟩
  have KB3 : Hid (∀ W, Ext w0 W → W.cell? ⟨B0 + 1, 0, none⟩ = some (.bool ny) ∧ W.cell? ⟨B0 + 1, 1, none⟩ = some (.slice ay ky cy)) := Lib.hid fun W h => ⟨h.cell (hr1.cell (i := 0) rfl), h.cell (hr1.cell (i := 1) rfl)⟩
  clear hr0 hr1
  go_enter Tryz.func3, Tryz.ntmps3
  go_wp2_with fail
  rw [← hw0, ← hB0]
  clear hw0 hB0
  refine (sanity_any _).mono ?_
  rintro e ws ⟨rfl, xs⟩
  obtain ⟨cc2_0_3, cc2_1_3⟩ := KB2.out ws xs
  obtain ⟨cc3_0_4, cc3_1_4⟩ := KB3.out ws xs
  go_wp2_with fail
  clear cc2_0_3 cc2_1_3 cc3_0_4 cc3_1_4
  refine (Made_any ny ay ky cy ly 40 b _ (HWy.out.ext (x0.trans xs)) (by omega) E_b.out).mono ?_
  rintro e w2 ⟨⟨v2_0, rfl, ⟨s2_0, a2_0, n2_0, c2_0, rfl, hi2_0⟩⟩, x2⟩
  have HV2_0 : Hid (IntV w2 (.agg #[.bool s2_0, .slice a2_0 n2_0 c2_0]) (b)) := Lib.hid ⟨_, _, _, _, rfl, hi2_0⟩
  clear hi2_0
  obtain ⟨D5, wb5, hD5, hw5, hb5_0, xb5⟩ := one w2 24 [.bool s2_0, .slice a2_0 n2_0 c2_0]
  have KB8 : Hid (∀ W, Ext wb5 W → W.cell? ⟨D5, 0, none⟩ = some (.bool s2_0) ∧ W.cell? ⟨D5, 1, none⟩ = some (.slice a2_0 n2_0 c2_0)) := Lib.hid fun W h => ⟨h.cell (hb5_0.cell (i := 0) rfl), h.cell (hb5_0.cell (i := 1) rfl)⟩
  clear hb5_0
  obtain ⟨cc2_0_7, cc2_1_7⟩ := KB2.out wb5 ((xs.trans x2).trans xb5)
  have hq5 := hw5.symm
  have hp5 := hD5.symm
  clear hw5 hD5
  go_wp2_with fail
  clear hq5 hp5
  clear cc2_0_7 cc2_1_7
  refine (valid_is true aa 0 ca la false _ (HWa.out.ext (((x0.trans xs).trans x2).trans xb5)) HVA.out).mono ?_
  rintro e w6 ⟨rfl, x6⟩
  obtain ⟨cc8_0_9, cc8_1_9⟩ := KB8.out w6 x6
  go_wp2_with fail
  clear cc8_0_9 cc8_1_9
  refine (valid_any _ (b) _ (HV2_0.out.ext (xb5.trans x6))).mono ?_
  rintro e w8 ⟨rfl, x8⟩
  go_wp2_with fail
  go_ret
  exact ⟨rfl, (((((x0.trans xs).trans x2).trans xb5).trans x6).trans x8)⟩
set_option maxRecDepth 100000 in
set_option maxHeartbeats 8000000 in
theorem canon_bad (na : Bool) (bz oz : Nat) (m : Nat) (ca : Nat) (la : List Int) (ny : Bool) (ay : Option Addr) (ky cy : Nat) (ly : List Int) (b : Int) (eb : b = rawZ ny ly 40) (w : World) (hx : Words w (some ⟨bz, oz, none⟩) (m + 1) ca la) (hy : Words w ay ky cy ly) (hval : validB na la = false) (hm : m + 1 ≤ 40) (z : Int) (hz : z = la.getD m 0) (hz0 : (z != 0) = false) :
    Calls Tryz.prog 3 #[.agg #[.bool na, .slice (some ⟨bz, oz, none⟩) (m + 1) ca], .agg #[.bool ny, .slice ay ky cy]] w fun e w' => e = .returned (.bool true) ∧ Ext w w' := by
  have HZE := Lib.hid hz
  clear hz
  have HVA : Hid (validB na la = false) := Lib.hid hval
  clear hval
  have E_b := Lib.hid eb
  have HWa := Lib.hid hx
  have HWy := Lib.hid hy
  clear eb hx hy
  obtain ⟨B0, w0, hB0, hw0, hr0, hr1, x0⟩ := two w 24 25 [.bool na, .slice (some ⟨bz, oz, none⟩) (m + 1) ca] [.bool ny, .slice ay ky cy]
  have HF1 : Hid (Fits (b) 40) := Lib.hid (by rw [E_b.out]; exact fits_raw (HWy.out.wf) (by omega))
  have KB2 : Hid (∀ W, Ext w0 W → W.cell? ⟨B0, 0, none⟩ = some (.bool na) ∧ W.cell? ⟨B0, 1, none⟩ = some (.slice (some ⟨bz, oz, none⟩) (m + 1) ca)) := Lib.hid fun W h => ⟨h.cell (hr0.cell (i := 0) rfl), h.cell (hr0.cell (i := 1) rfl)⟩
  have KB3 : Hid (∀ W, Ext w0 W → W.cell? ⟨B0 + 1, 0, none⟩ = some (.bool ny) ∧ W.cell? ⟨B0 + 1, 1, none⟩ = some (.slice ay ky cy)) := Lib.hid fun W h => ⟨h.cell (hr1.cell (i := 0) rfl), h.cell (hr1.cell (i := 1) rfl)⟩
  clear hr0 hr1
  go_enter Tryz.func3, Tryz.ntmps3
  go_wp2_with fail
  rw [← hw0, ← hB0]
  clear hw0 hB0
  refine (sanity_any _).mono ?_
  rintro e ws ⟨rfl, xs⟩
  have hcw := (HWa.out.ext (x0.trans xs)).cells m z (by rw [HZE.out, List.getD, List.getElem?_eq_getElem (by rw [HWa.out.hlen]; omega)]; simp)
  obtain ⟨b1, o1, haa, hcz⟩ := hcw
  cases haa
  have hmx := run_max_m m
  have hn0 : (((m + 1 : Nat) : Int) == 0) = false := by simp; omega
  have hn1 : ((m : Int) + 1 == 0) = false := by simp; omega
  have hn2 : (m : Int) + 1 ≤ 40 := by omega
  obtain ⟨cc2_0_3, cc2_1_3⟩ := KB2.out ws xs
  obtain ⟨cc3_0_4, cc3_1_4⟩ := KB3.out ws xs
  go_wp2_with fail
  clear cc2_0_3 cc2_1_3 cc3_0_4 cc3_1_4
  refine (Made_any ny ay ky cy ly 40 b _ (HWy.out.ext (x0.trans xs)) (by omega) E_b.out).mono ?_
  rintro e w2 ⟨⟨v2_0, rfl, ⟨s2_0, a2_0, n2_0, c2_0, rfl, hi2_0⟩⟩, x2⟩
  have HV2_0 : Hid (IntV w2 (.agg #[.bool s2_0, .slice a2_0 n2_0 c2_0]) (b)) := Lib.hid ⟨_, _, _, _, rfl, hi2_0⟩
  clear hi2_0
  obtain ⟨D5, wb5, hD5, hw5, hb5_0, xb5⟩ := one w2 24 [.bool s2_0, .slice a2_0 n2_0 c2_0]
  have KB8 : Hid (∀ W, Ext wb5 W → W.cell? ⟨D5, 0, none⟩ = some (.bool s2_0) ∧ W.cell? ⟨D5, 1, none⟩ = some (.slice a2_0 n2_0 c2_0)) := Lib.hid fun W h => ⟨h.cell (hb5_0.cell (i := 0) rfl), h.cell (hb5_0.cell (i := 1) rfl)⟩
  clear hb5_0
  obtain ⟨cc2_0_7, cc2_1_7⟩ := KB2.out wb5 ((xs.trans x2).trans xb5)
  have hq5 := hw5.symm
  have hp5 := hD5.symm
  clear hw5 hD5
  go_wp2_with fail
  clear hq5 hp5
  clear cc2_0_7 cc2_1_7
  refine (valid_is na (some ⟨bz, oz, none⟩) (m + 1) ca la false _ (HWa.out.ext (((x0.trans xs).trans x2).trans xb5)) HVA.out).mono ?_
  rintro e w6 ⟨rfl, x6⟩
  obtain ⟨cc8_0_9, cc8_1_9⟩ := KB8.out w6 x6
  go_wp2_with fail
  clear cc8_0_9 cc8_1_9
  refine (valid_any _ (b) _ (HV2_0.out.ext (xb5.trans x6))).mono ?_
  rintro e w8 ⟨rfl, x8⟩
  go_wp2_with fail
  go_ret
  exact ⟨rfl, (((((x0.trans xs).trans x2).trans xb5).trans x6).trans x8)⟩
set_option maxRecDepth 100000 in
set_option maxHeartbeats 8000000 in
theorem canon_ok0 (aa : Option Addr) (ca : Nat) (la : List Int) (ny : Bool) (ay : Option Addr) (ky cy : Nat) (ly : List Int) (b : Int) (eb : b = rawZ ny ly 40) (w : World) (hx : Words w aa 0 ca la) (hy : Words w ay ky cy ly) (hval : validB false la = true) (A : Int) (hA : A = if false then - val la else val la)  :
    Calls Tryz.prog 3 #[.agg #[.bool false, .slice aa 0 ca], .agg #[.bool ny, .slice ay ky cy]] w fun e w' => e = .returned (.bool true) ∧ Ext w w' := by
  have HEA := Lib.hid hA
  clear hA
  have HVA : Hid (validB false la = true) := Lib.hid hval
  clear hval
  have E_b := Lib.hid eb
  have HWa := Lib.hid hx
  have HWy := Lib.hid hy
  clear eb hx hy
  obtain ⟨B0, w0, hB0, hw0, hr0, hr1, x0⟩ := two w 24 25 [.bool false, .slice aa 0 ca] [.bool ny, .slice ay ky cy]
  have HF1 : Hid (Fits (b) 40) := Lib.hid (by rw [E_b.out]; exact fits_raw (HWy.out.wf) (by omega))
  have KB2 : Hid (∀ W, Ext w0 W → W.cell? ⟨B0, 0, none⟩ = some (.bool false) ∧ W.cell? ⟨B0, 1, none⟩ = some (.slice aa 0 ca)) := Lib.hid fun W h => ⟨h.cell (hr0.cell (i := 0) rfl), h.cell (hr0.cell (i := 1) rfl)⟩
  have KB3 : Hid (∀ W, Ext w0 W → W.cell? ⟨B0 + 1, 0, none⟩ = some (.bool ny) ∧ W.cell? ⟨B0 + 1, 1, none⟩ = some (.slice ay ky cy)) := Lib.hid fun W h => ⟨h.cell (hr1.cell (i := 0) rfl), h.cell (hr1.cell (i := 1) rfl)⟩
  clear hr0 hr1
  go_enter Tryz.func3, Tryz.ntmps3
  go_wp2_with fail
  rw [← hw0, ← hB0]
  clear hw0 hB0
  refine (sanity_any _).mono ?_
  rintro e ws ⟨rfl, xs⟩
  obtain ⟨cc2_0_3, cc2_1_3⟩ := KB2.out ws xs
  obtain ⟨cc3_0_4, cc3_1_4⟩ := KB3.out ws xs
  go_wp2_with fail
  clear cc2_0_3 cc2_1_3 cc3_0_4 cc3_1_4
  refine (Made_any ny ay ky cy ly 40 b _ (HWy.out.ext (x0.trans xs)) (by omega) E_b.out).mono ?_
  rintro e w2 ⟨⟨v2_0, rfl, ⟨s2_0, a2_0, n2_0, c2_0, rfl, hi2_0⟩⟩, x2⟩
  have HV2_0 : Hid (IntV w2 (.agg #[.bool s2_0, .slice a2_0 n2_0 c2_0]) (b)) := Lib.hid ⟨_, _, _, _, rfl, hi2_0⟩
  clear hi2_0
  obtain ⟨D5, wb5, hD5, hw5, hb5_0, xb5⟩ := one w2 24 [.bool s2_0, .slice a2_0 n2_0 c2_0]
  have KB8 : Hid (∀ W, Ext wb5 W → W.cell? ⟨D5, 0, none⟩ = some (.bool s2_0) ∧ W.cell? ⟨D5, 1, none⟩ = some (.slice a2_0 n2_0 c2_0)) := Lib.hid fun W h => ⟨h.cell (hb5_0.cell (i := 0) rfl), h.cell (hb5_0.cell (i := 1) rfl)⟩
  clear hb5_0
  obtain ⟨cc2_0_7, cc2_1_7⟩ := KB2.out wb5 ((xs.trans x2).trans xb5)
  have hq5 := hw5.symm
  have hp5 := hD5.symm
  clear hw5 hD5
  go_wp2_with fail
  clear hq5 hp5
  clear cc2_0_7 cc2_1_7
  refine (valid_is false aa 0 ca la true _ (HWa.out.ext (((x0.trans xs).trans x2).trans xb5)) HVA.out).mono ?_
  rintro e w6 ⟨rfl, x6⟩
  obtain ⟨cc8_0_9, cc8_1_9⟩ := KB8.out w6 x6
  go_wp2_with fail
  clear cc8_0_9 cc8_1_9
  refine (valid_any _ (b) _ (HV2_0.out.ext (xb5.trans x6))).mono ?_
  rintro e w8 ⟨rfl, x8⟩
  have HAA : Hid (IntW w false aa 0 ca A) := Lib.hid (by rw [HEA.out]; exact canon_val HWa.out HVA.out)
  have HAV : Hid (IntV w8 (.agg #[.bool false, .slice aa 0 ca]) A) := Lib.hid ⟨_, _, _, _, rfl, HAA.out.ext (((((x0.trans xs).trans x2).trans xb5).trans x6).trans x8)⟩
  have HBV : Hid (IntV w8 (.agg #[.bool s2_0, .slice a2_0 n2_0 c2_0]) b) := Lib.hid (HV2_0.out.ext ((xb5.trans x6).trans x8))
  have HBW := Lib.hid (intV_W HBV.out)
  have HAW : Hid (IntW w8 false aa 0 ca A) := Lib.hid (HAA.out.ext (((((x0.trans xs).trans x2).trans xb5).trans x6).trans x8))
  have HC : Hid (Ext w w8) := Lib.hid (((((x0.trans xs).trans x2).trans xb5).trans x6).trans x8)
  have KC : Hid (∀ W', Ext w8 W' → (W'.cell? ⟨B0, 0, none⟩ = some (.bool false) ∧ W'.cell? ⟨B0, 1, none⟩ = some (.slice aa 0 ca)) ∧ (W'.cell? ⟨D5, 0, none⟩ = some (.bool s2_0) ∧ W'.cell? ⟨D5, 1, none⟩ = some (.slice a2_0 n2_0 c2_0))) := Lib.hid fun W' h => ⟨KB2.out W' (((((xs.trans x2).trans xb5).trans x6).trans x8).trans h), KB8.out W' ((x6.trans x8).trans h)⟩
  have hmb : n2_0 ≤ 9223372036854775807 := by have := HBW.out.2.max; have := HBW.out.2.le; omega
  obtain ⟨⟨c0, c1⟩, ⟨d0, d1⟩⟩ := KC.out _ (Ext.refl _)
  by_cases hsg : false = s2_0
  · by_cases hln : 0 = n2_0
    · subst hsg
      have hln2 : ((0 : Nat) : Int) = (n2_0 : Int) := by rw [hln]
      have HLN := Lib.hid hln
      have hle2 : ((0 : Int) == (n2_0 : Int)) = true := by simp; omega
      clear hln hln2
      go_wp2_with fail
      obtain ⟨la2, hla2⟩ : ∃ l, l = digs A.natAbs := ⟨_, rfl⟩
      obtain ⟨lb, hlb⟩ : ∃ l, l = digs b.natAbs := ⟨_, rfl⟩
      have HL1 := Lib.hid hla2
      have HL2 := Lib.hid hlb
      clear hla2 hlb
      have HX0 : Hid (Words w8 aa 0 ca la2) := Lib.hid (by rw [HL1.out]; exact HAW.out.2)
      have HY0 : Hid (Words w8 a2_0 n2_0 c2_0 lb) := Lib.hid (by rw [HL2.out]; exact HBW.out.2)
      have HEQ : Hid (la2 = lb → A = b) := Lib.hid (fun h => abs_sign_inj (digs_inj (by omega) (by omega) (by rw [← HL1.out, ← HL2.out, h])) (by rw [← HAW.out.1, ← HBW.out.1]))
      have HNE : Hid (la2 ≠ lb → A ≠ b) := Lib.hid (fun h e => h (by rw [HL1.out, HL2.out, e]))
      go_loopw [9, 10] (fun s i wr => ∃ (k : Nat) (sv : Bool), k ≤ 0 ∧ i = .int .i64 k ∧ s = .bool sv ∧ Dr w8 wr ∧ (sv = true → la2.take k = lb.take k) ∧ (sv = false → la2 ≠ lb)) (fun _ i _ => 0 - (intOf i).toNat)
      case atStart => exact ⟨0, true, Nat.zero_le _, rfl, rfl, Dr.refl _, by simp, by simp⟩
      case round =>
        obtain ⟨k, sv, hk, rfl, rfl, ⟨q, rfl⟩, ht, hf⟩ := hrel
        have HT := Lib.hid ht
        have HF := Lib.hid hf
        clear ht hf
        have HDR : Ext w8 (w8.drewN q) := (Ext.refl _).drewN q
        cases sv with
        | false =>
          obtain ⟨o, ho⟩ : ∃ o, o = sgn A b := ⟨_, rfl⟩
          have ho0 : (o == 0) = false := by rw [ho]; exact sgn_ne (HNE.out (HF.out (by first | rfl | trivial)))
          have HO := Lib.hid ho
          clear ho c0 c1 d0 d1
          obtain rfl : k = 0 := by omega
          all_goals
            obtain ⟨⟨c0, c1⟩, ⟨d0, d1⟩⟩ := KC.out _ HDR
            go_wp2_with fail
            clear c0 c1 d0 d1
            refine (cmp_is _ _ A b o _ (HAV.out.ext HDR) (HBV.out.ext HDR) HO.out.symm).mono ?_
            rintro e wy ⟨rfl, xy⟩
            obtain ⟨⟨c0, c1⟩, ⟨d0, d1⟩⟩ := KC.out _ (Ext.trans HDR xy)
            go_wp2_with fail
            clear c0 c1 d0 d1
            refine (cmp_is _ _ A A 0 _ (HAV.out.ext (Ext.trans HDR xy)) (HAV.out.ext (Ext.trans HDR xy)) (sgn_eq A)).mono ?_
            rintro e wz ⟨rfl, xz⟩
            go_wp2_with fail
            go_ret
            exact ⟨rfl, HC.out.trans (HDR.trans (xy.trans xz))⟩
        | true =>
          skip
          · obtain rfl : k = 0 := by omega
            have HAB : Hid (sgn A b = 0) := Lib.hid (by
              have h1 := HT.out (by first | rfl | trivial)
              rw [List.take_of_length_le (by rw [HX0.out.hlen]; omega), List.take_of_length_le (by rw [HY0.out.hlen]; have := HLN.out; omega)] at h1
              rw [HEQ.out h1, sgn_eq])
            clear c0 c1 d0 d1
            obtain ⟨⟨c0, c1⟩, ⟨d0, d1⟩⟩ := KC.out _ HDR
            go_wp2_with fail
            clear c0 c1 d0 d1
            refine (cmp_is _ _ A b 0 _ (HAV.out.ext HDR) (HBV.out.ext HDR) HAB.out).mono ?_
            rintro e wy ⟨rfl, xy⟩
            obtain ⟨⟨c0, c1⟩, ⟨d0, d1⟩⟩ := KC.out _ (Ext.trans HDR xy)
            go_wp2_with fail
            clear c0 c1 d0 d1
            refine (cmp_is _ _ A A 0 _ (HAV.out.ext (Ext.trans HDR xy)) (HAV.out.ext (Ext.trans HDR xy)) (sgn_eq A)).mono ?_
            rintro e wz ⟨rfl, xz⟩
            go_wp2_with fail
            go_ret
            exact ⟨rfl, HC.out.trans (HDR.trans (xy.trans xz))⟩
    · subst hsg
      have hle2 : ((0 : Int) == (n2_0 : Int)) = false := by simp; omega
      have HNE : Hid (A ≠ b) := Lib.hid (by intro e; have h1 := HAW.out.2.hlen; have h2 := HBW.out.2.hlen; rw [e] at h1; exact hln (h1.symm.trans h2))
      obtain ⟨o, ho⟩ : ∃ o, o = sgn A b := ⟨_, rfl⟩
      have ho0 : (o == 0) = false := by rw [ho]; exact sgn_ne HNE.out
      have HO := Lib.hid ho
      clear ho hln
      go_wp2_with fail
      go_loopw [9, 10] (fun s i wr => ∃ k : Nat, k ≤ 0 ∧ i = .int .i64 k ∧ s = .bool false ∧ wr = w8) (fun _ i _ => 0 - (intOf i).toNat)
      case atStart => exact ⟨0, Nat.zero_le _, rfl, rfl, rfl⟩
      case round =>
        obtain ⟨k, hk, rfl, rfl, rfl⟩ := hrel
        clear c0 c1 d0 d1
        obtain rfl : k = 0 := by omega
        all_goals
          obtain ⟨⟨c0, c1⟩, ⟨d0, d1⟩⟩ := KC.out _ (Ext.refl _)
          go_wp2_with fail
          clear c0 c1 d0 d1
          refine (cmp_is _ _ A b o _ (HAV.out.ext (Ext.refl _)) (HBV.out.ext (Ext.refl _)) HO.out.symm).mono ?_
          rintro e wy ⟨rfl, xy⟩
          obtain ⟨⟨c0, c1⟩, ⟨d0, d1⟩⟩ := KC.out _ (Ext.trans (Ext.refl _) xy)
          go_wp2_with fail
          clear c0 c1 d0 d1
          refine (cmp_is _ _ A A 0 _ (HAV.out.ext (Ext.trans (Ext.refl _) xy)) (HAV.out.ext (Ext.trans (Ext.refl _) xy)) (sgn_eq A)).mono ?_
          rintro e wz ⟨rfl, xz⟩
          go_wp2_with fail
          go_ret
          exact ⟨rfl, HC.out.trans ((Ext.refl _).trans (xy.trans xz))⟩
  · have hle2 : (false == s2_0) = false := by simpa using hsg
    have HNE : Hid (A ≠ b) := Lib.hid (by intro e; have h1 := HAW.out.1; have h2 := HBW.out.1; rw [e] at h1; exact hsg (h1.trans h2.symm))
    obtain ⟨o, ho⟩ : ∃ o, o = sgn A b := ⟨_, rfl⟩
    have ho0 : (o == 0) = false := by rw [ho]; exact sgn_ne HNE.out
    have HO := Lib.hid ho
    clear ho hsg
    go_wp2_with fail
    go_loopw [9, 10] (fun s i wr => ∃ k : Nat, k ≤ 0 ∧ i = .int .i64 k ∧ s = .bool false ∧ wr = w8) (fun _ i _ => 0 - (intOf i).toNat)
    case atStart => exact ⟨0, Nat.zero_le _, rfl, rfl, rfl⟩
    case round =>
      obtain ⟨k, hk, rfl, rfl, rfl⟩ := hrel
      clear c0 c1 d0 d1
      obtain rfl : k = 0 := by omega
      all_goals
        obtain ⟨⟨c0, c1⟩, ⟨d0, d1⟩⟩ := KC.out _ (Ext.refl _)
        go_wp2_with fail
        clear c0 c1 d0 d1
        refine (cmp_is _ _ A b o _ (HAV.out.ext (Ext.refl _)) (HBV.out.ext (Ext.refl _)) HO.out.symm).mono ?_
        rintro e wy ⟨rfl, xy⟩
        obtain ⟨⟨c0, c1⟩, ⟨d0, d1⟩⟩ := KC.out _ (Ext.trans (Ext.refl _) xy)
        go_wp2_with fail
        clear c0 c1 d0 d1
        refine (cmp_is _ _ A A 0 _ (HAV.out.ext (Ext.trans (Ext.refl _) xy)) (HAV.out.ext (Ext.trans (Ext.refl _) xy)) (sgn_eq A)).mono ?_
        rintro e wz ⟨rfl, xz⟩
        go_wp2_with fail
        go_ret
        exact ⟨rfl, HC.out.trans ((Ext.refl _).trans (xy.trans xz))⟩
set_option maxRecDepth 100000 in
set_option maxHeartbeats 8000000 in
theorem canon_ok (na : Bool) (bz oz : Nat) (m : Nat) (ca : Nat) (la : List Int) (ny : Bool) (ay : Option Addr) (ky cy : Nat) (ly : List Int) (b : Int) (eb : b = rawZ ny ly 40) (w : World) (hx : Words w (some ⟨bz, oz, none⟩) (m + 1) ca la) (hy : Words w ay ky cy ly) (hval : validB na la = true) (A : Int) (hA : A = if na then - val la else val la) (hm : m + 1 ≤ 40) (z : Int) (hz : z = la.getD m 0) (hz0 : (z != 0) = true) :
    Calls Tryz.prog 3 #[.agg #[.bool na, .slice (some ⟨bz, oz, none⟩) (m + 1) ca], .agg #[.bool ny, .slice ay ky cy]] w fun e w' => e = .returned (.bool true) ∧ Ext w w' := by
  have HZE := Lib.hid hz
  clear hz
  have HEA := Lib.hid hA
  clear hA
  have HVA : Hid (validB na la = true) := Lib.hid hval
  clear hval
  have E_b := Lib.hid eb
  have HWa := Lib.hid hx
  have HWy := Lib.hid hy
  clear eb hx hy
  obtain ⟨B0, w0, hB0, hw0, hr0, hr1, x0⟩ := two w 24 25 [.bool na, .slice (some ⟨bz, oz, none⟩) (m + 1) ca] [.bool ny, .slice ay ky cy]
  have HF1 : Hid (Fits (b) 40) := Lib.hid (by rw [E_b.out]; exact fits_raw (HWy.out.wf) (by omega))
  have KB2 : Hid (∀ W, Ext w0 W → W.cell? ⟨B0, 0, none⟩ = some (.bool na) ∧ W.cell? ⟨B0, 1, none⟩ = some (.slice (some ⟨bz, oz, none⟩) (m + 1) ca)) := Lib.hid fun W h => ⟨h.cell (hr0.cell (i := 0) rfl), h.cell (hr0.cell (i := 1) rfl)⟩
  have KB3 : Hid (∀ W, Ext w0 W → W.cell? ⟨B0 + 1, 0, none⟩ = some (.bool ny) ∧ W.cell? ⟨B0 + 1, 1, none⟩ = some (.slice ay ky cy)) := Lib.hid fun W h => ⟨h.cell (hr1.cell (i := 0) rfl), h.cell (hr1.cell (i := 1) rfl)⟩
  clear hr0 hr1
  go_enter Tryz.func3, Tryz.ntmps3
  go_wp2_with fail
  rw [← hw0, ← hB0]
  clear hw0 hB0
  refine (sanity_any _).mono ?_
  rintro e ws ⟨rfl, xs⟩
  have hcw := (HWa.out.ext (x0.trans xs)).cells m z (by rw [HZE.out, List.getD, List.getElem?_eq_getElem (by rw [HWa.out.hlen]; omega)]; simp)
  obtain ⟨b1, o1, haa, hcz⟩ := hcw
  cases haa
  have hmx := run_max_m m
  have hn0 : (((m + 1 : Nat) : Int) == 0) = false := by simp; omega
  have hn1 : ((m : Int) + 1 == 0) = false := by simp; omega
  have hn2 : (m : Int) + 1 ≤ 40 := by omega
  obtain ⟨cc2_0_3, cc2_1_3⟩ := KB2.out ws xs
  obtain ⟨cc3_0_4, cc3_1_4⟩ := KB3.out ws xs
  go_wp2_with fail
  clear cc2_0_3 cc2_1_3 cc3_0_4 cc3_1_4
  refine (Made_any ny ay ky cy ly 40 b _ (HWy.out.ext (x0.trans xs)) (by omega) E_b.out).mono ?_
  rintro e w2 ⟨⟨v2_0, rfl, ⟨s2_0, a2_0, n2_0, c2_0, rfl, hi2_0⟩⟩, x2⟩
  have HV2_0 : Hid (IntV w2 (.agg #[.bool s2_0, .slice a2_0 n2_0 c2_0]) (b)) := Lib.hid ⟨_, _, _, _, rfl, hi2_0⟩
  clear hi2_0
  obtain ⟨D5, wb5, hD5, hw5, hb5_0, xb5⟩ := one w2 24 [.bool s2_0, .slice a2_0 n2_0 c2_0]
  have KB8 : Hid (∀ W, Ext wb5 W → W.cell? ⟨D5, 0, none⟩ = some (.bool s2_0) ∧ W.cell? ⟨D5, 1, none⟩ = some (.slice a2_0 n2_0 c2_0)) := Lib.hid fun W h => ⟨h.cell (hb5_0.cell (i := 0) rfl), h.cell (hb5_0.cell (i := 1) rfl)⟩
  clear hb5_0
  obtain ⟨cc2_0_7, cc2_1_7⟩ := KB2.out wb5 ((xs.trans x2).trans xb5)
  have hq5 := hw5.symm
  have hp5 := hD5.symm
  clear hw5 hD5
  go_wp2_with fail
  clear hq5 hp5
  clear cc2_0_7 cc2_1_7
  refine (valid_is na (some ⟨bz, oz, none⟩) (m + 1) ca la true _ (HWa.out.ext (((x0.trans xs).trans x2).trans xb5)) HVA.out).mono ?_
  rintro e w6 ⟨rfl, x6⟩
  obtain ⟨cc8_0_9, cc8_1_9⟩ := KB8.out w6 x6
  go_wp2_with fail
  clear cc8_0_9 cc8_1_9
  refine (valid_any _ (b) _ (HV2_0.out.ext (xb5.trans x6))).mono ?_
  rintro e w8 ⟨rfl, x8⟩
  have HAA : Hid (IntW w na (some ⟨bz, oz, none⟩) (m + 1) ca A) := Lib.hid (by rw [HEA.out]; exact canon_val HWa.out HVA.out)
  have HAV : Hid (IntV w8 (.agg #[.bool na, .slice (some ⟨bz, oz, none⟩) (m + 1) ca]) A) := Lib.hid ⟨_, _, _, _, rfl, HAA.out.ext (((((x0.trans xs).trans x2).trans xb5).trans x6).trans x8)⟩
  have HBV : Hid (IntV w8 (.agg #[.bool s2_0, .slice a2_0 n2_0 c2_0]) b) := Lib.hid (HV2_0.out.ext ((xb5.trans x6).trans x8))
  have HBW := Lib.hid (intV_W HBV.out)
  have HAW : Hid (IntW w8 na (some ⟨bz, oz, none⟩) (m + 1) ca A) := Lib.hid (HAA.out.ext (((((x0.trans xs).trans x2).trans xb5).trans x6).trans x8))
  have HC : Hid (Ext w w8) := Lib.hid (((((x0.trans xs).trans x2).trans xb5).trans x6).trans x8)
  have KC : Hid (∀ W', Ext w8 W' → (W'.cell? ⟨B0, 0, none⟩ = some (.bool na) ∧ W'.cell? ⟨B0, 1, none⟩ = some (.slice (some ⟨bz, oz, none⟩) (m + 1) ca)) ∧ (W'.cell? ⟨D5, 0, none⟩ = some (.bool s2_0) ∧ W'.cell? ⟨D5, 1, none⟩ = some (.slice a2_0 n2_0 c2_0))) := Lib.hid fun W' h => ⟨KB2.out W' (((((xs.trans x2).trans xb5).trans x6).trans x8).trans h), KB8.out W' ((x6.trans x8).trans h)⟩
  have hmb : n2_0 ≤ 9223372036854775807 := by have := HBW.out.2.max; have := HBW.out.2.le; omega
  obtain ⟨⟨c0, c1⟩, ⟨d0, d1⟩⟩ := KC.out _ (Ext.refl _)
  by_cases hsg : na = s2_0
  · by_cases hln : (m + 1) = n2_0
    · subst hsg
      have hln2 : (((m + 1) : Nat) : Int) = (n2_0 : Int) := by rw [hln]
      have HLN := Lib.hid hln
      have hle2 : ((m : Int) + 1 == (n2_0 : Int)) = true := by simp; omega
      clear hln hln2
      go_wp2_with fail
      obtain ⟨la2, hla2⟩ : ∃ l, l = digs A.natAbs := ⟨_, rfl⟩
      obtain ⟨lb, hlb⟩ : ∃ l, l = digs b.natAbs := ⟨_, rfl⟩
      have HL1 := Lib.hid hla2
      have HL2 := Lib.hid hlb
      clear hla2 hlb
      have HX0 : Hid (Words w8 (some ⟨bz, oz, none⟩) (m + 1) ca la2) := Lib.hid (by rw [HL1.out]; exact HAW.out.2)
      have HY0 : Hid (Words w8 a2_0 n2_0 c2_0 lb) := Lib.hid (by rw [HL2.out]; exact HBW.out.2)
      have HEQ : Hid (la2 = lb → A = b) := Lib.hid (fun h => abs_sign_inj (digs_inj (by omega) (by omega) (by rw [← HL1.out, ← HL2.out, h])) (by rw [← HAW.out.1, ← HBW.out.1]))
      have HNE : Hid (la2 ≠ lb → A ≠ b) := Lib.hid (fun h e => h (by rw [HL1.out, HL2.out, e]))
      go_loopw [9, 10] (fun s i wr => ∃ (k : Nat) (sv : Bool), k ≤ (m + 1) ∧ i = .int .i64 k ∧ s = .bool sv ∧ Dr w8 wr ∧ (sv = true → la2.take k = lb.take k) ∧ (sv = false → la2 ≠ lb)) (fun _ i _ => (m + 1) - (intOf i).toNat)
      case atStart => exact ⟨0, true, Nat.zero_le _, rfl, rfl, Dr.refl _, by simp, by simp⟩
      case round =>
        obtain ⟨k, sv, hk, rfl, rfl, ⟨q, rfl⟩, ht, hf⟩ := hrel
        have HT := Lib.hid ht
        have HF := Lib.hid hf
        clear ht hf
        have HDR : Ext w8 (w8.drewN q) := (Ext.refl _).drewN q
        cases sv with
        | false =>
          obtain ⟨o, ho⟩ : ∃ o, o = sgn A b := ⟨_, rfl⟩
          have ho0 : (o == 0) = false := by rw [ho]; exact sgn_ne (HNE.out (HF.out (by first | rfl | trivial)))
          have HO := Lib.hid ho
          clear ho c0 c1 d0 d1
          by_cases hkn : k < (m + 1)
          all_goals
            obtain ⟨⟨c0, c1⟩, ⟨d0, d1⟩⟩ := KC.out _ HDR
            go_wp2_with fail
            clear c0 c1 d0 d1
            refine (cmp_is _ _ A b o _ (HAV.out.ext HDR) (HBV.out.ext HDR) HO.out.symm).mono ?_
            rintro e wy ⟨rfl, xy⟩
            obtain ⟨⟨c0, c1⟩, ⟨d0, d1⟩⟩ := KC.out _ (Ext.trans HDR xy)
            go_wp2_with fail
            clear c0 c1 d0 d1
            refine (cmp_is _ _ A A 0 _ (HAV.out.ext (Ext.trans HDR xy)) (HAV.out.ext (Ext.trans HDR xy)) (sgn_eq A)).mono ?_
            rintro e wz ⟨rfl, xz⟩
            go_wp2_with fail
            go_ret
            exact ⟨rfl, HC.out.trans (HDR.trans (xy.trans xz))⟩
        | true =>
          by_cases hkn : k < (m + 1)
          · have hkn2 : k < n2_0 := by have := HLN.out; omega
            obtain ⟨x, hxx⟩ : ∃ x, x = la2.getD k 0 := ⟨_, rfl⟩
            obtain ⟨y, hyy⟩ : ∃ y, y = lb.getD k 0 := ⟨_, rfl⟩
            obtain ⟨bx, ox, hax, hcx⟩ := HX0.out.cells k x (by rw [hxx, List.getD, List.getElem?_eq_getElem (by rw [HX0.out.hlen]; omega)]; simp)
            obtain ⟨by_, oy, hay, hcy⟩ := HY0.out.cells k y (by rw [hyy, List.getD, List.getElem?_eq_getElem (by rw [HY0.out.hlen]; omega)]; simp)
            have HXX := Lib.hid hxx
            have HYY := Lib.hid hyy
            clear hxx hyy
            cases hax
            subst hay
            by_cases hxy : x = y
            · have hxv : (x == y) = true := by simp [hxy]
              have HXY := Lib.hid hxy
              clear hxy
              go_wp2_with fail
              go_quiet (fail)
              go_wp2
              go_roundw
              case rel => exact ⟨k + 1, true, by omega, by go_num, rfl, ⟨_, rfl⟩, fun _ => by rw [take_step (by rw [HX0.out.hlen]; exact hkn), take_step (by rw [HY0.out.hlen]; exact hkn2), HT.out (by first | rfl | trivial), ← HXX.out, ← HYY.out, HXY.out], by simp⟩
              case measure => simp [intOf]; omega
            · have hxv : (x == y) = false := by simp [hxy]
              have HXY := Lib.hid hxy
              clear hxy
              go_wp2_with fail
              go_quiet (fail)
              go_wp2
              go_roundw
              case rel => exact ⟨k + 1, false, by omega, by go_num, rfl, ⟨_, rfl⟩, by simp, fun _ h => HXY.out (by rw [HXX.out, HYY.out, h])⟩
              case measure => simp [intOf]; omega
          · have hkk : k = (m + 1) := by omega
            have HAB : Hid (sgn A b = 0) := Lib.hid (by
              have h1 := HT.out (by first | rfl | trivial)
              rw [List.take_of_length_le (by rw [HX0.out.hlen]; omega), List.take_of_length_le (by rw [HY0.out.hlen]; have := HLN.out; omega)] at h1
              rw [HEQ.out h1, sgn_eq])
            clear hkk
            clear c0 c1 d0 d1
            obtain ⟨⟨c0, c1⟩, ⟨d0, d1⟩⟩ := KC.out _ HDR
            go_wp2_with fail
            clear c0 c1 d0 d1
            refine (cmp_is _ _ A b 0 _ (HAV.out.ext HDR) (HBV.out.ext HDR) HAB.out).mono ?_
            rintro e wy ⟨rfl, xy⟩
            obtain ⟨⟨c0, c1⟩, ⟨d0, d1⟩⟩ := KC.out _ (Ext.trans HDR xy)
            go_wp2_with fail
            clear c0 c1 d0 d1
            refine (cmp_is _ _ A A 0 _ (HAV.out.ext (Ext.trans HDR xy)) (HAV.out.ext (Ext.trans HDR xy)) (sgn_eq A)).mono ?_
            rintro e wz ⟨rfl, xz⟩
            go_wp2_with fail
            go_ret
            exact ⟨rfl, HC.out.trans (HDR.trans (xy.trans xz))⟩
    · subst hsg
      have hle2 : ((m : Int) + 1 == (n2_0 : Int)) = false := by simp; omega
      have HNE : Hid (A ≠ b) := Lib.hid (by intro e; have h1 := HAW.out.2.hlen; have h2 := HBW.out.2.hlen; rw [e] at h1; exact hln (h1.symm.trans h2))
      obtain ⟨o, ho⟩ : ∃ o, o = sgn A b := ⟨_, rfl⟩
      have ho0 : (o == 0) = false := by rw [ho]; exact sgn_ne HNE.out
      have HO := Lib.hid ho
      clear ho hln
      go_wp2_with fail
      go_loopw [9, 10] (fun s i wr => ∃ k : Nat, k ≤ (m + 1) ∧ i = .int .i64 k ∧ s = .bool false ∧ wr = w8) (fun _ i _ => (m + 1) - (intOf i).toNat)
      case atStart => exact ⟨0, Nat.zero_le _, rfl, rfl, rfl⟩
      case round =>
        obtain ⟨k, hk, rfl, rfl, rfl⟩ := hrel
        clear c0 c1 d0 d1
        by_cases hkn : k < (m + 1)
        all_goals
          obtain ⟨⟨c0, c1⟩, ⟨d0, d1⟩⟩ := KC.out _ (Ext.refl _)
          go_wp2_with fail
          clear c0 c1 d0 d1
          refine (cmp_is _ _ A b o _ (HAV.out.ext (Ext.refl _)) (HBV.out.ext (Ext.refl _)) HO.out.symm).mono ?_
          rintro e wy ⟨rfl, xy⟩
          obtain ⟨⟨c0, c1⟩, ⟨d0, d1⟩⟩ := KC.out _ (Ext.trans (Ext.refl _) xy)
          go_wp2_with fail
          clear c0 c1 d0 d1
          refine (cmp_is _ _ A A 0 _ (HAV.out.ext (Ext.trans (Ext.refl _) xy)) (HAV.out.ext (Ext.trans (Ext.refl _) xy)) (sgn_eq A)).mono ?_
          rintro e wz ⟨rfl, xz⟩
          go_wp2_with fail
          go_ret
          exact ⟨rfl, HC.out.trans ((Ext.refl _).trans (xy.trans xz))⟩
  · have hle2 : (na == s2_0) = false := by simpa using hsg
    have HNE : Hid (A ≠ b) := Lib.hid (by intro e; have h1 := HAW.out.1; have h2 := HBW.out.1; rw [e] at h1; exact hsg (h1.trans h2.symm))
    obtain ⟨o, ho⟩ : ∃ o, o = sgn A b := ⟨_, rfl⟩
    have ho0 : (o == 0) = false := by rw [ho]; exact sgn_ne HNE.out
    have HO := Lib.hid ho
    clear ho hsg
    go_wp2_with fail
    go_loopw [9, 10] (fun s i wr => ∃ k : Nat, k ≤ (m + 1) ∧ i = .int .i64 k ∧ s = .bool false ∧ wr = w8) (fun _ i _ => (m + 1) - (intOf i).toNat)
    case atStart => exact ⟨0, Nat.zero_le _, rfl, rfl, rfl⟩
    case round =>
      obtain ⟨k, hk, rfl, rfl, rfl⟩ := hrel
      clear c0 c1 d0 d1
      by_cases hkn : k < (m + 1)
      all_goals
        obtain ⟨⟨c0, c1⟩, ⟨d0, d1⟩⟩ := KC.out _ (Ext.refl _)
        go_wp2_with fail
        clear c0 c1 d0 d1
        refine (cmp_is _ _ A b o _ (HAV.out.ext (Ext.refl _)) (HBV.out.ext (Ext.refl _)) HO.out.symm).mono ?_
        rintro e wy ⟨rfl, xy⟩
        obtain ⟨⟨c0, c1⟩, ⟨d0, d1⟩⟩ := KC.out _ (Ext.trans (Ext.refl _) xy)
        go_wp2_with fail
        clear c0 c1 d0 d1
        refine (cmp_is _ _ A A 0 _ (HAV.out.ext (Ext.trans (Ext.refl _) xy)) (HAV.out.ext (Ext.trans (Ext.refl _) xy)) (sgn_eq A)).mono ?_
        rintro e wz ⟨rfl, xz⟩
        go_wp2_with fail
        go_ret
        exact ⟨rfl, HC.out.trans ((Ext.refl _).trans (xy.trans xz))⟩
theorem lawCanonical (na : Bool) (aa : Option Addr) (ka : Nat) (ca : Nat) (la : List Int) (ny : Bool) (ay : Option Addr) (ky cy : Nat) (ly : List Int) (b : Int) (eb : b = rawZ ny ly 40) (w : World) (hx : Words w aa ka ca la) (hy : Words w ay ky cy ly)  :
    Calls Tryz.prog 3 #[.agg #[.bool na, .slice aa ka ca], .agg #[.bool ny, .slice ay ky cy]] w fun e w' => e = .returned (.bool true) ∧ Ext w w' := by
  by_cases hk : 40 < ka
  · exact canon_big na aa ka ca la ny ay ky cy ly b eb w hx hy hk
  · have hl := hx.hlen
    rcases Nat.eq_zero_or_pos ka with rfl | hp
    · obtain rfl : la = [] := List.eq_nil_of_length_eq_zero hl
      cases na with
      | true => exact canon_bad0 aa ca [] ny ay ky cy ly b eb w hx hy rfl
      | false => exact canon_ok0 aa ca [] ny ay ky cy ly b eb w hx hy rfl _ rfl
    · obtain ⟨m, rfl⟩ : ∃ m, ka = m + 1 := ⟨ka - 1, by omega⟩
      obtain ⟨bz, oz, rfl, -⟩ := hx.cells m (la.getD m 0) (by rw [List.getD, List.getElem?_eq_getElem (by omega)]; simp)
      have hv : validB na la = (la.getD m 0 != 0) := by rw [validB_cons (by omega), hl, Nat.add_sub_cancel]
      cases hz : (la.getD m 0 != 0) with
      | false => exact canon_bad na bz oz m ca la ny ay ky cy ly b eb w hx hy (hv.trans hz) (by omega) _ rfl hz
      | true => exact canon_ok na bz oz m ca la ny ay ky cy ly b eb w hx hy (hv.trans hz) _ rfl (by omega) _ rfl hz
end Go.Proofs.YtddcgojpgdhefaaGreatDoor
