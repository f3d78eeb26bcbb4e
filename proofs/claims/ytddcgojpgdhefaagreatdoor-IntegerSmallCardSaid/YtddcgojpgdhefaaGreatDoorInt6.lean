/- Integers: DivMod walked. -/
import Derived.Test.YtddcgojpgdhefaaGreatDoorInt5
namespace Go.Proofs.YtddcgojpgdhefaaGreatDoor
open Go.RowKit Go.El
set_option linter.unusedVariables false
theorem intv_zero {w : World} {b : Nat} (h : Blk w b 24 [.bool false, .slice none 0 0]) : (loadVar 24 ⟨b, 0, none⟩).run Tryz.prog w = .ok (.agg #[.bool false, .slice none 0 0]) w := load_int h
set_option maxRecDepth 100000 in
set_option maxHeartbeats 1000000 in
theorem divmod_zero (x y : Value) (a : Int) (w : World) (hx : IntV w x a) (hy : IntV w y 0) :
    Calls Tryz.prog 25 #[x, y] w fun e w' => e = .returned (.tuple #[.agg #[.bool false, .slice none 0 0], .agg #[.bool false, .slice none 0 0], .int .i64 10]) ∧ Ext w w' := by
  obtain ⟨na, ax, nx, cx, rfl, hna, hwx⟩ := hx
  obtain ⟨nb, ay, ny, cy, rfl, hnb, hwy⟩ := hy
  obtain rfl : ny = 0 := by rw [← hwy.hlen, Int.natAbs_zero, Int.ofNat_zero, digs_zero]; rfl
  clear hwx hwy hna hnb
  obtain ⟨B, w0, hB, hw0, hb0, hb1, hb2, hb3, he0⟩ := four w 24 24 24 24 [.bool na, .slice ax nx cx] [.bool nb, .slice ay 0 cy] [.bool false, .slice none 0 0] [.bool false, .slice none 0 0]
  go_enter Tryz.func25, Tryz.ntmps25
  go_wp2_with fail
  rw [← hw0, ← hB]
  exact bodyPost_ret (results_cct rfl rfl (intv_zero hb2) rfl (intv_zero hb3)) rfl ⟨rfl, he0⟩
set_option maxRecDepth 100000 in
set_option maxHeartbeats 1000000 in
theorem divmod_plain_walk (x y : Value) (a b : Int) (w : World) (hx : IntV w x a) (hy : IntV w y b) (ha : Fits a 1073741824) (hb : b ≠ 0) (h0 : decide (a < 0) = true → (a.natAbs : Int) % b.natAbs = 0) :
    Calls Tryz.prog 25 #[x, y] w fun e w' => (∃ u v, e = .returned (.tuple #[u, v, .int .i64 0]) ∧ IntV w' u (a / b) ∧ IntV w' v (a % b)) ∧ Ext w w' := by
  obtain ⟨na, ax, nx, cx, rfl, hna, hwx⟩ := hx
  obtain ⟨nb, ay, ny, cy, rfl, hnb, hwy⟩ := hy
  have hnx := ha.len
  rw [hwx.hlen] at hnx
  have hny : ((ny : Int) == 0) = false := by
    have h1 := digs_pos_len (show 0 < (b.natAbs : Int) by omega)
    rw [hwy.hlen] at h1
    simp; omega
  have hzz := divmod_plain hna hnb hb (by rw [hna]; exact h0)
  have HZq : Hid (∀ X, X = (!(na == nb)) → a / b = if X = true then -val (digs ((a.natAbs : Int) / b.natAbs)) else val (digs ((a.natAbs : Int) / b.natAbs))) := by
    rintro X rfl
    rw [val_digs (Int.ediv_nonneg (by omega) (by omega))]
    exact hzz.1
  have HZr : Hid (a % b = if false = true then -val (digs ((a.natAbs : Int) % b.natAbs)) else val (digs ((a.natAbs : Int) % b.natAbs))) := by
    rw [if_neg (by simp), val_digs (Int.emod_nonneg _ (by omega))]
    exact hzz.2
  have H0 : Hid (na = true → (a.natAbs : Int) % b.natAbs = 0) := by rw [hna]; exact h0
  have Hx := Lib.hid hwx
  have Hy := Lib.hid hwy
  clear hzz h0 hna hnb hwx hwy
  obtain ⟨B, w0, hB, hw0, hb0, hb1, hb2, hb3, he0⟩ := four w 24 24 24 24 [.bool na, .slice ax nx cx] [.bool nb, .slice ay ny cy] [.bool false, .slice none 0 0] [.bool false, .slice none 0 0]
  go_enter Tryz.func25, Tryz.ntmps25
  go_wp2_with fail
  rw [← hw0, ← hB]
  have HB := Lib.hid hB
  clear hw0 hB
  have hsz := hb3.lt
  refine (ndiv_any ax ay nx cx ny cy (a.natAbs : Int) (b.natAbs : Int) _ (by omega) (by omega) (Hx.out.ext he0) (Hy.out.ext he0) (by omega)).mono ?_
  rintro e w1 ⟨⟨qa, qn, qc, ra, rn, rc, rfl, hq, hr⟩, he1⟩
  have hc0 := (hb0.ext he1).cell (i := 0) rfl
  have hd0 := (hb1.ext he1).cell (i := 0) rfl
  have HQ := Lib.hid hq
  have HR := Lib.hid hr
  have HQl : Hid (qn ≤ 1073741824) := by
    have := div_len (show 0 ≤ (a.natAbs : Int) by omega) (show 0 < (b.natAbs : Int) by omega)
    rw [hq.hlen] at this
    exact Nat.le_trans this ha.len
  have HRl : Hid (rn ≤ 1073741824) := by
    have := digs_len_mono (Int.emod_nonneg (a.natAbs : Int) (show (b.natAbs : Int) ≠ 0 by omega)) (emod_le' (show 0 ≤ (a.natAbs : Int) by omega) (show 0 < (b.natAbs : Int) by omega))
    rw [hr.hlen] at this
    exact Nat.le_trans this ha.len
  cases na with
  | false =>
    go_wp2_with fail
    refine (signed_any _ _ _ _ _ (a / b) _ HQ.out (by have := HQl.out; omega) (HZq.out _ (by cases nb <;> rfl))).mono ?_
    rintro e w2 ⟨⟨s1, a1, n1, k1, rfl, hr1⟩, he2⟩
    go_wp2_with fail
    refine (signed_any _ _ _ _ _ (a % b) _ (HR.out.ext he2) (by have := HRl.out; omega) HZr.out).mono ?_
    rintro e w3 ⟨⟨s2, a2, n2, k2, rfl, hr2⟩, he3⟩
    have he4 := (he1.trans he2).trans he3
    have hb2' := hb2.ext he4
    have hb3' := hb3.ext he4
    have ec0 := hb2'.cell (i := 0) rfl
    have ec1 := hb2'.cell (i := 1) rfl
    have ef0 := hb2'.free 0
    have ef1 := hb2'.free 1
    have gc0 := hb3'.cell (i := 0) rfl
    have gc1 := hb3'.cell (i := 1) rfl
    have gf0 := hb3'.free 0
    have gf1 := hb3'.free 1
    go_wp2_with fail
    have hbA := ((hb2'.set2 (.bool s1) (.slice a1 n1 k1)).other (p := ⟨B + 1 + 1 + 1, 0, none⟩) (by show B + 1 + 1 + 1 ≠ B + 1 + 1; omega) (.bool s2)).other (p := ⟨B + 1 + 1 + 1, 1, none⟩) (by show B + 1 + 1 + 1 ≠ B + 1 + 1; omega) (.slice a2 n2 k2)
    have hbB := (hb3'.other (p := ⟨B + 1 + 1, 0, none⟩) (by show B + 1 + 1 ≠ B + 1 + 1 + 1; omega) (.bool s1)).other (p := ⟨B + 1 + 1, 1, none⟩) (by show B + 1 + 1 ≠ B + 1 + 1 + 1; omega) (.slice a1 n1 k1)
    refine bodyPost_ret (results_cct rfl rfl (load_int hbA) rfl (load_int (hbB.set2 _ _))) rfl ?_
    refine ⟨⟨_, _, rfl, ⟨_, _, _, _, rfl, hr1.1, ?_⟩, ⟨_, _, _, _, rfl, hr2.1, ?_⟩⟩, (((((he0.trans he4).store' HB (by omega) 0 _).store' HB (by omega) 1 _).store' HB (by omega) 0 _).store' HB (by omega) 1 _)⟩
    · exact ((hr1.2.ext he3).keep2 hb2' (by simp) (by simp) _ _).keep2 hbB (by simp) (by simp) _ _
    · exact (hr2.2.keep2 hb2' (by simp) (by simp) _ _).keep2 hbB (by simp) (by simp) _ _
  | true =>
    have := H0.out rfl
    rw [this] at hr
    have h2 := hr.hlen
    rw [digs_zero] at h2
    obtain rfl : rn = 0 := h2.symm
    clear h2 this hr
    go_wp2_with fail
    refine (signed_any _ _ _ _ _ (a / b) _ HQ.out (by have := HQl.out; omega) (HZq.out _ (by cases nb <;> rfl))).mono ?_
    rintro e w2 ⟨⟨s1, a1, n1, k1, rfl, hr1⟩, he2⟩
    go_wp2_with fail
    refine (signed_any _ _ _ _ _ (a % b) _ (HR.out.ext he2) (by have := HRl.out; omega) HZr.out).mono ?_
    rintro e w3 ⟨⟨s2, a2, n2, k2, rfl, hr2⟩, he3⟩
    have he4 := (he1.trans he2).trans he3
    have hb2' := hb2.ext he4
    have hb3' := hb3.ext he4
    have ec0 := hb2'.cell (i := 0) rfl
    have ec1 := hb2'.cell (i := 1) rfl
    have ef0 := hb2'.free 0
    have ef1 := hb2'.free 1
    have gc0 := hb3'.cell (i := 0) rfl
    have gc1 := hb3'.cell (i := 1) rfl
    have gf0 := hb3'.free 0
    have gf1 := hb3'.free 1
    go_wp2_with fail
    have hbA := ((hb2'.set2 (.bool s1) (.slice a1 n1 k1)).other (p := ⟨B + 1 + 1 + 1, 0, none⟩) (by show B + 1 + 1 + 1 ≠ B + 1 + 1; omega) (.bool s2)).other (p := ⟨B + 1 + 1 + 1, 1, none⟩) (by show B + 1 + 1 + 1 ≠ B + 1 + 1; omega) (.slice a2 n2 k2)
    have hbB := (hb3'.other (p := ⟨B + 1 + 1, 0, none⟩) (by show B + 1 + 1 ≠ B + 1 + 1 + 1; omega) (.bool s1)).other (p := ⟨B + 1 + 1, 1, none⟩) (by show B + 1 + 1 ≠ B + 1 + 1 + 1; omega) (.slice a1 n1 k1)
    refine bodyPost_ret (results_cct rfl rfl (load_int hbA) rfl (load_int (hbB.set2 _ _))) rfl ?_
    refine ⟨⟨_, _, rfl, ⟨_, _, _, _, rfl, hr1.1, ?_⟩, ⟨_, _, _, _, rfl, hr2.1, ?_⟩⟩, (((((he0.trans he4).store' HB (by omega) 0 _).store' HB (by omega) 1 _).store' HB (by omega) 0 _).store' HB (by omega) 1 _)⟩
    · exact ((hr1.2.ext he3).keep2 hb2' (by simp) (by simp) _ _).keep2 hbB (by simp) (by simp) _ _
    · exact (hr2.2.keep2 hb2' (by simp) (by simp) _ _).keep2 hbB (by simp) (by simp) _ _
set_option maxRecDepth 100000 in
set_option maxHeartbeats 1000000 in
theorem divmod_up_walk (x y : Value) (a b : Int) (w : World) (hx : IntV w x a) (hy : IntV w y b) (ha : Fits a 1073741824) (hB1 : Fits b 1073741824) (hb : b ≠ 0) (h0 : a < 0) (h1 : (a.natAbs : Int) % b.natAbs ≠ 0) :
    Calls Tryz.prog 25 #[x, y] w fun e w' => (∃ u v, e = .returned (.tuple #[u, v, .int .i64 0]) ∧ IntV w' u (a / b) ∧ IntV w' v (a % b)) ∧ Ext w w' := by
  obtain ⟨na, ax, nx, cx, rfl, hna, hwx⟩ := hx
  obtain ⟨nb, ay, ny, cy, rfl, hnb, hwy⟩ := hy
  obtain rfl : na = true := by rw [hna]; simp [h0]
  have hnx := ha.len
  rw [hwx.hlen] at hnx
  have hny : ((ny : Int) == 0) = false := by
    have h1 := digs_pos_len (show 0 < (b.natAbs : Int) by omega)
    rw [hwy.hlen] at h1
    simp; omega
  have hzz := divmod_up h0 hnb hb h1
  obtain ⟨lq, hlq⟩ : ∃ l, l = digs (val (digs ((a.natAbs : Int) / b.natAbs)) + val (digs 1)) := ⟨_, rfl⟩
  obtain ⟨lr, hlr⟩ : ∃ l, l = digs (val (digs (b.natAbs : Int)) - val (digs ((a.natAbs : Int) % b.natAbs))) := ⟨_, rfl⟩
  have HZq : Hid (∀ X, X = (!(true == nb)) → a / b = if X = true then -val lq else val lq) := by
    rintro X rfl
    have := Int.ediv_nonneg (show 0 ≤ (a.natAbs : Int) by omega) (show 0 ≤ (b.natAbs : Int) by omega)
    rw [hlq, val_digs this, val_digs (show (0 : Int) ≤ 1 by omega), val_digs (by omega)]
    exact hzz.1
  have HZr : Hid (a % b = if false = true then -val lr else val lr) := by
    have h3 := Int.emod_nonneg (a.natAbs : Int) (show (b.natAbs : Int) ≠ 0 by omega)
    have h4 := Int.emod_lt_of_pos (a.natAbs : Int) (show 0 < (b.natAbs : Int) by omega)
    rw [hlr, if_neg (by simp), val_digs h3, val_digs (show 0 ≤ (b.natAbs : Int) by omega), val_digs (by omega)]
    exact hzz.2
  have HLQ := Lib.hid hlq
  have HLR := Lib.hid hlr
  clear hlq hlr
  have H1 := Lib.hid h1
  have Hny : Hid (ny ≤ 1073741824) := by rw [← hwy.hlen]; exact hB1.len
  have Hx := Lib.hid hwx
  have Hy := Lib.hid hwy
  clear hzz h0 h1 hna hnb hwx hwy
  obtain ⟨B, w0, hB, hw0, hb0, hb1, hb2, hb3, he0⟩ := four w 24 24 24 24 [.bool true, .slice ax nx cx] [.bool nb, .slice ay ny cy] [.bool false, .slice none 0 0] [.bool false, .slice none 0 0]
  go_enter Tryz.func25, Tryz.ntmps25
  go_wp2_with fail
  rw [← hw0, ← hB]
  have HB := Lib.hid hB
  clear hw0 hB
  have hsz := hb3.lt
  refine (ndiv_any ax ay nx cx ny cy (a.natAbs : Int) (b.natAbs : Int) _ (by omega) (by omega) (Hx.out.ext he0) (Hy.out.ext he0) (by omega)).mono ?_
  rintro e w1 ⟨⟨qa, qn, qc, ra, rn, rc, rfl, hq, hr⟩, he1⟩
  have hc0 := (hb0.ext he1).cell (i := 0) rfl
  have hd0 := (hb1.ext he1).cell (i := 0) rfl
  have HQ := Lib.hid hq
  have HR := Lib.hid hr
  have HQl : Hid (qn ≤ 1073741824) := by
    have := div_len (show 0 ≤ (a.natAbs : Int) by omega) (show 0 < (b.natAbs : Int) by omega)
    rw [hq.hlen] at this
    exact Nat.le_trans this ha.len
  have HRl : Hid (rn ≤ 1073741824) := by
    have := digs_len_mono (Int.emod_nonneg (a.natAbs : Int) (show (b.natAbs : Int) ≠ 0 by omega)) (emod_le' (show 0 ≤ (a.natAbs : Int) by omega) (show 0 < (b.natAbs : Int) by omega))
    rw [hr.hlen] at this
    exact Nat.le_trans this ha.len
  have hrp : decide ((rn : Int) > 0) = true := by
    have h3 := Int.emod_nonneg (a.natAbs : Int) (show (b.natAbs : Int) ≠ 0 by omega)
    have h5 := digs_pos_len (show 0 < (a.natAbs : Int) % b.natAbs by have := H1.out; omega)
    rw [hr.hlen] at h5
    simp; omega
  have hle : val (digs ((a.natAbs : Int) % b.natAbs)) ≤ val (digs (b.natAbs : Int)) := by
    have h3 := Int.emod_nonneg (a.natAbs : Int) (show (b.natAbs : Int) ≠ 0 by omega)
    have h4 := Int.emod_lt_of_pos (a.natAbs : Int) (show 0 < (b.natAbs : Int) by omega)
    rw [val_digs h3, val_digs (by omega)]; omega
  have hll : rn ≤ ny := by
    have h3 := Int.emod_nonneg (a.natAbs : Int) (show (b.natAbs : Int) ≠ 0 by omega)
    have h4 := Int.emod_lt_of_pos (a.natAbs : Int) (show 0 < (b.natAbs : Int) by omega)
    rw [← hr.hlen, ← Hy.out.hlen]
    exact digs_len_mono h3 (by omega)
  obtain ⟨m, rfl⟩ : ∃ m, rn = m + 1 := ⟨rn - 1, by have := of_decide_eq_true hrp; omega⟩
  have HLE := Lib.hid hle
  have HLL := Lib.hid hll
  clear hq hr hrp hle hll
  go_wp2_with fail
  refine (natural_any 1 _ (by omega) (by omega)).mono ?_
  rintro e w2 ⟨⟨oa, on, oc, rfl, ho, hon⟩, he2⟩
  have HO := Lib.hid ho
  clear ho
  go_wp2_with fail
  refine (nadd_any qa oa qn qc on oc _ _ _ (HQ.out.ext he2) HO.out (by have := HQl.out; omega) (by omega)).mono ?_
  rintro e w3 ⟨⟨qa', qn', qc', rfl, hq'⟩, he3⟩
  rw [← HLQ.out] at hq'
  have HQ' := Lib.hid hq'
  clear hq'
  go_wp2_with fail
  refine (nsub_any ay ra ny cy (m + 1) rc _ _ _ (Hy.out.ext ((he0.trans he1).trans (he2.trans he3))) (HR.out.ext (he2.trans he3)) (by have := Hny.out; omega) HLE.out HLL.out).mono ?_
  rintro e w4 ⟨⟨ra', rn', rc', rfl, hr'⟩, he4⟩
  rw [← HLR.out] at hr'
  have HR' := Lib.hid hr'
  clear hr' 
  have HQl' : Hid (qn' ≤ 1073741825) := by
    rw [← HQ'.out.hlen, HLQ.out]
    have h2 := Int.ediv_nonneg (show 0 ≤ (a.natAbs : Int) by omega) (show 0 ≤ (b.natAbs : Int) by omega)
    have h4 := Int.ediv_le_self (a := (a.natAbs : Int)) (b.natAbs : Int) (by omega)
    rw [val_digs h2, val_digs (show (0 : Int) ≤ 1 by omega)]
    refine digs_succ_len h2 (Int.lt_of_le_of_lt h4 ha)
  have HRl' : Hid (rn' ≤ 1073741824) := by
    rw [← HR'.out.hlen, HLR.out]
    have h3 := Int.emod_nonneg (a.natAbs : Int) (show (b.natAbs : Int) ≠ 0 by omega)
    have h4 := Int.emod_lt_of_pos (a.natAbs : Int) (show 0 < (b.natAbs : Int) by omega)
    rw [val_digs h3, val_digs (show 0 ≤ (b.natAbs : Int) by omega)]
    refine digs_len_le (by omega) ?_
    unfold Fits at hB1
    omega
  have hd := hc0
  have hd' := hd0
  clear hc0 hd0 hd hd'
  have HQ4 := Lib.hid (HQ'.out.ext he4)
  have he1' := ((he1.trans he2).trans he3).trans he4
  have he1 := he1'
  clear he1' he2 he3 he4
  have hc0 := (hb0.ext he1).cell (i := 0) rfl
  have hd0 := (hb1.ext he1).cell (i := 0) rfl
  clear HQ HR HQl HRl
  have HQ := HQ4
  have HR := HR'
  have HQl := HQl'
  have HRl := HRl'
  clear HQ4 HR' HQl' HRl' HQ'
  obtain ⟨w1, rfl⟩ : ∃ x : World, x = w4 := ⟨_, rfl⟩
  go_wp2_with fail
  refine (signed_any _ _ _ _ _ (a / b) _ HQ.out (by have := HQl.out; omega) (HZq.out _ (by cases nb <;> rfl))).mono ?_
  rintro e w2 ⟨⟨s1, a1, n1, k1, rfl, hr1⟩, he2⟩
  go_wp2_with fail
  refine (signed_any _ _ _ _ _ (a % b) _ (HR.out.ext he2) (by have := HRl.out; omega) HZr.out).mono ?_
  rintro e w3 ⟨⟨s2, a2, n2, k2, rfl, hr2⟩, he3⟩
  have he4 := (he1.trans he2).trans he3
  have hb2' := hb2.ext he4
  have hb3' := hb3.ext he4
  have ec0 := hb2'.cell (i := 0) rfl
  have ec1 := hb2'.cell (i := 1) rfl
  have ef0 := hb2'.free 0
  have ef1 := hb2'.free 1
  have gc0 := hb3'.cell (i := 0) rfl
  have gc1 := hb3'.cell (i := 1) rfl
  have gf0 := hb3'.free 0
  have gf1 := hb3'.free 1
  go_wp2_with fail
  have hbA := ((hb2'.set2 (.bool s1) (.slice a1 n1 k1)).other (p := ⟨B + 1 + 1 + 1, 0, none⟩) (by show B + 1 + 1 + 1 ≠ B + 1 + 1; omega) (.bool s2)).other (p := ⟨B + 1 + 1 + 1, 1, none⟩) (by show B + 1 + 1 + 1 ≠ B + 1 + 1; omega) (.slice a2 n2 k2)
  have hbB := (hb3'.other (p := ⟨B + 1 + 1, 0, none⟩) (by show B + 1 + 1 ≠ B + 1 + 1 + 1; omega) (.bool s1)).other (p := ⟨B + 1 + 1, 1, none⟩) (by show B + 1 + 1 ≠ B + 1 + 1 + 1; omega) (.slice a1 n1 k1)
  refine bodyPost_ret (results_cct rfl rfl (load_int hbA) rfl (load_int (hbB.set2 _ _))) rfl ?_
  refine ⟨⟨_, _, rfl, ⟨_, _, _, _, rfl, hr1.1, ?_⟩, ⟨_, _, _, _, rfl, hr2.1, ?_⟩⟩, (((((he0.trans he4).store' HB (by omega) 0 _).store' HB (by omega) 1 _).store' HB (by omega) 0 _).store' HB (by omega) 1 _)⟩
  · exact ((hr1.2.ext he3).keep2 hb2' (by simp) (by simp) _ _).keep2 hbB (by simp) (by simp) _ _
  · exact (hr2.2.keep2 hb2' (by simp) (by simp) _ _).keep2 hbB (by simp) (by simp) _ _
/-- integer.DivMod, a divisor other than 0 -/
theorem divmod_any (x y : Value) (a b : Int) (w : World) (hx : IntV w x a) (hy : IntV w y b) (ha : Fits a 1073741824) (hB1 : Fits b 1073741824) (hb : b ≠ 0) :
    Calls Tryz.prog 25 #[x, y] w fun e w' => (∃ u v, e = .returned (.tuple #[u, v, .int .i64 0]) ∧ IntV w' u (a / b) ∧ IntV w' v (a % b)) ∧ Ext w w' := by
  by_cases h : a < 0 ∧ (a.natAbs : Int) % b.natAbs ≠ 0
  · exact divmod_up_walk x y a b w hx hy ha hB1 hb h.1 h.2
  · refine divmod_plain_walk x y a b w hx hy ha hb fun h1 => ?_
    by_cases h2 : (a.natAbs : Int) % b.natAbs = 0
    · exact h2
    · exact absurd ⟨of_decide_eq_true h1, h2⟩ h
end Go.Proofs.YtddcgojpgdhefaaGreatDoor
