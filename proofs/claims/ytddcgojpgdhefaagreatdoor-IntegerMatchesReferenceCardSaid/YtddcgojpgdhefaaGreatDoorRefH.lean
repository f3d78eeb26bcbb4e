/- The reference's powers: walked. -/
import Derived.Test.YtddcgojpgdhefaaGreatDoorRefF
import Derived.Test.YtddcgojpgdhefaaGreatDoorRegA
namespace Go.El
theorem Fits.powK {a : Int} {k : Nat} (h : Fits a k) (n : Nat) : Fits (a ^ n) (k * n + 1) := by
  induction n with
  | zero => rw [Int.pow_zero, Nat.mul_zero]; exact Fits.mono (show Fits 1 1 by unfold Fits; rw [pw_one]; decide) (by omega)
  | succ n ih =>
    rw [Int.pow_succ, Nat.mul_succ, Nat.add_right_comm]; exact ih.mul h
end Go.El
namespace Go.Proofs.YtddcgojpgdhefaaGreatDoor
open Go.RowKit Go.El
set_option linter.unusedVariables false
set_option maxRecDepth 100000 in
theorem rpower_zero (x : Value) (a : Int) (w : World) (hx : IntV w x a) :
    Calls Tryz.prog 84 #[x, .int .i64 0] w fun e w' => (∃ v, e = .returned v ∧ IntV w' v 1) ∧ Ext w w' := by
  obtain ⟨na, ax, nx, cx, rfl, hna, hwx⟩ := hx
  obtain ⟨B, w0, hB, hw0, hb0, hb1, he0⟩ := two w 24 24 [.bool na, .slice ax nx cx] [.bool false, .slice none 0 0]
  have HB := Lib.hid hB
  clear hna hwx
  go_enter Tryz.func84, Tryz.ntmps84
  go_wp2_with fail
  rw [← hw0, ← hB]
  clear hw0 hB
  refine (rof_any 1 _ (by omega) (by omega)).mono ?_
  rintro e w1 ⟨⟨v, rfl, sr, ar, nr, cr, rfl, hr⟩, he1⟩
  have hb2' := (hb1.ext he1)
  have e0 := hb2'.cell (i := 0) rfl
  have e1 := hb2'.cell (i := 1) rfl
  have f0 := hb2'.free 0
  have f1 := hb2'.free 1
  go_wp2_with fail
  refine bodyPost_ret (results_c rfl rfl (load_int (hb2'.set2 _ _))) rfl ?_
  exact ⟨⟨_, rfl, _, _, _, _, rfl, hr.1, hr.2.keep2 hb2' (by simp) (by simp) _ _⟩, (Ext.store' (he0.trans he1) HB (by omega) 0 _).store' HB (by omega) 1 _⟩
set_option maxRecDepth 100000 in
set_option maxHeartbeats 2000000 in
theorem rpower_step (x : Value) (a : Int) (K n : Nat) (w : World) (hx : IntV w x a) (hK : Fits a K) (hn : 1 ≤ n) (hb : K * n + K + 2 ≤ 1073741824) (hn2 : (n : Int) ≤ 1073741824)
    (ih : ∀ w, IntV w x a → Calls Tryz.prog 84 #[x, .int .i64 ((n : Int) / 2)] w fun e w' => (∃ v, e = .returned v ∧ IntV w' v (a ^ (n / 2))) ∧ Ext w w') :
    Calls Tryz.prog 84 #[x, .int .i64 n] w fun e w' => (∃ v, e = .returned v ∧ IntV w' v (a ^ n)) ∧ Ext w w' := by
  have HX := Lib.hid hx
  have HIH := Lib.hid ih
  obtain ⟨na, ax, nx, cx, rfl, hna, hwx⟩ := hx
  have hn0 : ((n : Int) == 0) = false := by simp; omega
  have HF : Hid (Fits (a ^ (n / 2)) 1073741824) := (hK.powK (n / 2)).mono (by
    have : K * (n / 2) ≤ K * n := Nat.mul_le_mul_left _ (Nat.div_le_self _ _)
    omega)
  have HF2 : Hid (Fits (a ^ (n / 2) * a ^ (n / 2)) 1073741824) := by
    show Fits (a ^ (n / 2) * a ^ (n / 2)) 1073741824
    rw [← Int.pow_add]
    refine (hK.powK (n / 2 + n / 2)).mono ?_
    have : K * (n / 2 + n / 2) ≤ K * n := Nat.mul_le_mul_left _ (by omega)
    omega
  have HK : Hid (Fits a 1073741824) := hK.mono (by
    have : K * 1 ≤ K * n := Nat.mul_le_mul_left _ hn
    omega)
  obtain ⟨B, w0, hB, hw0, hb0, hb1, he0⟩ := two w 24 24 [.bool na, .slice ax nx cx] [.bool false, .slice none 0 0]
  have hq0 := hw0.symm
  have hp0 := hB.symm
  have HB := Lib.hid hB
  have HB0 := Lib.hid hb0
  have HB1 := Lib.hid hb1
  have c0 := hb0.cell (i := 0) rfl
  have c1 := hb0.cell (i := 1) rfl
  clear hna hwx hK hb ih hw0 hB hb0 hb1
  go_enter Tryz.func84, Tryz.ntmps84
  go_wp2_with fail
  clear hq0 hp0 c0 c1
  refine (HIH.out _ (HX.out.ext he0)).mono ?_
  rintro e w1 ⟨⟨v, rfl, sh, ah, nh, ch, rfl, hh⟩, he1⟩
  have HH := Lib.hid hh
  obtain ⟨D, w2, hD, hw2, hbD, he2⟩ := one w1 24 [.bool sh, .slice ah nh ch]
  have hq0 := hw2.symm
  have hp0 := hD.symm
  have c0 := hbD.cell (i := 0) rfl
  have c1 := hbD.cell (i := 1) rfl
  clear hh hD hw2 hbD
  go_wp2_with fail
  clear hq0 hp0 c0 c1
  have HV : Hid (IntV w2 (.agg #[.bool sh, .slice ah nh ch]) (a ^ (n / 2))) := ⟨_, _, _, _, rfl, HH.out.ext he2⟩
  refine (rmul_any _ _ (a ^ (n / 2)) (a ^ (n / 2)) _ HV.out HV.out HF.out HF.out).mono ?_
  rintro e w3 ⟨⟨v, rfl, so, ao, no, co, rfl, ho⟩, he3⟩
  have HO := Lib.hid ho
  obtain ⟨E, w4, hE, hw4, hbE, he4⟩ := one w3 24 [.bool so, .slice ao no co]
  have hE0 : Hid (w.heap.size ≤ E) := by
    have := ((((he0.trans he1).trans he2).trans he3)).size
    show w.heap.size ≤ E
    rw [hE]; exact this
  have hEne : E ≠ B + 1 := by
    have h1 := (((HB1.out.ext he1).ext he2).ext he3).lt
    omega
  have hq0 := hw4.symm
  have hp0 := hE.symm
  have HBE := Lib.hid hbE
  have hE4 := (((he0.trans he1).trans he2).trans he3).trans he4
  have hR4 := Lib.hid ((((HB1.out.ext he1).ext he2).ext he3).ext he4)
  have hA4 := Lib.hid ((((HB0.out.ext he1).ext he2).ext he3).ext he4)
  have hX4 := Lib.hid (HX.out.ext hE4)
  have HO4 : Hid (IntV w4 (.agg #[.bool so, .slice ao no co]) (a ^ (n / 2) * a ^ (n / 2))) := ⟨_, _, _, _, rfl, HO.out.ext he4⟩
  have c0 := hbE.cell (i := 0) rfl
  have c1 := hbE.cell (i := 1) rfl
  clear ho hE hw4 hbE he0 he1 he2 he3 he4 HB0 HB1 HO
  rcases Nat.mod_two_eq_zero_or_one n with hm | hm
  · have hmi : ((n : Int).tmod 2 == 1) = false := by rw [Int.tmod_eq_emod_of_nonneg (by omega)]; simp; omega
    have hmj : ((n : Int) % 2 == 1) = false := by simp; omega
    have HP : Hid (a ^ (n / 2) * a ^ (n / 2) = a ^ n) := by
      show a ^ (n / 2) * a ^ (n / 2) = a ^ n
      rw [← Int.pow_add]; congr 1; omega
    have r0 := hR4.out.cell (i := 0) rfl
    have r1 := hR4.out.cell (i := 1) rfl
    have f0 := hR4.out.free 0
    have f1 := hR4.out.free 1
    go_wp2_with fail
    refine bodyPost_ret (results_c rfl rfl (load_int (hR4.out.set2 _ _))) rfl ?_
    obtain ⟨s, a', n', c', e, hi⟩ := HO4.out
    cases e
    rw [HP.out] at hi
    exact ⟨⟨_, rfl, _, _, _, _, rfl, hi.1, hi.2.keep2 hR4.out (by simp) (by simp) _ _⟩, (hE4.store' HB (by omega) 0 _).store' HB (by omega) 1 _⟩
  · have hmi : ((n : Int).tmod 2 == 1) = true := by rw [Int.tmod_eq_emod_of_nonneg (by omega)]; simp; omega
    have hmj : ((n : Int) % 2 == 1) = true := by simp; omega
    have HP : Hid (a ^ (n / 2) * a ^ (n / 2) * a = a ^ n) := by
      show a ^ (n / 2) * a ^ (n / 2) * a = a ^ n
      rw [← Int.pow_add, ← Int.pow_succ]; congr 1; omega
    have b0 := hA4.out.cell (i := 0) rfl
    have b1 := hA4.out.cell (i := 1) rfl
    go_wp2_with fail
    clear hq0 hp0 c0 c1 b0 b1
    refine (rmul_any _ _ (a ^ (n / 2) * a ^ (n / 2)) a _ HO4.out hX4.out HF2.out HK.out).mono ?_
    rintro e w5 ⟨⟨v, rfl, su, au, nu, cu, rfl, hu⟩, he5⟩
    have HU := Lib.hid hu
    have hE5 := Lib.hid (HBE.out.ext he5)
    have hR5 := Lib.hid (hR4.out.ext he5)
    have r0 := hR5.out.cell (i := 0) rfl
    have r1 := hR5.out.cell (i := 1) rfl
    have f0 := hR5.out.free 0
    have f1 := hR5.out.free 1
    have c0 := hE5.out.cell (i := 0) rfl
    have c1 := hE5.out.cell (i := 1) rfl
    have g0 := hE5.out.free 0
    have g1 := hE5.out.free 1
    clear hu
    go_wp2_with fail
    have hR6 := (hR5.out.other (p := ⟨E, 0, none⟩) hEne (.bool su)).other (p := ⟨E, 1, none⟩) hEne (.slice au nu cu)
    refine bodyPost_ret (results_c rfl rfl (load_int (hR6.set2 _ _))) rfl ?_
    have hi := HU.out
    rw [HP.out] at hi
    exact ⟨⟨_, rfl, _, _, _, _, rfl, hi.1, (hi.2.keep2 hE5.out (by simp) (by simp) _ _).keep2 hR6 (by simp) (by simp) _ _⟩, ((((hE4.trans he5).setCell (p := ⟨E, 0, none⟩) hE0.out _).setCell (p := ⟨E, 1, none⟩) hE0.out _).store' HB (by omega) 0 _).store' HB (by omega) 1 _⟩
/-- ref.power -/
theorem rpower_any (a : Int) (K N : Nat) (hK : Fits a K) (hb : K * N + K + 2 ≤ 1073741824) (hN : N ≤ 1073741824) :
    ∀ (k n : Nat), n ≤ k → n ≤ N → ∀ (x : Value) (w : World), IntV w x a →
    Calls Tryz.prog 84 #[x, .int .i64 n] w fun e w' => (∃ v, e = .returned v ∧ IntV w' v (a ^ n)) ∧ Ext w w' := by
  intro k
  induction k with
  | zero =>
    intro n hn _ x w hx
    obtain rfl : n = 0 := by omega
    rw [Int.pow_zero]
    exact rpower_zero x a w hx
  | succ k ih =>
    intro n hn hnN x w hx
    by_cases h0 : n = 0
    · subst h0
      rw [Int.pow_zero]
      exact rpower_zero x a w hx
    · have h1 : K * n ≤ K * N := Nat.mul_le_mul_left _ hnN
      refine rpower_step x a K n w hx hK (by omega) (by omega) (by omega) fun w' hx' => ?_
      have := ih (n / 2) (by omega) (by omega) x w' hx'
      rwa [show ((n / 2 : Nat) : Int) = (n : Int) / 2 by omega] at this
set_option maxRecDepth 100000 in
theorem rPow_err (x : Value) (a n : Int) (w : World) (hx : IntV w x a) (hn : n < 0 ∨ 4096 < n) :
    Calls Tryz.prog 46 #[x, .int .i64 n] w fun e w' => e = .returned (.tuple #[.agg #[.bool false, .slice none 0 0], .int .i64 1]) ∧ Ext w w' := by
  obtain ⟨na, ax, nx, cx, rfl, hna, hwx⟩ := hx
  clear hna hwx
  obtain ⟨B, w0, hB, hw0, hb0, hb1, he0⟩ := two w 24 24 [.bool na, .slice ax nx cx] [.bool false, .slice none 0 0]
  by_cases h : n < 0
  · go_enter Tryz.func46, Tryz.ntmps46
    go_wp2_with fail
    rw [← hw0, ← hB]
    exact bodyPost_ret (results_ct rfl rfl (intv_zero hb1)) rfl ⟨rfl, he0⟩
  · have h4 : 4096 < n := by omega
    go_enter Tryz.func46, Tryz.ntmps46
    go_wp2_with fail
    rw [← hw0, ← hB]
    exact bodyPost_ret (results_ct rfl rfl (intv_zero hb1)) rfl ⟨rfl, he0⟩
set_option maxRecDepth 100000 in
theorem rPow_any (x : Value) (a : Int) (n K : Nat) (w : World) (hx : IntV w x a) (hK : Fits a K) (hn : n ≤ 4096) (hb : K * n + K + 2 ≤ 1073741824) :
    Calls Tryz.prog 46 #[x, .int .i64 n] w fun e w' => (∃ v, e = .returned (.tuple #[v, .int .i64 0]) ∧ IntV w' v (a ^ n)) ∧ Ext w w' := by
  have HX := Lib.hid hx
  obtain ⟨na, ax, nx, cx, rfl, hna, hwx⟩ := hx
  have HP := Lib.hid (fun W hW => rpower_any a K n hK hb (by omega) n n (Nat.le_refl _) (Nat.le_refl _) (.agg #[.bool na, .slice ax nx cx]) W hW)
  obtain ⟨B, w0, hB, hw0, hb0, hb1, he0⟩ := two w 24 24 [.bool na, .slice ax nx cx] [.bool false, .slice none 0 0]
  have HB := Lib.hid hB
  have c0 := hb0.cell (i := 0) rfl
  have c1 := hb0.cell (i := 1) rfl
  have hq0 := hw0.symm
  have hp0 := hB.symm
  have d1 : decide ((n : Int) < 0) = false := by simp
  have d2 : decide ((4096 : Int) < (n : Int)) = false := by simp; omega
  clear hna hwx hK hb hw0 hB hb0
  go_enter Tryz.func46, Tryz.ntmps46
  go_wp2_with fail
  clear hq0 hp0 c0 c1
  refine (HP.out _ (HX.out.ext he0)).mono ?_
  rintro e w1 ⟨⟨v, rfl, sr, ar, nr, cr, rfl, hr⟩, he1⟩
  have hb2' := (hb1.ext he1)
  have e0 := hb2'.cell (i := 0) rfl
  have e1 := hb2'.cell (i := 1) rfl
  have f0 := hb2'.free 0
  have f1 := hb2'.free 1
  go_wp2_with fail
  refine bodyPost_ret (results_ct rfl rfl (load_int (hb2'.set2 _ _))) rfl ?_
  exact ⟨⟨_, rfl, _, _, _, _, rfl, hr.1, hr.2.keep2 hb2' (by simp) (by simp) _ _⟩, ((he0.trans he1).store' HB (by omega) 0 _).store' HB (by omega) 1 _⟩
end Go.Proofs.YtddcgojpgdhefaaGreatDoor
