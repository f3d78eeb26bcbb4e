/- integer.Root, walked. -/
import Derived.Test.YtddcgojpgdhefaaGreatDoorRootM
namespace Go.Proofs.YtddcgojpgdhefaaGreatDoor
open Go.RowKit Go.El
set_option linter.unusedVariables false
set_option maxRecDepth 100000 in
set_option maxHeartbeats 1000000 in
theorem Root_err (x : Value) (a k : Int) (w : World) (hx : IntV w x a) (hk : a < 0 ∨ k < 1) :
    Calls Tryz.prog 27 #[x, .int .i64 k] w fun e w' => e = .returned (.tuple #[.agg #[.bool false, .slice none 0 0], .int .i64 1]) ∧ Ext w w' := by
  obtain ⟨na, ax, nx, cx, rfl, hna, hwx⟩ := hx
  obtain ⟨B, w0, hB, hw0, hb0, hb1, he0⟩ := two w 24 24 [.bool na, .slice ax nx cx] [.bool false, .slice none 0 0]
  cases na with
  | true =>
    clear hna hwx hk
    go_enter Tryz.func27, Tryz.ntmps27
    go_wp2_with fail
    rw [← hw0, ← hB]
    exact bodyPost_ret (results_ct rfl rfl (intv_zero hb1)) rfl ⟨rfl, he0⟩
  | false =>
    have h0 := of_decide_eq_false hna.symm
    have h1 : decide (k < 1) = true := by simp; omega
    have h2 : k < 1 := by omega
    clear hna hwx hk h0
    go_enter Tryz.func27, Tryz.ntmps27
    go_wp2_with fail
    rw [← hw0, ← hB]
    exact bodyPost_ret (results_ct rfl rfl (intv_zero hb1)) rfl ⟨rfl, he0⟩
set_option maxRecDepth 100000 in
set_option maxHeartbeats 1000000 in
theorem Root_big (x : Value) (a : Int) (k : Nat) (w : World) (hx : IntV w x a) (ha : Fits a 1000) (h0 : 0 ≤ a) (hk : 1 ≤ k) (hk2 : k ≤ 9223372036854775807) (hbig : blen a.natAbs ≤ k) :
    Calls Tryz.prog 27 #[x, .int .i64 k] w fun e w' => (∃ v r, e = .returned (.tuple #[v, .int .i64 0]) ∧ IntV w' v r ∧ IsRoot a k r) ∧ Ext w w' := by
  have HX := Lib.hid hx
  obtain ⟨na, ax, nx, cx, rfl, hna, hwx⟩ := hx
  obtain rfl : na = false := by rw [hna]; simp [h0]
  obtain ⟨B, w0, hB, hw0, hb0, hb1, he0⟩ := two w 24 24 [.bool false, .slice ax nx cx] [.bool false, .slice none 0 0]
  have hk3 : decide ((k : Int) < 1) = false := by simp; omega
  have HA := Lib.hid ha
  have HR : Hid (IsRoot a k (sgn a 0)) := isRoot_big h0 (b := blen a.natAbs) (by have := blen_lt a.natAbs; rwa [show a.natAbs = a.toNat by omega] at this ⊢) hk hbig
  clear hna hwx ha
  obtain ⟨s, hs, hs0, hs1⟩ : ∃ s : Int, s = sgn a 0 ∧ 0 ≤ s ∧ s ≤ 1 := ⟨_, rfl, by have := sgn_cases a 0; omega, by have := sgn_cases a 0; omega⟩
  obtain ⟨bl, hbl⟩ : ∃ bl, bl = blen a.natAbs := ⟨_, rfl⟩
  rw [← hbl] at hbig
  have hkb : decide ((bl : Int) ≤ (k : Int)) = true := by simp; omega
  have HS := Lib.hid hs
  have HBl := Lib.hid hbl
  have H0 := Lib.hid h0
  clear hs hbl h0
  go_enter Tryz.func27, Tryz.ntmps27
  go_wp2_with fail
  rw [← hw0, ← hB]
  have c0 := hb0.cell (i := 0) rfl
  have c1 := hb0.cell (i := 1) rfl
  have HB := Lib.hid hB
  clear hw0 hB hb0
  refine (bits_any _ a _ (HX.out.ext he0) (HA.out.mono (by omega))).mono ?_
  rintro e w1 ⟨rfl, he1⟩
  rw [← HBl.out]
  have d0 := he1.cell c0
  have d1 := he1.cell c1
  go_wp2_with fail
  refine (sign_any _ a _ (HX.out.ext (he0.trans he1))).mono ?_
  rintro e w2 ⟨rfl, he2⟩
  rw [← HS.out]
  go_wp2_with fail
  refine (natural_any s _ (by omega) (by omega)).mono ?_
  rintro e w3 ⟨⟨na, nn, nc, rfl, hn, hnn⟩, he3⟩
  have HN := Lib.hid hn
  clear hn
  go_wp2_with fail
  refine (signed_any _ _ _ _ _ s _ HN.out (by omega) (by rw [if_neg (by simp), val_digs hs0])).mono ?_
  rintro e w4 ⟨⟨sr, ar, nr, cr, rfl, hr⟩, he4⟩
  have hb2' := ((((hb1.ext he1).ext he2).ext he3).ext he4)
  have e0 := hb2'.cell (i := 0) rfl
  have e1 := hb2'.cell (i := 1) rfl
  have f0 := hb2'.free 0
  have f1 := hb2'.free 1
  go_wp2_with fail
  refine bodyPost_ret (results_ct rfl rfl (load_int (hb2'.set2 _ _))) rfl ?_
  exact ⟨⟨_, s, rfl, ⟨_, _, _, _, rfl, hr.1, hr.2.keep2 hb2' (by simp) (by simp) _ _⟩, by rw [HS.out]; exact HR.out⟩, ((((he0.trans he1).trans he2).trans he3).trans he4).store' HB (by omega) 0 _ |>.store' HB (by omega) 1 _⟩
end Go.Proofs.YtddcgojpgdhefaaGreatDoor
