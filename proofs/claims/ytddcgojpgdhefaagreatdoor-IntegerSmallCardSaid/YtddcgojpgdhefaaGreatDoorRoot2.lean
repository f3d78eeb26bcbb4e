/- integer.Root, Newton's loop. -/
import Derived.Test.YtddcgojpgdhefaaGreatDoorRoot
namespace Go.Proofs.YtddcgojpgdhefaaGreatDoor
open Go.RowKit Go.El
set_option linter.unusedVariables false
set_option maxRecDepth 100000 in
set_option maxHeartbeats 2000000 in
theorem Root_newton (x : Value) (a : Int) (k : Nat) (w : World) (hx : IntV w x a) (ha : Fits a 1000) (h0 : 0 ≤ a) (hk : 1 ≤ k) (hbig : k < blen a.natAbs) :
    Calls Tryz.prog 27 #[x, .int .i64 k] w fun e w' => (∃ v r, e = .returned (.tuple #[v, .int .i64 0]) ∧ IntV w' v r ∧ IsRoot a k r) ∧ Ext w w' := by
  have HX := Lib.hid hx
  obtain ⟨na, ax, nx, cx, rfl, hna, hwx⟩ := hx
  obtain rfl : na = false := by rw [hna]; simp [h0]
  obtain ⟨B, w0, hB, hw0, hb0, hb1, he0⟩ := two w 24 24 [.bool false, .slice ax nx cx] [.bool false, .slice none 0 0]
  have hk3 : decide ((k : Int) < 1) = false := by simp; omega
  obtain ⟨bl, hbl⟩ : ∃ bl, bl = blen a.natAbs := ⟨_, rfl⟩
  have hbl2 : bl ≤ 32000 := by rw [hbl]; exact fits_blen ha
  rw [← hbl] at hbig
  have hkb : decide ((bl : Int) ≤ (k : Int)) = false := by simp; omega
  obtain ⟨c, hc⟩ : ∃ c, c = (bl + k - 1) / k := ⟨_, rfl⟩
  have hcb : c ≤ bl := by rw [hc]; exact ceil_le (by omega) hk
  have HCI : Hid (((bl : Int) + k - 1) / k = (c : Int)) := by rw [hc]; exact ceil_int hk
  have HX0 := Lib.hid (HX.out.ext he0)
  have Hx := Lib.hid (hwx.ext he0)
  have HA := Lib.hid ha
  have HBl := Lib.hid hbl
  have HC := Lib.hid hc
  have H0 := Lib.hid h0
  clear hna hwx ha hbl hc h0
  go_enter Tryz.func27, Tryz.ntmps27
  go_wp2_with fail
  rw [← hw0, ← hB]
  have c0 := hb0.cell (i := 0) rfl
  have c1 := hb0.cell (i := 1) rfl
  have HB := Lib.hid hB
  have HB1 := Lib.hid hb1
  clear hw0 hB hb0 hb1
  refine (bits_any _ a _ HX0.out (HA.out.mono (by omega))).mono ?_
  rintro e w1 ⟨rfl, he1⟩
  rw [← HBl.out]
  have d0 := he1.cell c0
  have d1 := he1.cell c1
  go_wp2_with fail
  have KH : Hid (∀ w', Ext w1 w' → w'.cell? ⟨B, 0, none⟩ = some (.bool false) ∧ w'.cell? ⟨B, 1, none⟩ = some (.slice ax nx cx)) := fun w' h => ⟨h.cell d0, h.cell d1⟩
  have wq1 : IntKind.i64.wrap ((bl : Int) + k) = (bl : Int) + k := IntWalk.i64_in _ (by omega)
  have wq2 : IntKind.i64.wrap ((bl : Int) + k - 1) = (bl : Int) + k - 1 := IntWalk.i64_in _ (by omega)
  have wq3 : IntKind.i64.wrap (c : Int) = (c : Int) := IntWalk.i64_in _ (by omega)
  have wq4 : ((k : Int) == 0) = false := by simp; omega
  have wq5 : ((bl : Int) + k - 1).tdiv k = (c : Int) := by rw [Int.tdiv_eq_ediv_of_nonneg (by omega)]; exact HCI.out
  have wq6 : ¬ (k : Int) = 0 := by omega
  have wq7 : ¬ k = 0 := by omega
  go_region_held3
    (fun w' => w'.cell? ⟨B, 0, none⟩ = some (.bool false) ∧ w'.cell? ⟨B, 1, none⟩ = some (.slice ax nx cx))
    (first | exact KH.out _ (Ext.refl _).drew | exact KH.out _ ((Ext.refl w1).drew.trans he2) | exact KH.out _ (((Ext.refl w1).drew.trans he2).trans he3) | exact KH.out _ ((((Ext.refl w1).drew.trans he2).trans he3).trans he4))
    (first
    | (go_at_call 60; (with_reducible refine (natural_any 2 _ (by omega) (by omega)).mono ?_); rintro e w2 ⟨⟨ta, tn, tc, rfl, ht, htn⟩, he2⟩)
    | (go_at_call 33; (with_reducible refine (bits_any _ a _ (HX0.out.ext ((he1.drew).trans he2)) (HA.out.mono (by omega))).mono ?_); rintro e w3 ⟨rfl, he3⟩; rw [← HBl.out])
    | (go_at_call 61; (try rw [HCI.out]); (with_reducible refine (npow_any _ _ _ 2 c 1 _ (by omega) (ht.ext he3) (by rw [pw_one]; omega) (by omega) (by omega)).mono ?_); rintro e w4 ⟨⟨ra, rn, rc, rfl, hr⟩, he4⟩)
    )
  clear wq1 wq2 wq3 wq4 wq5 wq6 wq7
  have HR0 := Lib.hid hr
  have HE4 : Ext w w4 := (((he0.trans he1).drew.trans he2).trans he3).trans he4
  have HB4 := Lib.hid (((((HB1.out.ext he1).drew).ext he2).ext he3).ext he4)
  have HX4 := Lib.hid ((((Hx.out.ext he1.drew).ext he2).ext he3).ext he4)
  clear hr ht htn he1 he2 he3 he4 d0 d1 c0 c1 KH HX0 Hx HB1 he0 HX HCI
  obtain ⟨kk, hkk, HK⟩ : ∃ kk : Nat, (k : Int) - 1 = (kk : Int) ∧ Hid (k = kk + 1) := ⟨k - 1, by omega, show k = k - 1 + 1 by omega⟩
  have HA0 : Hid (a.natAbs = a.toNat ∧ (a.natAbs : Int) = a) := by have := H0.out; exact ⟨by omega, by omega⟩
  have HA1 : Hid (1 ≤ a) := by
    have h1 := H0.out
    have h2 := HBl.out
    show 1 ≤ a
    by_cases h3 : a = 0
    · subst h3; rw [show blen (Int.natAbs 0) = 0 from rfl] at h2; omega
    · omega
  have HXn : Hid (nx ≤ 1000) := by
    have := HA.out.len
    rwa [HX4.out.hlen] at this
  go_wp2_with fail
  go_loopw [7] (fun r wr => ∃ root : Int, 1 ≤ root ∧ root ≤ 2 ^ c ∧ a < (root + 1) ^ k ∧ Ext w4 wr ∧ (∃ ra rn rc, r = .slice ra rn rc ∧ Words wr ra rn rc (digs root))) (fun r wr => mval wr r)
  case atStart =>
    have h2 : (0 : Int) < 2 ^ c := Int.pow_pos (by omega)
    exact ⟨2 ^ c, by omega, Int.le_refl _, root_start H0.out (b := bl) (by rw [HBl.out, ← HA0.out.1]; exact blen_lt _) hk HC.out, Ext.refl _, ⟨_, _, _, rfl, HR0.out⟩⟩
  case round =>
    obtain ⟨root, hr1, hrc, hup, he, ⟨ra', rn', rc', rfl, hr⟩⟩ := hrel
    have HR := Lib.hid hr
    have HRC := Lib.hid hrc
    have HUP := Lib.hid hup
    have HR1 := Lib.hid hr1
    have hrK : root < pw (c / 32 + 1) := by
      refine Int.lt_of_le_of_lt hrc ?_
      rw [pw_pow, Int.natCast_pow]
      have : (2 : Nat) ^ c < 2 ^ (32 * (c / 32 + 1)) := Nat.pow_lt_pow_right (by omega) (by omega)
      have h3 : ((2 ^ c : Nat) : Int) < ((2 ^ (32 * (c / 32 + 1)) : Nat) : Int) := by exact_mod_cast this
      rwa [Int.natCast_pow, Int.natCast_pow] at h3
    have hKk : (c / 32 + 1) * kk ≤ 1073741824 := by
      have h1 : (c / 32 + 1) * kk ≤ 1001 * kk := Nat.mul_le_mul_right _ (by omega)
      have := HK.out
      omega
    have HRK := Lib.hid hrK
    have HKK := Lib.hid hKk
    clear hr hrc hup hr1 hrK hKk
    have hkn : kk ≤ 32000 := by have := HK.out; omega
    go_wp2_with fail
    refine (npow_any _ _ _ root kk (c / 32 + 1) _ (by have := HR1.out; omega) HR.out HRK.out (by omega) HKK.out).mono ?_
    rintro e w5 ⟨⟨pa, pn, pc, rfl, hp⟩, he5⟩
    have HP := Lib.hid hp
    clear hp
    have HRP : Hid (0 < root ^ kk) := Int.pow_pos (by have := HR1.out; omega)
    go_wp2_with fail
    refine (ndiv_any _ _ _ _ _ _ (a.natAbs : Int) (root ^ kk) _ (by omega) HRP.out (HX4.out.ext (he.trans he5)) HP.out (by have := HXn.out; omega)).mono ?_
    rintro e w6 ⟨⟨qa, qn, qc, sa, sn, sc, rfl, hq, hs⟩, he6⟩
    have HQ := Lib.hid hq
    clear hq hs
    go_wp2_with fail
    have hq0 : 0 ≤ (a.natAbs : Int) / root ^ kk := Int.ediv_nonneg (by omega) (Int.le_of_lt HRP.out)
    have HQ0 := Lib.hid hq0
    clear hq0
    have HQn : Hid (qn ≤ 1000) := by
      show qn ≤ 1000
      rw [← HQ.out.hlen]
      refine Nat.le_trans (div_len (show 0 ≤ (a.natAbs : Int) by omega) HRP.out) ?_
      rw [HX4.out.hlen]; exact HXn.out
    have HRn : Hid (rn' ≤ 1001) := by
      show rn' ≤ 1001
      rw [← HR.out.hlen]
      exact Nat.le_trans (digs_len_le (by have := HR1.out; omega) HRK.out) (by omega)
    refine (natural_any (kk : Int) _ (by omega) (by omega)).mono ?_
    rintro e w7 ⟨⟨ka, kn, kc, rfl, hkw, hkn2⟩, he7⟩
    have HKw := Lib.hid hkw
    clear hkw
    go_wp2_with fail
    refine (nmul_any _ _ _ _ _ _ _ _ _ (HR.out.ext ((he5.trans he6).trans he7)) HKw.out (by have := HRn.out; omega) (by omega)).mono ?_
    rintro e w8 ⟨⟨ma, mn, mc, rfl, hm⟩, he8⟩
    rw [val_digs (show 0 ≤ root by have := HR1.out; omega), val_digs (show 0 ≤ (kk : Int) by omega)] at hm
    have HM := Lib.hid hm
    have HM0 : Hid (0 ≤ root * (kk : Int)) := Int.mul_nonneg (by have := HR1.out; omega) (by omega)
    have HMn : Hid (mn ≤ 1003) := by
      show mn ≤ 1003
      rw [← hm.hlen]
      refine digs_len_le HM0.out ?_
      rw [show (1003 : Nat) = 1001 + 2 from rfl, pw_add]
      have h1 : root < pw 1001 := Int.lt_of_lt_of_le HRK.out (pw_le (by omega))
      have h2 : (kk : Int) < pw 2 := by rw [pw_pow]; show (kk : Int) < 18446744073709551616; omega
      have h3 : root * (kk : Int) ≤ root * pw 2 := Int.mul_le_mul_of_nonneg_left (Int.le_of_lt h2) (by have := HR1.out; omega)
      have h4 : root * pw 2 < pw 1001 * pw 2 := Int.mul_lt_mul_of_pos_right h1 (pw_pos 2)
      omega
    clear hm
    go_wp2_with fail
    refine (nadd_any _ _ _ _ _ _ _ _ _ HM.out (HQ.out.ext (he7.trans he8)) (by have := HMn.out; omega) (by have := HQn.out; omega)).mono ?_
    rintro e w9 ⟨⟨sa', sn', sc', rfl, hs⟩, he9⟩
    rw [val_digs HM0.out, val_digs HQ0.out] at hs
    have HS := Lib.hid hs
    have HSn : Hid (sn' ≤ 1004) := by
      show sn' ≤ 1004
      rw [← hs.hlen]
      have h1 := digs_len_lt HM0.out
      rw [HM.out.hlen] at h1
      have h2 := digs_len_lt HQ0.out
      rw [HQ.out.hlen] at h2
      have h3 := pw_le (show mn ≤ 1003 from HMn.out)
      have h4 := pw_le (show qn ≤ 1003 by have := HQn.out; omega)
      have := HM0.out
      have := HQ0.out
      refine digs_len_le (by omega) ?_
      rw [show (1004 : Nat) = 1003 + 1 from rfl, pw]
      have := pw_pos 1003
      omega
    clear hs
    go_wp2_with fail
    refine (natural_any (k : Int) _ (by omega) (by omega)).mono ?_
    rintro e w10 ⟨⟨ja, jn, jc, rfl, hj, hjn⟩, he10⟩
    have HJ := Lib.hid hj
    clear hj
    go_wp2_with fail
    refine (ndiv_any _ _ _ _ _ _ (root * (kk : Int) + (a.natAbs : Int) / root ^ kk) (k : Int) _ (by have := HM0.out; have := HQ0.out; omega) (by omega) (HS.out.ext he10) HJ.out (by have := HSn.out; omega)).mono ?_
    rintro e w11 ⟨⟨na, nn, nc, ea, en, ec, rfl, hn, he_⟩, he11⟩
    have HN := Lib.hid hn
    clear hn he_
    obtain ⟨next, hnext⟩ : ∃ next, next = (root * (kk : Int) + (a.natAbs : Int) / root ^ kk) / (k : Int) := ⟨_, rfl⟩
    rw [← hnext] at HN
    have HU := newton_up (a := a) (x := root) (q := (a.natAbs : Int) / root ^ kk) (n := next) (k := kk) HR1.out (by have := HA1.out; omega) (by rw [HA0.out.2]) (by rw [hnext, show (k : Int) = (kk : Int) + 1 by omega])
    have HU1 := Lib.hid HU
    have HSt : Hid (root ≤ next → root ^ (kk + 1) ≤ a) := fun h => newton_stop (a := a) (x := root) (q := (a.natAbs : Int) / root ^ kk) (n := next) (k := kk) HR1.out (by have := HA1.out; omega) (by rw [HA0.out.2]) (by rw [hnext, show (k : Int) = (kk : Int) + 1 by omega]) h
    have HNe := Lib.hid hnext
    clear hnext HU
    have he12 := ((((((he5.trans he6).trans he7).trans he8).trans he9).trans he10).trans he11)
    have HRw := Lib.hid (HR.out.ext he12)
    go_wp2_with fail
    refine (ncmp_any _ _ _ _ _ _ next root _ HU1.out.2 (by have := HR1.out; omega) HN.out HRw.out).mono ?_
    rintro e w12 ⟨rfl, hd⟩
    obtain ⟨d, rfl⟩ := hd
    obtain ⟨s, hs⟩ : ∃ s, s = sgn next root := ⟨_, rfl⟩
    have hsc := sgn_cases next root
    rw [← hs] at hsc ⊢
    clear hs
    by_cases hge : root ≤ next
    · have hs0 : 0 ≤ s := by omega
      have hs1 : decide (0 ≤ s) = true := decide_eq_true hs0
      have HGE := Lib.hid hge
      clear hsc hge
      go_wp2_with fail
      refine (signed_any _ _ _ _ _ root _ (HRw.out.ext ((Ext.refl _).drewN d)) (by have := HRn.out; omega) (by rw [if_neg (by simp), val_digs (by have := HR1.out; omega)])).mono ?_
      rintro e w13 ⟨⟨sr, ar, nr, cr, rfl, hr⟩, he13⟩
      have he14 := (he12.drewN d).trans he13
      have hb2' := ((HB4.out.ext he).ext he14)
      have e0 := hb2'.cell (i := 0) rfl
      have e1 := hb2'.cell (i := 1) rfl
      have f0 := hb2'.free 0
      have f1 := hb2'.free 1
      go_wp2_with fail
      refine bodyPost_ret (results_ct rfl rfl (load_int (hb2'.set2 _ _))) rfl ?_
      exact ⟨⟨_, root, rfl, ⟨_, _, _, _, rfl, hr.1, hr.2.keep2 hb2' (by simp) (by simp) _ _⟩, ⟨by have := HR1.out; omega, by rw [HK.out]; exact HSt.out HGE.out, HUP.out⟩⟩, ((HE4.trans he).trans he14).store' HB (by omega) 0 _ |>.store' HB (by omega) 1 _⟩
    · have hs0 : s < 0 := by omega
      have hs1 : decide (0 ≤ s) = false := decide_eq_false (by omega)
      have HGE := Lib.hid hge
      have HN1 : Hid (1 ≤ next) := by
        show 1 ≤ next
        by_cases h3 : next = 0
        · have h4 := HU1.out.1
          rw [h3, Int.zero_add, Int.one_pow] at h4
          have := HA1.out
          omega
        · have := HU1.out.2; omega
      have hms : Hid (mval (w11.drewN d) (.slice na nn nc) < mval wr (.slice ra' rn' rc')) := by
        show mval (w11.drewN d) (.slice na nn nc) < mval wr (.slice ra' rn' rc')
        rw [mval_eq (HN.out.ext ((Ext.refl _).drewN d)), mval_eq HR.out, val_digs (by have := HN1.out; omega), val_digs (by have := HR1.out; omega)]
        have := HN1.out
        have := HR1.out
        omega
      clear hsc hge
      go_wp2_with fail
      go_roundw
      case rel => exact ⟨next, HN1.out, by have := HRC.out; have := HGE.out; omega, by rw [HK.out]; exact HU1.out.1, he.trans (he12.drewN d), ⟨_, _, _, rfl, HN.out.ext ((Ext.refl _).drewN d)⟩⟩
      case measure => exact hms.out
theorem Root_any (x : Value) (a : Int) (k : Nat) (w : World) (hx : IntV w x a) (ha : Fits a 1000) (h0 : 0 ≤ a) (hk : 1 ≤ k) (hk2 : k ≤ 9223372036854775807) :
    Calls Tryz.prog 27 #[x, .int .i64 k] w fun e w' => (∃ v r, e = .returned (.tuple #[v, .int .i64 0]) ∧ IntV w' v r ∧ IsRoot a k r) ∧ Ext w w' := by
  by_cases h : blen a.natAbs ≤ k
  · exact Root_big x a k w hx ha h0 hk hk2 h
  · exact Root_newton x a k w hx ha h0 hk (by omega)
end Go.Proofs.YtddcgojpgdhefaaGreatDoor
