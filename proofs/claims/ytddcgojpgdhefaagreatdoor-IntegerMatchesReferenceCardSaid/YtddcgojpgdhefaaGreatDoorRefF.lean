/- The reference's order, absolute value, greatest common divisor, small numbers, bits: walked. -/
import Derived.Test.YtddcgojpgdhefaaGreatDoorRefE
import Derived.Test.YtddcgojpgdhefaaGreatDoorPowA
namespace Go.El
theorem pw_two : pw 2 = 18446744073709551616 := by rw [pw_pow]; rfl
theorem blen_bitLen {n : Nat} (h : n < 4294967296) : blen n = Lib.bitLen n := by
  by_cases h0 : n = 0
  · subst h0; decide
  · obtain ⟨h1, h2, h3, _⟩ := bitLen_pos h0 h
    have := blen_of (n := n) (m := Lib.bitLen n - 1) h2 (by rwa [show Lib.bitLen n - 1 + 1 = Lib.bitLen n by omega])
    omega
end Go.El
namespace Go.Proofs.YtddcgojpgdhefaaGreatDoor
open Go.RowKit Go.El
set_option linter.unusedVariables false
set_option maxRecDepth 100000 in
theorem rcmp_signs (x y : Value) (a b : Int) (w : World) (hx : IntV w x a) (hy : IntV w y b) (hsg : decide (a < 0) ≠ decide (b < 0)) :
    Calls Tryz.prog 41 #[x, y] w fun e w' => e = .returned (.int .i64 (sgn a b)) ∧ Ext w w' := by
  obtain ⟨na, ax, nx, cx, rfl, hna, hwx⟩ := hx
  obtain ⟨nb, ay, ny, cy, rfl, hnb, hwy⟩ := hy
  clear hwx hwy
  obtain ⟨B, w0, hB, hw0, hb0, hb1, he0⟩ := two w 24 24 [.bool na, .slice ax nx cx] [.bool nb, .slice ay ny cy]
  by_cases h1 : a < 0
  · have h2 : ¬ b < 0 := by intro h; simp [h1, h] at hsg
    obtain rfl : na = true := by rw [hna]; simp [h1]
    obtain rfl : nb = false := by rw [hnb]; simp [h2]
    rw [sgn_lt (by omega)]
    clear hna hnb hsg h1 h2
    go_enter Tryz.func41, Tryz.ntmps41
    go_wp2_with fail
    go_ret
    rw [← hw0]
    exact ⟨rfl, he0⟩
  · have h2 : b < 0 := by
      apply Decidable.byContradiction
      intro h; simp [h1, h] at hsg
    obtain rfl : na = false := by rw [hna]; simp [h1]
    obtain rfl : nb = true := by rw [hnb]; simp [h2]
    rw [sgn_gt (by omega)]
    clear hna hnb hsg h1 h2
    go_enter Tryz.func41, Tryz.ntmps41
    go_wp2_with fail
    go_ret
    rw [← hw0]
    exact ⟨rfl, he0⟩
set_option maxRecDepth 100000 in
theorem rcmp_minus (x y : Value) (a b : Int) (w : World) (hx : IntV w x a) (hy : IntV w y b) (h1 : a < 0) (h2 : b < 0) :
    Calls Tryz.prog 41 #[x, y] w fun e w' => e = .returned (.int .i64 (sgn a b)) ∧ Ext w w' := by
  obtain ⟨na, ax, nx, cx, rfl, hna, hwx⟩ := hx
  obtain ⟨nb, ay, ny, cy, rfl, hnb, hwy⟩ := hy
  obtain rfl : na = true := by rw [hna]; simp [h1]
  obtain rfl : nb = true := by rw [hnb]; simp [h2]
  have HS : Hid (sgn (b.natAbs : Int) (a.natAbs : Int) = sgn a b) := by
    rw [show (a.natAbs : Int) = -a by omega, show (b.natAbs : Int) = -b by omega]
    exact sgn_minus a b
  have Hx := Lib.hid hwx
  have Hy := Lib.hid hwy
  clear hwx hwy hna hnb h1 h2
  obtain ⟨B, w0, hB, hw0, hb0, hb1, he0⟩ := two w 24 24 [.bool true, .slice ax nx cx] [.bool true, .slice ay ny cy]
  go_enter Tryz.func41, Tryz.ntmps41
  go_wp2_with fail
  refine (rcompared ay ax ny cy nx cx (b.natAbs : Int) (a.natAbs : Int) _ (by omega) (by omega) (Hy.out.ext ?_) (Hx.out.ext ?_)).mono ?_
  · rw [← hw0]; exact he0
  · rw [← hw0]; exact he0
  rw [← hw0, ← hB]
  rintro e w1 ⟨rfl, hd⟩
  clear hw0 hB hb0 hb1
  go_wp2_with fail
  go_ret
  rw [HS.out]
  exact ⟨rfl, he0.trans hd.ext⟩
set_option maxRecDepth 100000 in
theorem rcmp_plus (x y : Value) (a b : Int) (w : World) (hx : IntV w x a) (hy : IntV w y b) (h1 : ¬ a < 0) (h2 : ¬ b < 0) :
    Calls Tryz.prog 41 #[x, y] w fun e w' => e = .returned (.int .i64 (sgn a b)) ∧ Ext w w' := by
  obtain ⟨na, ax, nx, cx, rfl, hna, hwx⟩ := hx
  obtain ⟨nb, ay, ny, cy, rfl, hnb, hwy⟩ := hy
  obtain rfl : na = false := by rw [hna]; simp [h1]
  obtain rfl : nb = false := by rw [hnb]; simp [h2]
  have HS : Hid (sgn (a.natAbs : Int) (b.natAbs : Int) = sgn a b) := by
    rw [show (a.natAbs : Int) = a by omega, show (b.natAbs : Int) = b by omega]
    exact rfl
  have Hx := Lib.hid hwx
  have Hy := Lib.hid hwy
  clear hwx hwy hna hnb h1 h2
  obtain ⟨B, w0, hB, hw0, hb0, hb1, he0⟩ := two w 24 24 [.bool false, .slice ax nx cx] [.bool false, .slice ay ny cy]
  go_enter Tryz.func41, Tryz.ntmps41
  go_wp2_with fail
  refine (rcompared ax ay nx cx ny cy (a.natAbs : Int) (b.natAbs : Int) _ (by omega) (by omega) (Hx.out.ext ?_) (Hy.out.ext ?_)).mono ?_
  · rw [← hw0]; exact he0
  · rw [← hw0]; exact he0
  rw [← hw0, ← hB]
  rintro e w1 ⟨rfl, hd⟩
  clear hw0 hB hb0 hb1
  go_wp2_with fail
  go_ret
  rw [HS.out]
  exact ⟨rfl, he0.trans hd.ext⟩
/-- ref.Cmp -/
theorem rcmp_any (x y : Value) (a b : Int) (w : World) (hx : IntV w x a) (hy : IntV w y b) :
    Calls Tryz.prog 41 #[x, y] w fun e w' => e = .returned (.int .i64 (sgn a b)) ∧ Ext w w' := by
  by_cases hsg : decide (a < 0) = decide (b < 0)
  · by_cases h1 : a < 0
    · exact rcmp_minus x y a b w hx hy h1 (by simpa [h1] using hsg)
    · exact rcmp_plus x y a b w hx hy h1 (by simpa [h1] using hsg)
  · exact rcmp_signs x y a b w hx hy hsg
set_option maxRecDepth 100000 in
/-- ref.Abs -/
theorem rabs_any (x : Value) (a : Int) (w : World) (hx : IntV w x a) (ha : Fits a 4398046511104) :
    Calls Tryz.prog 78 #[x] w fun e w' => (∃ v, e = .returned v ∧ IntV w' v (a.natAbs : Int)) ∧ Ext w w' := by
  obtain ⟨na, ax, nx, cx, rfl, hna, hwx⟩ := hx
  have hnx := ha.len
  rw [hwx.hlen] at hnx
  have Hx := Lib.hid hwx
  have HNa := Lib.hid hna
  clear hwx hna
  have HZ : Hid ((a.natAbs : Int) = if false = true then -(val (digs a.natAbs)) else val (digs a.natAbs)) := by
    rw [if_neg (by simp), val_digs (show 0 ≤ (a.natAbs : Int) by omega)]
    exact rfl
  obtain ⟨B, w0, hB, hw0, hb0, hb1, he0⟩ := two w 24 24 [.bool na, .slice ax nx cx] [.bool false, .slice none 0 0]
  go_enter Tryz.func78, Tryz.ntmps78
  go_wp2_with fail
  rw [← hw0, ← hB]
  have c0 := hb0.cell (i := 0) rfl
  have c1 := hb0.cell (i := 1) rfl
  have HB := Lib.hid hB
  clear hw0 hB hb0
  have hsz := hb1.lt
  go_wp2_with fail
  refine (rmade _ _ _ _ _ (a.natAbs : Int) _ (Hx.out.ext he0) hnx HZ.out).mono ?_
  rintro e w1 ⟨⟨sr, ar, nr, cr, rfl, hr⟩, he1⟩
  have hb2' := (hb1.ext he1)
  have e0 := hb2'.cell (i := 0) rfl
  have e1 := hb2'.cell (i := 1) rfl
  have f0 := hb2'.free 0
  have f1 := hb2'.free 1
  go_wp2_with fail
  refine bodyPost_ret (results_c rfl rfl (load_int (hb2'.set2 _ _))) rfl ?_
  exact ⟨⟨_, rfl, _, _, _, _, rfl, hr.1, hr.2.keep2 hb2' (by simp) (by simp) _ _⟩, (Ext.store' (he0.trans he1) HB (by omega) 0 _).store' HB (by omega) 1 _⟩
theorem rnumber (a : Option Addr) (n c : Nat) (l : List Int) (w : World) (h : Words w a n c l) (h2 : n ≤ 2) :
    Calls Tryz.prog 117 #[.slice a n c] w fun e w' => e = .returned (.int .u64 (val l)) ∧ w = w' := by
  obtain ⟨p, hp⟩ : ∃ p, p = l.getD 1 0 := ⟨_, rfl⟩
  obtain ⟨q, hq⟩ : ∃ q, q = l.getD 0 0 := ⟨_, rfl⟩
  have hpb := h.wf.getD 1
  have hqb := h.wf.getD 0
  rw [← hp] at hpb
  rw [← hq] at hqb
  have hv : val l = p * 4294967296 + q := by rw [val_small (by rw [h.hlen]; exact h2), ← hp, ← hq]
  rw [hv]
  have H := Lib.hid h
  have HP := Lib.hid hp
  have HQ := Lib.hid hq
  clear h hp hq hv
  go_enter Tryz.func117, Tryz.ntmps117
  go_wp2_with fail
  refine (rword a n c l 1 p w H.out (by omega) HP.out).mono ?_
  rintro e w' ⟨rfl, rfl⟩
  go_wp2_with fail
  refine (rword a n c l 0 q w H.out (by omega) HQ.out).mono ?_
  rintro e w' ⟨rfl, rfl⟩
  go_wp2_with fail
  go_ret
  exact ⟨rfl, rfl⟩
set_option maxRecDepth 100000 in
theorem reuclid (a b : Int) (w : World) (ha : 0 ≤ a) (ha' : a ≤ 18446744073709551615) (hb : 0 ≤ b) (hb' : b ≤ 18446744073709551615) :
    Calls Tryz.prog 116 #[.int .u64 a, .int .u64 b] w fun e w' => e = .returned (.int .u64 ((Int.gcd a b : Nat) : Int)) ∧ w = w' := by
  go_enter Tryz.func116, Tryz.ntmps116
  go_wp2_with fail
  go_loop [0, 1] (fun u v => ∃ p q : Int, u = .int .u64 p ∧ v = .int .u64 q ∧ 0 ≤ p ∧ p ≤ 18446744073709551615 ∧ 0 ≤ q ∧ q ≤ 18446744073709551615 ∧ Hid (Int.gcd p q = Int.gcd a b)) (fun _ v => (intOf v).toNat)
  case atStart => exact ⟨a, b, rfl, rfl, ha, ha', hb, hb', rfl⟩
  case round =>
    obtain ⟨p, q, rfl, rfl, hp0, hp1, hq0, hq1, HG⟩ := hrel
    by_cases h : q = 0
    · subst h
      have hg : ((Int.gcd a b : Nat) : Int) = p := by
        rw [← HG.out]
        obtain ⟨P, rfl⟩ := Int.eq_ofNat_of_zero_le hp0
        show ((Nat.gcd P 0 : Nat) : Int) = P
        rw [Nat.gcd_zero_right]
      have HE := Lib.hid hg
      clear hg
      go_wp2_with fail
      go_ret
      rw [HE.out]
      exact ⟨rfl, rfl⟩
    · have hq : 0 < q := by omega
      have hqn : (q == 0) = false := by simp [h]
      have hd : decide (0 < q) = true := by simpa using hq
      have hr0 : 0 ≤ p % q := Int.emod_nonneg _ h
      have hr1 : p % q < q := Int.emod_lt_of_pos _ hq
      have HS := Lib.hid (gcd_step hp0 hq0)
      clear h
      go_wp2_with fail
      go_round
      case rel => exact ⟨q, p % q, rfl, rfl, hq0, hq1, hr0, by omega, HS.out.trans HG.out⟩
      case measure => simp [intOf]; omega
set_option maxRecDepth 100000 in
set_option maxHeartbeats 1000000 in
theorem rcommon (ax ay : Option Addr) (nx cx ny cy : Nat) (a b : Int) (w : World) (ha : 0 ≤ a) (hb : 0 ≤ b) (hx : Words w ax nx cx (digs a)) (hy : Words w ay ny cy (digs b)) (hs : nx ≤ 1073741824) (hs' : ny ≤ 1073741824) :
    Calls Tryz.prog 79 #[.slice ax nx cx, .slice ay ny cy] w fun e w' => (∃ a' n c, e = .returned (.slice a' n c) ∧ Words w' a' n c (digs ((Int.gcd a b : Nat) : Int))) ∧ Ext w w' := by
  have Hx := Lib.hid hx
  have Hy := Lib.hid hy
  have HA := Lib.hid ha
  have HBB := Lib.hid hb
  clear hx hy ha hb
  go_enter Tryz.func79, Tryz.ntmps79
  go_wp2_with fail
  go_loopw [0, 1] (fun u v wr => ∃ p q : Int, Hid (0 ≤ p) ∧ Hid (0 ≤ q) ∧ Hid (Int.gcd p q = Int.gcd a b) ∧ Ext w wr ∧ (∃ ua un uc, u = .slice ua un uc ∧ Hid (Words wr ua un uc (digs p)) ∧ un ≤ 1073741824) ∧ (∃ va vn vc, v = .slice va vn vc ∧ Hid (Words wr va vn vc (digs q)) ∧ vn ≤ 1073741824)) (fun _ v wr => mval wr v)
  case atStart => exact ⟨a, b, HA, HBB, rfl, Ext.refl _, ⟨_, _, _, rfl, Hx, hs⟩, ⟨_, _, _, rfl, Hy, hs'⟩⟩
  case round =>
    obtain ⟨p, q, hp, hq, HG, he, ⟨ua, un, uc, rfl, HU, hun⟩, ⟨va, vn, vc, rfl, HV, hvn⟩⟩ := hrel
    by_cases h0 : q = 0
    · subst h0
      obtain rfl : vn = 0 := by have := HV.out.hlen; rw [digs_zero] at this; exact this.symm
      have hz : Hid (((Int.gcd a b : Nat) : Int) = p) := by
        rw [← HG.out]
        obtain ⟨P, rfl⟩ := Int.eq_ofNat_of_zero_le hp.out
        show ((Nat.gcd P 0 : Nat) : Int) = P
        rw [Nat.gcd_zero_right]
      go_wp2_with fail
      go_ret
      rw [hz.out]
      exact ⟨⟨_, _, _, rfl, HU.out⟩, he⟩
    · have hqp : 0 < q := by have := hq.out; omega
      have hlen := digs_pos_len hqp
      rw [HV.out.hlen] at hlen
      have HQP := Lib.hid hqp
      have hd : decide (0 < vn) = true := by simpa using hlen
      by_cases h2 : un ≤ 2 ∧ vn ≤ 2
      · obtain ⟨h2u, h2v⟩ := h2
        have hpb : Hid (p < pw 2) := by
          show p < _
          have h1 := digs_len_lt hp.out
          rw [HU.out.hlen] at h1
          have h3 := pw_le h2u
          omega
        have hqb : Hid (q < pw 2) := by
          show q < _
          have h1 := digs_len_lt hq.out
          rw [HV.out.hlen] at h1
          have h3 := pw_le h2v
          omega
        have hgb : Hid (((Int.gcd p q : Nat) : Int) < pw 2) := by
          show ((Int.gcd p q : Nat) : Int) < _
          have h1 : Int.gcd p q ∣ q.natAbs := Int.gcd_dvd_natAbs_right _ _
          have h3 := Nat.le_of_dvd (by have := HQP.out; omega) h1
          have := hqb.out
          have := HQP.out
          omega
        clear h0 hqp
        go_wp2_with fail
        refine (rnumber _ _ _ _ _ HU.out h2u).mono ?_
        rintro e w1 ⟨rfl, rfl⟩
        rw [val_digs hp.out]
        go_wp2_with fail
        refine (rnumber _ _ _ _ _ HV.out h2v).mono ?_
        rintro e w1 ⟨rfl, rfl⟩
        rw [val_digs hq.out]
        go_wp2_with fail
        refine (reuclid p q _ hp.out (by have := hpb.out; rw [pw_two] at this; omega) hq.out (by have := hqb.out; rw [pw_two] at this; omega)).mono ?_
        rintro e w1 ⟨rfl, rfl⟩
        go_wp2_with fail
        refine (words_any _ _ (by omega) (by have := hgb.out; rwa [pw_two] at this)).mono ?_
        rintro e w1 ⟨⟨ra, rn, rc, rfl, hr, -⟩, he1⟩
        have HR := Lib.hid hr
        clear hr
        go_wp2_with fail
        go_ret
        rw [← HG.out]
        exact ⟨⟨_, _, _, rfl, HR.out⟩, he.trans he1⟩
      · have hcase : decide ((un : Int) ≤ 2) = false ∨ (decide ((un : Int) ≤ 2) = true ∧ decide ((vn : Int) ≤ 2) = false) := by
          simp only [decide_eq_false_iff_not, decide_eq_true_eq]; omega
        clear h0 hqp h2
        rcases hcase with hc | ⟨hc, hc'⟩
        all_goals
          go_wp2_with fail
          refine (rdivided ua va un uc vn vc p q _ hp.out HQP.out HU.out HV.out (by omega)).mono ?_
          rintro e w1 ⟨⟨qa, qn, qc, ra, rn, rc, rfl, hqw, hrw⟩, he1⟩
          have HR := Lib.hid hrw
          clear hqw hrw
          have hms : Hid (mval w1 (.slice ra rn rc) < mval wr (.slice va vn vc)) := by
            have h1 := Int.emod_nonneg p (show q ≠ 0 by have := HQP.out; omega)
            have h2 := Int.emod_lt_of_pos p HQP.out
            show mval w1 (.slice ra rn rc) < mval wr (.slice va vn vc)
            rw [mval_eq HR.out, mval_eq HV.out, val_digs h1, val_digs (Int.le_of_lt HQP.out)]
            omega
          have hrn : rn ≤ 1073741824 := by
            rw [← HR.out.hlen]
            refine Nat.le_trans (digs_len_mono (Int.emod_nonneg p (by have := HQP.out; omega)) (Int.le_of_lt (Int.emod_lt_of_pos p HQP.out))) ?_
            rw [HV.out.hlen]; exact hvn
          go_wp2_with fail
          go_roundw
          case rel => exact ⟨q, p % q, Int.le_of_lt HQP.out, Int.emod_nonneg p (by have := HQP.out; omega), by rw [gcd_step hp.out (Int.le_of_lt HQP.out)]; exact HG.out, he.trans he1, ⟨_, _, _, rfl, HV.out.ext he1, hvn⟩, ⟨_, _, _, rfl, HR.out, hrn⟩⟩
          case measure => exact hms.out
set_option maxRecDepth 100000 in
/-- ref.Gcd -/
theorem rgcd_any (x y : Value) (a b : Int) (w : World) (hx : IntV w x a) (hy : IntV w y b) (ha : Fits a 1073741824) (hb : Fits b 1073741824) :
    Calls Tryz.prog 39 #[x, y] w fun e w' => (∃ v, e = .returned v ∧ IntV w' v ((Int.gcd a b : Nat) : Int)) ∧ Ext w w' := by
  obtain ⟨na, ax, nx, cx, rfl, hna, hwx⟩ := hx
  obtain ⟨nb, ay, ny, cy, rfl, hnb, hwy⟩ := hy
  have hnx := ha.len
  have hny := hb.len
  rw [hwx.hlen] at hnx
  rw [hwy.hlen] at hny
  have Hx := Lib.hid hwx
  have Hy := Lib.hid hwy
  have HNa := Lib.hid hna
  have HNb := Lib.hid hnb
  clear hwx hwy hna hnb
  have HB1 := Lib.hid hb
  have HA1 := Lib.hid ha
  have hgl : ∀ W a' n' c', Words W a' n' c' (digs ((Int.gcd (a.natAbs : Int) (b.natAbs : Int) : Nat) : Int)) → n' ≤ 4398046511104 := by
    intro W a' n' c' h
    rw [← h.hlen]
    by_cases hz : a = 0
    · have e : Int.gcd (a.natAbs : Int) (b.natAbs : Int) = b.natAbs := by rw [hz, Int.gcd_natCast_natCast]; simp
      rw [e]; have := hb.len; omega
    · have h1 : Int.gcd (a.natAbs : Int) (b.natAbs : Int) ≤ a.natAbs := by
        rw [Int.gcd_natCast_natCast]; exact Nat.gcd_le_left _ (by omega)
      have h2 := digs_len_mono (show 0 ≤ ((Int.gcd (a.natAbs : Int) (b.natAbs : Int) : Nat) : Int) by omega) (show ((Int.gcd (a.natAbs : Int) (b.natAbs : Int) : Nat) : Int) ≤ (a.natAbs : Int) by omega)
      have := ha.len
      omega
  have HGL := Lib.hid hgl
  have HZ : Hid (((Int.gcd a b : Nat) : Int) = if false = true then -(val (digs ((Int.gcd (a.natAbs : Int) (b.natAbs : Int) : Nat) : Int))) else val (digs ((Int.gcd (a.natAbs : Int) (b.natAbs : Int) : Nat) : Int))) := by
    rw [if_neg (by simp), val_digs (by omega), Int.gcd_natCast_natCast]; rfl
  clear ha hb hgl
  obtain ⟨B, w0, hB, hw0, hb0, hb1, hb2, he0⟩ := three w 24 24 24 [.bool na, .slice ax nx cx] [.bool nb, .slice ay ny cy] [.bool false, .slice none 0 0]
  go_enter Tryz.func39, Tryz.ntmps39
  go_wp2_with fail
  rw [← hw0, ← hB]
  have c0 := hb0.cell (i := 0) rfl
  have c1 := hb0.cell (i := 1) rfl
  have d0 := hb1.cell (i := 0) rfl
  have d1 := hb1.cell (i := 1) rfl
  have HB := Lib.hid hB
  clear hw0 hB hb0 hb1
  have KH : Hid (∀ w', Below (B + 1 + 1) w0 w' → w'.cell? ⟨B, 0, none⟩ = some (.bool na) ∧ w'.cell? ⟨B, 1, none⟩ = some (.slice ax nx cx) ∧ w'.cell? ⟨B + 1, 0, none⟩ = some (.bool nb) ∧ w'.cell? ⟨B + 1, 1, none⟩ = some (.slice ay ny cy)) :=
    fun w' h => ⟨(h.cell (p := ⟨B, 0, none⟩) (by show B < B + 1 + 1; omega)).trans c0, (h.cell (p := ⟨B, 1, none⟩) (by show B < B + 1 + 1; omega)).trans c1, (h.cell (p := ⟨B + 1, 0, none⟩) (by show B + 1 < B + 1 + 1; omega)).trans d0, (h.cell (p := ⟨B + 1, 1, none⟩) (by show B + 1 < B + 1 + 1; omega)).trans d1⟩
  have hsz := hb2.lt
  refine (rcommon ax ay nx cx ny cy (a.natAbs : Int) (b.natAbs : Int) _ (by omega) (by omega) (Hx.out.ext he0) (Hy.out.ext he0) hnx hny).mono ?_
  rintro e w1 ⟨⟨ga, gn, gc, rfl, hg⟩, he1⟩
  have HG := Lib.hid hg
  clear hg
  go_wp2_with fail
  refine (rmade _ _ _ _ _ _ _ HG.out (HGL.out _ _ _ _ HG.out) HZ.out).mono ?_
  rintro e w2 ⟨⟨sr, ar, nr, cr, rfl, hr⟩, he2⟩
  have hb2' := ((hb2.ext he1).ext he2)
  have e0 := hb2'.cell (i := 0) rfl
  have e1 := hb2'.cell (i := 1) rfl
  have f0 := hb2'.free 0
  have f1 := hb2'.free 1
  go_wp2_with fail
  refine bodyPost_ret (results_c rfl rfl (load_int (hb2'.set2 _ _))) rfl ?_
  exact ⟨⟨_, rfl, _, _, _, _, rfl, hr.1, hr.2.keep2 hb2' (by simp) (by simp) _ _⟩, (Ext.store' ((he0.trans he1).trans he2) HB (by omega) 0 _).store' HB (by omega) 1 _⟩
set_option maxRecDepth 100000 in
/-- ref.Bits -/
theorem rbits_any (x : Value) (a : Int) (w : World) (hx : IntV w x a) (ha : Fits a 1073741824) :
    Calls Tryz.prog 45 #[x] w fun e w' => e = .returned (.int .i64 (blen a.natAbs)) ∧ Ext w w' := by
  obtain ⟨na, ax, nx, cx, rfl, hna, hwx⟩ := hx
  have hmx := hwx.max
  have hle := hwx.le
  have hnx := ha.len
  rw [hwx.hlen] at hnx
  rcases Nat.eq_zero_or_pos nx with rfl | hp
  · have h0 : a.natAbs = 0 := by
      have := (digs_nil (show 0 ≤ (a.natAbs : Int) by omega)).1 (List.eq_nil_of_length_eq_zero hwx.hlen)
      omega
    rw [h0, blen_zero]
    clear hwx hna h0 ha
    go_enter Tryz.func45, Tryz.ntmps45
    go_wp2_with fail
    go_ret
    exact ⟨rfl, (Ext.refl w).alloc _⟩
  · obtain ⟨m, rfl⟩ : ∃ m, nx = m + 1 := ⟨nx - 1, by omega⟩
    obtain ⟨t, ht⟩ : ∃ t, t = (digs a.natAbs).getD m 0 := ⟨_, rfl⟩
    obtain ⟨b, off, hab, hc⟩ := hwx.cells m t (by rw [ht, List.getD, List.getElem?_eq_getElem (by rw [hwx.hlen]; omega)]; simp)
    have hb := hwx.wf.getD m
    rw [← ht] at hb
    have hbl : blen a.natAbs = 32 * m + Lib.bitLen t.toNat := by
      have := blen_words (z := (a.natAbs : Int)) (n := m) (t := t) (by
        have h1 := hwx.hlen
        by_cases h0 : a = 0
        · subst h0; rw [Int.natAbs_zero, Int.ofNat_zero, digs_zero] at h1; simp at h1
        · omega) hwx.hlen ht
      rwa [Int.toNat_natCast] at this
    have HBL := Lib.hid hbl
    obtain ⟨B, w0, hB, hw0, hb0, he0⟩ := one w 24 [.bool na, .slice ax (m + 1) cx]
    have hc0 := he0.cell hc
    clear hwx ht hp hbl hc ha hna
    subst hab
    rw [hw0] at hc0
    go_enter Tryz.func45, Tryz.ntmps45
    go_wp2_with fail
    go_loop [4, 5] (fun o u => ∃ (k : Int) (s : Int), o = .int .i64 k ∧ u = .int .u32 s ∧ 0 ≤ s ∧ s < 4294967296 ∧ 0 ≤ k ∧ k ≤ 34359738400 ∧ Hid (k + (blen s.toNat : Int) = 32 * (m : Int) + (Lib.bitLen t.toNat : Int))) (fun _ u => (intOf u).toNat)
    case atStart => exact ⟨32 * (m : Int), t, by go_num, rfl, hb.1, hb.2, by omega, by omega, by
      show 32 * (m : Int) + (blen t.toNat : Int) = _
      rw [blen_bitLen (by omega)]⟩
    case round =>
      obtain ⟨k, s, rfl, rfl, h0, h1, hk0, hk1, HK⟩ := hrel
      have hkb : k + (blen s.toNat : Int) ≤ 34359738400 := by
        have := HK.out
        have := Lib.bitLen_le t.toNat 32 (by omega) (by omega)
        omega
      by_cases hz : s = 0
      · subst hz
        have hv := HK.out
        rw [show (0 : Int).toNat = 0 from rfl, blen_zero] at hv
        have HV : Hid (k = (blen a.natAbs : Int)) := by
          have := HBL.out
          show k = _
          omega
        clear hv hkb
        go_wp2_with fail
        go_ret
        rw [← HV.out]
        exact ⟨rfl, (Ext.refl w).alloc _⟩
      · have hh := blen_half (n := s.toNat) (by omega)
        have HH : Hid (k + 1 + (blen (s / 2).toNat : Int) = 32 * (m : Int) + (Lib.bitLen t.toNat : Int)) := by
          have := HK.out
          rw [show (s / 2).toNat = s.toNat / 2 by omega]
          show k + 1 + _ = _
          omega
        have hk2 : k + 1 ≤ 34359738400 := by omega
        clear hh hkb
        go_wp2_with fail
        go_round
        case rel => exact ⟨k + 1, s / 2, rfl, rfl, by omega, by omega, by omega, hk2, HH⟩
        case measure => simp [intOf]; omega
set_option maxRecDepth 100000 in
/-- ref.Small -/
theorem rsmall_any (x : Value) (a : Int) (w : World) (hx : IntV w x a) :
    Calls Tryz.prog 80 #[x] w fun e w' => e = .returned (.tuple #[(smallOf a).1, (smallOf a).2]) ∧ Ext w w' := by
  obtain ⟨na, ax, nx, cx, rfl, hna, hwx⟩ := hx
  have hmx := hwx.max
  have hle := hwx.le
  obtain ⟨B, w0, hB, hw0, hb0, he0⟩ := one w 24 [.bool na, .slice ax nx cx]
  by_cases h2 : nx ≤ 2
  · have h3 : (a.natAbs : Int) < 18446744073709551616 := by
      have h1 := digs_len_lt (show 0 ≤ (a.natAbs : Int) by omega)
      rw [hwx.hlen] at h1
      have h3 := pw_le h2
      have h4 : pw 2 = 18446744073709551616 := by rw [pw_pow]; rfl
      omega
    have Hx := Lib.hid (hwx.ext he0)
    have HV := Lib.hid (val_digs (show 0 ≤ (a.natAbs : Int) by omega))
    clear hwx
    obtain ⟨n, hn⟩ : ∃ n, n = (a.natAbs : Int) := ⟨_, rfl⟩
    rw [← hn] at h3
    have hn0 : 0 ≤ n := by omega
    have HN := Lib.hid hn
    have HNb : Hid (na = true → a < 0) := fun h => of_decide_eq_true (hna ▸ h)
    have HNc : Hid (na = false → ¬ a < 0) := fun h => of_decide_eq_false (hna ▸ h)
    clear hn hna
    go_enter Tryz.func80, Tryz.ntmps80
    go_wp2_with fail
    rw [← hw0, ← hB]
    have c0 := hb0.cell (i := 0) rfl
    clear hB hw0 hb0
    refine (rnumber _ _ _ _ _ Hx.out h2).mono ?_
    rintro e w1 ⟨rfl, rfl⟩
    rw [HV.out, ← HN.out]
    cases na with
    | true =>
      by_cases h4 : n ≤ 9223372036854775808
      · have hr : Hid (smallOf a = (.int .i64 (-n), .bool true)) := by
          have := HN.out; have := HNb.out rfl
          have e : a = -n := by omega
          show smallOf a = _
          rw [e, smallOf, if_pos (by omega)]
        by_cases h5 : n = 0
        · have := HN.out; have := HNb.out rfl; omega
        · have hwr : wrap64 (-(n - 1) - 1) = -n := by simp only [wrap64]; omega
          have hwr2 : IntKind.i64.wrap (-(n - 1) - 1) = -n := by rw [IntKind.wrap_i64]; omega
          have h6 : 1 ≤ n := by omega
          clear h5
          go_wp2_with fail
          go_ret2
          rw [hr.out]
          exact ⟨rfl, he0⟩
      · have hr : Hid (smallOf a = (.int .i64 0, .bool false)) := by
          have := HN.out; have := HNb.out rfl
          show smallOf a = _
          rw [smallOf, if_neg (by omega)]
        go_wp2_with fail
        go_ret2
        rw [hr.out]
        exact ⟨rfl, he0⟩
    | false =>
      by_cases h4 : n < 9223372036854775808
      · have hr : Hid (smallOf a = (.int .i64 n, .bool true)) := by
          have := HN.out; have := HNc.out rfl
          have e : a = n := by omega
          show smallOf a = _
          rw [e, smallOf, if_pos (by omega)]
        go_wp2_with fail
        go_ret2
        rw [hr.out]
        exact ⟨rfl, he0⟩
      · have hr : Hid (smallOf a = (.int .i64 0, .bool false)) := by
          have := HN.out; have := HNc.out rfl
          show smallOf a = _
          rw [smallOf, if_neg (by omega)]
        go_wp2_with fail
        go_ret2
        rw [hr.out]
        exact ⟨rfl, he0⟩
  · have hr : smallOf a = (.int .i64 0, .bool false) := by
      have h3 : ¬ (a.natAbs : Int) < pw 2 := fun h3 => by
        have := digs_len_le (show 0 ≤ (a.natAbs : Int) by omega) h3
        rw [hwx.hlen] at this
        exact h2 this
      have h4 : pw 2 = 18446744073709551616 := by rw [pw_pow]; rfl
      rw [smallOf, if_neg (by omega)]
    rw [hr]
    clear hwx hr hna
    have h5 : decide (2 < nx) = true := by simp; omega
    go_enter Tryz.func80, Tryz.ntmps80
    go_wp2_with fail
    go_ret2
    rw [← hw0]
    exact ⟨rfl, he0⟩
end Go.Proofs.YtddcgojpgdhefaaGreatDoor
