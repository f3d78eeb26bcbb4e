/- One digit of a quotient: reduce, walked. -/
import Derived.Test.YtddcgojpgdhefaaGreatDoorNatA
import Derived.Test.YtddcgojpgdhefaaGreatDoorMathA
import Derived.Deep.DeepCutAuto
namespace Go.Proofs.YtddcgojpgdhefaaGreatDoor
open Go.RowKit Go.El
set_option linter.unusedVariables false

set_option maxRecDepth 100000 in
set_option maxHeartbeats 4000000 in
theorem reduce_any (bu off n cap bv ov cv : Nat) (A L C lv : List Int) (w : World) (hrow : Blk w bu 27 (u32s (mid A L C))) (hA : A.length = off) (hL : L.length = n + 1) (hwf : Wf L)
    (hv : Words w (some ⟨bv, ov, none⟩) n cv lv) (hne : bv ≠ bu) (hn : 2 ≤ n) (hs : n ≤ 1099511627776) (ho : off ≤ 1099511627776) (htop : lv.getD (n - 1) 0 ≠ 0) (hlt : val L < 4294967296 * val lv) :
    Calls Tryz.prog 94 #[.slice (some ⟨bu, off, none⟩) (n + 1) cap, .slice (some ⟨bv, ov, none⟩) n cv] w fun e w' => e = .returned (.int .u32 (val L / val lv)) ∧
      ∃ L', val L' = val L % val lv ∧ L'.length = n + 1 ∧ Wf L' ∧ Blk w' bu 27 (u32s (mid A L' C)) ∧ w.grownBy w' (some bu) := by
  obtain ⟨m1, hm1, hm1n, HM1⟩ : ∃ m : Nat, (n : Int) - 1 = m ∧ m < n ∧ Hid (n = m + 1) := ⟨n - 1, by omega, by omega, show n = n - 1 + 1 by omega⟩
  obtain ⟨m2, hm2, hm2n, HM2⟩ : ∃ m : Nat, (n : Int) - 2 = m ∧ m < n ∧ Hid (n = m + 2) := ⟨n - 2, by omega, by omega, show n = n - 2 + 2 by omega⟩
  have hcv : ∀ i, i < n → w.cell? ⟨bv, ov + i, none⟩ = some (.int .u32 (lv.getD i 0)) := fun i hi => by
    obtain ⟨b, o, hb, hc⟩ := hv.cells i (lv.getD i 0) (by rw [List.getD, List.getElem?_eq_getElem (by rw [hv.hlen]; exact hi)]; simp)
    cases hb
    exact hc
  have hcu : ∀ i, i < n + 1 → w.cell? ⟨bu, off + i, none⟩ = some (.int .u32 (L.getD i 0)) := fun i hi => by
    have := mid_get A L C i (by omega)
    rw [hA] at this
    exact hrow.cell (u32s_get this)
  have cu0 := hcu n (by omega)
  have cu1 := hcu m1 (by omega)
  have cu2 := hcu m2 (by omega)
  have cv1 := hcv m1 (by omega)
  have cv2 := hcv m2 (by omega)
  obtain ⟨u0, hu0⟩ : ∃ x, x = L.getD n 0 := ⟨_, rfl⟩
  obtain ⟨u1, hu1⟩ : ∃ x, x = L.getD m1 0 := ⟨_, rfl⟩
  obtain ⟨u2, hu2⟩ : ∃ x, x = L.getD m2 0 := ⟨_, rfl⟩
  obtain ⟨v1, hv1⟩ : ∃ x, x = lv.getD m1 0 := ⟨_, rfl⟩
  obtain ⟨v2, hv2⟩ : ∃ x, x = lv.getD m2 0 := ⟨_, rfl⟩
  have b0 := hwf.getD n
  have b1 := hwf.getD m1
  have b2 := hwf.getD m2
  have d1 := hv.wf.getD m1
  have d2 := hv.wf.getD m2
  rw [← hu0] at cu0 b0
  rw [← hu1] at cu1 b1
  rw [← hu2] at cu2 b2
  rw [← hv1] at cv1 d1
  rw [← hv2] at cv2 d2
  have dpos : 0 < v1 := by
    have : n - 1 = m1 := by omega
    rw [this, ← hv1] at htop
    omega
  have HWv := Lib.hid hv
  have HWL := Lib.hid hwf
  have HLL := Lib.hid hL
  have HAA := Lib.hid hA
  have Hlt := Lib.hid hlt
  have HU0 := Lib.hid hu0
  have HU1 := Lib.hid hu1
  have HU2 := Lib.hid hu2
  have HV1 := Lib.hid hv1
  have HV2 := Lib.hid hv2
  have hvm := hv.max
  have hrow0 := Lib.hid hrow
  clear hcv hcu hu0 hu1 hu2 hv1 hv2 hv hwf hL hA hlt htop hrow
  go_enter Tryz.func94, Tryz.ntmps94
  go_wp2_with fail
  go_quiet (fail)
  go_upto_if 26 with fail
  obtain ⟨q, hq⟩ : ∃ q, q = val L / val lv := ⟨_, rfl⟩
  have HQ := Lib.hid hq
  have e12 : m1 = m2 + 1 := by have := HM1.out; have := HM2.out; omega
  have Vtop := val_top2 HWv.out.wf (m := m1) (by rw [HWv.out.hlen, HM1.out])
  rw [← HV1.out] at Vtop
  have hp1 := pw_pos m1
  have hp2 := pw_pos m2
  have Vpos : 0 < val lv := by
    have : 0 < v1 * pw m1 := Int.mul_pos dpos hp1
    omega
  have hX0 := val_nonneg HWL.out
  have hq0 : 0 ≤ q := by rw [hq]; exact Int.ediv_nonneg hX0 (by omega)
  have hq9 : q ≤ 4294967295 := by
    have : q < 4294967296 := by rw [hq]; exact Int.ediv_lt_of_lt_mul Vpos Hlt.out
    omega
  have hqX : q * val lv ≤ val L := by rw [hq]; exact Int.ediv_mul_le _ (by omega)
  have HG1 : Hid (q ≤ (u0 * 4294967296 + u1) / v1) := by
    have h1 := (val_top L HWL.out m1 (by rw [HLL.out, HM1.out]; omega)).2
    rw [drop_two (by rw [HLL.out, HM1.out])] at h1
    rw [← HM1.out, ← HU0.out, ← HU1.out] at h1
    exact guess_ge hp1 dpos hq0 hqX Vtop.1 h1
  have HG2 : Hid (∀ d r : Int, d * v1 + r = u0 * 4294967296 + u1 → 0 ≤ d → r * 4294967296 + u2 < d * v2 → q < d) := by
    intro d r h0 h1 h2
    have h3 := (val_top L HWL.out m2 (by rw [HLL.out, HM2.out]; omega)).2
    rw [drop_three (by rw [HLL.out, HM2.out])] at h3
    rw [← HM2.out, ← e12, ← HU0.out, ← HU1.out, ← HU2.out] at h3
    have h4 := (val_top lv HWv.out.wf m2 (by rw [HWv.out.hlen, HM2.out]; omega)).1
    rw [drop_two (by rw [HWv.out.hlen, HM2.out]), ← e12, ← HV1.out, ← HV2.out] at h4
    exact guess_less hp2 (by omega) hqX h4 h3 h0 h1 h2
  have HVpos := Lib.hid Vpos
  clear hq e12 Vtop hp1 hp2 Vpos hX0 hqX
  go_cut [6] (fun d wx => ∃ dd : Int, d = .int .u64 dd ∧ q ≤ dd ∧ 0 ≤ dd ∧ dd ≤ 4294967295 ∧ Dr w wx)
  case first =>
    have w1 : IntKind.i64.wrap (m1 : Int) = m1 := IntWalk.i64_in _ (by omega)
    have w2 : IntKind.i64.wrap (m2 : Int) = m2 := IntWalk.i64_in _ (by omega)
    have l0 : (n : Int) < (n : Int) + 1 := by omega
    have l1 : (m1 : Int) < (n : Int) + 1 := by omega
    have l1' : m1 ≤ n := by omega
    have l1'' : m1 < n + 1 := by omega
    by_cases hlt : u0 < v1
    · obtain ⟨qh, hqh⟩ : ∃ x, x = (u0 * 4294967296 + u1) / v1 := ⟨_, rfl⟩
      obtain ⟨rh, hrh⟩ : ∃ x, x = (u0 * 4294967296 + u1) % v1 := ⟨_, rfl⟩
      have HD := Lib.hid (fun W => div32 u0 u1 v1 W b0.1 hlt b1.1 b1.2 d1.2)
      rw [← hqh, ← hrh] at HD
      have q0 : 0 ≤ qh := by rw [hqh]; exact Int.ediv_nonneg (by omega) (by omega)
      have q1 : qh < 4294967296 := by rw [hqh]; exact Int.ediv_lt_of_lt_mul (by omega) (by omega)
      have r0 : 0 ≤ rh := by rw [hrh]; exact Int.emod_nonneg _ (by omega)
      have r1 : rh < v1 := by rw [hrh]; exact Int.emod_lt_of_pos _ (by omega)
      have HT : Hid (qh * v1 + rh = u0 * 4294967296 + u1) := by
        have := Int.mul_ediv_add_emod (u0 * 4294967296 + u1) v1
        rw [← hqh, ← hrh, Int.mul_comm] at this
        exact this
      have hqq : q ≤ qh := by
        rw [hqh]; exact HG1.out
      clear hqh hrh
      go_wp2_with fail
      go_region_held3 (fun w' => w'.cell? ⟨bu, off + n, none⟩ = some (.int .u32 u0) ∧ w'.cell? ⟨bu, off + m1, none⟩ = some (.int .u32 u1) ∧ w'.cell? ⟨bv, ov + m1, none⟩ = some (.int .u32 v1)) (first | exact ⟨cu0, cu1, cv1⟩)
        (first | (go_at_call 97; (with_reducible refine (HD.out _).mono ?_); rintro e w' ⟨rfl, nq, rfl⟩))
      go_wp2
      go_loopw [6, 9] (fun d r wx => ∃ dd rr : Int, d = .int .u64 dd ∧ r = .int .u64 rr ∧ q ≤ dd ∧ 0 ≤ dd ∧ dd ≤ 4294967295 ∧ 0 ≤ rr ∧ rr ≤ 8589934591 ∧ Hid (dd * v1 + rr = u0 * 4294967296 + u1) ∧ Dr w wx) (fun d _ _ => (intOf d).toNat)
      case atStart => exact ⟨qh, rh, rfl, rfl, hqq, q0, by omega, r0, by omega, HT, ⟨_, rfl⟩⟩
      case round =>
        clear HD q0 q1 r0 r1 hqq HT
        obtain ⟨dd, rr, rfl, rfl, e1, e2, e3, e4, e5, HT, ⟨nd, rfl⟩⟩ := hrel
        by_cases hr : rr ≤ 4294967295
        · have hg : decide (rr ≤ 4294967295) = true := by simpa using hr
          have hp := mul32_bound e2 (by omega) d2.1 d2.2
          have hor := or_join rr u2 e4 (by omega) b2.1 b2.2
          by_cases hgt : rr * 4294967296 + u2 < dd * v2
          · have hg2 : decide (rr * 4294967296 + u2 < dd * v2) = true := by simpa using hgt
            have hq2 : q < dd := HG2.out dd rr HT.out e2 hgt
            have hq3 : 1 ≤ dd := by omega
            go_wp2_with fail
            go_quiet (fail)
            go_wp2
            go_roundw
            case rel =>
              refine ⟨dd - 1, rr + v1, rfl, rfl, by omega, by omega, by omega, by omega, by omega, ?_, ⟨_, rfl⟩⟩
              have := HT.out
              show (dd - 1) * v1 + (rr + v1) = u0 * 4294967296 + u1
              rw [Int.sub_mul]; omega
            case measure => simp [intOf]; omega
          · have hg2 : decide (rr * 4294967296 + u2 < dd * v2) = false := by simpa using hgt
            go_wp2_with fail
            go_quiet (fail)
            go_wp2
            go_meet
            exact ⟨dd, rfl, e1, e2, e3, (Dr.drewN ⟨_, rfl⟩ _)⟩
        · have hg : decide (rr ≤ 4294967295) = false := by simpa using hr
          go_wp2_with fail
          go_quiet (fail)
          go_wp2
          go_meet
          exact ⟨dd, rfl, e1, e2, e3, (Dr.drewN ⟨_, rfl⟩ _)⟩
    · go_wp2
      go_meet
      exact ⟨4294967295, rfl, hq9, by omega, by omega, ⟨_, rfl⟩⟩
  case rest =>
    obtain ⟨dd, rfl, e1, e2, e3, ⟨nd, rfl⟩⟩ := hcut
    clear HG1 HG2 cu0 cu1 cu2 cv1 cv2
    go_wp2
    go_loopw [10, 11, 83] (fun c b i wr => ∃ k : Nat, k ≤ n + 1 ∧ i = .int .i64 k ∧ c = .int .u64 (msTo L lv dd k).2.1 ∧ b = .int .u32 (msTo L lv dd k).2.2 ∧ w.grownBy wr (some bu) ∧ Blk wr bu 27 (u32s (mid A (half (msTo L lv dd k).1 L) C))) (fun _ _ i _ => n + 1 - (intOf i).toNat)
    case atStart => exact ⟨0, Nat.zero_le _, rfl, rfl, rfl, grownBy.drewN (grownBy.refl w bu) _, hrow0.out⟩
    case round =>
      obtain ⟨k, hk, rfl, rfl, rfl, hg, hrow⟩ := hrel
      have hbd := msTo_bd HWL.out HWv.out.wf e2 (by omega) k
      obtain ⟨c, hc⟩ : ∃ c, c = (msTo L lv dd k).2.1 := ⟨_, rfl⟩
      obtain ⟨b, hb⟩ : ∃ b, b = (msTo L lv dd k).2.2 := ⟨_, rfl⟩
      rw [← hc, ← hb] at hbd ⊢
      obtain ⟨c0, c1, bb0, bb1⟩ := hbd
      by_cases hkn : k < n + 1
      · obtain ⟨x, hx⟩ : ∃ x, x = L.getD k 0 := ⟨_, rfl⟩
        obtain ⟨y, hy⟩ : ∃ y, y = lv.getD k 0 := ⟨_, rfl⟩
        have hxb := HWL.out.getD k
        have hyb := HWv.out.wf.getD k
        rw [← hx] at hxb
        rw [← hy] at hyb
        have hlen : (half (msTo L lv dd k).1 L).length = n + 1 := by rw [half_length _ _ (by rw [msTo_length, HLL.out]; omega), HLL.out]
        have hcell : wr.cell? ⟨bu, off + k, none⟩ = some (.int .u32 x) := by
          have := mid_get A (half (msTo L lv dd k).1 L) C k (by omega)
          rw [HAA.out, half_get _ _ _ (msTo_length _ _ _ _), ← hx] at this
          exact hrow.cell (u32s_get this)
        have hfree := hrow.free (off + k)
        have hp := mul32_bound e2 (by omega) hyb.1 hyb.2
        have HX := Lib.hid hx
        have HY := Lib.hid hy
        have HC := Lib.hid hc
        have HBb := Lib.hid hb
        have HLen := Lib.hid hlen
        have hW := Lib.hid (HWv.out.grown hg hne)
        clear hx hy hc hb hlen
        go_wp2_with (first
          | (go_at_call 72; (with_reducible refine (at_nat _ _ _ lv k y _ hW.out (by omega) HY.out).mono ?_); rintro e w' ⟨rfl, rfl⟩)
          | (go_at_call 91; (with_reducible refine (sub32 x ((c + dd * y) % 4294967296) b _ hxb.1 hxb.2 (by omega) (by omega) bb0 bb1).mono ?_); rintro e w' ⟨rfl, rfl⟩))
        go_roundw
        case rel =>
          have es : msTo L lv dd (k + 1) = ((msTo L lv dd k).1 ++ [(x - (c + dd * y) % 4294967296 - b) % 4294967296], (c + dd * y) / 4294967296, -((x - (c + dd * y) % 4294967296 - b) / 4294967296)) := by
            rw [HX.out, HY.out, HC.out, HBb.out]; rfl
          refine ⟨k + 1, by omega, by go_num, by rw [es], by rw [es], grownBy.store hg _ _, ?_⟩
          have := hrow.set (off + k) (.int .u32 ((x - (c + dd * y) % 4294967296 - b) % 4294967296))
          rw [u32s_set, ← HAA.out, mid_set _ _ _ _ _ (by rw [HLen.out]; omega), half_set _ _ _ _ (msTo_length _ _ _ _) (by rw [HLL.out]; omega)] at this
          rw [es, ← HAA.out]
          exact this
        case measure => simp [intOf]; omega
      · obtain rfl : k = n + 1 := by omega
        obtain ⟨hc0, hval⟩ := msTo_end HWL.out HWv.out.wf e2 (by omega) HWv.out.hlen HLL.out
        rw [← hb] at hval
        rw [half_full _ _ (by rw [msTo_length, HLL.out]; exact Nat.le_refl _)] at hrow
        obtain ⟨M, hM⟩ : ∃ M, M = (msTo L lv dd (n + 1)).1 := ⟨_, rfl⟩
        have hMl : Hid (M.length = n + 1) := by rw [hM]; exact msTo_length _ _ _ _
        have hMw : Hid (Wf M) := by rw [hM]; exact msTo_wf _ _ _ _
        rw [← hM] at hrow hval
        have HVal := Lib.hid hval
        clear hM hval hc0 hc hb c0 c1
        go_wp2
        go_loopw [6, 11] (fun d b wr => ∃ (dd b' : Int) (M : List Int), d = .int .u64 dd ∧ b = .int .u32 b' ∧ q ≤ dd ∧ 0 ≤ dd ∧ dd ≤ 4294967295 ∧ 0 ≤ b' ∧ b' ≤ 1 ∧ Hid (M.length = n + 1) ∧ Hid (Wf M) ∧ Hid (val M = val L - dd * val lv + pw (n + 1) * b') ∧ w.grownBy wr (some bu) ∧ Blk wr bu 27 (u32s (mid A M C))) (fun d _ _ => (intOf d).toNat)
        case atStart => exact ⟨dd, b, M, rfl, rfl, e1, e2, e3, bb0, bb1, hMl, hMw, HVal, hg, hrow⟩
        case round =>
          clear hg hrow bb0 bb1 HVal hMl hMw e1 e2 e3
          obtain ⟨dd, b, M, rfl, rfl, e1, e2, e3, bb0, bb1, hMl, hMw, HVal, hg, hrow⟩ := hrel
          have hMlt := val_lt hMw.out
          rw [hMl.out] at hMlt
          have hM0 := val_nonneg hMw.out
          have hq := HQ.out
          have hVp := HVpos.out
          rcases (show b = 0 ∨ b = 1 by omega) with rfl | rfl
          · have hv := HVal.out
            rw [Int.mul_zero, Int.add_zero] at hv
            have hdq : dd = q := by
              have : dd ≤ q := by
                rw [hq]
                exact Int.le_ediv_of_mul_le hVp (by omega)
              omega
            have hmod : val M = val L % val lv := by
              have := Int.mul_ediv_add_emod (val L) (val lv)
              rw [← hq, ← hdq, Int.mul_comm] at this
              omega
            have HMod := Lib.hid hmod
            have HD := Lib.hid (hdq.trans hq)
            clear hv hdq hmod hq hMlt hM0
            go_wp2
            go_ret
            refine ⟨by rw [← HD.out]; rfl, M, HMod.out, hMl.out, hMw.out, hrow, hg⟩
          · have hv := HVal.out
            have hdq : q < dd := by
              rw [hq]
              exact Int.ediv_lt_of_lt_mul hVp (by omega)
            have hdd : 1 ≤ dd := by omega
            clear hv hq hMlt hM0
            go_wp2
            go_loopw [13, 117] (fun m i wr => ∃ k : Nat, k ≤ n + 1 ∧ i = .int .i64 k ∧ m = .int .u32 (addTo M lv k).2 ∧ w.grownBy wr (some bu) ∧ Blk wr bu 27 (u32s (mid A (half (addTo M lv k).1 M) C))) (fun _ i _ => n + 1 - (intOf i).toNat)
            case atStart => exact ⟨0, Nat.zero_le _, rfl, rfl, hg, hrow⟩
            case round =>
              clear hg hrow
              obtain ⟨k, hk, rfl, rfl, hg, hrow⟩ := hrel
              obtain ⟨c0, c1⟩ := addTo_carry hMw.out HWv.out.wf k
              obtain ⟨c, hc⟩ : ∃ c, c = (addTo M lv k).2 := ⟨_, rfl⟩
              rw [← hc] at c0 c1 ⊢
              by_cases hkn : k < n + 1
              · obtain ⟨x, hx⟩ : ∃ x, x = M.getD k 0 := ⟨_, rfl⟩
                obtain ⟨y, hy⟩ : ∃ y, y = lv.getD k 0 := ⟨_, rfl⟩
                have hxb := hMw.out.getD k
                have hyb := HWv.out.wf.getD k
                rw [← hx] at hxb
                rw [← hy] at hyb
                have hlen : (half (addTo M lv k).1 M).length = n + 1 := by rw [half_length _ _ (by rw [addTo_length, hMl.out]; omega), hMl.out]
                have hcell : wr.cell? ⟨bu, off + k, none⟩ = some (.int .u32 x) := by
                  have := mid_get A (half (addTo M lv k).1 M) C k (by omega)
                  rw [HAA.out, half_get _ _ _ (addTo_length _ _ _), ← hx] at this
                  exact hrow.cell (u32s_get this)
                have hfree := hrow.free (off + k)
                have HX := Lib.hid hx
                have HY := Lib.hid hy
                have HC := Lib.hid hc
                have HLen := Lib.hid hlen
                have hW := Lib.hid (HWv.out.grown (grownBy.drew hg) hne)
                have l0 : (k : Int) < (n : Int) + 1 := by omega
                clear hx hy hc hlen
                go_wp2_with fail
                go_region_with (first
                  | (go_at_call 72; (with_reducible refine (at_nat _ _ _ lv k y _ hW.out (by omega) HY.out).mono ?_); rintro e w' ⟨rfl, rfl⟩)
                  | (go_at_call 88; (with_reducible refine (add32 x y c _ hxb.1 hxb.2 hyb.1 hyb.2 c0 c1).mono ?_); rintro e w' ⟨rfl, rfl⟩))
                all_goals
                  go_wp2
                  go_roundw
                  case rel =>
                    have es : addTo M lv (k + 1) = ((addTo M lv k).1 ++ [(x + y + c) % 4294967296], (x + y + c) / 4294967296) := by
                      rw [HX.out, HY.out, HC.out]; rfl
                    have h1 := hrow.set (off + k) (.int .u32 ((x + y + c) % 4294967296))
                    rw [u32s_set, ← HAA.out, mid_set _ _ _ _ _ (by rw [HLen.out]; omega), half_set _ _ _ _ (addTo_length _ _ _) (by rw [hMl.out]; omega), HAA.out] at h1
                    have h2 := grownBy.drew (grownBy.store hg (off + k) (.int .u32 ((x + y + c) % 4294967296)))
                    first
                    | exact ⟨k + 1, by omega, by go_num, by rw [es], h2, by rw [es]; exact h1⟩
                    | ((repeat apply Exists.intro); exact ⟨⟨k + 1, by omega, by go_num, by rw [es], h2, by rw [es]; exact h1⟩, rfl⟩)
                  case measure => simp [intOf]; omega
              · obtain rfl : k = n + 1 := by omega
                have hv2 := addTo_val M lv (n + 1)
                rw [← hc, List.take_of_length_le (by rw [hMl.out]; exact Nat.le_refl _), List.take_of_length_le (by rw [HWv.out.hlen]; omega)] at hv2
                rw [half_full _ _ (by rw [addTo_length, hMl.out]; exact Nat.le_refl _)] at hrow
                obtain ⟨M', hM'⟩ : ∃ M', M' = (addTo M lv (n + 1)).1 := ⟨_, rfl⟩
                have hMl' : Hid (M'.length = n + 1) := by rw [hM']; exact addTo_length _ _ _
                have hMw' : Hid (Wf M') := by rw [hM']; exact addTo_wf _ _ _
                rw [← hM'] at hrow hv2
                have HVal' : Hid (val M' = val L - (dd - 1) * val lv + pw (n + 1) * (1 - c)) := by
                  have := HVal.out
                  show val M' = _
                  rw [Int.sub_mul, Int.mul_sub, Int.one_mul]
                  omega
                clear hM' hv2 hc
                go_wp2
                go_roundw
                case rel => exact ⟨dd - 1, 1 - c, M', rfl, rfl, by omega, by omega, by omega, by omega, by omega, hMl', hMw', HVal', hg, hrow⟩
                case measure => simp [intOf]; omega
end Go.Proofs.YtddcgojpgdhefaaGreatDoor
