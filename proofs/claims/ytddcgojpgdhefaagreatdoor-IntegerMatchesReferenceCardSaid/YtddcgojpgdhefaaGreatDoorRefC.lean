/- The reference's division of absolute values: guess, lessen, restore, divided. -/
import Derived.Test.YtddcgojpgdhefaaGreatDoorRefB
import Derived.Deep.DeepCutAuto
namespace Go.Proofs.YtddcgojpgdhefaaGreatDoor
open Go.RowKit Go.El
set_option linter.unusedVariables false

set_option maxRecDepth 100000 in
set_option maxHeartbeats 4000000 in
theorem rguess (au av : Option Addr) (n cu cv : Nat) (L lv : List Int) (w : World) (hu : Words w au (n + 1) cu L) (hv : Words w av n cv lv) (hn : 2 ≤ n) (hs : n ≤ 1099511627776) (htop : lv.getD (n - 1) 0 ≠ 0) (hlt : val L < 4294967296 * val lv) :
    Calls Tryz.prog 113 #[.slice au (n + 1) cu, .slice av n cv] w fun e w' => (∃ q, e = .returned (.int .u64 q) ∧ val L / val lv ≤ q ∧ q ≤ val L / val lv + 1 ∧ 0 ≤ q ∧ q < 4294967296) ∧ Dr w w' := by
  obtain ⟨m1, hm1, hm1n, HM1⟩ : ∃ m : Nat, (n : Int) - 1 = m ∧ m < n ∧ Hid (n = m + 1) := ⟨n - 1, by omega, by omega, show n = n - 1 + 1 by omega⟩
  obtain ⟨m2, hm2, hm2n, HM2⟩ : ∃ m : Nat, (n : Int) - 2 = m ∧ m < n ∧ Hid (n = m + 2) := ⟨n - 2, by omega, by omega, show n = n - 2 + 2 by omega⟩
  obtain ⟨bv, ov, rfl, -⟩ := hv.cells 0 (lv.getD 0 0) (by rw [List.getD, List.getElem?_eq_getElem (by rw [hv.hlen]; omega)]; simp)
  obtain ⟨bu, off, rfl, -⟩ := hu.cells 0 (L.getD 0 0) (by rw [List.getD, List.getElem?_eq_getElem (by rw [hu.hlen]; omega)]; simp)
  have hcv : ∀ i, i < n → w.cell? ⟨bv, ov + i, none⟩ = some (.int .u32 (lv.getD i 0)) := fun i hi => by
    obtain ⟨b, o, hb, hc⟩ := hv.cells i (lv.getD i 0) (by rw [List.getD, List.getElem?_eq_getElem (by rw [hv.hlen]; exact hi)]; simp)
    cases hb
    exact hc
  have hcu : ∀ i, i < n + 1 → w.cell? ⟨bu, off + i, none⟩ = some (.int .u32 (L.getD i 0)) := fun i hi => by
    obtain ⟨b, o, hb, hc⟩ := hu.cells i (L.getD i 0) (by rw [List.getD, List.getElem?_eq_getElem (by rw [hu.hlen]; exact hi)]; simp)
    cases hb
    exact hc
  have cu0 := hcu n (by omega)
  have cu1 := hcu m1 (by omega)
  have cu2 := hcu m2 (by omega)
  have cv1 := hcv m1 (by omega)
  have cv2 := hcv m2 (by omega)
  obtain ⟨u0, hu0⟩ : ∃ x, x = L.getD n 0 := ⟨_, rfl⟩
  obtain ⟨u1, hu1⟩ : ∃ x, x = L.getD m1 0 := ⟨_, rfl⟩
  obtain ⟨u2, hu2⟩ : ∃ x, x = L.getD m2 0 := ⟨_, rfl⟩
  obtain ⟨v1, hv1⟩ : ∃ x, x = lv.getD m1 0 := ⟨_, rfl⟩
  obtain ⟨v2, hv2⟩ : ∃ x, x = lv.getD m2 0 := ⟨_, rfl⟩
  have b0 := hu.wf.getD n
  have b1 := hu.wf.getD m1
  have b2 := hu.wf.getD m2
  have d1 := hv.wf.getD m1
  have d2 := hv.wf.getD m2
  rw [← hu0] at cu0 b0
  rw [← hu1] at cu1 b1
  rw [← hu2] at cu2 b2
  rw [← hv1] at cv1 d1
  rw [← hv2] at cv2 d2
  have dpos : 0 < v1 := by
    have : n - 1 = m1 := by omega
    rw [this, ← hv1] at htop
    omega
  have hLl := hu.hlen
  have hvl := hv.hlen
  have hLw := hu.wf
  have hvw := hv.wf
  obtain ⟨q, hq⟩ : ∃ q, q = val L / val lv := ⟨_, rfl⟩
  have e12 : m1 = m2 + 1 := by have := HM1.out; have := HM2.out; omega
  have Vtop := val_top2 hvw (m := m1) (by rw [hvl, HM1.out])
  rw [← hv1] at Vtop
  have hp1 := pw_pos m1
  have hp2 := pw_pos m2
  have Vpos : 0 < val lv := by
    have : 0 < v1 * pw m1 := Int.mul_pos dpos hp1
    omega
  have hX0 := val_nonneg hLw
  have hq0 : 0 ≤ q := by rw [hq]; exact Int.ediv_nonneg hX0 (by omega)
  have hq9 : q ≤ 4294967295 := by
    have : q < 4294967296 := by rw [hq]; exact Int.ediv_lt_of_lt_mul Vpos hlt
    omega
  have hqX : q * val lv ≤ val L := by rw [hq]; exact Int.ediv_mul_le _ (by omega)
  have h3 := val_top L hLw m2 (by rw [hLl, HM2.out]; omega)
  rw [drop_three (by rw [hLl, HM2.out])] at h3
  rw [← HM2.out, ← e12, ← hu0, ← hu1, ← hu2] at h3
  have h4 := val_top lv hvw m2 (by rw [hvl, HM2.out]; omega)
  rw [drop_two (by rw [hvl, HM2.out]), ← e12, ← hv1, ← hv2] at h4
  have HG1 : q ≤ (u0 * 4294967296 + u1) / v1 := by
    have h1 := (val_top L hLw m1 (by rw [hLl, HM1.out]; omega)).2
    rw [drop_two (by rw [hLl, HM1.out])] at h1
    rw [← HM1.out, ← hu0, ← hu1] at h1
    exact guess_ge hp1 dpos hq0 hqX Vtop.1 h1
  have HU : u0 ≤ v1 := by
    have h1 := (val_top L hLw n (by rw [hLl]; omega)).1
    rw [drop_cons (by rw [hLl]; omega), List.drop_of_length_le (by rw [hLl]; omega), val_one, ← hu0] at h1
    have e : pw n = 4294967296 * pw m1 := by rw [HM1.out, pw]
    rw [e] at h1
    have h5 : u0 * (4294967296 * pw m1) < (v1 + 1) * (4294967296 * pw m1) := by
      have : (v1 + 1) * (4294967296 * pw m1) = 4294967296 * ((v1 + 1) * pw m1) := Int.mul_left_comm _ _ _
      omega
    have := Int.lt_of_mul_lt_mul_right h5 (by omega)
    omega
  have HG2 : Hid (∀ d r : Int, d * v1 + r = u0 * 4294967296 + u1 → 0 ≤ d → r * 4294967296 + u2 < d * v2 → q < d) :=
    fun d r g0 g1 g2 => guess_less hp2 (by omega) hqX h4.1 h3.2 g0 g1 g2
  have HG3 : Hid (∀ d r : Int, d * v1 + r = u0 * 4294967296 + u1 → 0 ≤ d → d ≤ 4294967295 → d * v2 ≤ r * 4294967296 + u2 → d ≤ q + 1) := by
    intro d r g0 g1 g1' g2
    have h5 : v1 * 4294967296 * pw m2 ≤ val lv := by
      have h6 : (v1 * 4294967296) * pw m2 ≤ (v1 * 4294967296 + v2) * pw m2 := Int.mul_le_mul_of_nonneg_right (by omega) (by omega)
      omega
    have h7 := guess_near hp2 dpos g1 (by omega) h5 h4.2 h3.1 (by
      rw [Int.mul_add, ← Int.mul_assoc]
      have : d * v1 = u0 * 4294967296 + u1 - r := by omega
      rw [this, Int.sub_mul]; omega)
    have h8 : d - 1 ≤ q := by
      rw [hq]
      exact Int.le_ediv_of_mul_le Vpos h7
    omega
  have HT : Hid (∀ d r : Int, d * v1 + r = u0 * 4294967296 + u1 → 4294967296 ≤ r → d ≤ 4294967295) := by
    intro d r g0 g1
    apply Decidable.byContradiction
    intro hd
    have h5 : 4294967296 * v1 ≤ d * v1 := Int.mul_le_mul_of_nonneg_right (by omega) (by omega)
    omega
  have HBr : Hid (∀ d r : Int, d * v1 + r = u0 * 4294967296 + u1 → 0 ≤ d → 4294967296 ≤ r → d ≤ q + 1 ∧ d ≤ 4294967295) := by
    intro d r g0 g1 g2
    have g3 := HT.out d r g0 g2
    have g4 := mul32_bound g1 (by omega) d2.1 d2.2
    exact ⟨HG3.out d r g0 g1 g3 (by omega), g3⟩
  have hT : 0 ≤ u0 * 4294967296 + u1 ∧ u0 * 4294967296 + u1 ≤ 18446744073709551615 := by omega
  have hqh := Int.mul_ediv_add_emod (u0 * 4294967296 + u1) v1
  have hr1 : 0 ≤ (u0 * 4294967296 + u1) % v1 ∧ (u0 * 4294967296 + u1) % v1 < v1 := ⟨Int.emod_nonneg _ (by omega), Int.emod_lt_of_pos _ dpos⟩
  have hq1 : 0 ≤ (u0 * 4294967296 + u1) / v1 := Int.ediv_nonneg hT.1 (by omega)
  obtain ⟨T, hTv⟩ : ∃ T, T = u0 * 4294967296 + u1 := ⟨_, rfl⟩
  rw [← hTv] at hT hqh hr1 hq1 HG1 HG2 HG3 HT HBr
  obtain ⟨qh, hqhv⟩ : ∃ x, x = T / v1 := ⟨_, rfl⟩
  obtain ⟨rh, hrhv⟩ : ∃ x, x = T % v1 := ⟨_, rfl⟩
  rw [← hqhv] at hqh hq1 HG1
  rw [← hrhv] at hqh hr1
  rw [← hq]
  have HQH := Lib.hid (show qh * v1 + rh = T by rw [Int.mul_comm]; exact hqh)
  have wT : IntKind.u64.wrap (u0 * 4294967296 + u1) = T := by rw [← hTv]; exact IntWalk.u64_in _ (by omega)
  have wU : IntKind.u64.wrap (u0 * 4294967296) = u0 * 4294967296 := IntWalk.u64_in _ (by omega)
  have wu0 : IntKind.u64.wrap u0 = u0 := IntWalk.u64_in _ (by omega)
  have wu1 : IntKind.u64.wrap u1 = u1 := IntWalk.u64_in _ (by omega)
  have wu2 : IntKind.u64.wrap u2 = u2 := IntWalk.u64_in _ (by omega)
  have wv2 : IntKind.u64.wrap v2 = v2 := IntWalk.u64_in _ (by omega)
  have wm1 : IntKind.i64.wrap (m1 : Int) = m1 := IntWalk.i64_in _ (by omega)
  have wm2 : IntKind.i64.wrap (m2 : Int) = m2 := IntWalk.i64_in _ (by omega)
  have l0 : (n : Int) < (n : Int) + 1 := by omega
  have l1 : (m1 : Int) < (n : Int) + 1 := by omega
  have l2 : (m2 : Int) < (n : Int) + 1 := by omega
  have l0' : n < n + 1 := by omega
  have l1' : m1 < n + 1 := by omega
  have l2' : m2 < n + 1 := by omega
  have hv0 : (v1 == 0) = false := by simp; omega
  have hqT : qh ≤ 18446744073709551615 := by
    have h1 : qh * 1 ≤ qh * v1 := Int.mul_le_mul_of_nonneg_left (by omega) hq1
    have h2 := HQH.out
    omega
  have hvm := hv.max
  have hum := hu.max
  have HDq : ∀ w', w' = w → Dr w w' := fun w' h => h ▸ Dr.refl w
  have eq1 : T / v1 = qh := hqhv.symm
  have er1 : T % v1 = rh := hrhv.symm
  have et1 : T.tdiv v1 = qh := by rw [Int.tdiv_eq_ediv_of_nonneg hT.1]; exact eq1
  have et2 : T.tmod v1 = rh := by rw [Int.tmod_eq_emod_of_nonneg hT.1]; exact er1
  have eu1 : u0 * 4294967296 + u1 = T := hTv.symm
  clear hcv hcu hu0 hu1 hu2 hv1 hv2 hu hv htop hlt hLl hvl hLw hvw hq e12 Vtop hp1 hp2 Vpos hX0 hqX h3 h4 HU hqh hqhv hrhv hTv HDq
  go_enter Tryz.func113, Tryz.ntmps113
  go_wp2_with fail
  go_quiet (fail)
  clear wT wU wu0 wu1 l0 l0' l1 l1' cu0 cu1
  go_wp2_with fail
  clear eq1 er1 et1 et2 eu1
  go_loopw [7, 8] (fun d r wx => ∃ dd rr : Int, d = .int .u64 dd ∧ r = .int .u64 rr ∧ q ≤ dd ∧ 0 ≤ dd ∧ dd ≤ 18446744073709551615 ∧ 0 ≤ rr ∧ rr ≤ 4294967295 ∧ Hid (dd * v1 + rr = T) ∧ Dr w wx) (fun d _ _ => (intOf d).toNat)
  case atStart => exact ⟨qh, rh, rfl, rfl, HG1, hq1, by omega, hr1.1, by omega, HQH, ⟨_, rfl⟩⟩
  case round =>
    clear HG1 hq1 hr1 HQH hqT
    obtain ⟨dd, rr, rfl, rfl, e1, e2, e3, e4, e5, HE, hdr⟩ := hrel
    obtain ⟨nd, rfl⟩ := hdr
    have HS : Hid ((dd - 1) * v1 + (rr + v1) = T) := by
      show (dd - 1) * v1 + (rr + v1) = T
      have := HE.out
      rw [Int.sub_mul]; omega
    by_cases hb : 4294967296 ≤ dd
    · have hg : decide (4294967296 ≤ dd) = true := by simpa using hb
      have hq2 : q ≤ dd - 1 := by omega
      go_wp2_with fail
      go_quiet (fail)
      by_cases hr : 4294967296 ≤ rr + v1
      · have hg2 : decide (4294967296 ≤ rr + v1) = true := by simpa using hr
        have hx := HBr.out _ _ HS.out (by omega) hr
        go_wp2_with fail
        go_ret
        exact ⟨⟨_, rfl, hq2, hx.1, by omega, by omega⟩, ⟨_, rfl⟩⟩
      · have hg2 : decide (4294967296 ≤ rr + v1) = false := by simpa using hr
        go_wp2_with fail
        go_roundw
        case rel => exact ⟨_, _, rfl, rfl, by omega, by omega, by omega, by omega, by omega, HS, ⟨_, rfl⟩⟩
        case measure => simp [intOf]; omega
    · have hg : decide (4294967296 ≤ dd) = false := by simpa using hb
      have hp := mul32_bound e2 (by omega) d2.1 d2.2
      have w1 : IntKind.u64.wrap (dd * v2) = dd * v2 := IntWalk.u64_in _ (by omega)
      have w2 : IntKind.u64.wrap (rr * 4294967296) = rr * 4294967296 := IntWalk.u64_in _ (by omega)
      have w3 : IntKind.u64.wrap (rr * 4294967296 + u2) = rr * 4294967296 + u2 := IntWalk.u64_in _ (by omega)
      by_cases hgt : rr * 4294967296 + u2 < dd * v2
      · have hg3 : decide (rr * 4294967296 + u2 < dd * v2) = true := by simpa using hgt
        have hq2 : q < dd := HG2.out dd rr HE.out e2 hgt
        have hd1 : 1 ≤ dd := by omega
        go_wp2_with fail
        go_quiet (fail)
        clear w1 w2 w3
        by_cases hr : 4294967296 ≤ rr + v1
        · have hg2 : decide (4294967296 ≤ rr + v1) = true := by simpa using hr
          have hx := HBr.out _ _ HS.out (by omega) hr
          go_wp2_with fail
          go_ret
          exact ⟨⟨_, rfl, by omega, hx.1, by omega, by omega⟩, ⟨_, rfl⟩⟩
        · have hg2 : decide (4294967296 ≤ rr + v1) = false := by simpa using hr
          go_wp2_with fail
          go_roundw
          case rel => exact ⟨_, _, rfl, rfl, by omega, by omega, by omega, by omega, by omega, HS, ⟨_, rfl⟩⟩
          case measure => simp [intOf]; omega
      · have hg3 : decide (rr * 4294967296 + u2 < dd * v2) = false := by simpa using hgt
        have hx := HG3.out dd rr HE.out e2 (by omega) (by omega)
        go_wp2_with fail
        go_quiet (fail)
        clear w1 w2 w3
        go_wp2_with fail
        go_ret
        exact ⟨⟨_, rfl, e1, hx, e2, by omega⟩, ((Dr.refl w).drewN _).drewN _⟩
set_option maxRecDepth 100000 in
set_option maxHeartbeats 4000000 in
theorem rlessen (bu off n cap bv ov cv : Nat) (A L C lv : List Int) (q : Int) (w : World) (hrow : Blk w bu 27 (u32s (mid A L C))) (hA : A.length = off) (hL : L.length = n + 1) (hwf : Wf L)
    (hv : Words w (some ⟨bv, ov, none⟩) n cv lv) (hne : bv ≠ bu) (hs : n ≤ 1099511627776) (ho : off ≤ 1099511627776) (hq0 : 0 ≤ q) (hq1 : q < 4294967296) :
    Calls Tryz.prog 114 #[.slice (some ⟨bu, off, none⟩) (n + 1) cap, .slice (some ⟨bv, ov, none⟩) n cv, .int .u64 q] w fun e w' => ∃ (c : Bool) (M : List Int), e = .returned (.bool c) ∧
      M.length = n + 1 ∧ Wf M ∧ val M = val L - q * val lv + (if c then pw (n + 1) else 0) ∧ Blk w' bu 27 (u32s (mid A M C)) ∧ w.grownBy w' (some bu) := by
  have HWv := Lib.hid hv
  have HWL := Lib.hid hwf
  have HLL := Lib.hid hL
  have HAA := Lib.hid hA
  have hrow0 := Lib.hid hrow
  have hvm := hv.max
  clear hv hwf hL hA hrow
  go_enter Tryz.func114, Tryz.ntmps114
  go_wp2_with fail
  go_loopw [7, 8, 9] (fun c b i wr => ∃ k : Nat, k ≤ n + 1 ∧ i = .int .i64 k ∧ c = .int .u64 (msTo L lv q k).2.1 ∧ b = .int .u64 (msTo L lv q k).2.2 ∧ w.grownBy wr (some bu) ∧ Blk wr bu 27 (u32s (mid A (half (msTo L lv q k).1 L) C))) (fun _ _ i _ => n + 1 - (intOf i).toNat)
  case atStart => exact ⟨0, Nat.zero_le _, rfl, rfl, rfl, grownBy.refl w bu, hrow0.out⟩
  case round =>
    obtain ⟨k, hk, rfl, rfl, rfl, hg, hrow⟩ := hrel
    have hbd := msTo_bd HWL.out HWv.out.wf hq0 hq1 k
    obtain ⟨c, hc⟩ : ∃ c, c = (msTo L lv q k).2.1 := ⟨_, rfl⟩
    obtain ⟨b, hb⟩ : ∃ b, b = (msTo L lv q k).2.2 := ⟨_, rfl⟩
    rw [← hc, ← hb] at hbd ⊢
    obtain ⟨c0, c1, bb0, bb1⟩ := hbd
    by_cases hkn : k < n + 1
    · obtain ⟨x, hx⟩ : ∃ x, x = L.getD k 0 := ⟨_, rfl⟩
      obtain ⟨y, hy⟩ : ∃ y, y = lv.getD k 0 := ⟨_, rfl⟩
      have hxb := HWL.out.getD k
      have hyb := HWv.out.wf.getD k
      rw [← hx] at hxb
      rw [← hy] at hyb
      have hlen : (half (msTo L lv q k).1 L).length = n + 1 := by rw [half_length _ _ (by rw [msTo_length, HLL.out]; omega), HLL.out]
      have hcell : wr.cell? ⟨bu, off + k, none⟩ = some (.int .u32 x) := by
        have := mid_get A (half (msTo L lv q k).1 L) C k (by omega)
        rw [HAA.out, half_get _ _ _ (msTo_length _ _ _ _), ← hx] at this
        exact hrow.cell (u32s_get this)
      have hfree := hrow.free (off + k)
      have hp := mul32_bound hq0 hq1 hyb.1 hyb.2
      have HX := Lib.hid hx
      have HY := Lib.hid hy
      have HC := Lib.hid hc
      have HBb := Lib.hid hb
      have HLen := Lib.hid hlen
      have hW := Lib.hid (HWv.out.grown hg hne)
      clear hx hy hc hb hlen
      go_wp2_with fail
      refine (rword _ _ _ lv k y _ hW.out (by omega) HY.out).mono ?_
      rintro e w' ⟨rfl, rfl⟩
      go_wp2_with fail
      go_roundw
      case rel =>
        have es : msTo L lv q (k + 1) = ((msTo L lv q k).1 ++ [(x - (c + q * y) % 4294967296 - b) % 4294967296], (c + q * y) / 4294967296, -((x - (c + q * y) % 4294967296 - b) / 4294967296)) := by
          rw [HX.out, HY.out, HC.out, HBb.out]; rfl
        have e1 : q * y + c = c + q * y := Int.add_comm _ _
        have e2 : (4294967296 + x - (c + q * y) % 4294967296 - b) % 4294967296 = (x - (c + q * y) % 4294967296 - b) % 4294967296 := by omega
        have e3 : 1 - (4294967296 + x - (c + q * y) % 4294967296 - b) / 4294967296 = -((x - (c + q * y) % 4294967296 - b) / 4294967296) := by omega
        have h1 := hrow.set (off + k) (.int .u32 ((x - (c + q * y) % 4294967296 - b) % 4294967296))
        rw [u32s_set, ← HAA.out, mid_set _ _ _ _ _ (by rw [HLen.out]; omega), half_set _ _ _ _ (msTo_length _ _ _ _) (by rw [HLL.out]; omega)] at h1
        simp only [e1, e2, e3]
        exact ⟨k + 1, by omega, by go_num, by rw [es], by rw [es], grownBy.store hg _ _, by rw [es, ← HAA.out]; exact h1⟩
      case measure => simp [intOf]; omega
    · obtain rfl : k = n + 1 := by omega
      obtain ⟨hc0, hval⟩ := msTo_end HWL.out HWv.out.wf hq0 hq1 HWv.out.hlen HLL.out
      rw [← hb] at hval
      rw [half_full _ _ (by rw [msTo_length, HLL.out]; exact Nat.le_refl _)] at hrow
      have HMl := Lib.hid (msTo_length L lv q (n + 1))
      have HMw := Lib.hid (msTo_wf L lv q (n + 1))
      have HRow := Lib.hid hrow
      have HVal := Lib.hid hval
      clear hval hc0 hc hb hrow
      rcases (show b = 0 ∨ b = 1 by omega) with rfl | rfl
      · go_wp2_with fail
        go_ret
        exact ⟨false, _, rfl, HMl.out, HMw.out, by rw [HVal.out]; simp, HRow.out, hg⟩
      · go_wp2_with fail
        go_ret
        exact ⟨true, _, rfl, HMl.out, HMw.out, by rw [HVal.out]; simp, HRow.out, hg⟩
set_option maxRecDepth 100000 in
set_option maxHeartbeats 4000000 in
theorem rrestore (bu off n cap bv ov cv : Nat) (A L C lv : List Int) (w : World) (hrow : Blk w bu 27 (u32s (mid A L C))) (hA : A.length = off) (hL : L.length = n + 1) (hwf : Wf L)
    (hv : Words w (some ⟨bv, ov, none⟩) n cv lv) (hne : bv ≠ bu) (hs : n ≤ 1099511627776) (ho : off ≤ 1099511627776) :
    Calls Tryz.prog 115 #[.slice (some ⟨bu, off, none⟩) (n + 1) cap, .slice (some ⟨bv, ov, none⟩) n cv] w fun e w' => e = .returned (.tuple #[]) ∧ ∃ (M : List Int),
      M.length = n + 1 ∧ Wf M ∧ (∃ c : Int, 0 ≤ c ∧ c ≤ 1 ∧ val M + pw (n + 1) * c = val L + val lv) ∧ Blk w' bu 27 (u32s (mid A M C)) ∧ w.grownBy w' (some bu) := by
  have HWv := Lib.hid hv
  have HWL := Lib.hid hwf
  have HLL := Lib.hid hL
  have HAA := Lib.hid hA
  have hrow0 := Lib.hid hrow
  have hvm := hv.max
  clear hv hwf hL hA hrow
  go_enter Tryz.func115, Tryz.ntmps115
  go_wp2_with fail
  go_loopw [4, 5] (fun c i wr => ∃ k : Nat, k ≤ n + 1 ∧ i = .int .i64 k ∧ c = .int .u64 (addTo L lv k).2 ∧ w.grownBy wr (some bu) ∧ Blk wr bu 27 (u32s (mid A (half (addTo L lv k).1 L) C))) (fun _ i _ => n + 1 - (intOf i).toNat)
  case atStart => exact ⟨0, Nat.zero_le _, rfl, rfl, grownBy.refl w bu, hrow0.out⟩
  case round =>
    obtain ⟨k, hk, rfl, rfl, hg, hrow⟩ := hrel
    obtain ⟨c0, c1⟩ := addTo_carry HWL.out HWv.out.wf k
    obtain ⟨c, hc⟩ : ∃ c, c = (addTo L lv k).2 := ⟨_, rfl⟩
    rw [← hc] at c0 c1 ⊢
    by_cases hkn : k < n + 1
    · obtain ⟨x, hx⟩ : ∃ x, x = L.getD k 0 := ⟨_, rfl⟩
      obtain ⟨y, hy⟩ : ∃ y, y = lv.getD k 0 := ⟨_, rfl⟩
      have hxb := HWL.out.getD k
      have hyb := HWv.out.wf.getD k
      rw [← hx] at hxb
      rw [← hy] at hyb
      have hlen : (half (addTo L lv k).1 L).length = n + 1 := by rw [half_length _ _ (by rw [addTo_length, HLL.out]; omega), HLL.out]
      have hcell : wr.cell? ⟨bu, off + k, none⟩ = some (.int .u32 x) := by
        have := mid_get A (half (addTo L lv k).1 L) C k (by omega)
        rw [HAA.out, half_get _ _ _ (addTo_length _ _ _), ← hx] at this
        exact hrow.cell (u32s_get this)
      have hfree := hrow.free (off + k)
      have HX := Lib.hid hx
      have HY := Lib.hid hy
      have HC := Lib.hid hc
      have HLen := Lib.hid hlen
      have hW := Lib.hid (HWv.out.grown (grownBy.drew hg) hne)
      have l0 : (k : Int) < (n : Int) + 1 := by omega
      clear hx hy hc hlen
      go_wp2_with fail
      go_region_held3 (fun w' => w'.cell? ⟨bu, off + k, none⟩ = some (.int .u32 x)) (first | exact hcell)
        (first
        | (go_at_call 111; (with_reducible refine (rword _ _ _ lv k y _ hW.out (by omega) HY.out).mono ?_); rintro e w' ⟨rfl, rfl⟩))
      go_wp2_with fail
      go_roundw
      case rel =>
        have es : addTo L lv (k + 1) = ((addTo L lv k).1 ++ [(x + y + c) % 4294967296], (x + y + c) / 4294967296) := by
          rw [HX.out, HY.out, HC.out]; rfl
        have h1 := hrow.drew.set (off + k) (.int .u32 ((x + y + c) % 4294967296))
        rw [u32s_set, ← HAA.out, mid_set _ _ _ _ _ (by rw [HLen.out]; omega), half_set _ _ _ _ (addTo_length _ _ _) (by rw [HLL.out]; omega), HAA.out] at h1
        exact ⟨k + 1, by omega, by go_num, by rw [es], grownBy.store (grownBy.drew hg) _ _, by rw [es]; exact h1⟩
      case measure => simp [intOf]; omega
    · obtain rfl : k = n + 1 := by omega
      have hv2 := addTo_val L lv (n + 1)
      rw [← hc, List.take_of_length_le (by rw [HLL.out]; exact Nat.le_refl _), List.take_of_length_le (by rw [HWv.out.hlen]; omega)] at hv2
      rw [half_full _ _ (by rw [addTo_length, HLL.out]; exact Nat.le_refl _)] at hrow
      have HMl := Lib.hid (addTo_length L lv (n + 1))
      have HMw := Lib.hid (addTo_wf L lv (n + 1))
      have HRow := Lib.hid hrow
      have HVal := Lib.hid hv2
      clear hv2 hc hrow
      go_wp2_with fail
      go_end0
      exact ⟨rfl, _, HMl.out, HMw.out, ⟨c, c0, c1, HVal.out⟩, HRow.out, hg⟩
end Go.Proofs.YtddcgojpgdhefaaGreatDoor
