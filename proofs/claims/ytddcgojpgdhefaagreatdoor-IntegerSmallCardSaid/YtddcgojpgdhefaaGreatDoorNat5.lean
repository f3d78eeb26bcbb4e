/- Division of an absolute value by one word, shifts: walked. -/
import Derived.Test.YtddcgojpgdhefaaGreatDoorNat3
import Derived.Test.YtddcgojpgdhefaaGreatDoorMath2
namespace Go.Proofs.YtddcgojpgdhefaaGreatDoor
open Go.RowKit Go.El
set_option linter.unusedVariables false

set_option maxRecDepth 100000 in
set_option maxHeartbeats 2000000 in
theorem nword_own (ax : Option Addr) (nx cx : Nat) (lx : List Int) (d : Int) (w : World) (hx : Words w ax nx cx lx) (hs : nx ≤ 1099511627776) (hd : 0 < d) (hd' : d < 4294967296) :
    Calls Tryz.prog 62 #[.slice ax nx cx, .int .u32 d] w fun e w' => (∃ b n c, e = .returned (.tuple #[.slice (some ⟨b, 0, none⟩) n c, .int .u32 (val lx % d)]) ∧ Words w' (some ⟨b, 0, none⟩) n c (digs (val lx / d)) ∧ w.heap.size ≤ b) ∧ Ext w w' := by
  obtain ⟨i0, hi, hz0, hz1, hz2⟩ := info_parts info_u32
  have hmx := hx.max
  have Hx := Lib.hid hx
  have HLx := Lib.hid hx.hlen
  clear hx
  go_enter Tryz.func62, Tryz.ntmps62
  go_wp2_with (at_make; refine wpList_make_ints _ rfl _ _ _ rfl 27 i0 .u32 Tryz.underlying62 hi hz0 hz1 .i64 .i64 _ _ nx rfl rfl (by omega) (by omega) (by rw [hz2]; omega) (by omega) ?_; intro w1 b HB he hblk)
  go_loopw [7, 15] (fun r i wr => ∃ k : Nat, k ≤ nx ∧ i = .int .i64 k ∧ r = .int .u32 (wordTo lx d k).2 ∧ Ext w wr ∧ Blk wr b 27 (u32s (topTo (wordTo lx d k).1 nx))) (fun _ i _ => nx - (intOf i).toNat)
  case atStart => exact ⟨0, Nat.zero_le _, rfl, rfl, he, by rw [wordTo, topTo_nil]; exact hblk⟩
  case round =>
    obtain ⟨k, hk, rfl, rfl, hext, hrow⟩ := hrel
    clear he hblk
    have hrb := wordTo_rest (x := lx) hd k
    by_cases hkn : k < nx
    · have hm2 : (wordTo lx d k).1.length + (nx - 1 - k) + 1 = nx := by rw [wordTo_length]; omega
      have hm3 : lx.length - 1 - k = nx - 1 - k := by rw [HLx.out]
      obtain ⟨x, hx⟩ : ∃ x, x = lx.getD (nx - 1 - k) 0 := ⟨_, rfl⟩
      have hxb := Hx.out.wf.getD (nx - 1 - k)
      rw [← hx] at hxb
      obtain ⟨r, hr⟩ : ∃ r, r = (wordTo lx d k).2 := ⟨_, rfl⟩
      rw [← hr] at hrb ⊢
      obtain ⟨bx, ox, hax, hcxw⟩ := Hx.out.cells (nx - 1 - k) x (by rw [hx, List.getD, List.getElem?_eq_getElem (by rw [Hx.out.hlen]; omega)]; simp)
      have hcx := hext.cell hcxw
      have hcell := hrow.cell (i := nx - 1 - k) (v := .int .u32 0) (u32s_get (topTo_get _ _ _ (by omega)))
      have hfree := hrow.free (nx - 1 - k)
      have HX := Lib.hid hx
      have HR := Lib.hid hr
      have HM2 := Lib.hid hm2
      have HM3 := Lib.hid hm3
      clear hx hr hcxw hm2 hm3
      subst hax
      go_wp2_with (go_at_call 97; (with_reducible refine (div32 r x d _ hrb.1 hrb.2 hxb.1 hxb.2 hd').mono ?_); rintro e w' ⟨rfl, nq, rfl⟩)
      go_roundw
      case rel =>
        refine ⟨k + 1, by omega, by go_num, by rw [wordTo, HM3.out, ← HX.out, ← HR.out], (hext.store HB _ _).drewN _, ?_⟩
        have := hrow.set (nx - 1 - k) (.int .u32 ((r * 4294967296 + x) / d))
        rw [u32s_set, topTo_set _ _ _ _ HM2.out] at this
        rw [wordTo, HM3.out, ← HX.out, ← HR.out]
        exact this
      case measure => simp [intOf]; omega
    · obtain rfl : k = nx := by omega
      rw [topTo_full _ _ (wordTo_length _ _ _)] at hrow
      have hW := Words.of_blk hrow (wordTo_wf Hx.out.wf hd _) (by rw [wordTo_length]; omega)
      rw [wordTo_length] at hW
      obtain ⟨r, hr⟩ : ∃ r, r = (wordTo lx d k).2 := ⟨_, rfl⟩
      rw [← hr] at hrb ⊢
      have HR := Lib.hid hr
      have HW := Lib.hid hW
      clear hW hrow hr
      go_wp2_with fail
      refine (norm_any _ _ _ _ _ HW.out).mono ?_
      rintro e w' ⟨⟨m, rfl, hm, hW'⟩, rfl⟩
      go_wp2_with fail
      go_ret2
      have hv := word_val (x := lx) hd
      rw [HLx.out] at hv
      rw [hv.1] at hW'
      refine ⟨⟨_, _, _, ?_, hW', Nat.le_of_eq HB.out.symm⟩, hext⟩
      rw [← hv.2, ← HR.out]
      rfl

theorem or_carry (c a p : Int) (s : Nat) (hp : Pow2 p s) (hc : 0 ≤ c) (hc' : c < p) (ha : 0 ≤ a) (ha' : a < 4294967296) : bits .or .u32 c (a * p % 4294967296) = c + a * p % 4294967296 := by
  obtain ⟨_, _, m, hm, hm0, hm1⟩ := shl_carry hp ha ha'
  have hb := hp.bd
  rw [hm]
  have h0 : 0 ≤ p * m := Int.mul_nonneg (by omega) hm0
  rw [u32_or _ _ hc (by omega) h0 (by omega), Nat.or_comm]
  obtain ⟨m, rfl⟩ := Int.eq_ofNat_of_zero_le hm0
  have e : (p * (m : Int)).toNat = 2 ^ s * m := by
    rw [hp.1, ← Int.natCast_mul, Int.toNat_natCast]
  rw [nat_join s _ _ (by rw [e]; simp) (by have := hp.1; omega)]
  omega
theorem nword_any (ax : Option Addr) (nx cx : Nat) (lx : List Int) (d : Int) (w : World) (hx : Words w ax nx cx lx) (hs : nx ≤ 1099511627776) (hd : 0 < d) (hd' : d < 4294967296) :
    Calls Tryz.prog 62 #[.slice ax nx cx, .int .u32 d] w fun e w' => (∃ a n c, e = .returned (.tuple #[.slice a n c, .int .u32 (val lx % d)]) ∧ Words w' a n c (digs (val lx / d))) ∧ Ext w w' :=
  (nword_own ax nx cx lx d w hx hs hd hd').mono fun e w' ⟨⟨b, n, c, h1, h2, _⟩, h4⟩ => ⟨⟨_, n, c, h1, h2⟩, h4⟩

set_option maxRecDepth 100000 in
set_option maxHeartbeats 2000000 in
theorem nshl_any (ax : Option Addr) (nx cx : Nat) (lx : List Int) (s : Nat) (p : Int) (w : World) (hx : Words w ax nx cx lx) (hs : nx ≤ 1099511627776) (hp : Pow2 p s) :
    Calls Tryz.prog 93 #[.slice ax nx cx, .int .i64 s] w fun e w' => ∃ b l, e = .returned (.slice (some ⟨b, 0, none⟩) (nx + 1) (nx + 1)) ∧ w.heap.size ≤ b ∧ Blk w' b 27 (u32s l) ∧ l.length = nx + 1 ∧ Wf l ∧ val l = val lx * p ∧ Ext w w' := by
  obtain ⟨i0, hi, hz0, hz1, hz2⟩ := info_parts info_u32
  have hmx := hx.max
  have hs31 := hp.2
  have hpb := hp.bd
  have Hx := Lib.hid hx
  have HLx := Lib.hid hx.hlen
  have HP := Lib.hid hp
  clear hx hp
  go_enter Tryz.func93, Tryz.ntmps93
  go_wp2_with (at_make; refine wpList_make_ints _ rfl _ _ _ rfl 27 i0 .u32 Tryz.underlying62 hi hz0 hz1 .i64 .i64 _ _ (nx + 1) rfl rfl (by omega) (by omega) (by rw [hz2]; omega) (by omega) ?_; intro w1 b HB he hblk)
  go_loopw [15] (fun i wr => ∃ k : Nat, k ≤ nx ∧ i = .int .i64 k ∧ Ext w wr ∧ Blk wr b 27 (u32s (fillTo ((shlTo lx p k).1 ++ [(shlTo lx p k).2]) (nx + 1)))) (fun i _ => nx - (intOf i).toNat)
  case atStart => exact ⟨0, Nat.zero_le _, rfl, he, by
    have : fillTo ((shlTo lx p 0).1 ++ [(shlTo lx p 0).2]) (nx + 1) = List.replicate (nx + 1) 0 := by simp [shlTo, fillTo, List.replicate_succ]
    rw [this]; exact hblk⟩
  case round =>
    obtain ⟨k, hk, rfl, hext, hrow⟩ := hrel
    clear he hblk
    have hcb := shlTo_carry HP.out Hx.out.wf k
    by_cases hkn : k < nx
    · obtain ⟨x, hx⟩ : ∃ x, x = lx.getD k 0 := ⟨_, rfl⟩
      have hxb := Hx.out.wf.getD k
      rw [← hx] at hxb
      obtain ⟨bx, ox, hax, hcxw⟩ := Hx.out.cells k x (by rw [hx, List.getD, List.getElem?_eq_getElem (by rw [Hx.out.hlen]; omega)]; simp)
      have hcx := hext.cell hcxw
      obtain ⟨c, hc⟩ : ∃ c, c = (shlTo lx p k).2 := ⟨_, rfl⟩
      rw [← hc] at hcb
      have hor := or_carry c x p s HP.out hcb.1 hcb.2 hxb.1 hxb.2
      have HX := Lib.hid hx
      have HC := Lib.hid hc
      have hl : (shlTo lx p k).1.length = k := shlTo_length _ _ _
      have hcell := hrow.cell (i := k) (v := .int .u32 c) (u32s_get (by
        unfold fillTo
        rw [List.append_assoc, List.getElem?_append_right (by omega), hl, Nat.sub_self, hc]; rfl))
      have hcell2 := hrow.cell (i := k + 1) (v := .int .u32 0) (u32s_get (fillTo_get _ _ _ (by simp [hl]) (by omega)))
      have hfree := hrow.free k
      have hfree2 := hrow.free (k + 1)
      have HLL := Lib.hid hl
      have hp2 : (2 : Int) ^ s = p := by rw [HP.out.1, Int.natCast_pow]; rfl
      have hxp : 0 ≤ x * p ∧ x * p ≤ 9223372034707292160 := ⟨Int.mul_nonneg hxb.1 (by omega), by
        have h1 : x * p ≤ 4294967295 * p := Int.mul_le_mul_of_nonneg_right (by omega) (by omega)
        omega⟩
      clear hx hc hcxw hl
      subst hax
      go_wp2
      go_roundw
      case rel =>
        refine ⟨k + 1, by omega, by go_num, (hext.store HB _ _).store HB _ _, ?_⟩
        have h1 := (hrow.set k (.int .u32 (c + x * p % 4294967296))).set (k + 1) (.int .u32 (x * p / 4294967296))
        rw [u32s_set, u32s_set] at h1
        have e : ((fillTo ((shlTo lx p k).1 ++ [(shlTo lx p k).2]) (nx + 1)).set k (c + x * p % 4294967296)).set (k + 1) (x * p / 4294967296) = fillTo ((shlTo lx p (k + 1)).1 ++ [(shlTo lx p (k + 1)).2]) (nx + 1) := by
          rw [← HC.out]
          simp only [shlTo]
          rw [← HC.out, ← HX.out]
          have h2 : (fillTo ((shlTo lx p k).1 ++ [c]) (nx + 1)).set k (c + x * p % 4294967296) = fillTo ((shlTo lx p k).1 ++ [c + x * p % 4294967296]) (nx + 1) := by
            unfold fillTo
            rw [List.set_append_left _ _ (by simp [HLL.out]), List.set_append_right _ _ (by rw [HLL.out]; exact Nat.le_refl _), HLL.out, Nat.sub_self, List.set_cons_zero]
            simp
          rw [h2, fillTo_set _ _ _ _ (by simp [HLL.out]) (by omega)]
        rw [e] at h1
        exact h1
      case measure => simp [intOf]; omega
    · obtain rfl : k = nx := by omega
      rw [fillTo_full _ _ (by simp [shlTo_length])] at hrow
      have HRow := Lib.hid hrow
      clear hrow
      go_wp2_with fail
      go_ret
      refine ⟨b, _, rfl, by rw [HB.out]; exact Nat.le_refl _, HRow.out, by simp [shlTo_length], (shlTo_wf HP.out Hx.out.wf _).append (Wf.nil.cons hcb.1 (by omega)), ?_, hext⟩
      have := shl_val lx p
      rwa [HLx.out] at this
end Go.Proofs.YtddcgojpgdhefaaGreatDoor
