/- Sums of absolute values, walked. -/
import Derived.Test.YtddcgojpgdhefaaGreatDoorNat1
namespace Go.Proofs.YtddcgojpgdhefaaGreatDoor
open Go.RowKit Go.El
set_option linter.unusedVariables false

set_option maxRecDepth 100000 in
set_option maxHeartbeats 1000000 in
theorem nadd_any (ax ay : Option Addr) (nx cx ny cy : Nat) (lx ly : List Int) (w : World) (hx : Words w ax nx cx lx) (hy : Words w ay ny cy ly) (hs : nx ≤ 1099511627776) (hs' : ny ≤ 1099511627776) :
    Calls Tryz.prog 54 #[.slice ax nx cx, .slice ay ny cy] w fun e w' => (∃ a n c, e = .returned (.slice a n c) ∧ Words w' a n c (digs (val lx + val ly))) ∧ Ext w w' := by
  obtain ⟨i0, hi, hz0, hz1, hz2⟩ := info_parts info_u32
  have hmx := hx.max
  have hmy := hy.max
  obtain ⟨n, hn, hn0, hn1, hn2⟩ : ∃ n : Nat, n = max nx ny ∧ nx ≤ n ∧ ny ≤ n ∧ n ≤ 1099511627776 := ⟨_, rfl, Nat.le_max_left _ _, Nat.le_max_right _ _, Nat.max_le.2 ⟨hs, hs'⟩⟩
  have hmax : ∀ w', (Builtin.max_ #[3, 3] 3 #[.int .i64 (nx : Int), .int .i64 (ny : Int)]).run Tryz.prog w' = .ok (.int .i64 (n : Int)) w' := fun w' => by
    rw [hn]; exact run_max_int _ _ _ _ _
  have Hx := Lib.hid hx
  have Hy := Lib.hid hy
  clear hn hx hy
  go_enter Tryz.func54, Tryz.ntmps54
  go_wp2_with (at_make; refine wpList_make_ints _ rfl _ _ _ rfl 27 i0 .u32 Tryz.underlying62 hi hz0 hz1 .i64 .i64 _ _ (n + 1) rfl rfl (by omega) (by omega) (by rw [hz2]; omega) (by omega) ?_; intro w1 b HB he hblk)
  go_loopw [7, 18] (fun c i wr => ∃ k : Nat, k ≤ n ∧ i = .int .i64 k ∧ c = .int .u32 (addTo lx ly k).2 ∧ Ext w wr ∧ Blk wr b 27 (u32s (fillTo (addTo lx ly k).1 (n + 1)))) (fun _ i _ => n - (intOf i).toNat)
  case atStart => exact ⟨0, Nat.zero_le _, rfl, rfl, he, by rw [addTo, fillTo_nil]; exact hblk⟩
  case round =>
    obtain ⟨k, hk, rfl, rfl, hext, hrow⟩ := hrel
    clear he hblk
    have hcb := addTo_carry Hx.out.wf Hy.out.wf k
    by_cases hkn : k < n
    · obtain ⟨x, hx⟩ : ∃ x, x = lx.getD k 0 := ⟨_, rfl⟩
      obtain ⟨y, hy⟩ : ∃ y, y = ly.getD k 0 := ⟨_, rfl⟩
      have hxb := Hx.out.wf.getD k
      have hyb := Hy.out.wf.getD k
      rw [← hx] at hxb
      rw [← hy] at hyb
      obtain ⟨c, hc⟩ : ∃ c, c = (addTo lx ly k).2 := ⟨_, rfl⟩
      rw [← hc] at hcb ⊢
      have HX := Lib.hid hx
      have HY := Lib.hid hy
      have HC := Lib.hid hc
      have hcell := hrow.cell (i := k) (v := .int .u32 0) (u32s_get (fillTo_get _ _ _ (by rw [addTo_length]; omega) (by omega)))
      have hfree := hrow.free k
      clear hx hy hc
      go_wp2_with fail
      refine (at_nat ax nx cx lx k x _ (Hx.out.ext hext) (by omega) HX.out).mono ?_
      rintro e w' ⟨rfl, rfl⟩
      go_wp2_with fail
      refine (at_nat ay ny cy ly k y _ (Hy.out.ext hext) (by omega) HY.out).mono ?_
      rintro e w' ⟨rfl, rfl⟩
      go_wp2_with fail
      refine (add32 x y c _ hxb.1 hxb.2 hyb.1 hyb.2 hcb.1 hcb.2).mono ?_
      rintro e w' ⟨rfl, rfl⟩
      go_wp2_with fail
      go_roundw
      case rel =>
        refine ⟨k + 1, by omega, by go_num, by rw [addTo, ← HX.out, ← HY.out, ← HC.out], hext.store HB _ _, ?_⟩
        have := hrow.set k (.int .u32 ((x + y + c) % 4294967296))
        rw [u32s_set, fillTo_set _ _ _ _ (addTo_length _ _ _) (by omega)] at this
        rw [addTo, ← HX.out, ← HY.out, ← HC.out]
        exact this
      case measure => simp [intOf]; omega
    · obtain rfl : k = n := by omega
      obtain ⟨c, hc⟩ : ∃ c, c = (addTo lx ly k).2 := ⟨_, rfl⟩
      rw [← hc] at hcb ⊢
      have HC := Lib.hid hc
      have hcell := hrow.cell (i := k) (v := .int .u32 0) (u32s_get (fillTo_get _ _ _ (by rw [addTo_length]; omega) (by omega)))
      have hfree := hrow.free k
      clear hc
      go_wp2_with fail
      have hrow2 := hrow.set k (.int .u32 c)
      rw [u32s_set, fillTo_set _ _ _ _ (addTo_length _ _ _) (by omega), fillTo_full _ _ (by simp [addTo_length]), HC.out] at hrow2
      have hwf : Wf ((addTo lx ly k).1 ++ [(addTo lx ly k).2]) := (addTo_wf _ _ _).append (Wf.nil.cons (by rw [← HC.out]; omega) (by rw [← HC.out]; omega))
      have hW := Words.of_blk hrow2 hwf (by simp [addTo_length]; omega)
      rw [show ((addTo lx ly k).1 ++ [(addTo lx ly k).2]).length = k + 1 by simp [addTo_length], ← HC.out] at hW
      refine (norm_any _ _ _ _ _ hW).mono ?_
      rintro e w' ⟨⟨m, rfl, hm, hW'⟩, rfl⟩
      go_wp2_with fail
      go_ret
      refine ⟨⟨_, _, _, rfl, ?_⟩, hext.store HB _ _⟩
      rw [HC.out, add_val _ (by rw [Hx.out.hlen]; exact hn0) (by rw [Hy.out.hlen]; exact hn1)] at hW'
      rw [HC.out]
      exact hW'
end Go.Proofs.YtddcgojpgdhefaaGreatDoor
