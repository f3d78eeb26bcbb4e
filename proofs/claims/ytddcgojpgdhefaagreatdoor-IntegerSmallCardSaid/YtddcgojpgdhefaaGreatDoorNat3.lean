/- Differences of absolute values, walked. -/
import Derived.Test.YtddcgojpgdhefaaGreatDoorBits
import Derived.Deep.RegionHeld3
import Derived.StillTailTactics
namespace Go.Proofs.YtddcgojpgdhefaaGreatDoor
open Go.RowKit Go.El
set_option linter.unusedVariables false

set_option maxRecDepth 100000 in
set_option maxHeartbeats 1000000 in
theorem nsub_any (ax ay : Option Addr) (nx cx ny cy : Nat) (lx ly : List Int) (w : World) (hx : Words w ax nx cx lx) (hy : Words w ay ny cy ly) (hs : nx ≤ 1099511627776) (hle : val ly ≤ val lx) (hl : ny ≤ nx) :
    Calls Tryz.prog 56 #[.slice ax nx cx, .slice ay ny cy] w fun e w' => (∃ a n c, e = .returned (.slice a n c) ∧ Words w' a n c (digs (val lx - val ly))) ∧ Ext w w' := by
  obtain ⟨i0, hi, hz0, hz1, hz2⟩ := info_parts info_u32
  have hmx := hx.max
  have hmy := hy.max
  have Hx := Lib.hid hx
  have Hy := Lib.hid hy
  have Hle := Lib.hid hle
  clear hx hy hle
  go_enter Tryz.func56, Tryz.ntmps56
  go_wp2_with (at_make; refine wpList_make_ints _ rfl _ _ _ rfl 27 i0 .u32 Tryz.underlying62 hi hz0 hz1 .i64 .i64 _ _ nx rfl rfl (by omega) (by omega) (by rw [hz2]; omega) (by omega) ?_; intro w1 b HB he hblk)
  go_loopw [6, 13] (fun c i wr => ∃ k : Nat, k ≤ nx ∧ i = .int .i64 k ∧ c = .int .u32 (subTo lx ly k).2 ∧ Ext w wr ∧ Blk wr b 27 (u32s (fillTo (subTo lx ly k).1 nx))) (fun _ i _ => nx - (intOf i).toNat)
  case atStart => exact ⟨0, Nat.zero_le _, rfl, rfl, he, by rw [subTo, fillTo_nil]; exact hblk⟩
  case round =>
    obtain ⟨k, hk, rfl, rfl, hext, hrow⟩ := hrel
    clear he hblk
    have hcb := subTo_borrow Hx.out.wf Hy.out.wf k
    by_cases hkn : k < nx
    · obtain ⟨x, hx⟩ : ∃ x, x = lx.getD k 0 := ⟨_, rfl⟩
      obtain ⟨y, hy⟩ : ∃ y, y = ly.getD k 0 := ⟨_, rfl⟩
      have hxb := Hx.out.wf.getD k
      have hyb := Hy.out.wf.getD k
      rw [← hx] at hxb
      rw [← hy] at hyb
      obtain ⟨c, hc⟩ : ∃ c, c = (subTo lx ly k).2 := ⟨_, rfl⟩
      rw [← hc] at hcb ⊢
      obtain ⟨bx, ox, hax, hcxw⟩ := Hx.out.cells k x (by rw [hx, List.getD, List.getElem?_eq_getElem (by rw [Hx.out.hlen]; omega)]; simp)
      have hcx := hext.cell hcxw
      have HX := Lib.hid hx
      have HY := Lib.hid hy
      have HC := Lib.hid hc
      have hcell := hrow.cell (i := k) (v := .int .u32 0) (u32s_get (fillTo_get _ _ _ (by rw [subTo_length]; omega) (by omega)))
      have hfree := hrow.free k
      clear hx hy hc
      subst hax
      go_wp2_with fail
      have hne : b ≠ bx := by
        have := World.block_lt_of_cell? _ _ hcxw
        have := HB.out
        simp at *
        omega
      have hd := hext.drew
      go_region_held3 (fun w' => w'.cell? ⟨bx, ox + k, none⟩ = some (.int .u32 x)) (first | exact hcx | (refine Eq.trans (World.cell?_setCell_far wr _ _ _ hne) hcx))
        (first
        | (go_at_call 72; (with_reducible refine (at_nat ay ny cy ly k y _ (Hy.out.ext hd) (by omega) HY.out).mono ?_); rintro e w' ⟨rfl, rfl⟩)
        | (go_at_call 91; (with_reducible refine (sub32 x y c _ hxb.1 hxb.2 hyb.1 hyb.2 hcb.1 hcb.2).mono ?_); rintro e w' ⟨rfl, rfl⟩))
      go_wp2
      go_roundw
      case rel =>
        refine ⟨k + 1, by omega, by go_num, by rw [subTo, ← HX.out, ← HY.out, ← HC.out], (hext.store HB _ _).drew, ?_⟩
        have := hrow.set k (.int .u32 ((x - y - c) % 4294967296))
        rw [u32s_set, fillTo_set _ _ _ _ (subTo_length _ _ _) (by omega)] at this
        rw [subTo, ← HX.out, ← HY.out, ← HC.out]
        exact this
      case measure => simp [intOf]; omega
    · obtain rfl : k = nx := by omega
      rw [fillTo_full _ _ (subTo_length _ _ _)] at hrow
      have hW := Words.of_blk hrow (subTo_wf _ _ _) (by rw [subTo_length]; omega)
      rw [subTo_length] at hW
      have HW := Lib.hid hW
      clear hW hrow
      go_wp2_with fail
      refine (norm_any _ _ _ _ _ HW.out).mono ?_
      rintro e w' ⟨⟨m, rfl, hm, hW'⟩, rfl⟩
      go_wp2_with fail
      go_ret
      refine ⟨⟨_, _, _, rfl, ?_⟩, hext⟩
      have hlen := Hx.out.hlen
      subst hlen
      rwa [sub_val Hx.out.wf Hy.out.wf (by rw [Hy.out.hlen]; exact hl) Hle.out] at hW'
end Go.Proofs.YtddcgojpgdhefaaGreatDoor
