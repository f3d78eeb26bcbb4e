/- Shift to the right: walked. -/
import Derived.Test.YtddcgojpgdhefaaGreatDoorNat5
namespace Go.Proofs.YtddcgojpgdhefaaGreatDoor
open Go.RowKit Go.El
set_option linter.unusedVariables false

set_option maxRecDepth 100000 in
set_option maxHeartbeats 2000000 in
theorem nshr_any (ax : Option Addr) (nx cx : Nat) (lx : List Int) (s : Nat) (p : Int) (w : World) (hx : Words w ax nx cx lx) (hs : nx ≤ 1099511627776) (hp : Pow2 p s) :
    Calls Tryz.prog 95 #[.slice ax nx cx, .int .i64 s] w fun e w' => (∃ a n c, e = .returned (.slice a n c) ∧ Words w' a n c (digs (val lx / p))) ∧ Ext w w' := by
  obtain ⟨i0, hi, hz0, hz1, hz2⟩ := info_parts info_u32
  have hmx := hx.max
  have hs31 := hp.2
  have hpb := hp.bd
  have Hx := Lib.hid hx
  have HLx := Lib.hid hx.hlen
  have HP := Lib.hid hp
  clear hx hp
  go_enter Tryz.func95, Tryz.ntmps95
  go_wp2_with (at_make; refine wpList_make_ints _ rfl _ _ _ rfl 27 i0 .u32 Tryz.underlying62 hi hz0 hz1 .i64 .i64 _ _ nx rfl rfl (by omega) (by omega) (by rw [hz2]; omega) (by omega) ?_; intro w1 b HB he hblk)
  go_loopw [12] (fun i wr => ∃ k : Nat, k ≤ nx ∧ i = .int .i64 k ∧ Ext w wr ∧ Blk wr b 27 (u32s (fillTo (shrTo lx p k) nx))) (fun i _ => nx - (intOf i).toNat)
  case atStart => exact ⟨0, Nat.zero_le _, rfl, he, by
    have : fillTo (shrTo lx p 0) nx = List.replicate nx 0 := by simp [shrTo, fillTo]
    rw [this]; exact hblk⟩
  case round =>
    obtain ⟨k, hk, rfl, hext, hrow⟩ := hrel
    clear he hblk
    by_cases hkn : k < nx
    · obtain ⟨x, hx⟩ : ∃ x, x = lx.getD k 0 := ⟨_, rfl⟩
      have hxb := Hx.out.wf.getD k
      rw [← hx] at hxb
      obtain ⟨y, hy⟩ : ∃ y, y = lx.getD (k + 1) 0 := ⟨_, rfl⟩
      have hyb := Hx.out.wf.getD (k + 1)
      rw [← hy] at hyb
      have Hat := Lib.hid (fun (W : World) (h : Words W ax nx cx lx) => at_nat ax nx cx lx (k + 1) y W h (by omega) hy)
      obtain ⟨bx, ox, hax, hcxw⟩ := Hx.out.cells k x (by rw [hx, List.getD, List.getElem?_eq_getElem (by rw [Hx.out.hlen]; omega)]; simp)
      have hcx := hext.cell hcxw
      have hcell := hrow.cell (i := k) (v := .int .u32 0) (u32s_get (fillTo_get _ _ _ (by rw [shrTo_length]; omega) (by omega)))
      have hfree := hrow.free k
      have hne : b ≠ bx := by
        have := World.block_lt_of_cell? _ _ hcxw
        have := HB.out
        simp at *
        omega
      have hp2 : (2 : Int) ^ s = p := by rw [HP.out.1, Int.natCast_pow]; rfl
      have hor := or_join y x hyb.1 hyb.2 hxb.1 hxb.2
      have hsum : IntKind.i64.wrap ((k : Int) + 1) = (k : Int) + 1 := IntWalk.i64_in _ (by omega)
      have hcast : ((k : Int) + 1) = ((k + 1 : Nat) : Int) := by omega
      have hq0 : 0 ≤ (y * 4294967296 + x) / p := Int.ediv_nonneg (by omega) (by omega)
      have hd := hext.drew
      have HX := Lib.hid hx
      have HY := Lib.hid hy
      have HCast := Lib.hid hcast
      clear hx hy hcxw hcast
      subst hax
      go_wp2_with fail
      go_region_held3 (fun w' => w'.cell? ⟨bx, ox + k, none⟩ = some (.int .u32 x)) (first | exact hcx | (refine Eq.trans (World.cell?_setCell_far wr _ _ _ hne) hcx))
        (first
        | (go_at_call 72; rw [HCast.out]; (with_reducible refine (Hat.out _ (Hx.out.ext hd)).mono ?_); rintro e w' ⟨rfl, rfl⟩))
      go_wp2
      go_roundw
      case rel =>
        rw [hor]
        refine ⟨k + 1, by omega, by go_num, (hext.store HB _ _).drew, ?_⟩
        have := hrow.set k (.int .u32 ((y * 4294967296 + x) / p % 4294967296))
        rw [u32s_set, fillTo_set _ _ _ _ (shrTo_length _ _ _) (by omega)] at this
        rw [shrTo_succ, shrAt, ← HX.out, ← HY.out]
        exact this
      case measure => simp [intOf]; omega
    · obtain rfl : k = nx := by omega
      rw [fillTo_full _ _ (shrTo_length _ _ _)] at hrow
      have hW := Words.of_blk hrow (shrTo_wf _ _ _) (by rw [shrTo_length]; omega)
      rw [shrTo_length] at hW
      have HW := Lib.hid hW
      clear hW hrow
      go_wp2_with fail
      refine (norm_any _ _ _ _ _ HW.out).mono ?_
      rintro e w' ⟨⟨m, rfl, hm, hW'⟩, rfl⟩
      go_wp2_with fail
      go_ret
      refine ⟨⟨_, _, _, rfl, ?_⟩, hext⟩
      have := shr_val HP.out Hx.out.wf
      rw [HLx.out] at this
      rwa [this] at hW'
end Go.Proofs.YtddcgojpgdhefaaGreatDoor
