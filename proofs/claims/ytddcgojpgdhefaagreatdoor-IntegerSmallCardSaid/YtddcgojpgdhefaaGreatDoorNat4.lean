/- Products of absolute values, walked. -/
import Derived.Test.YtddcgojpgdhefaaGreatDoorNat3
namespace Go.Proofs.YtddcgojpgdhefaaGreatDoor
open Go.RowKit Go.El
set_option linter.unusedVariables false

set_option maxRecDepth 100000 in
set_option maxHeartbeats 2000000 in
theorem nmul_any (ax ay : Option Addr) (nx cx ny cy : Nat) (lx ly : List Int) (w : World) (hx : Words w ax nx cx lx) (hy : Words w ay ny cy ly) (hs : nx ≤ 1099511627776) (hs' : ny ≤ 1099511627776) :
    Calls Tryz.prog 57 #[.slice ax nx cx, .slice ay ny cy] w fun e w' => (∃ a n c, e = .returned (.slice a n c) ∧ Words w' a n c (digs (val lx * val ly))) ∧ Ext w w' := by
  obtain ⟨i0, hi, hz0, hz1, hz2⟩ := info_parts info_u32
  have hmx := hx.max
  have hmy := hy.max
  have Hx := Lib.hid hx
  have Hy := Lib.hid hy
  have HLx := Lib.hid hx.hlen
  have HLy := Lib.hid hy.hlen
  clear hx hy
  go_enter Tryz.func57, Tryz.ntmps57
  go_wp2_with (at_make; refine wpList_make_ints _ rfl _ _ _ rfl 27 i0 .u32 Tryz.underlying62 hi hz0 hz1 .i64 .i64 _ _ (nx + ny) rfl rfl (by omega) (by omega) (by rw [hz2]; omega) (by omega) ?_; intro w1 b HB he hblk)
  go_loopw [19] (fun i wr => ∃ k : Nat, k ≤ nx ∧ i = .int .i64 k ∧ Ext w wr ∧ Blk wr b 27 (u32s (mulOut lx ly k))) (fun i _ => nx - (intOf i).toNat)
  case atStart => exact ⟨0, Nat.zero_le _, rfl, he, by rw [mulOut, HLx.out, HLy.out]; exact hblk⟩
  case round =>
    obtain ⟨i, hi', rfl, hext, hrow⟩ := hrel
    clear he hblk
    obtain ⟨wo, rfl⟩ : ∃ wo : World, wo = wr := ⟨_, rfl⟩
    by_cases hin : i < nx
    · obtain ⟨x, hx⟩ : ∃ x, x = lx.getD i 0 := ⟨_, rfl⟩
      have hxb := Hx.out.wf.getD i
      rw [← hx] at hxb
      obtain ⟨bx, ox, hax, hcxw⟩ := Hx.out.cells i x (by rw [hx, List.getD, List.getElem?_eq_getElem (by rw [Hx.out.hlen]; omega)]; simp)
      have hcx := hext.cell hcxw
      have HX := Lib.hid hx
      clear hx
      subst hax
      obtain ⟨L, hL⟩ : ∃ L, L = mulOut lx ly i := ⟨_, rfl⟩
      rw [← hL] at hrow
      have hLw : Wf L := by rw [hL]; exact mulOut_wf Hx.out.wf Hy.out.wf i
      have hLl : L.length = nx + ny := by rw [hL, mulOut_length, HLx.out, HLy.out]
      have HL := Lib.hid hL
      have HLw := Lib.hid hLw
      have HLl := Lib.hid hLl
      clear hL hLw hLl hcxw
      go_wp2
      go_loopw [8, 26] (fun c j wr => ∃ k : Nat, k ≤ ny ∧ j = .int .i64 k ∧ c = .int .u64 (mulIn L i x ly k).2 ∧ Ext w wr ∧ Blk wr b 27 (u32s (mulIn L i x ly k).1)) (fun _ j _ => ny - (intOf j).toNat)
      case atStart => exact ⟨0, Nat.zero_le _, rfl, rfl, hext, hrow⟩
      case round =>
        obtain ⟨k, hk, rfl, rfl, hext2, hrow2⟩ := hrel
        clear hext hrow hcx
        obtain ⟨hwf2, hc0, hc1⟩ := mulIn_ok (i := i) HLw.out hxb.1 hxb.2 Hy.out.wf k
        obtain ⟨c, hc⟩ : ∃ c, c = (mulIn L i x ly k).2 := ⟨_, rfl⟩
        rw [← hc] at hc0 hc1 ⊢
        have HC := Lib.hid hc
        clear hc
        by_cases hkn : k < ny
        · obtain ⟨y, hy⟩ : ∃ y, y = ly.getD k 0 := ⟨_, rfl⟩
          have hyb := Hy.out.wf.getD k
          rw [← hy] at hyb
          obtain ⟨by_, oy, hay, hcyw⟩ := Hy.out.cells k y (by rw [hy, List.getD, List.getElem?_eq_getElem (by rw [Hy.out.hlen]; omega)]; simp)
          have hcy := hext2.cell hcyw
          obtain ⟨m, hm⟩ : ∃ m, m = (mulIn L i x ly k).1.getD (i + k) 0 := ⟨_, rfl⟩
          have hmb := hwf2.getD (i + k)
          rw [← hm] at hmb
          have hcell := hrow2.cell (i := i + k) (v := .int .u32 m) (u32s_get (by rw [hm, List.getD, List.getElem?_eq_getElem (by rw [mulIn_length, HLl.out]; omega)]; simp))
          have hfree := hrow2.free (i + k)
          have hp := mul32_bound hxb.1 hxb.2 hyb.1 hyb.2
          have HY := Lib.hid hy
          have HM := Lib.hid hm
          have HW2 := Lib.hid hwf2
          clear hy hm hwf2 hcyw
          subst hay
          go_wp2
          go_roundw
          case rel =>
            have ht : c + (x * y + m) = x * y + m + c := by omega
            rw [ht]
            refine ⟨k + 1, by omega, by go_num, by rw [mulIn, ← HY.out, ← HM.out, ← HC.out], hext2.store HB _ _, ?_⟩
            have := hrow2.set (i + k) (.int .u32 ((x * y + m + c) % 4294967296))
            rw [u32s_set] at this
            rw [mulIn, ← HY.out, ← HM.out, ← HC.out]
            exact this
          case measure => simp [intOf]; omega
        · obtain rfl : k = ny := by omega
          have hz : (mulIn L i x ly k).1.getD (i + k) 0 = 0 := by
            have h1 := mulIn_beyond L i x ly k (i + k) (Nat.le_refl _)
            have h2 := mulOut_beyond lx ly i (i + k) (by rw [HLy.out]; exact Nat.le_refl _)
            rw [h1, HL.out, h2]
          have hcell := hrow2.cell (i := i + k) (v := .int .u32 0) (u32s_get (by rw [← hz, List.getD, List.getElem?_eq_getElem (by rw [mulIn_length, HLl.out]; omega)]; simp))
          have hfree := hrow2.free (i + k)
          clear hz hwf2
          go_wp2
          go_roundw
          case rel =>
            refine ⟨i + 1, by omega, by go_num, hext2.store HB _ _, ?_⟩
            have := hrow2.set (i + k) (.int .u32 c)
            rw [u32s_set] at this
            rw [mulOut, HLy.out, ← HL.out, ← HX.out, ← HC.out]
            exact this
          case measure => simp [intOf]; omega
    · obtain rfl : i = nx := by omega
      have hW := Words.of_blk hrow (mulOut_wf Hx.out.wf Hy.out.wf i) (by rw [mulOut_length, HLx.out, HLy.out]; omega)
      rw [mulOut_length, HLx.out, HLy.out] at hW
      have HW := Lib.hid hW
      clear hW hrow
      go_wp2_with fail
      refine (norm_any _ _ _ _ _ HW.out).mono ?_
      rintro e w' ⟨⟨m, rfl, hm, hW'⟩, rfl⟩
      go_wp2_with fail
      go_ret
      refine ⟨⟨_, _, _, rfl, ?_⟩, hext⟩
      rw [← HLx.out, mul_val] at hW'
      exact hW'
end Go.Proofs.YtddcgojpgdhefaaGreatDoor
