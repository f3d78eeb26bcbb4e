/- The reference's absolute values: word, compared, added, taken, times, shortly. -/
import Derived.Test.YtddcgojpgdhefaaGreatDoorRefA
import Derived.Test.YtddcgojpgdhefaaGreatDoorDivA
namespace Go.El
open Go.RowKit
theorem setCell_same {w : World} {b : Nat} {E : TypeId} {cs : List Value} (h : Blk w b E cs) {i : Nat} {v : Value} (hi : cs[i]? = some v) : w.setCell ⟨b, i, none⟩ v = w := by
  have hh : (w.setCell ⟨b, i, none⟩ v).heap = w.heap := by
    apply Array.ext_getElem?
    intro k
    by_cases hk : k = b
    · subst hk
      have h1 := h.set i v
      have h2 : cs.set i v = cs := by
        apply List.ext_getElem?
        intro j
        rw [List.getElem?_set]
        split
        · rename_i e
          subst e
          rw [hi]
          split
          · rfl
          · rename_i hlt
            rw [List.getElem?_eq_none (by omega)] at hi
            cases hi
        · rfl
      rw [h2] at h1
      unfold Blk at h h1
      rw [h1, h]
    · exact Below.heap_setCell _ _ _ _ hk
  unfold World.setCell at hh ⊢
  cases w
  simp_all
theorem addTo_end {x y : List Int} {n : Nat} (hx : Wf x) (hy : Wf y) (h1 : x.length ≤ n) (h2 : y.length ≤ n) : val (addTo x y (n + 1)).1 = val x + val y := by
  have h := addTo_val x y (n + 1)
  rw [List.take_of_length_le (by omega), List.take_of_length_le (by omega)] at h
  have hc := addTo_carry hx hy n
  have e : (addTo x y (n + 1)).2 = 0 := by
    simp only [addTo]
    rw [getD_ge h1, getD_ge h2]
    omega
  rw [e] at h
  omega
end Go.El
namespace Go.Proofs.YtddcgojpgdhefaaGreatDoor
open Go.RowKit Go.El
set_option linter.unusedVariables false
theorem rword (a : Option Addr) (len cap : Nat) (l : List Int) (k : Nat) (x : Int) (w : World) (h : Words w a len cap l) (h1 : k ≤ 9223372036854775807) (hx : x = l.getD k 0) :
    Calls Tryz.prog 111 #[.slice a len cap, .int .i64 k] w fun e w' => e = .returned (.int .u64 x) ∧ w = w' := by
  have hm := h.max
  have hle := h.le
  have hlen := h.hlen
  have hxb := h.wf.getD k
  rw [← hx] at hxb
  by_cases hi : k < len
  · obtain ⟨b, off, rfl, hc⟩ := h.cells k x (by rw [hx, List.getD, List.getElem?_eq_getElem (by omega)]; simp)
    clear h hx hlen
    go_enter Tryz.func111, Tryz.ntmps111
    go_wp2
    go_ret
    exact ⟨rfl, rfl⟩
  · have e : x = 0 := by rw [hx]; exact getD_ge (by omega)
    subst e
    clear h hx hlen
    go_enter Tryz.func111, Tryz.ntmps111
    go_wp2
    go_ret
    exact ⟨rfl, rfl⟩

set_option maxRecDepth 100000 in
set_option maxHeartbeats 2000000 in
theorem rcompared (ax ay : Option Addr) (nx cx ny cy : Nat) (a b : Int) (w : World) (ha : 0 ≤ a) (hb : 0 ≤ b) (hx : Words w ax nx cx (digs a)) (hy : Words w ay ny cy (digs b)) :
    Calls Tryz.prog 83 #[.slice ax nx cx, .slice ay ny cy] w fun e w' => e = .returned (.int .i64 (sgn a b)) ∧ Dr w w' := by
  have hmx := hx.max
  have hmy := hy.max
  have hlx := hx.le
  have hly := hy.le
  by_cases hne : nx = ny
  · subst hne
    obtain ⟨lx, hlx⟩ : ∃ lx, lx = digs a := ⟨_, rfl⟩
    obtain ⟨ly, hly⟩ : ∃ ly, ly = digs b := ⟨_, rfl⟩
    rw [← hlx] at hx
    rw [← hly] at hy
    have e1 : val lx = a := by rw [hlx, val_digs ha]
    have e2 : val ly = b := by rw [hly, val_digs hb]
    have Hx := Lib.hid hx
    have Hy := Lib.hid hy
    have HLx := Lib.hid hx.hlen
    have HLy := Lib.hid hy.hlen
    have E1 := Lib.hid e1
    have E2 := Lib.hid e2
    clear hx hy hlx hly e1 e2
    go_enter Tryz.func83, Tryz.ntmps83
    go_wp2
    go_loopw [5] (fun i wr => ∃ k : Nat, k ≤ nx ∧ i = .int .i64 ((nx : Int) - 1 - k) ∧ Dr w wr ∧ lx.drop (nx - k) = ly.drop (nx - k)) (fun i _ => (intOf i + 1).toNat)
    case atStart => exact ⟨0, Nat.zero_le _, by go_num, Dr.refl w, by rw [List.drop_of_length_le (by rw [HLx.out]; omega), List.drop_of_length_le (by rw [HLy.out]; omega)]⟩
    case round =>
      obtain ⟨k, hk, rfl, hdr, hdrop⟩ := hrel
      obtain ⟨q, rfl⟩ := hdr
      have HD := Lib.hid hdrop
      clear hdrop
      by_cases hkn : k < nx
      · obtain ⟨x, hx⟩ : ∃ x, x = lx.getD (nx - 1 - k) 0 := ⟨_, rfl⟩
        obtain ⟨y, hy⟩ : ∃ y, y = ly.getD (nx - 1 - k) 0 := ⟨_, rfl⟩
        obtain ⟨bx, ox, hax, hcx⟩ := Hx.out.cells (nx - 1 - k) x (by rw [hx, List.getD, List.getElem?_eq_getElem (by rw [HLx.out]; omega)]; simp)
        obtain ⟨by_, oy, hay, hcy⟩ := Hy.out.cells (nx - 1 - k) y (by rw [hy, List.getD, List.getElem?_eq_getElem (by rw [HLy.out]; omega)]; simp)
        have HX := Lib.hid hx
        have HY := Lib.hid hy
        clear hx hy
        subst hax
        subst hay
        obtain ⟨m, hm, hmn, HMe⟩ : ∃ m : Nat, (nx : Int) - 1 - k = m ∧ m < nx ∧ Hid (nx - 1 - k = m) := ⟨nx - 1 - k, by omega, by omega, rfl⟩
        rw [HMe.out] at hcx hcy
        by_cases hxy : x = y
        · subst hxy
          have hxx : decide (x < x) = false := by simp
          go_wp2_with fail
          go_quiet (fail)
          go_wp2_with fail
          go_quiet (fail)
          go_wp2
          go_roundw
          case rel =>
            refine ⟨k + 1, by omega, by go_num, ⟨_, rfl⟩, ?_⟩
            rw [drop_cons (l := lx) (k := nx - (k + 1)) (by rw [HLx.out]; omega), drop_cons (l := ly) (k := nx - (k + 1)) (by rw [HLy.out]; omega), show nx - (k + 1) + 1 = nx - k by omega, HD.out, show nx - (k + 1) = nx - 1 - k by omega, ← HX.out, ← HY.out]
          case measure => simp [intOf]; omega
        · have hs : sgn x y = sgn a b := by
            rw [← E1.out, ← E2.out, HX.out, HY.out]
            refine sgn_top Hx.out.wf Hy.out.wf (by rw [HLx.out]; omega) (by rw [HLy.out]; omega) ?_ (by rw [← HX.out, ← HY.out]; exact hxy)
            rw [show nx - 1 - k + 1 = nx - k by omega]; exact HD.out
          rcases Int.lt_or_gt_of_ne hxy with hlt | hgt
          · rw [sgn_lt hlt] at hs
            have HS := Lib.hid hs
            have hd1 : decide (x < y) = true := by simpa using hlt
            clear hs hxy
            go_wp2_with fail
            go_quiet (fail)
            go_wp2
            go_ret
            rw [← HS.out]
            exact ⟨rfl, ((Dr.refl w).drewN q).drewN _⟩
          · rw [sgn_gt hgt] at hs
            have HS := Lib.hid hs
            have hd1 : decide (x < y) = false := by simp; omega
            have hd2 : decide (y < x) = true := by simpa using hgt
            clear hs hxy
            go_wp2_with fail
            go_quiet (fail)
            go_wp2_with fail
            go_quiet (fail)
            go_wp2
            go_ret
            rw [← HS.out]
            exact ⟨rfl, (((Dr.refl w).drewN q).drewN _).drewN _⟩
      · obtain rfl : k = nx := by omega
        have he : sgn a b = 0 := by
          rw [Nat.sub_self, List.drop_zero, List.drop_zero] at HD
          rw [← E1.out, ← E2.out, HD.out, sgn_eq]
        have HE := Lib.hid he
        clear he
        go_wp2
        go_ret
        rw [HE.out]
        exact ⟨rfl, ⟨_, rfl⟩⟩
  · have hs : sgn (nx : Int) (ny : Int) = sgn a b := by
      have := sgn_len ha hb (by rw [hx.hlen, hy.hlen]; exact hne)
      rwa [hx.hlen, hy.hlen] at this
    clear hx hy
    rcases Nat.lt_or_gt_of_ne hne with hlt | hgt
    · rw [sgn_lt (by omega)] at hs
      rw [← hs]
      clear hs hne
      go_enter Tryz.func83, Tryz.ntmps83
      go_wp2_with fail
      go_ret
      exact ⟨rfl, Dr.refl _⟩
    · rw [sgn_gt (by omega)] at hs
      rw [← hs]
      clear hs hne
      have h1 : decide (nx < ny) = false := by simp; omega
      go_enter Tryz.func83, Tryz.ntmps83
      go_wp2_with fail
      go_ret
      exact ⟨rfl, Dr.refl _⟩

set_option maxRecDepth 100000 in
set_option maxHeartbeats 1000000 in
theorem radded (ax ay : Option Addr) (nx cx ny cy : Nat) (lx ly : List Int) (w : World) (hx : Words w ax nx cx lx) (hy : Words w ay ny cy ly) (hs : nx ≤ 1099511627776) (hs' : ny ≤ 1099511627776) :
    Calls Tryz.prog 69 #[.slice ax nx cx, .slice ay ny cy] w fun e w' => (∃ a n c, e = .returned (.slice a n c) ∧ Words w' a n c (digs (val lx + val ly))) ∧ Ext w w' := by
  obtain ⟨i0, hi, hz0, hz1, hz2⟩ := info_parts info_u32
  have hmx := hx.max
  have hmy := hy.max
  obtain ⟨n, hn, hn0, hn1, hn2⟩ : ∃ n : Nat, n = max nx ny ∧ nx ≤ n ∧ ny ≤ n ∧ n ≤ 1099511627776 := ⟨_, rfl, Nat.le_max_left _ _, Nat.le_max_right _ _, Nat.max_le.2 ⟨hs, hs'⟩⟩
  have hmax : ∀ w', (Builtin.max_ #[3, 3] 3 #[.int .i64 (nx : Int), .int .i64 (ny : Int)]).run Tryz.prog w' = .ok (.int .i64 (n : Int)) w' := fun w' => by
    rw [hn]; exact run_max_int _ _ _ _ _
  have Hx := Lib.hid hx
  have Hy := Lib.hid hy
  clear hn hx hy
  go_enter Tryz.func69, Tryz.ntmps69
  go_wp2_with (at_make; refine wpList_make_ints _ rfl _ _ _ rfl 27 i0 .u32 Tryz.underlying22 hi hz0 hz1 .i64 .i64 _ _ (n + 1) rfl rfl (by omega) (by omega) (by rw [hz2]; omega) (by omega) ?_; intro w1 b HB he hblk)
  go_loopw [7, 8] (fun c i wr => ∃ k : Nat, k ≤ n + 1 ∧ i = .int .i64 k ∧ c = .int .u64 (addTo lx ly k).2 ∧ Ext w wr ∧ Blk wr b 27 (u32s (fillTo (addTo lx ly k).1 (n + 1)))) (fun _ i _ => n + 1 - (intOf i).toNat)
  case atStart => exact ⟨0, Nat.zero_le _, rfl, rfl, he, by rw [addTo, fillTo_nil]; exact hblk⟩
  case round =>
    obtain ⟨k, hk, rfl, rfl, hext, hrow⟩ := hrel
    clear he hblk
    have hcb := addTo_carry Hx.out.wf Hy.out.wf k
    by_cases hkn : k < n + 1
    · obtain ⟨x, hx⟩ : ∃ x, x = lx.getD k 0 := ⟨_, rfl⟩
      obtain ⟨y, hy⟩ : ∃ y, y = ly.getD k 0 := ⟨_, rfl⟩
      have hxb := Hx.out.wf.getD k
      have hyb := Hy.out.wf.getD k
      rw [← hx] at hxb
      rw [← hy] at hyb
      obtain ⟨c, hc⟩ : ∃ c, c = (addTo lx ly k).2 := ⟨_, rfl⟩
      rw [← hc] at hcb ⊢
      have HX := Lib.hid hx
      have HY := Lib.hid hy
      have HC := Lib.hid hc
      have hcell := hrow.cell (i := k) (v := .int .u32 0) (u32s_get (fillTo_get _ _ _ (by rw [addTo_length]; omega) (by omega)))
      have hfree := hrow.free k
      clear hx hy hc
      go_wp2_with fail
      refine (rword ax nx cx lx k x _ (Hx.out.ext hext) (by omega) HX.out).mono ?_
      rintro e w' ⟨rfl, rfl⟩
      go_wp2_with fail
      refine (rword ay ny cy ly k y _ (Hy.out.ext hext) (by omega) HY.out).mono ?_
      rintro e w' ⟨rfl, rfl⟩
      go_wp2_with fail
      go_roundw
      case rel =>
        refine ⟨k + 1, by omega, by go_num, by rw [addTo, ← HX.out, ← HY.out, ← HC.out], hext.store HB _ _, ?_⟩
        have := hrow.set k (.int .u32 ((x + y + c) % 4294967296))
        rw [u32s_set, fillTo_set _ _ _ _ (addTo_length _ _ _) (by omega)] at this
        rw [addTo, ← HX.out, ← HY.out, ← HC.out]
        exact this
      case measure => simp [intOf]; omega
    · obtain rfl : k = n + 1 := by omega
      have hrow2 := hrow
      rw [fillTo_full _ _ (by simp [addTo_length])] at hrow2
      have hW := Words.of_blk hrow2 (addTo_wf _ _ _) (by simp [addTo_length]; omega)
      rw [addTo_length] at hW
      have HW := Lib.hid hW
      have HCb := Lib.hid hcb
      clear hW hrow hrow2 hcb
      go_wp2_with fail
      refine (trim_any _ _ _ _ _ HW.out).mono ?_
      rintro e w' ⟨⟨m, rfl, hm, hW'⟩, rfl⟩
      go_wp2_with fail
      go_ret
      refine ⟨⟨_, _, _, rfl, ?_⟩, hext⟩
      rw [addTo_end Hx.out.wf Hy.out.wf (by rw [Hx.out.hlen]; exact hn0) (by rw [Hy.out.hlen]; exact hn1)] at hW'
      exact hW'
set_option maxRecDepth 100000 in
set_option maxHeartbeats 1000000 in
theorem rtaken (ax ay : Option Addr) (nx cx ny cy : Nat) (lx ly : List Int) (w : World) (hx : Words w ax nx cx lx) (hy : Words w ay ny cy ly) (hs : nx ≤ 1099511627776) (hle : val ly ≤ val lx) (hl : ny ≤ nx) :
    Calls Tryz.prog 75 #[.slice ax nx cx, .slice ay ny cy] w fun e w' => (∃ a n c, e = .returned (.slice a n c) ∧ Words w' a n c (digs (val lx - val ly))) ∧ Ext w w' := by
  obtain ⟨i0, hi, hz0, hz1, hz2⟩ := info_parts info_u32
  have hmx := hx.max
  have hmy := hy.max
  have Hx := Lib.hid hx
  have Hy := Lib.hid hy
  have Hle := Lib.hid hle
  clear hx hy hle
  go_enter Tryz.func75, Tryz.ntmps75
  go_wp2_with (at_make; refine wpList_make_ints _ rfl _ _ _ rfl 27 i0 .u32 Tryz.underlying22 hi hz0 hz1 .i64 .i64 _ _ nx rfl rfl (by omega) (by omega) (by rw [hz2]; omega) (by omega) ?_; intro w1 b HB he hblk)
  go_loopw [6, 7] (fun c i wr => ∃ k : Nat, k ≤ nx ∧ i = .int .i64 k ∧ c = .int .u64 (subTo lx ly k).2 ∧ Ext w wr ∧ Blk wr b 27 (u32s (fillTo (subTo lx ly k).1 nx))) (fun _ i _ => nx - (intOf i).toNat)
  case atStart => exact ⟨0, Nat.zero_le _, rfl, rfl, he, by rw [subTo, fillTo_nil]; exact hblk⟩
  case round =>
    obtain ⟨k, hk, rfl, rfl, hext, hrow⟩ := hrel
    clear he hblk
    have hcb := subTo_borrow Hx.out.wf Hy.out.wf k
    by_cases hkn : k < nx
    · obtain ⟨x, hx⟩ : ∃ x, x = lx.getD k 0 := ⟨_, rfl⟩
      obtain ⟨y, hy⟩ : ∃ y, y = ly.getD k 0 := ⟨_, rfl⟩
      have hxb := Hx.out.wf.getD k
      have hyb := Hy.out.wf.getD k
      rw [← hx] at hxb
      rw [← hy] at hyb
      obtain ⟨c, hc⟩ : ∃ c, c = (subTo lx ly k).2 := ⟨_, rfl⟩
      rw [← hc] at hcb ⊢
      obtain ⟨bx, ox, hax, hcxw⟩ := Hx.out.cells k x (by rw [hx, List.getD, List.getElem?_eq_getElem (by rw [Hx.out.hlen]; omega)]; simp)
      have hcx := hext.cell hcxw
      have HX := Lib.hid hx
      have HY := Lib.hid hy
      have HC := Lib.hid hc
      have hcell := hrow.cell (i := k) (v := .int .u32 0) (u32s_get (fillTo_get _ _ _ (by rw [subTo_length]; omega) (by omega)))
      have hfree := hrow.free k
      have HM := Lib.hid (show (4294967296 + x - y - c) % 4294967296 = (x - y - c) % 4294967296 by omega)
      have HDv := Lib.hid (show 1 - (4294967296 + x - y - c) / 4294967296 = -((x - y - c) / 4294967296) by omega)
      clear hx hy hc
      subst hax
      go_wp2_with fail
      have hd := hext.drew
      go_region_held3 (fun w' => w'.cell? ⟨bx, ox + k, none⟩ = some (.int .u32 x)) (first | exact hcx)
        (first
        | (go_at_call 111; (with_reducible refine (rword ay ny cy ly k y _ (Hy.out.ext hd) (by omega) HY.out).mono ?_); rintro e w' ⟨rfl, rfl⟩))
      go_wp2
      go_roundw
      case rel =>
        refine ⟨k + 1, by omega, by go_num, ?_, (hext.drew).store HB _ _, ?_⟩
        · rw [subTo, ← HX.out, ← HY.out, ← HC.out, ← HDv.out]
        have := hrow.drew.set k (.int .u32 ((4294967296 + x - y - c) % 4294967296))
        rw [u32s_set, fillTo_set _ _ _ _ (subTo_length _ _ _) (by omega)] at this
        rw [subTo, ← HX.out, ← HY.out, ← HC.out, ← HM.out]
        exact this
      case measure => simp [intOf]; omega
    · obtain rfl : k = nx := by omega
      rw [fillTo_full _ _ (subTo_length _ _ _)] at hrow
      have hW := Words.of_blk hrow (subTo_wf _ _ _) (by rw [subTo_length]; omega)
      rw [subTo_length] at hW
      have HW := Lib.hid hW
      have HCb := Lib.hid hcb
      clear hW hrow hcb
      go_wp2_with fail
      refine (trim_any _ _ _ _ _ HW.out).mono ?_
      rintro e w' ⟨⟨m, rfl, hm, hW'⟩, rfl⟩
      go_wp2_with fail
      go_ret
      refine ⟨⟨_, _, _, rfl, ?_⟩, hext⟩
      have hlen := Hx.out.hlen
      subst hlen
      rwa [sub_val Hx.out.wf Hy.out.wf (by rw [Hy.out.hlen]; exact hl) Hle.out] at hW'
set_option maxRecDepth 100000 in
set_option maxHeartbeats 2000000 in
theorem rtimes (ax ay : Option Addr) (nx cx ny cy : Nat) (lx ly : List Int) (w : World) (hx : Words w ax nx cx lx) (hy : Words w ay ny cy ly) (hs : nx ≤ 1099511627776) (hs' : ny ≤ 1099511627776) :
    Calls Tryz.prog 70 #[.slice ax nx cx, .slice ay ny cy] w fun e w' => (∃ a n c, e = .returned (.slice a n c) ∧ Words w' a n c (digs (val lx * val ly))) ∧ Ext w w' := by
  obtain ⟨i0, hi, hz0, hz1, hz2⟩ := info_parts info_u32
  have hmx := hx.max
  have hmy := hy.max
  have Hx := Lib.hid hx
  have Hy := Lib.hid hy
  have HLx := Lib.hid hx.hlen
  have HLy := Lib.hid hy.hlen
  clear hx hy
  go_enter Tryz.func70, Tryz.ntmps70
  go_wp2_with (at_make; refine wpList_make_ints _ rfl _ _ _ rfl 27 i0 .u32 Tryz.underlying22 hi hz0 hz1 .i64 .i64 _ _ (nx + ny) rfl rfl (by omega) (by omega) (by rw [hz2]; omega) (by omega) ?_; intro w1 b HB he hblk)
  go_loopw [6] (fun i wr => ∃ k : Nat, k ≤ nx ∧ i = .int .i64 k ∧ Ext w wr ∧ Blk wr b 27 (u32s (mulOut lx ly k))) (fun i _ => nx - (intOf i).toNat)
  case atStart => exact ⟨0, Nat.zero_le _, rfl, he, by rw [mulOut, HLx.out, HLy.out]; exact hblk⟩
  case round =>
    obtain ⟨i, hi', rfl, hext, hrow⟩ := hrel
    clear he hblk
    obtain ⟨wo, rfl⟩ : ∃ wo : World, wo = wr := ⟨_, rfl⟩
    by_cases hin : i < nx
    · obtain ⟨x, hx⟩ : ∃ x, x = lx.getD i 0 := ⟨_, rfl⟩
      have hxb := Hx.out.wf.getD i
      rw [← hx] at hxb
      obtain ⟨bx, ox, hax, hcxw⟩ := Hx.out.cells i x (by rw [hx, List.getD, List.getElem?_eq_getElem (by rw [Hx.out.hlen]; omega)]; simp)
      have HX := Lib.hid hx
      clear hx
      subst hax
      obtain ⟨L, hL⟩ : ∃ L, L = mulOut lx ly i := ⟨_, rfl⟩
      rw [← hL] at hrow
      have hLw : Wf L := by rw [hL]; exact mulOut_wf Hx.out.wf Hy.out.wf i
      have hLl : L.length = nx + ny := by rw [hL, mulOut_length, HLx.out, HLy.out]
      have HL := Lib.hid hL
      have HLw := Lib.hid hLw
      have HLl := Lib.hid hLl
      clear hL hLw hLl
      go_wp2
      go_loopw [7, 8] (fun c j wr => ∃ k : Nat, k ≤ ny ∧ j = .int .i64 k ∧ c = .int .u64 (mulIn L i x ly k).2 ∧ Ext w wr ∧ Blk wr b 27 (u32s (mulIn L i x ly k).1)) (fun _ j _ => ny - (intOf j).toNat)
      case atStart => exact ⟨0, Nat.zero_le _, rfl, rfl, hext, hrow⟩
      case round =>
        obtain ⟨k, hk, rfl, rfl, hext2, hrow2⟩ := hrel
        clear hext hrow
        obtain ⟨hwf2, hc0, hc1⟩ := mulIn_ok (i := i) HLw.out hxb.1 hxb.2 Hy.out.wf k
        obtain ⟨c, hc⟩ : ∃ c, c = (mulIn L i x ly k).2 := ⟨_, rfl⟩
        rw [← hc] at hc0 hc1 ⊢
        have HC := Lib.hid hc
        clear hc
        by_cases hkn : k < ny
        · obtain ⟨y, hy⟩ : ∃ y, y = ly.getD k 0 := ⟨_, rfl⟩
          have hyb := Hy.out.wf.getD k
          rw [← hy] at hyb
          obtain ⟨by_, oy, hay, hcyw⟩ := Hy.out.cells k y (by rw [hy, List.getD, List.getElem?_eq_getElem (by rw [Hy.out.hlen]; omega)]; simp)
          have hcy := hext2.cell hcyw
          have hcx := hext2.cell hcxw
          obtain ⟨m, hm⟩ : ∃ m, m = (mulIn L i x ly k).1.getD (i + k) 0 := ⟨_, rfl⟩
          have hmb := hwf2.getD (i + k)
          rw [← hm] at hmb
          have hcell := hrow2.cell (i := i + k) (v := .int .u32 m) (u32s_get (by rw [hm, List.getD, List.getElem?_eq_getElem (by rw [mulIn_length, HLl.out]; omega)]; simp))
          have hfree := hrow2.free (i + k)
          have hp := mul32_bound hxb.1 hxb.2 hyb.1 hyb.2
          have HY := Lib.hid hy
          have HM := Lib.hid hm
          have HW2 := Lib.hid hwf2
          have hik : IntKind.i64.wrap ((i : Int) + k) = (i : Int) + k := IntWalk.i64_in _ (by omega)
          have hik0 : (0 : Int) ≤ (i : Int) + k := by omega
          have hik1 : ((i : Int) + k).toNat = i + k := by omega
          have hsum1 : IntKind.u64.wrap (x * y) = x * y := IntWalk.u64_in _ (by omega)
          have hsum2 : IntKind.u64.wrap (x * y + m) = x * y + m := IntWalk.u64_in _ (by omega)
          have hsum3 : IntKind.u64.wrap (x * y + m + c) = x * y + m + c := IntWalk.u64_in _ (by omega)
          have hcu : IntKind.u64.wrap x = x := IntWalk.u64_in _ (by omega)
          have hcu2 : IntKind.u64.wrap y = y := IntWalk.u64_in _ (by omega)
          have hcu3 : IntKind.u64.wrap m = m := IntWalk.u64_in _ (by omega)
          clear hy hm hwf2
          subst hay
          go_wp2_with fail
          go_quiet (fail)
          clear hsum1 hsum2 hsum3 hcu hcu2 hcu3 hik hik0 hik1
          have hb1 : 0 ≤ x * y + m + c := by omega
          have hb2 : x * y + m + c ≤ 18446744073709551615 := by omega
          obtain ⟨t, ht⟩ : ∃ t, t = x * y + m + c := ⟨_, rfl⟩
          rw [← ht] at hb1 hb2 ⊢
          have HT := Lib.hid ht
          clear ht
          go_wp2
          go_roundw
          case rel =>
            refine ⟨k + 1, by omega, by go_num, by rw [mulIn, ← HY.out, ← HM.out, ← HC.out, ← HT.out], (hext2.drewN _).store HB _ _, ?_⟩
            have := (Blk.drewN' hrow2 nq).set (i + k) (.int .u32 (t % 4294967296))
            rw [u32s_set] at this
            rw [mulIn, ← HY.out, ← HM.out, ← HC.out, ← HT.out]
            exact this
          case measure => simp [intOf]; omega
        · obtain rfl : k = ny := by omega
          have hz : (mulIn L i x ly k).1.getD (i + k) 0 = 0 := by
            have h1 := mulIn_beyond L i x ly k (i + k) (Nat.le_refl _)
            have h2 := mulOut_beyond lx ly i (i + k) (by rw [HLy.out]; exact Nat.le_refl _)
            rw [h1, HL.out, h2]
          have hcell := hrow2.cell (i := i + k) (v := .int .u32 0) (u32s_get (by rw [← hz, List.getD, List.getElem?_eq_getElem (by rw [mulIn_length, HLl.out]; omega)]; simp))
          have hfree := hrow2.free (i + k)
          clear hz hwf2
          go_wp2
          go_roundw
          case rel =>
            refine ⟨i + 1, by omega, by go_num, hext2.store HB _ _, ?_⟩
            have := hrow2.set (i + k) (.int .u32 c)
            rw [u32s_set] at this
            rw [mulOut, HLy.out, ← HL.out, ← HX.out, ← HC.out]
            exact this
          case measure => simp [intOf]; omega
    · obtain rfl : i = nx := by omega
      have hW := Words.of_blk hrow (mulOut_wf Hx.out.wf Hy.out.wf i) (by rw [mulOut_length, HLx.out, HLy.out]; omega)
      rw [mulOut_length, HLx.out, HLy.out] at hW
      have HW := Lib.hid hW
      clear hW hrow
      go_wp2_with fail
      refine (trim_any _ _ _ _ _ HW.out).mono ?_
      rintro e w' ⟨⟨m, rfl, hm, hW'⟩, rfl⟩
      go_wp2_with fail
      go_ret
      refine ⟨⟨_, _, _, rfl, ?_⟩, hext⟩
      have e := mul_val lx ly
      rw [HLx.out] at e
      rwa [e] at hW'
set_option maxRecDepth 100000 in
set_option maxHeartbeats 2000000 in
theorem rshortly (ax : Option Addr) (nx cx : Nat) (lx : List Int) (d : Int) (w : World) (hx : Words w ax nx cx lx) (hs : nx ≤ 1099511627776) (hd : 0 < d) (hd' : d < 4294967296) :
    Calls Tryz.prog 112 #[.slice ax nx cx, .int .u64 d] w fun e w' => (∃ b n c, e = .returned (.tuple #[.slice (some ⟨b, 0, none⟩) n c, .int .u64 (val lx % d)]) ∧ Words w' (some ⟨b, 0, none⟩) n c (digs (val lx / d)) ∧ w.heap.size ≤ b) ∧ Ext w w' := by
  obtain ⟨i0, hi, hz0, hz1, hz2⟩ := info_parts info_u32
  have hmx := hx.max
  have Hx := Lib.hid hx
  have HLx := Lib.hid hx.hlen
  have hd0 : (d == 0) = false := by simp; omega
  clear hx
  go_enter Tryz.func112, Tryz.ntmps112
  go_wp2_with (at_make; refine wpList_make_ints _ rfl _ _ _ rfl 27 i0 .u32 Tryz.underlying22 hi hz0 hz1 .i64 .i64 _ _ nx rfl rfl (by omega) (by omega) (by rw [hz2]; omega) (by omega) ?_; intro w1 b HB he hblk)
  go_loopw [7, 8] (fun r i wr => ∃ k : Nat, k ≤ nx ∧ i = .int .i64 ((nx : Int) - 1 - k) ∧ r = .int .u64 (wordTo lx d k).2 ∧ Ext w wr ∧ Blk wr b 27 (u32s (topTo (wordTo lx d k).1 nx))) (fun _ i _ => (intOf i + 1).toNat)
  case atStart => exact ⟨0, Nat.zero_le _, by go_num, rfl, he, by rw [wordTo, topTo_nil]; exact hblk⟩
  case round =>
    obtain ⟨k, hk, rfl, rfl, hext, hrow⟩ := hrel
    clear he hblk
    have hrb := wordTo_rest (x := lx) hd k
    by_cases hkn : k < nx
    · have hm2 : (wordTo lx d k).1.length + (nx - 1 - k) + 1 = nx := by rw [wordTo_length]; omega
      have hm3 : lx.length - 1 - k = nx - 1 - k := by rw [HLx.out]
      obtain ⟨x, hx⟩ : ∃ x, x = lx.getD (nx - 1 - k) 0 := ⟨_, rfl⟩
      have hxb := Hx.out.wf.getD (nx - 1 - k)
      rw [← hx] at hxb
      obtain ⟨r, hr⟩ : ∃ r, r = (wordTo lx d k).2 := ⟨_, rfl⟩
      rw [← hr] at hrb ⊢
      obtain ⟨bx, ox, hax, hcxw⟩ := Hx.out.cells (nx - 1 - k) x (by rw [hx, List.getD, List.getElem?_eq_getElem (by rw [Hx.out.hlen]; omega)]; simp)
      have hcx := hext.cell hcxw
      have hcell := hrow.cell (i := nx - 1 - k) (v := .int .u32 0) (u32s_get (topTo_get _ _ _ (by omega)))
      have hfree := hrow.free (nx - 1 - k)
      have hq1 : (r * 4294967296 + x) / d < 4294967296 := Int.ediv_lt_of_lt_mul hd (by
        have : r * 4294967296 ≤ (d - 1) * 4294967296 := by omega
        omega)
      have hq0 : 0 ≤ (r * 4294967296 + x) / d := Int.ediv_nonneg (by omega) (by omega)
      obtain ⟨m, hm, hmn, HMe⟩ : ∃ m : Nat, (nx : Int) - 1 - k = m ∧ m < nx ∧ Hid (nx - 1 - k = m) := ⟨nx - 1 - k, by omega, by omega, rfl⟩
      rw [HMe.out] at hcx hcell hfree hm2
      have HX := Lib.hid hx
      have HR := Lib.hid hr
      have HM2 := Lib.hid hm2
      have HM3 := Lib.hid hm3
      clear hx hr hcxw hm2 hm3
      subst hax
      go_wp2_with fail
      go_roundw
      case rel =>
        refine ⟨k + 1, by omega, by go_num, by rw [wordTo, HM3.out, ← HX.out, ← HR.out], hext.store HB _ _, ?_⟩
        have := hrow.set m (.int .u32 ((r * 4294967296 + x) / d))
        rw [u32s_set, topTo_set _ _ _ _ HM2.out] at this
        rw [wordTo, HM3.out, ← HX.out, ← HR.out]
        exact this
      case measure => simp [intOf]; omega
    · obtain rfl : k = nx := by omega
      rw [topTo_full _ _ (wordTo_length _ _ _)] at hrow
      have hW := Words.of_blk hrow (wordTo_wf Hx.out.wf hd _) (by rw [wordTo_length]; omega)
      rw [wordTo_length] at hW
      obtain ⟨r, hr⟩ : ∃ r, r = (wordTo lx d k).2 := ⟨_, rfl⟩
      rw [← hr] at hrb ⊢
      have HR := Lib.hid hr
      have HW := Lib.hid hW
      clear hW hrow hr
      go_wp2_with fail
      refine (trim_any _ _ _ _ _ HW.out).mono ?_
      rintro e w' ⟨⟨m, rfl, hm, hW'⟩, rfl⟩
      go_wp2_with fail
      go_ret2
      have hv := word_val (x := lx) hd
      rw [HLx.out] at hv
      rw [hv.1] at hW'
      refine ⟨⟨_, _, _, ?_, hW', Nat.le_of_eq HB.out.symm⟩, hext⟩
      rw [← hv.2, ← HR.out]
      rfl
end Go.Proofs.YtddcgojpgdhefaaGreatDoor
