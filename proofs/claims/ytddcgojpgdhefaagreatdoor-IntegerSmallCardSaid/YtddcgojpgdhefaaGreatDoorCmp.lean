/- Comparing absolute values: the plain law and the walk. -/
import Derived.Test.YtddcgojpgdhefaaGreatDoorBits
import Derived.Test.YtddcgojpgdhefaaGreatDoorMath2
import Derived.Deep.RegionHeld3
namespace Go.El
set_option linter.unusedVariables false
/-- -1, 0 or 1. -/
def sgn (a b : Int) : Int := if a < b then -1 else if b < a then 1 else 0
theorem sgn_lt {a b : Int} (h : a < b) : sgn a b = -1 := by simp [sgn, h]
theorem sgn_gt {a b : Int} (h : b < a) : sgn a b = 1 := by simp [sgn, h]; omega
theorem sgn_eq (a : Int) : sgn a a = 0 := by simp [sgn]
theorem val_split (l : List Int) {m : Nat} (h : m < l.length) : val l = val (l.take m) + pw m * (l.getD m 0 + 4294967296 * val (l.drop (m + 1))) := by
  rw [val_take_drop l m (by omega), drop_cons h, val]
theorem val_lt_of {x y : List Int} (hx : Wf x) (hy : Wf y) {m : Nat} (h1 : m < x.length) (h2 : m < y.length) (hd : x.drop (m + 1) = y.drop (m + 1)) (hlt : x.getD m 0 < y.getD m 0) : val x < val y := by
  rw [val_split x h1, val_split y h2, hd]
  have a := val_lt (hx.take m)
  have b := val_nonneg (hy.take m)
  rw [List.length_take, Nat.min_eq_left (by omega)] at a
  have c := pw_pos m
  have d : pw m * (x.getD m 0 + 1 + 4294967296 * val (y.drop (m + 1))) ≤ pw m * (y.getD m 0 + 4294967296 * val (y.drop (m + 1))) := Int.mul_le_mul_of_nonneg_left (by omega) (by omega)
  have e : pw m * (x.getD m 0 + 1 + 4294967296 * val (y.drop (m + 1))) = pw m * (x.getD m 0 + 4294967296 * val (y.drop (m + 1))) + pw m := by
    rw [show x.getD m 0 + 1 + 4294967296 * val (y.drop (m + 1)) = (x.getD m 0 + 4294967296 * val (y.drop (m + 1))) + 1 by omega, Int.mul_add, Int.mul_one]
  omega
theorem sgn_top {x y : List Int} (hx : Wf x) (hy : Wf y) {m : Nat} (h1 : m < x.length) (h2 : m < y.length) (hd : x.drop (m + 1) = y.drop (m + 1)) (hne : x.getD m 0 ≠ y.getD m 0) : sgn (x.getD m 0) (y.getD m 0) = sgn (val x) (val y) := by
  rcases Int.lt_or_gt_of_ne hne with h | h
  · rw [sgn_lt h, sgn_lt (val_lt_of hx hy h1 h2 hd h)]
  · rw [sgn_gt h, sgn_gt (val_lt_of hy hx h2 h1 hd.symm h)]
theorem sgn_len {a b : Int} (ha : 0 ≤ a) (hb : 0 ≤ b) (hne : (digs a).length ≠ (digs b).length) : sgn ((digs a).length : Int) ((digs b).length : Int) = sgn a b := by
  rcases Nat.lt_or_gt_of_ne hne with h | h
  · have : a < b := by
      apply Decidable.byContradiction
      intro hn
      have h1 := digs_len_lt ha
      have h2 := pw_le (show (digs a).length ≤ (digs b).length by omega)
      have h3 : (digs b).length ≤ (digs a).length := digs_len_le hb (by omega)
      omega
    rw [sgn_lt this, sgn_lt (by omega)]
  · have : b < a := by
      apply Decidable.byContradiction
      intro hn
      have h1 := digs_len_lt hb
      have h3 : (digs a).length ≤ (digs b).length := digs_len_le ha (by omega)
      omega
    rw [sgn_gt this, sgn_gt (by omega)]
/-- Some draws, nothing else. -/
def Dr (w w' : World) : Prop := ∃ n, w' = w.drewN n
theorem Dr.refl (w : World) : Dr w w := ⟨0, rfl⟩
theorem Dr.drewN {w w' : World} (h : Dr w w') (n : Nat) : Dr w (w'.drewN n) := by
  obtain ⟨m, rfl⟩ := h
  exact ⟨m + n, by simp [World.drewN, Nat.add_assoc]⟩
theorem Dr.trans {a b c : World} (h : Dr a b) (k : Dr b c) : Dr a c := by
  obtain ⟨n, rfl⟩ := k
  exact h.drewN n
theorem Dr.ext {w w' : World} (h : Dr w w') : Ext w w' := by
  obtain ⟨n, rfl⟩ := h
  exact (Ext.refl w).drewN n
end Go.El

namespace Go.Proofs.YtddcgojpgdhefaaGreatDoor
open Go.RowKit Go.El
set_option linter.unusedVariables false

theorem compare_int (x y : Int) (w : World) :
    Calls Tryz.prog 52 #[.int .i64 x, .int .i64 y] w fun e w' => e = .returned (.int .i64 (sgn x y)) ∧ w = w' := by
  have h1 : (x != x) = false := by simp
  have h2 : (y != y) = false := by simp
  by_cases hlt : x < y
  · rw [sgn_lt hlt]
    go_enter Tryz.func52, Tryz.ntmps52
    go_wp2
    go_ret
    exact ⟨rfl, rfl⟩
  · by_cases hgt : y < x
    · rw [sgn_gt hgt]
      go_enter Tryz.func52, Tryz.ntmps52
      go_wp2
      go_ret
      exact ⟨rfl, rfl⟩
    · obtain rfl : x = y := by omega
      rw [sgn_eq]
      go_enter Tryz.func52, Tryz.ntmps52
      go_wp2
      go_ret
      exact ⟨rfl, rfl⟩
theorem compare_u32 (x y : Int) (w : World) :
    Calls Tryz.prog 87 #[.int .u32 x, .int .u32 y] w fun e w' => e = .returned (.int .i64 (sgn x y)) ∧ w = w' := by
  have h1 : (x != x) = false := by simp
  have h2 : (y != y) = false := by simp
  by_cases hlt : x < y
  · rw [sgn_lt hlt]
    go_enter Tryz.func87, Tryz.ntmps87
    go_wp2
    go_ret
    exact ⟨rfl, rfl⟩
  · by_cases hgt : y < x
    · rw [sgn_gt hgt]
      go_enter Tryz.func87, Tryz.ntmps87
      go_wp2
      go_ret
      exact ⟨rfl, rfl⟩
    · obtain rfl : x = y := by omega
      rw [sgn_eq]
      go_enter Tryz.func87, Tryz.ntmps87
      go_wp2
      go_ret
      exact ⟨rfl, rfl⟩

set_option maxRecDepth 100000 in
set_option maxHeartbeats 2000000 in
theorem ncmp_any (ax ay : Option Addr) (nx cx ny cy : Nat) (a b : Int) (w : World) (ha : 0 ≤ a) (hb : 0 ≤ b) (hx : Words w ax nx cx (digs a)) (hy : Words w ay ny cy (digs b)) :
    Calls Tryz.prog 53 #[.slice ax nx cx, .slice ay ny cy] w fun e w' => e = .returned (.int .i64 (sgn a b)) ∧ Dr w w' := by
  have hmx := hx.max
  have hmy := hy.max
  have hlx := hx.le
  have hly := hy.le
  by_cases hne : nx = ny
  · subst hne
    have hn : ((nx : Int) != nx) = false := by simp
    obtain ⟨lx, hlx⟩ : ∃ lx, lx = digs a := ⟨_, rfl⟩
    obtain ⟨ly, hly⟩ : ∃ ly, ly = digs b := ⟨_, rfl⟩
    rw [← hlx] at hx
    rw [← hly] at hy
    have e1 : val lx = a := by rw [hlx, val_digs ha]
    have e2 : val ly = b := by rw [hly, val_digs hb]
    have Hx := Lib.hid hx
    have Hy := Lib.hid hy
    have HLx := Lib.hid hx.hlen
    have HLy := Lib.hid hy.hlen
    have E1 := Lib.hid e1
    have E2 := Lib.hid e2
    clear hx hy hlx hly e1 e2
    go_enter Tryz.func53, Tryz.ntmps53
    go_wp2
    go_loopw [19] (fun i wr => ∃ k : Nat, k ≤ nx ∧ i = .int .i64 k ∧ Dr w wr ∧ lx.drop (nx - k) = ly.drop (nx - k)) (fun i _ => nx - (intOf i).toNat)
    case atStart => exact ⟨0, Nat.zero_le _, rfl, Dr.refl w, by rw [List.drop_of_length_le (by rw [HLx.out]; omega), List.drop_of_length_le (by rw [HLy.out]; omega)]⟩
    case round =>
      obtain ⟨k, hk, rfl, hdr, hdrop⟩ := hrel
      obtain ⟨q, rfl⟩ := hdr
      have HD := Lib.hid hdrop
      clear hdrop
      by_cases hkn : k < nx
      · obtain ⟨x, hx⟩ : ∃ x, x = lx.getD (nx - 1 - k) 0 := ⟨_, rfl⟩
        obtain ⟨y, hy⟩ : ∃ y, y = ly.getD (nx - 1 - k) 0 := ⟨_, rfl⟩
        obtain ⟨bx, ox, hax, hcx⟩ := Hx.out.cells (nx - 1 - k) x (by rw [hx, List.getD, List.getElem?_eq_getElem (by rw [HLx.out]; omega)]; simp)
        obtain ⟨by_, oy, hay, hcy⟩ := Hy.out.cells (nx - 1 - k) y (by rw [hy, List.getD, List.getElem?_eq_getElem (by rw [HLy.out]; omega)]; simp)
        have HX := Lib.hid hx
        have HY := Lib.hid hy
        clear hx hy
        subst hax
        subst hay
        obtain ⟨m, hm, hmn, HMe⟩ : ∃ m : Nat, (nx : Int) - 1 - k = m ∧ m < nx ∧ Hid (nx - 1 - k = m) := ⟨nx - 1 - k, by omega, by omega, rfl⟩
        rw [HMe.out] at hcx hcy
        by_cases hxy : x = y
        · subst hxy
          have hxx : (x != x) = false := by simp
          go_wp2_with fail
          go_quiet (fail)
          go_wp2
          go_roundw
          case rel =>
            refine ⟨k + 1, by omega, by go_num, ⟨_, rfl⟩, ?_⟩
            rw [drop_cons (l := lx) (k := nx - (k + 1)) (by rw [HLx.out]; omega), drop_cons (l := ly) (k := nx - (k + 1)) (by rw [HLy.out]; omega), show nx - (k + 1) + 1 = nx - k by omega, HD.out, show nx - (k + 1) = nx - 1 - k by omega, ← HX.out, ← HY.out]
          case measure => simp [intOf]; omega
        · have hxx : (x != y) = true := by simp [hxy]
          have hs : sgn x y = sgn a b := by
            rw [← E1.out, ← E2.out, HX.out, HY.out]
            refine sgn_top Hx.out.wf Hy.out.wf (by rw [HLx.out]; omega) (by rw [HLy.out]; omega) ?_ (by rw [← HX.out, ← HY.out]; exact hxy)
            rw [show nx - 1 - k + 1 = nx - k by omega]; exact HD.out
          have HS := Lib.hid hs
          clear hs hxy
          go_wp2_with fail
          go_quiet (fail)
          go_wp2_with fail
          go_region_held3 (fun w' => w'.cell? ⟨bx, ox + m, none⟩ = some (.int .u32 x) ∧ w'.cell? ⟨by_, oy + m, none⟩ = some (.int .u32 y)) (first | exact ⟨hcx, hcy⟩)
            (first | (go_at_call 87; (with_reducible refine (compare_u32 x y _).mono ?_); rintro e w' ⟨rfl, rfl⟩))
          go_wp2
          go_ret
          rw [HS.out]
          exact ⟨rfl, ⟨_, rfl⟩⟩
      · obtain rfl : k = nx := by omega
        have he : sgn a b = 0 := by
          rw [Nat.sub_self, List.drop_zero, List.drop_zero] at HD
          rw [← E1.out, ← E2.out, HD.out, sgn_eq]
        have HE := Lib.hid he
        clear he
        go_wp2
        go_ret
        rw [HE.out]
        exact ⟨rfl, ⟨_, rfl⟩⟩
  · have hn : ((nx : Int) != ny) = true := by simp; omega
    have hs : sgn (nx : Int) (ny : Int) = sgn a b := by
      have := sgn_len ha hb (by rw [hx.hlen, hy.hlen]; exact hne)
      rwa [hx.hlen, hy.hlen] at this
    have HS := Lib.hid hs
    clear hs hx hy hne
    go_enter Tryz.func53, Tryz.ntmps53
    go_wp2_with (go_at_call 52; (with_reducible refine (compare_int _ _ _).mono ?_); rintro e w' ⟨rfl, rfl⟩)
    go_ret
    rw [← HS.out]
    exact ⟨rfl, Dr.refl _⟩
end Go.Proofs.YtddcgojpgdhefaaGreatDoor
