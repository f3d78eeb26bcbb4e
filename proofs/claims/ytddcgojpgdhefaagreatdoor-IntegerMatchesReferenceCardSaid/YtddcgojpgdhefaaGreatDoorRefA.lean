/- Merged texts: Ref1, Ref2, Ref3, Ref4, Blen, Int9. -/
import Derived.Test.YtddcgojpgdhefaaGreatDoorIntA
import Derived.Test.YtddcgojpgdhefaaGreatDoorShelfBits
import Derived.Test.YtddcgojpgdhefaaGreatDoorNatA
/- The reference: trim, words, made, Of, Valid. -/
namespace Go.El
theorem Words.takeCap {w : World} {a : Option Addr} {len cap : Nat} {l : List Int} (h : Words w a len cap l) {n : Nat} (hn : n ≤ len) : Words w a n cap (l.take n) :=
  ⟨by rw [List.length_take, h.hlen, Nat.min_eq_left hn], Nat.le_trans hn h.le, h.max, h.nil, h.wf.take n, fun i z hz => by
    rw [List.getElem?_take] at hz
    split at hz
    · exact h.cells i z hz
    · cases hz⟩
end Go.El
namespace Go.Proofs.YtddcgojpgdhefaaGreatDoor
open Go.RowKit Go.El
set_option linter.unusedVariables false
theorem trim_any (a : Option Addr) (len cap : Nat) (l : List Int) (w : World) (h : Words w a len cap l) :
    Calls Tryz.prog 85 #[.slice a len cap] w fun e w' => (∃ n : Nat, e = .returned (.slice a n cap) ∧ n ≤ len ∧ Words w a n cap (digs (val l))) ∧ w = w' := by
  have hm := h.max
  have hle := h.le
  have hlen := h.hlen
  have Hw := Lib.hid h
  clear h hlen
  go_enter Tryz.func85, Tryz.ntmps85
  go_wp2
  go_loop [3] (fun v => ∃ n : Nat, n ≤ len ∧ v = .int .i64 n ∧ (∀ i, n ≤ i → l.getD i 0 = 0)) (fun v => (intOf v).toNat)
  case atStart => exact ⟨len, Nat.le_refl _, rfl, fun i hi => getD_ge (by rw [Hw.out.hlen]; exact hi)⟩
  case round =>
    obtain ⟨n, hn, rfl, hz⟩ := hrel
    have Hz := Lib.hid hz
    clear hz
    have fin : (n = 0 ∨ l.getD (n - 1) 0 ≠ 0) → Words w a n cap (digs (val l)) := fun ht => by
      rw [← take_digs Hw.out.wf (by rw [Hw.out.hlen]; exact hn) Hz.out ht]
      exact Hw.out.takeCap hn
    have Fin := Lib.hid fin
    clear fin
    rcases Nat.eq_zero_or_pos n with rfl | hp
    · go_wp2
      go_ret
      exact ⟨⟨0, rfl, hn, Fin.out (by simp)⟩, rfl⟩
    · obtain ⟨m, rfl⟩ : ∃ m, n = m + 1 := ⟨n - 1, by omega⟩
      obtain ⟨b, off, hab, hc⟩ := Hw.out.cells m (l.getD m 0) (by rw [List.getD, List.getElem?_eq_getElem (by rw [Hw.out.hlen]; omega)]; simp)
      have hbd := Hw.out.wf.getD m
      by_cases hz0 : l.getD m 0 = 0
      · rw [hz0] at hc
        have Hz0 := Lib.hid hz0
        clear hz0 hbd
        subst hab
        go_wp2
        go_round
        case rel => exact ⟨m, by omega, by go_num, fun i hi => by
          rcases Nat.eq_or_lt_of_le hi with rfl | h
          · exact Hz0.out
          · exact Hz.out i h⟩
        case measure => simp [intOf]
      · have Hn := Lib.hid (Fin.out (Or.inr hz0))
        generalize l.getD m 0 = z at *
        have hne : (z == 0) = false := by simp [hz0]
        clear hz0
        subst hab
        go_wp2
        go_ret
        exact ⟨⟨m + 1, by rfl, hn, Hn.out⟩, rfl⟩

theorem words_any (n : Int) (w : World) (h0 : 0 ≤ n) (h1 : n < 18446744073709551616) :
    Calls Tryz.prog 71 #[.int .u64 n] w fun e w' => (∃ a k c, e = .returned (.slice a k c) ∧ Words w' a k c (digs n) ∧ k ≤ 2) ∧ Ext w w' := by
  go_enter Tryz.func71, Tryz.ntmps71
  go_wp2_with fail
  refine (trim_any (some ⟨w.heap.size, 0, none⟩) 2 2 [n % 4294967296, n / 4294967296] _ (Words.of_blk (l := [n % 4294967296, n / 4294967296]) (Blk.new w _ _) ?_ (show 2 ≤ 9223372036854775807 by omega))).mono ?_
  · intro x hx
    simp at hx
    omega
  rintro e w1 ⟨⟨k, rfl, hk, hw⟩, rfl⟩
  rw [val_two] at hw
  go_wp2_with fail
  go_ret
  exact ⟨⟨_, _, _, rfl, hw, hk⟩, (Ext.refl w).alloc _⟩
set_option maxRecDepth 100000 in
theorem made_any (a : Option Addr) (n c : Nat) (l : List Int) (neg : Bool) (z : Int) (w : World) (h : Words w a n c l) (hz : z = if neg then - val l else val l) :
    Calls Tryz.prog 51 #[.bool neg, .slice a n c] w fun e w' => (∃ v, e = .returned v ∧ IntV w' v z) ∧ Ext w w' := by
  obtain ⟨B, w0, hB, hw0, hb0, he0⟩ := one w 24 [.bool false, .slice none 0 0]
  have HW := Lib.hid h
  have HZ := Lib.hid hz
  clear h hz
  go_enter Tryz.func51, Tryz.ntmps51
  go_wp2_with fail
  rw [← hw0, ← hB]
  have HB := Lib.hid hB
  clear hw0 hB
  refine (trim_any a n c l _ (HW.out.ext he0)).mono ?_
  rintro e w1 ⟨⟨k, rfl, hk, hw⟩, rfl⟩
  have Hw := Lib.hid hw
  clear hw hk
  have ec0 := hb0.cell (i := 0) rfl
  have ec1 := hb0.cell (i := 1) rfl
  have ef0 := hb0.free 0
  have ef1 := hb0.free 1
  have fin : ∀ s : Bool, s = (neg && decide (0 < k)) → IntW w0 s a k c z := by
    intro s hs
    have hpos : k = 0 ↔ val l = 0 := by
      rw [← Hw.out.hlen]
      have h0 := val_nonneg HW.out.wf
      constructor
      · intro h; exact (digs_nil h0).1 (List.eq_nil_of_length_eq_zero h)
      · intro h; rw [h, digs_zero]; rfl
    have h0 := val_nonneg HW.out.wf
    have hab : (z.natAbs : Int) = val l := by rw [HZ.out]; cases neg <;> simp <;> omega
    refine ⟨?_, by rw [hab]; exact Hw.out⟩
    rw [hs, HZ.out]
    cases neg
    · simp; exact h0
    · simp; omega
  have Fin := Lib.hid fin
  clear fin
  cases neg with
  | false =>
    go_wp2_with fail
    refine bodyPost_ret (results_c rfl rfl (load_int (hb0.set2 _ _))) rfl ?_
    have fi := Fin.out _ rfl
    exact ⟨⟨_, rfl, _, _, _, _, rfl, fi.1, fi.2.keep2 hb0 (by simp) (by simp) _ _⟩, (he0.store' HB (by omega) 0 _).store' HB (by omega) 1 _⟩
  | true =>
    cases k with
    | zero =>
      go_wp2_with fail
      refine bodyPost_ret (results_c rfl rfl (load_int (hb0.set2 _ _))) rfl ?_
      have fi := Fin.out _ rfl
      exact ⟨⟨_, rfl, _, _, _, _, rfl, fi.1, fi.2.keep2 hb0 (by simp) (by simp) _ _⟩, (he0.store' HB (by omega) 0 _).store' HB (by omega) 1 _⟩
    | succ k =>
      go_wp2_with fail
      refine bodyPost_ret (results_c rfl rfl (load_int (hb0.set2 _ _))) rfl ?_
      have fi := Fin.out _ rfl
      exact ⟨⟨_, rfl, _, _, _, _, rfl, fi.1, fi.2.keep2 hb0 (by simp) (by simp) _ _⟩, (he0.store' HB (by omega) 0 _).store' HB (by omega) 1 _⟩
set_option maxRecDepth 100000 in
/-- ref.Of, less than 0 -/
theorem rof_neg (n : Int) (w : World) (h0 : n < 0) (h1 : -9223372036854775808 ≤ n) :
    Calls Tryz.prog 58 #[.int .i64 n] w fun e w' => (∃ v, e = .returned v ∧ IntV w' v n) ∧ Ext w w' := by
  obtain ⟨B, w0, hB, hw0, hb0, he0⟩ := one w 24 [.bool false, .slice none 0 0]
  go_enter Tryz.func58, Tryz.ntmps58
  go_wp2_with fail
  rw [← hw0, ← hB]
  have HB := Lib.hid hB
  clear hw0 hB
  go_wp2_with fail
  refine (words_any (-(n + 1) + 1) _ (by omega) (by omega)).mono ?_
  rintro e w1 ⟨⟨a, k, c, rfl, hw, hk⟩, he1⟩
  have HW := Lib.hid hw
  clear hw
  go_wp2_with fail
  refine (made_any _ _ _ _ _ n _ HW.out (by rw [val_digs (by omega), if_pos rfl]; try omega)).mono ?_
  rintro e w2 ⟨⟨v, rfl, hv⟩, he2⟩
  obtain ⟨sr, ar, nr, cr, rfl, hr⟩ := hv
  have hb2' := (hb0.ext he1).ext he2
  have e0 := hb2'.cell (i := 0) rfl
  have e1 := hb2'.cell (i := 1) rfl
  have f0 := hb2'.free 0
  have f1 := hb2'.free 1
  go_wp2_with fail
  refine bodyPost_ret (results_c rfl rfl (load_int (hb2'.set2 _ _))) rfl ?_
  exact ⟨⟨_, rfl, _, _, _, _, rfl, hr.1, hr.2.keep2 hb2' (by simp) (by simp) _ _⟩, (Ext.store' ((he0.trans he1).trans he2) HB (by omega) 0 _).store' HB (by omega) 1 _⟩
set_option maxRecDepth 100000 in
/-- ref.Of, not less than 0 -/
theorem rof_nonneg (n : Int) (w : World) (h0 : 0 ≤ n) (h1 : n < 9223372036854775808) :
    Calls Tryz.prog 58 #[.int .i64 n] w fun e w' => (∃ v, e = .returned v ∧ IntV w' v n) ∧ Ext w w' := by
  obtain ⟨B, w0, hB, hw0, hb0, he0⟩ := one w 24 [.bool false, .slice none 0 0]
  have hwr : IntKind.u64.wrap n = n := by
    simp only [IntKind.wrap_u64]; omega
  go_enter Tryz.func58, Tryz.ntmps58
  go_wp2_with fail
  rw [← hw0, ← hB]
  have HB := Lib.hid hB
  clear hw0 hB
  go_wp2_with fail
  refine (words_any n _ (by omega) (by omega)).mono ?_
  rintro e w1 ⟨⟨a, k, c, rfl, hw, hk⟩, he1⟩
  have HW := Lib.hid hw
  clear hw
  go_wp2_with fail
  refine (made_any _ _ _ _ _ n _ HW.out (by rw [val_digs (by omega), if_neg (by simp)]; try omega)).mono ?_
  rintro e w2 ⟨⟨v, rfl, hv⟩, he2⟩
  obtain ⟨sr, ar, nr, cr, rfl, hr⟩ := hv
  have hb2' := (hb0.ext he1).ext he2
  have e0 := hb2'.cell (i := 0) rfl
  have e1 := hb2'.cell (i := 1) rfl
  have f0 := hb2'.free 0
  have f1 := hb2'.free 1
  go_wp2_with fail
  refine bodyPost_ret (results_c rfl rfl (load_int (hb2'.set2 _ _))) rfl ?_
  exact ⟨⟨_, rfl, _, _, _, _, rfl, hr.1, hr.2.keep2 hb2' (by simp) (by simp) _ _⟩, (Ext.store' ((he0.trans he1).trans he2) HB (by omega) 0 _).store' HB (by omega) 1 _⟩
theorem rof_any (n : Int) (w : World) (h0 : -9223372036854775808 ≤ n) (h1 : n < 9223372036854775808) :
    Calls Tryz.prog 58 #[.int .i64 n] w fun e w' => (∃ v, e = .returned v ∧ IntV w' v n) ∧ Ext w w' := by
  by_cases h : n < 0
  · exact rof_neg n w h h0
  · exact rof_nonneg n w (by omega) h1
/-- law.of -/
theorem lof_any (n : Int) (w : World) (h0 : -9223372036854775808 ≤ n) (h1 : n < 9223372036854775808) :
    Calls Tryz.prog 23 #[.int .i64 n] w fun e w' => (∃ v, e = .returned v ∧ IntV w' v n) ∧ Ext w w' := by
  obtain ⟨B, w0, hB, hw0, hb0, he0⟩ := one w 24 [.bool false, .slice none 0 0]
  go_enter Tryz.func23, Tryz.ntmps23
  go_wp2_with fail
  rw [← hw0, ← hB]
  have HB := Lib.hid hB
  clear hw0 hB
  go_wp2_with fail
  refine (rof_any n _ (by omega) (by omega)).mono ?_
  rintro e w2 ⟨⟨v, rfl, hv⟩, he2⟩
  obtain ⟨sr, ar, nr, cr, rfl, hr⟩ := hv
  have hb2' := (hb0.ext he2)
  have e0 := hb2'.cell (i := 0) rfl
  have e1 := hb2'.cell (i := 1) rfl
  have f0 := hb2'.free 0
  have f1 := hb2'.free 1
  go_wp2_with fail
  refine bodyPost_ret (results_c rfl rfl (load_int (hb2'.set2 _ _))) rfl ?_
  exact ⟨⟨_, rfl, _, _, _, _, rfl, hr.1, hr.2.keep2 hb2' (by simp) (by simp) _ _⟩, (Ext.store' (he0.trans he2) HB (by omega) 0 _).store' HB (by omega) 1 _⟩
end Go.Proofs.YtddcgojpgdhefaaGreatDoor
/- The reference: Same, Valid. -/
namespace Go.El
theorem take_step {l : List Int} {k : Nat} (h : k < l.length) : l.take (k + 1) = l.take k ++ [l.getD k 0] := by
  rw [List.take_add_one, List.getElem?_eq_getElem h, List.getD, List.getElem?_eq_getElem h]; rfl
theorem abs_sign_inj {a b : Int} (h : (a.natAbs : Int) = b.natAbs) (hs : decide (a < 0) = decide (b < 0)) : a = b := by
  have h5 : (a < 0) ↔ (b < 0) := by
    constructor
    · intro h; exact of_decide_eq_true (by rw [← hs]; exact decide_eq_true h)
    · intro h; exact of_decide_eq_true (by rw [hs]; exact decide_eq_true h)
  by_cases ha : a < 0
  · have := h5.1 ha; omega
  · have : ¬ b < 0 := fun h => ha (h5.2 h)
    omega
end Go.El
namespace Go.Proofs.YtddcgojpgdhefaaGreatDoor
open Go.RowKit Go.El
set_option linter.unusedVariables false
set_option maxRecDepth 100000 in
/-- ref.Same, another sign -/
theorem same_sign (x y : Value) (a b : Int) (w : World) (hx : IntV w x a) (hy : IntV w y b) (hs : decide (a < 0) ≠ decide (b < 0)) :
    Calls Tryz.prog 21 #[x, y] w fun e w' => e = .returned (.bool false) ∧ Ext w w' := by
  obtain ⟨na, ax, nx, cx, rfl, hna, hwx⟩ := hx
  obtain ⟨nb, ay, ny, cy, rfl, hnb, hwy⟩ := hy
  have hnn : (na == nb) = false := beq_eq_false_iff_ne.2 (by rw [hna, hnb]; exact hs)
  clear hwx hwy hna hnb hs
  go_enter Tryz.func21, Tryz.ntmps21
  go_wp2_with fail
  go_ret
  exact ⟨rfl, ((Ext.refl w).alloc _).alloc _⟩
set_option maxRecDepth 100000 in
/-- ref.Same, another length -/
theorem same_len (x y : Value) (a b : Int) (w : World) (hx : IntV w x a) (hy : IntV w y b) (hs : decide (a < 0) = decide (b < 0)) (hl : (digs a.natAbs).length ≠ (digs b.natAbs).length) :
    Calls Tryz.prog 21 #[x, y] w fun e w' => e = .returned (.bool false) ∧ Ext w w' := by
  obtain ⟨na, ax, nx, cx, rfl, hna, hwx⟩ := hx
  obtain ⟨nb, ay, ny, cy, rfl, hnb, hwy⟩ := hy
  obtain rfl : na = nb := by rw [hna, hnb]; exact hs
  have hnn : ((nx : Int) != ny) = true := by rw [← hwx.hlen, ← hwy.hlen]; simp; omega
  clear hwx hwy hna hnb hs hl
  go_enter Tryz.func21, Tryz.ntmps21
  go_wp2_with fail
  go_ret
  exact ⟨rfl, ((Ext.refl w).alloc _).alloc _⟩
set_option maxRecDepth 100000 in
/-- ref.Same, the loop -/
theorem same_loop (x y : Value) (a b : Int) (w : World) (hx : IntV w x a) (hy : IntV w y b) (hs : decide (a < 0) = decide (b < 0)) (hl : (digs a.natAbs).length = (digs b.natAbs).length) :
    Calls Tryz.prog 21 #[x, y] w fun e w' => e = .returned (.bool (decide (a = b))) ∧ Ext w w' := by
  obtain ⟨na, ax, nx, cx, rfl, hna, hwx⟩ := hx
  obtain ⟨nb, ay, ny, cy, rfl, hnb, hwy⟩ := hy
  obtain rfl : na = nb := by rw [hna, hnb]; exact hs
  obtain rfl : nx = ny := by rw [← hwx.hlen, ← hwy.hlen]; exact hl
  have hmx := hwx.max
  have hmy := hwy.max
  have hlx := hwx.le
  have hly := hwy.le
  have hn : ((nx : Int) != nx) = false := by simp
  obtain ⟨lx, hlx⟩ : ∃ lx, lx = digs a.natAbs := ⟨_, rfl⟩
  obtain ⟨ly, hly⟩ : ∃ ly, ly = digs b.natAbs := ⟨_, rfl⟩
  have HR : Hid (lx = ly → decide (a = b) = true) := by
    intro h
    rw [hlx, hly] at h
    exact decide_eq_true (abs_sign_inj (digs_inj (by omega) (by omega) h) hs)
  have HF : Hid (lx ≠ ly → decide (a = b) = false) := by
    intro h
    refine decide_eq_false fun e => h ?_
    rw [hlx, hly, e]
  rw [← hlx] at hwx
  rw [← hly] at hwy
  have Hx := Lib.hid hwx
  have Hy := Lib.hid hwy
  have HLx := Lib.hid hwx.hlen
  have HLy := Lib.hid hwy.hlen
  clear hwx hwy hna hnb hs hl hlx hly
  obtain ⟨B, w0, hB, hw0, hb0, hb1, he0⟩ := two w 24 24 [.bool na, .slice ax nx cx] [.bool na, .slice ay nx cy]
  go_enter Tryz.func21, Tryz.ntmps21
  go_wp2_with fail
  rw [← hw0, ← hB]
  have c1 := hb0.cell (i := 1) rfl
  have d1 := hb1.cell (i := 1) rfl
  clear hw0 hB hb0 hb1
  have Hx0 := Lib.hid (Hx.out.ext he0)
  have Hy0 := Lib.hid (Hy.out.ext he0)
  go_loopw [5] (fun i wr => ∃ k : Nat, k ≤ nx ∧ i = .int .i64 k ∧ Dr w0 wr ∧ lx.take k = ly.take k) (fun i _ => nx - (intOf i).toNat)
  case atStart => exact ⟨0, Nat.zero_le _, rfl, Dr.refl w0, by simp⟩
  case round =>
    obtain ⟨k, hk, rfl, hdr, htake⟩ := hrel
    obtain ⟨q, rfl⟩ := hdr
    have HT := Lib.hid htake
    clear htake
    by_cases hkn : k < nx
    · obtain ⟨x, hx⟩ : ∃ x, x = lx.getD k 0 := ⟨_, rfl⟩
      obtain ⟨y, hy⟩ : ∃ y, y = ly.getD k 0 := ⟨_, rfl⟩
      obtain ⟨bx, ox, hax, hcx⟩ := Hx0.out.cells k x (by rw [hx, List.getD, List.getElem?_eq_getElem (by rw [HLx.out]; omega)]; simp)
      obtain ⟨by_, oy, hay, hcy⟩ := Hy0.out.cells k y (by rw [hy, List.getD, List.getElem?_eq_getElem (by rw [HLy.out]; omega)]; simp)
      have HX := Lib.hid hx
      have HY := Lib.hid hy
      clear hx hy
      subst hax
      subst hay
      by_cases hxy : x = y
      · have hxx : (x != y) = false := by simp [hxy]
        have HXY := Lib.hid hxy
        clear hxy
        go_wp2_with fail
        go_quiet (fail)
        go_wp2
        go_roundw
        case rel => exact ⟨k + 1, by omega, by go_num, ⟨_, rfl⟩, by rw [take_step (by rw [HLx.out]; exact hkn), take_step (by rw [HLy.out]; exact hkn), HT.out, ← HX.out, ← HY.out, HXY.out]⟩
        case measure => simp [intOf]; omega
      · have hxx : (x != y) = true := by simp [hxy]
        have HN : Hid (decide (a = b) = false) := HF.out (fun h => hxy (by rw [HX.out, HY.out, h]))
        clear hxy
        go_wp2_with fail
        go_quiet (fail)
        go_wp2
        go_ret
        rw [HN.out]
        exact ⟨rfl, (he0.drewN _).drewN _⟩
    · obtain rfl : k = nx := by omega
      have HN : Hid (decide (a = b) = true) := HR.out (by
        have := HT.out
        rwa [List.take_of_length_le (by rw [HLx.out]; omega), List.take_of_length_le (by rw [HLy.out]; omega)] at this)
      go_wp2
      go_ret
      rw [HN.out]
      exact ⟨rfl, he0.drewN _⟩
theorem same_any (x y : Value) (a b : Int) (w : World) (hx : IntV w x a) (hy : IntV w y b) :
    Calls Tryz.prog 21 #[x, y] w fun e w' => e = .returned (.bool (decide (a = b))) ∧ Ext w w' := by
  by_cases hs : decide (a < 0) = decide (b < 0)
  · by_cases hl : (digs a.natAbs).length = (digs b.natAbs).length
    · exact same_loop x y a b w hx hy hs hl
    · rw [show decide (a = b) = false from decide_eq_false fun e => hl (by rw [e])]
      exact same_len x y a b w hx hy hs hl
  · rw [show decide (a = b) = false from decide_eq_false fun e => hs (by rw [e])]
    exact same_sign x y a b w hx hy hs
end Go.Proofs.YtddcgojpgdhefaaGreatDoor
/- Valid, both. -/
namespace Go.El
def validB (na : Bool) (l : List Int) : Bool := if l = [] then !na else (l.getD (l.length - 1) 0 != 0)
theorem validB_nil (na : Bool) : validB na [] = !na := rfl
theorem validB_cons {na : Bool} {l : List Int} (h : 0 < l.length) : validB na l = (l.getD (l.length - 1) 0 != 0) := by
  unfold validB
  rw [if_neg (fun e => by rw [e] at h; simp at h)]
theorem digs_top {z : Int} (hz : 0 < z) : (digs z).getD ((digs z).length - 1) 0 ≠ 0 := by
  have h2 := digs_last (show 0 ≤ z by omega)
  have h1 := digs_pos_len hz
  rw [List.getLast?_eq_getElem?, List.getElem?_eq_getElem (by omega)] at h2
  rw [List.getD, List.getElem?_eq_getElem (by omega)]
  exact fun e => h2 (by simpa using e)
theorem validB_digs (a : Int) : validB (decide (a < 0)) (digs a.natAbs) = true := by
  by_cases h : a = 0
  · subst h; rw [Int.natAbs_zero, Int.ofNat_zero, digs_zero]; rfl
  · have h1 := digs_pos_len (show 0 < (a.natAbs : Int) by omega)
    rw [validB_cons h1]
    have h2 := digs_top (show 0 < (a.natAbs : Int) by omega)
    exact bne_iff_ne.2 h2
end Go.El
namespace Go.Proofs.YtddcgojpgdhefaaGreatDoor
open Go.RowKit Go.El
set_option linter.unusedVariables false
set_option maxRecDepth 100000 in
theorem valid_raw (na : Bool) (ax : Option Addr) (nx cx : Nat) (l : List Int) (w : World) (hw : Words w ax nx cx l) :
    Calls Tryz.prog 15 #[.agg #[.bool na, .slice ax nx cx]] w fun e w' => e = .returned (.bool (validB na l)) ∧ Ext w w' := by
  have hm := hw.max
  have hle := hw.le
  rcases Nat.eq_zero_or_pos nx with rfl | hp
  · have hl : l = [] := List.eq_nil_of_length_eq_zero hw.hlen
    subst hl
    rw [validB_nil]
    clear hw
    go_enter Tryz.func15, Tryz.ntmps15
    go_wp2_with fail
    go_ret
    exact ⟨rfl, (Ext.refl w).alloc _⟩
  · obtain ⟨m, rfl⟩ : ∃ m, nx = m + 1 := ⟨nx - 1, by omega⟩
    obtain ⟨z, hz⟩ : ∃ z, z = l.getD m 0 := ⟨_, rfl⟩
    obtain ⟨b, off, hab, hc⟩ := hw.cells m z (by rw [hz, List.getD, List.getElem?_eq_getElem (by rw [hw.hlen]; omega)]; simp)
    rw [show validB na l = (z != 0) by rw [validB_cons (by rw [hw.hlen]; omega), hw.hlen, Nat.add_sub_cancel, ← hz]]
    clear hw hz hp
    obtain ⟨B, w0, hB, hw0, hb0, he0⟩ := one w 24 [.bool na, .slice ax (m + 1) cx]
    have hc0 := he0.cell hc
    subst hab
    rw [hw0] at hc0
    go_enter Tryz.func15, Tryz.ntmps15
    go_wp2_with fail
    go_ret
    exact ⟨rfl, (Ext.refl w).alloc _⟩
theorem valid_any (x : Value) (a : Int) (w : World) (hx : IntV w x a) :
    Calls Tryz.prog 15 #[x] w fun e w' => e = .returned (.bool true) ∧ Ext w w' := by
  obtain ⟨na, ax, nx, cx, rfl, hna, hwx⟩ := hx
  rw [← validB_digs a, ← hna]
  exact valid_raw na ax nx cx _ w hwx
set_option maxRecDepth 100000 in
theorem rvalid_raw (na : Bool) (ax : Option Addr) (nx cx : Nat) (l : List Int) (w : World) (hw : Words w ax nx cx l) :
    Calls Tryz.prog 20 #[.agg #[.bool na, .slice ax nx cx]] w fun e w' => e = .returned (.bool (validB na l)) ∧ Ext w w' := by
  have hm := hw.max
  have hle := hw.le
  rcases Nat.eq_zero_or_pos nx with rfl | hp
  · have hl : l = [] := List.eq_nil_of_length_eq_zero hw.hlen
    subst hl
    rw [validB_nil]
    clear hw
    go_enter Tryz.func20, Tryz.ntmps20
    go_wp2_with fail
    go_ret
    exact ⟨rfl, (Ext.refl w).alloc _⟩
  · obtain ⟨m, rfl⟩ : ∃ m, nx = m + 1 := ⟨nx - 1, by omega⟩
    obtain ⟨z, hz⟩ : ∃ z, z = l.getD m 0 := ⟨_, rfl⟩
    obtain ⟨b, off, hab, hc⟩ := hw.cells m z (by rw [hz, List.getD, List.getElem?_eq_getElem (by rw [hw.hlen]; omega)]; simp)
    rw [show validB na l = (z != 0) by rw [validB_cons (by rw [hw.hlen]; omega), hw.hlen, Nat.add_sub_cancel, ← hz]]
    clear hw hz hp
    obtain ⟨B, w0, hB, hw0, hb0, he0⟩ := one w 24 [.bool na, .slice ax (m + 1) cx]
    have hc0 := he0.cell hc
    subst hab
    rw [hw0] at hc0
    go_enter Tryz.func20, Tryz.ntmps20
    go_wp2_with fail
    go_ret
    exact ⟨rfl, (Ext.refl w).alloc _⟩
theorem rvalid_any (x : Value) (a : Int) (w : World) (hx : IntV w x a) :
    Calls Tryz.prog 20 #[x] w fun e w' => e = .returned (.bool true) ∧ Ext w w' := by
  obtain ⟨na, ax, nx, cx, rfl, hna, hwx⟩ := hx
  rw [← validB_digs a, ← hna]
  exact rvalid_raw na ax nx cx _ w hwx
end Go.Proofs.YtddcgojpgdhefaaGreatDoor
/- The reference: Made. -/
namespace Go.Proofs.YtddcgojpgdhefaaGreatDoor
open Go.RowKit Go.El
set_option linter.unusedVariables false
theorem made_own (w : World) (base : Nat) (h : base ≤ w.heap.size) : (w.alloc (.cells #[] 27)).ownsRow base 27 1 (.slice (some ⟨w.heap.size, 0, none⟩) 0 0) 0 (u32s []) :=
  World.ownsRow_made w #[] 0 h (by decide) (by decide)
theorem one_new (w : World) (x : Value) (E : TypeId) : ∀ (j : Nat) (u : Value), [x][j]? = some u → (w.alloc (.cells #[x] E)).cell? ((⟨w.heap.size, 0, none⟩ : Addr).add j) = some u := by
  intro j u hj
  match j, hj with
  | 0, hj =>
    simp at hj
    subst hj
    simp [Addr.add]
theorem two_size (w : World) (a b : Obj) : ((w.alloc a).alloc b).heap.size = w.heap.size + 1 + 1 := by simp
theorem u32s_snoc (l : List Int) (x : Int) : u32s l ++ [Value.int .u32 x] = u32s (l ++ [x]) := by simp [u32s]
set_option maxRecDepth 100000 in
set_option maxHeartbeats 1000000 in
/-- ref.Made -/
theorem Made_any (neg : Bool) (ax : Option Addr) (nx cx : Nat) (l : List Int) (most : Nat) (z : Int) (w : World) (hw : Words w ax nx cx l) (hm : most ≤ 1000000) (hz : z = if neg then - val (l.take most) else val (l.take most)) :
    Calls Tryz.prog 14 #[.agg #[.bool neg, .slice ax nx cx], .int .i64 most] w fun e w' => (∃ v, e = .returned v ∧ IntV w' v z) ∧ Ext w w' := by
  obtain ⟨i0, hi, hz0, hz1, hz2⟩ := info_parts info_u32
  obtain ⟨B, w0, hB, hw0, hb0, hb1, he0⟩ := two w 25 24 [.bool neg, .slice ax nx cx] [.bool false, .slice none 0 0]
  have hmx := hw.max
  have hle := hw.le
  have HZ := Lib.hid hz
  have Hw := Lib.hid (hw.ext he0)
  have HSz : Hid (w0.heap.size = B + 1 + 1) := by rw [hw0, hB]; exact two_size _ _ _
  clear hz hw
  go_enter Tryz.func14, Tryz.ntmps14
  go_wp2
  rw [← hw0, ← hB]
  have c0 := hb0.cell (i := 0) rfl
  have c1 := hb0.cell (i := 1) rfl
  have HB := Lib.hid hB
  have HB1 := Lib.hid hb1
  clear hw0 hB hb0 hb1
  have fin : ∀ k, k ≤ nx → k ≤ most → (k = nx ∨ k = most) → l.take k = l.take most := by
    intro k h1 h2 h3
    rcases h3 with rfl | rfl
    · rw [List.take_of_length_le (by rw [Hw.out.hlen]; omega), List.take_of_length_le (by rw [Hw.out.hlen]; omega)]
    · rfl
  have Fin := Lib.hid fin
  clear fin
  go_loopw [5, 6] (fun v i wr => ∃ k : Nat, k ≤ nx ∧ k ≤ most ∧ i = .int .i64 k ∧ wr.ownsRow w0.heap.size 27 1 v k (u32s (l.take k)) ∧ Ext w0 wr) (fun _ i _ => nx - (intOf i).toNat)
  case atStart => exact ⟨0, Nat.zero_le _, Nat.zero_le _, rfl, by have := made_own w0 _ (Nat.le_refl _); rw [HSz.out] at this ⊢; exact this, (Ext.refl w0).alloc _⟩
  case round =>
    obtain ⟨k, hk, hk2, rfl, hown, he1⟩ := hrel
    have g0 := he1.cell c0
    have g1 := he1.cell c1
    by_cases hkn : k < nx
    · by_cases hkm : k < most
      · obtain ⟨x, hx⟩ : ∃ x, x = l.getD k 0 := ⟨_, rfl⟩
        obtain ⟨bx, ox, hax, hcx⟩ := Hw.out.cells k x (by rw [hx, List.getD, List.getElem?_eq_getElem (by rw [Hw.out.hlen]; omega)]; simp)
        have HX := Lib.hid hx
        have h1 := he1.cell hcx
        clear hx hcx
        subst hax
        go_wp2_with (at_builtin; refine wpList_append_own _ rfl _ _ 22 rfl w0.heap.size 27 i0 (.int .u32 0) 1 4 Tryz.underlying22 hi hz0 hz1 hz2 rfl (by decide) _ _ _ rfl (hown.alloc _) ⟨_, 0, none⟩ 1 1 [.int .u32 x] rfl rfl (one_new wr _ _) (by simp [Value.oneCell']) (by simp only [maxLen]; omega) (by omega) (by have := he1.size; rw [World.size_alloc']; omega) ?_; intro v' w1 hown' hgrow HH)
        have h5 : w1.ownsRow w0.heap.size 27 1 v' (k + 1) (u32s (l.take (k + 1))) := by
          rw [take_step (by rw [Hw.out.hlen]; exact hkn), ← HX.out, ← u32s_snoc]; exact hown'
        have he2 := (he1.alloc _).grown hgrow (fun k hk => (hown.lt k hk).1)
        have H5 := Lib.hid h5
        clear h5 hown' hgrow HH hown g0 g1 h1
        go_wp2
        go_roundw
        case rel => exact ⟨k + 1, by omega, by omega, by go_num, H5.out, he2⟩
        case measure => simp [intOf]; omega
      · have hE := Fin.out k hk hk2 (Or.inr (by omega))
        rw [hE] at hown
        obtain ⟨av, cv, rfl, hwv⟩ := Words.of_own hown (Hw.out.wf.take most)
        have HWv := Lib.hid hwv
        clear hwv hown hE
        go_wp2_with fail
        refine (made_any av k cv _ neg z _ HWv.out HZ.out).mono ?_
        rintro e w2 ⟨⟨v, rfl, hv⟩, he2⟩
        obtain ⟨sr, ar, nr, cr, rfl, hr⟩ := hv
        have hb2' := ((HB1.out.ext he1).ext he2)
        have e0 := hb2'.cell (i := 0) rfl
        have e1 := hb2'.cell (i := 1) rfl
        have f0 := hb2'.free 0
        have f1 := hb2'.free 1
        go_wp2_with fail
        refine bodyPost_ret (results_c rfl rfl (load_int (hb2'.set2 _ _))) rfl ?_
        exact ⟨⟨_, rfl, _, _, _, _, rfl, hr.1, hr.2.keep2 hb2' (by simp) (by simp) _ _⟩, (Ext.store' ((he0.trans he1).trans he2) HB (by omega) 0 _).store' HB (by omega) 1 _⟩
    · have hE := Fin.out k hk hk2 (Or.inl (by omega))
      rw [hE] at hown
      obtain ⟨av, cv, rfl, hwv⟩ := Words.of_own hown (Hw.out.wf.take most)
      have HWv := Lib.hid hwv
      clear hwv hown hE
      go_wp2_with fail
      refine (made_any av k cv _ neg z _ HWv.out HZ.out).mono ?_
      rintro e w2 ⟨⟨v, rfl, hv⟩, he2⟩
      obtain ⟨sr, ar, nr, cr, rfl, hr⟩ := hv
      have hb2' := ((HB1.out.ext he1).ext he2)
      have e0 := hb2'.cell (i := 0) rfl
      have e1 := hb2'.cell (i := 1) rfl
      have f0 := hb2'.free 0
      have f1 := hb2'.free 1
      go_wp2_with fail
      refine bodyPost_ret (results_c rfl rfl (load_int (hb2'.set2 _ _))) rfl ?_
      exact ⟨⟨_, rfl, _, _, _, _, rfl, hr.1, hr.2.keep2 hb2' (by simp) (by simp) _ _⟩, (Ext.store' ((he0.trans he1).trans he2) HB (by omega) 0 _).store' HB (by omega) 1 _⟩
end Go.Proofs.YtddcgojpgdhefaaGreatDoor
/- The number of bits. -/
namespace Go.El
/-- The number of bits of a number. -/
def blen (n : Nat) : Nat := if n = 0 then 0 else n.log2 + 1
theorem blen_zero : blen 0 = 0 := rfl
theorem blen_of {n m : Nat} (h1 : 2 ^ m ≤ n) (h2 : n < 2 ^ (m + 1)) : blen n = m + 1 := by
  have hn : n ≠ 0 := by have := Nat.two_pow_pos m; omega
  rw [blen, if_neg hn, (Nat.log2_eq_iff hn).2 ⟨h1, h2⟩]
theorem blen_pos {n : Nat} (h : n ≠ 0) : ∃ m, blen n = m + 1 ∧ 2 ^ m ≤ n ∧ n < 2 ^ (m + 1) := by
  refine ⟨n.log2, by rw [blen, if_neg h], ?_⟩
  exact (Nat.log2_eq_iff h).1 rfl
theorem blen_lt (n : Nat) : n < 2 ^ blen n := by
  by_cases h : n = 0
  · subst h; decide
  · obtain ⟨m, h1, _, h2⟩ := blen_pos h
    rw [h1]; exact h2
theorem blen_le {n k : Nat} (h : n < 2 ^ k) : blen n ≤ k := by
  by_cases h0 : n = 0
  · subst h0; exact Nat.zero_le _
  · obtain ⟨m, h1, h2, _⟩ := blen_pos h0
    rw [h1]
    exact (Nat.pow_lt_pow_iff_right (by omega)).1 (Nat.lt_of_le_of_lt h2 h)
theorem blen_half {n : Nat} (h : n ≠ 0) : blen n = blen (n / 2) + 1 := by
  obtain ⟨m, h1, h2, h3⟩ := blen_pos h
  rw [h1]
  cases m with
  | zero => have : n = 1 := by omega
            subst this; rfl
  | succ m =>
    rw [Nat.pow_succ] at h2
    rw [Nat.pow_succ] at h3
    rw [blen_of (n := n / 2) (m := m) (by omega) (by omega)]
theorem pw_pow (k : Nat) : pw k = ((2 ^ (32 * k) : Nat) : Int) := by
  induction k with
  | zero => rw [pw]; rfl
  | succ k ih => rw [pw, ih, Nat.mul_succ, Nat.pow_add, Int.natCast_mul, Int.mul_comm]; rfl
/-- The bits off the words. -/
theorem blen_words {z : Int} {n : Nat} {t : Int} (hz : 0 < z) (hn : (digs z).length = n + 1) (ht : t = (digs z).getD n 0) : blen z.toNat = 32 * n + Lib.bitLen t.toNat := by
  have hw := digs_wf (show 0 ≤ z by omega)
  have htb := hw.getD n
  rw [← ht] at htb
  have htop : t ≠ 0 := by
    have := digs_top hz
    rw [hn, Nat.add_sub_cancel, ← ht] at this
    exact this
  have h1 := Lib.bitLenAux_bounds 64 t.toNat (by omega) (by omega)
  obtain ⟨m, hm⟩ : ∃ m, Lib.bitLen t.toNat = m + 1 := ⟨Lib.bitLen t.toNat - 1, by have := h1.1; unfold Lib.bitLen; omega⟩
  have h1' : 2 ^ m ≤ t.toNat ∧ t.toNat < 2 ^ (m + 1) := by
    have h3 := h1.2.1
    have h4 := h1.2.2
    unfold Lib.bitLen at hm
    rw [hm] at h3 h4
    exact ⟨h3, h4⟩
  rw [hm]
  have h2 := val_top2 hw (m := n) (by omega)
  rw [val_digs (by omega), ← ht, pw_pow] at h2
  have e1 : t = ((t.toNat : Nat) : Int) := by omega
  have e2 : z = ((z.toNat : Nat) : Int) := by omega
  rw [e1, e2] at h2
  have h5 : t.toNat * 2 ^ (32 * n) ≤ z.toNat := by exact_mod_cast h2.1
  have h6 : z.toNat < (t.toNat + 1) * 2 ^ (32 * n) := by exact_mod_cast h2.2
  refine blen_of (m := 32 * n + m) ?_ ?_
  · rw [Nat.pow_add, Nat.mul_comm]
    exact Nat.le_trans (Nat.mul_le_mul_right _ h1'.1) h5
  · rw [show 32 * n + m + 1 = 32 * n + (m + 1) by omega, Nat.pow_add, Nat.mul_comm]
    exact Nat.lt_of_lt_of_le h6 (Nat.mul_le_mul_right _ h1'.2)
end Go.El
/- Integers: Bits, Small. -/
namespace Go.El
theorem val_small {l : List Int} (h : l.length ≤ 2) : val l = l.getD 1 0 * 4294967296 + l.getD 0 0 := by
  match l, h with
  | [], _ => rfl
  | [a], _ => simp [val]
  | [a, b], _ => simp [val]; omega
end Go.El
namespace Go.Proofs.YtddcgojpgdhefaaGreatDoor
open Go.RowKit Go.El
set_option linter.unusedVariables false
set_option maxRecDepth 100000 in
/-- integer.Bits -/
theorem bits_any (x : Value) (a : Int) (w : World) (hx : IntV w x a) (ha : Fits a 1073741824) :
    Calls Tryz.prog 33 #[x] w fun e w' => e = .returned (.int .i64 (blen a.natAbs)) ∧ Ext w w' := by
  obtain ⟨na, ax, nx, cx, rfl, hna, hwx⟩ := hx
  have hmx := hwx.max
  have hle := hwx.le
  have hnx := ha.len
  rw [hwx.hlen] at hnx
  rcases Nat.eq_zero_or_pos nx with rfl | hp
  · have h0 : a.natAbs = 0 := by
      have := (digs_nil (show 0 ≤ (a.natAbs : Int) by omega)).1 (List.eq_nil_of_length_eq_zero hwx.hlen)
      omega
    rw [h0, blen_zero]
    clear hwx hna h0 ha
    go_enter Tryz.func33, Tryz.ntmps33
    go_wp2_with fail
    go_ret
    exact ⟨rfl, (Ext.refl w).alloc _⟩
  · obtain ⟨m, rfl⟩ : ∃ m, nx = m + 1 := ⟨nx - 1, by omega⟩
    obtain ⟨t, ht⟩ : ∃ t, t = (digs a.natAbs).getD m 0 := ⟨_, rfl⟩
    obtain ⟨b, off, hab, hc⟩ := hwx.cells m t (by rw [ht, List.getD, List.getElem?_eq_getElem (by rw [hwx.hlen]; omega)]; simp)
    have hb := hwx.wf.getD m
    rw [← ht] at hb
    have hbl : blen a.natAbs = 32 * m + Lib.bitLen t.toNat := by
      have := blen_words (z := (a.natAbs : Int)) (n := m) (t := t) (by
        have h1 := hwx.hlen
        by_cases h0 : a = 0
        · subst h0; rw [Int.natAbs_zero, Int.ofNat_zero, digs_zero] at h1; simp at h1
        · omega) hwx.hlen ht
      rwa [Int.toNat_natCast] at this
    have hbb := Lib.bitLen_le t.toNat 32 (by omega) (by omega)
    have HBL := Lib.hid hbl
    obtain ⟨B, w0, hB, hw0, hb0, he0⟩ := one w 24 [.bool na, .slice ax (m + 1) cx]
    have hc0 := he0.cell hc
    clear hwx ht hp hbl hc ha hna
    subst hab
    rw [hw0] at hc0
    go_enter Tryz.func33, Tryz.ntmps33
    go_wp2_with fail
    refine (Tryz.bits_Len32 t _ (by omega) (by omega)).mono ?_
    rintro e w1 ⟨rfl, rfl⟩
    generalize Lib.bitLen t.toNat = q at *
    go_wp2_with fail
    go_ret
    rw [HBL.out, Int.natCast_add, Int.natCast_mul]
    exact ⟨rfl, (Ext.refl w).alloc _⟩
def smallOf (z : Int) : Value × Value := if -9223372036854775808 ≤ z ∧ z < 9223372036854775808 then (.int .i64 z, .bool true) else (.int .i64 0, .bool false)
set_option maxRecDepth 100000 in
/-- integer.Small -/
theorem small_any (x : Value) (a : Int) (w : World) (hx : IntV w x a) :
    Calls Tryz.prog 32 #[x] w fun e w' => e = .returned (.tuple #[(smallOf a).1, (smallOf a).2]) ∧ Ext w w' := by
  obtain ⟨na, ax, nx, cx, rfl, hna, hwx⟩ := hx
  have hmx := hwx.max
  have hle := hwx.le
  obtain ⟨p, hp⟩ : ∃ p, p = (digs a.natAbs).getD 1 0 := ⟨_, rfl⟩
  obtain ⟨q, hq⟩ : ∃ q, q = (digs a.natAbs).getD 0 0 := ⟨_, rfl⟩
  have hpb := hwx.wf.getD 1
  have hqb := hwx.wf.getD 0
  rw [← hp] at hpb
  rw [← hq] at hqb
  have ho := or_join p q hpb.1 hpb.2 hqb.1 hqb.2
  have hbig : ¬ nx ≤ 2 → smallOf a = (.int .i64 0, .bool false) := by
    intro h
    have h1 := digs_len_ge (show 0 ≤ (a.natAbs : Int) by omega) (k := 2)
    have h2 : pw 2 = 18446744073709551616 := by rw [pw_pow]; rfl
    have h3 : ¬ (a.natAbs : Int) < pw 2 := fun h3 => by
      have := digs_len_le (show 0 ≤ (a.natAbs : Int) by omega) h3
      rw [hwx.hlen] at this
      exact h this
    rw [smallOf, if_neg (by omega)]
  have hsm : nx ≤ 2 → (a.natAbs : Int) = p * 4294967296 + q := by
    intro h
    rw [hp, hq, ← val_small (by rw [hwx.hlen]; exact h), val_digs (by omega)]
  obtain ⟨B, w0, hB, hw0, hb0, he0⟩ := one w 24 [.bool na, .slice ax nx cx]
  have HBig := Lib.hid hbig
  have HSm := Lib.hid hsm
  have Hx := Lib.hid (hwx.ext he0)
  have HP := Lib.hid hp
  have HQ := Lib.hid hq
  have HNa := Lib.hid hna
  clear hbig hsm hwx hp hq hna
  go_enter Tryz.func32, Tryz.ntmps32
  go_wp2_with fail
  rw [← hw0, ← hB]
  have c0 := hb0.cell (i := 0) rfl
  clear hB hw0 hb0
  refine (at_nat _ _ _ _ 1 p _ Hx.out (by omega) HP.out).mono ?_
  rintro e w1 ⟨rfl, rfl⟩
  go_wp2_with fail
  refine (at_nat _ _ _ _ 0 q _ Hx.out (by omega) HQ.out).mono ?_
  rintro e w1 ⟨rfl, rfl⟩
  by_cases h2 : nx ≤ 2
  · obtain ⟨n, hn⟩ : ∃ n, n = p * 4294967296 + q := ⟨_, rfl⟩
    rw [← hn] at ho
    have hn1 : 0 ≤ n ∧ n < 18446744073709551616 := by omega
    have hab : (a.natAbs : Int) = n := by rw [hn]; exact HSm.out h2
    have HAb := Lib.hid hab
    have HN := Lib.hid hn
    clear hn hab
    have HNb : Hid (na = true → a < 0) := fun h => of_decide_eq_true (HNa.out ▸ h)
    have HNc : Hid (na = false → ¬ a < 0) := fun h => of_decide_eq_false (HNa.out ▸ h)
    cases na with
    | true =>
      by_cases h3 : n ≤ 9223372036854775808
      · have hr : Hid (smallOf a = (.int .i64 (-n), .bool true)) := by
          have := HAb.out; have := HNb.out rfl
          have e : a = -n := by omega
          show smallOf a = _
          rw [e, smallOf, if_pos (by omega)]
        have hwr : wrap64 (IntKind.u64.wrap (-n)) = -n := by simp only [wrap64, IntKind.wrap_u64]; omega
        go_wp2_with fail
        go_ret2
        rw [hr.out, hwr]
        exact ⟨rfl, he0⟩
      · have hr : Hid (smallOf a = (.int .i64 0, .bool false)) := by
          have := HAb.out; have := HNb.out rfl
          show smallOf a = _
          rw [smallOf, if_neg (by omega)]
        go_wp2_with fail
        go_ret2
        rw [hr.out]
        exact ⟨rfl, he0⟩
    | false =>
      by_cases h3 : n < 9223372036854775808
      · have hr : Hid (smallOf a = (.int .i64 n, .bool true)) := by
          have := HAb.out; have := HNc.out rfl
          have e : a = n := by omega
          show smallOf a = _
          rw [e, smallOf, if_pos (by omega)]
        have hwr : wrap64 n = n := by simp only [wrap64]; omega
        go_wp2_with fail
        go_ret2
        rw [hr.out]
        exact ⟨rfl, he0⟩
      · have hr : Hid (smallOf a = (.int .i64 0, .bool false)) := by
          have := HAb.out; have := HNc.out rfl
          show smallOf a = _
          rw [smallOf, if_neg (by omega)]
        go_wp2_with fail
        go_ret2
        rw [hr.out]
        exact ⟨rfl, he0⟩
  · have hr : Hid (smallOf a = (.int .i64 0, .bool false)) := HBig.out h2
    go_wp2_with fail
    go_ret2
    rw [hr.out]
    exact ⟨rfl, he0⟩
end Go.Proofs.YtddcgojpgdhefaaGreatDoor
