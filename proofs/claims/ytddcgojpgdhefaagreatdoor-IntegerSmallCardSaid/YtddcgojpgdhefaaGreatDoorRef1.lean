/- The reference: trim, words, made, Of, Valid. -/
import Derived.Test.YtddcgojpgdhefaaGreatDoorInt8
namespace Go.El
theorem Words.takeCap {w : World} {a : Option Addr} {len cap : Nat} {l : List Int} (h : Words w a len cap l) {n : Nat} (hn : n ≤ len) : Words w a n cap (l.take n) :=
  ⟨by rw [List.length_take, h.hlen, Nat.min_eq_left hn], Nat.le_trans hn h.le, h.max, h.nil, h.wf.take n, fun i z hz => by
    rw [List.getElem?_take] at hz
    split at hz
    · exact h.cells i z hz
    · cases hz⟩
end Go.El
namespace Go.Proofs.YtddcgojpgdhefaaGreatDoor
open Go.RowKit Go.El
set_option linter.unusedVariables false
theorem trim_any (a : Option Addr) (len cap : Nat) (l : List Int) (w : World) (h : Words w a len cap l) :
    Calls Tryz.prog 85 #[.slice a len cap] w fun e w' => (∃ n : Nat, e = .returned (.slice a n cap) ∧ n ≤ len ∧ Words w a n cap (digs (val l))) ∧ w = w' := by
  have hm := h.max
  have hle := h.le
  have hlen := h.hlen
  have Hw := Lib.hid h
  clear h hlen
  go_enter Tryz.func85, Tryz.ntmps85
  go_wp2
  go_loop [3] (fun v => ∃ n : Nat, n ≤ len ∧ v = .int .i64 n ∧ (∀ i, n ≤ i → l.getD i 0 = 0)) (fun v => (intOf v).toNat)
  case atStart => exact ⟨len, Nat.le_refl _, rfl, fun i hi => getD_ge (by rw [Hw.out.hlen]; exact hi)⟩
  case round =>
    obtain ⟨n, hn, rfl, hz⟩ := hrel
    have Hz := Lib.hid hz
    clear hz
    have fin : (n = 0 ∨ l.getD (n - 1) 0 ≠ 0) → Words w a n cap (digs (val l)) := fun ht => by
      rw [← take_digs Hw.out.wf (by rw [Hw.out.hlen]; exact hn) Hz.out ht]
      exact Hw.out.takeCap hn
    have Fin := Lib.hid fin
    clear fin
    rcases Nat.eq_zero_or_pos n with rfl | hp
    · go_wp2
      go_ret
      exact ⟨⟨0, rfl, hn, Fin.out (by simp)⟩, rfl⟩
    · obtain ⟨m, rfl⟩ : ∃ m, n = m + 1 := ⟨n - 1, by omega⟩
      obtain ⟨b, off, hab, hc⟩ := Hw.out.cells m (l.getD m 0) (by rw [List.getD, List.getElem?_eq_getElem (by rw [Hw.out.hlen]; omega)]; simp)
      have hbd := Hw.out.wf.getD m
      by_cases hz0 : l.getD m 0 = 0
      · rw [hz0] at hc
        have Hz0 := Lib.hid hz0
        clear hz0 hbd
        subst hab
        go_wp2
        go_round
        case rel => exact ⟨m, by omega, by go_num, fun i hi => by
          rcases Nat.eq_or_lt_of_le hi with rfl | h
          · exact Hz0.out
          · exact Hz.out i h⟩
        case measure => simp [intOf]
      · have Hn := Lib.hid (Fin.out (Or.inr hz0))
        generalize l.getD m 0 = z at *
        have hne : (z == 0) = false := by simp [hz0]
        clear hz0
        subst hab
        go_wp2
        go_ret
        exact ⟨⟨m + 1, by rfl, hn, Hn.out⟩, rfl⟩

theorem words_any (n : Int) (w : World) (h0 : 0 ≤ n) (h1 : n < 18446744073709551616) :
    Calls Tryz.prog 71 #[.int .u64 n] w fun e w' => (∃ a k c, e = .returned (.slice a k c) ∧ Words w' a k c (digs n) ∧ k ≤ 2) ∧ Ext w w' := by
  go_enter Tryz.func71, Tryz.ntmps71
  go_wp2_with fail
  refine (trim_any (some ⟨w.heap.size, 0, none⟩) 2 2 [n % 4294967296, n / 4294967296] _ (Words.of_blk (l := [n % 4294967296, n / 4294967296]) (Blk.new w _ _) ?_ (show 2 ≤ 9223372036854775807 by omega))).mono ?_
  · intro x hx
    simp at hx
    omega
  rintro e w1 ⟨⟨k, rfl, hk, hw⟩, rfl⟩
  rw [val_two] at hw
  go_wp2_with fail
  go_ret
  exact ⟨⟨_, _, _, rfl, hw, hk⟩, (Ext.refl w).alloc _⟩
set_option maxRecDepth 100000 in
theorem made_any (a : Option Addr) (n c : Nat) (l : List Int) (neg : Bool) (z : Int) (w : World) (h : Words w a n c l) (hz : z = if neg then - val l else val l) :
    Calls Tryz.prog 51 #[.bool neg, .slice a n c] w fun e w' => (∃ v, e = .returned v ∧ IntV w' v z) ∧ Ext w w' := by
  obtain ⟨B, w0, hB, hw0, hb0, he0⟩ := one w 24 [.bool false, .slice none 0 0]
  have HW := Lib.hid h
  have HZ := Lib.hid hz
  clear h hz
  go_enter Tryz.func51, Tryz.ntmps51
  go_wp2_with fail
  rw [← hw0, ← hB]
  have HB := Lib.hid hB
  clear hw0 hB
  refine (trim_any a n c l _ (HW.out.ext he0)).mono ?_
  rintro e w1 ⟨⟨k, rfl, hk, hw⟩, rfl⟩
  have Hw := Lib.hid hw
  clear hw hk
  have ec0 := hb0.cell (i := 0) rfl
  have ec1 := hb0.cell (i := 1) rfl
  have ef0 := hb0.free 0
  have ef1 := hb0.free 1
  have fin : ∀ s : Bool, s = (neg && decide (0 < k)) → IntW w0 s a k c z := by
    intro s hs
    have hpos : k = 0 ↔ val l = 0 := by
      rw [← Hw.out.hlen]
      have h0 := val_nonneg HW.out.wf
      constructor
      · intro h; exact (digs_nil h0).1 (List.eq_nil_of_length_eq_zero h)
      · intro h; rw [h, digs_zero]; rfl
    have h0 := val_nonneg HW.out.wf
    have hab : (z.natAbs : Int) = val l := by rw [HZ.out]; cases neg <;> simp <;> omega
    refine ⟨?_, by rw [hab]; exact Hw.out⟩
    rw [hs, HZ.out]
    cases neg
    · simp; exact h0
    · simp; omega
  have Fin := Lib.hid fin
  clear fin
  cases neg with
  | false =>
    go_wp2_with fail
    refine bodyPost_ret (results_c rfl rfl (load_int (hb0.set2 _ _))) rfl ?_
    have fi := Fin.out _ rfl
    exact ⟨⟨_, rfl, _, _, _, _, rfl, fi.1, fi.2.keep2 hb0 (by simp) (by simp) _ _⟩, (he0.store' HB (by omega) 0 _).store' HB (by omega) 1 _⟩
  | true =>
    cases k with
    | zero =>
      go_wp2_with fail
      refine bodyPost_ret (results_c rfl rfl (load_int (hb0.set2 _ _))) rfl ?_
      have fi := Fin.out _ rfl
      exact ⟨⟨_, rfl, _, _, _, _, rfl, fi.1, fi.2.keep2 hb0 (by simp) (by simp) _ _⟩, (he0.store' HB (by omega) 0 _).store' HB (by omega) 1 _⟩
    | succ k =>
      go_wp2_with fail
      refine bodyPost_ret (results_c rfl rfl (load_int (hb0.set2 _ _))) rfl ?_
      have fi := Fin.out _ rfl
      exact ⟨⟨_, rfl, _, _, _, _, rfl, fi.1, fi.2.keep2 hb0 (by simp) (by simp) _ _⟩, (he0.store' HB (by omega) 0 _).store' HB (by omega) 1 _⟩
set_option maxRecDepth 100000 in
/-- ref.Of, less than 0 -/
theorem rof_neg (n : Int) (w : World) (h0 : n < 0) (h1 : -9223372036854775808 ≤ n) :
    Calls Tryz.prog 58 #[.int .i64 n] w fun e w' => (∃ v, e = .returned v ∧ IntV w' v n) ∧ Ext w w' := by
  obtain ⟨B, w0, hB, hw0, hb0, he0⟩ := one w 24 [.bool false, .slice none 0 0]
  go_enter Tryz.func58, Tryz.ntmps58
  go_wp2_with fail
  rw [← hw0, ← hB]
  have HB := Lib.hid hB
  clear hw0 hB
  go_wp2_with fail
  refine (words_any (-(n + 1) + 1) _ (by omega) (by omega)).mono ?_
  rintro e w1 ⟨⟨a, k, c, rfl, hw, hk⟩, he1⟩
  have HW := Lib.hid hw
  clear hw
  go_wp2_with fail
  refine (made_any _ _ _ _ _ n _ HW.out (by rw [val_digs (by omega), if_pos rfl]; try omega)).mono ?_
  rintro e w2 ⟨⟨v, rfl, hv⟩, he2⟩
  obtain ⟨sr, ar, nr, cr, rfl, hr⟩ := hv
  have hb2' := (hb0.ext he1).ext he2
  have e0 := hb2'.cell (i := 0) rfl
  have e1 := hb2'.cell (i := 1) rfl
  have f0 := hb2'.free 0
  have f1 := hb2'.free 1
  go_wp2_with fail
  refine bodyPost_ret (results_c rfl rfl (load_int (hb2'.set2 _ _))) rfl ?_
  exact ⟨⟨_, rfl, _, _, _, _, rfl, hr.1, hr.2.keep2 hb2' (by simp) (by simp) _ _⟩, (Ext.store' ((he0.trans he1).trans he2) HB (by omega) 0 _).store' HB (by omega) 1 _⟩
set_option maxRecDepth 100000 in
/-- ref.Of, not less than 0 -/
theorem rof_nonneg (n : Int) (w : World) (h0 : 0 ≤ n) (h1 : n < 9223372036854775808) :
    Calls Tryz.prog 58 #[.int .i64 n] w fun e w' => (∃ v, e = .returned v ∧ IntV w' v n) ∧ Ext w w' := by
  obtain ⟨B, w0, hB, hw0, hb0, he0⟩ := one w 24 [.bool false, .slice none 0 0]
  have hwr : IntKind.u64.wrap n = n := by
    simp only [IntKind.wrap_u64]; omega
  go_enter Tryz.func58, Tryz.ntmps58
  go_wp2_with fail
  rw [← hw0, ← hB]
  have HB := Lib.hid hB
  clear hw0 hB
  go_wp2_with fail
  refine (words_any n _ (by omega) (by omega)).mono ?_
  rintro e w1 ⟨⟨a, k, c, rfl, hw, hk⟩, he1⟩
  have HW := Lib.hid hw
  clear hw
  go_wp2_with fail
  refine (made_any _ _ _ _ _ n _ HW.out (by rw [val_digs (by omega), if_neg (by simp)]; try omega)).mono ?_
  rintro e w2 ⟨⟨v, rfl, hv⟩, he2⟩
  obtain ⟨sr, ar, nr, cr, rfl, hr⟩ := hv
  have hb2' := (hb0.ext he1).ext he2
  have e0 := hb2'.cell (i := 0) rfl
  have e1 := hb2'.cell (i := 1) rfl
  have f0 := hb2'.free 0
  have f1 := hb2'.free 1
  go_wp2_with fail
  refine bodyPost_ret (results_c rfl rfl (load_int (hb2'.set2 _ _))) rfl ?_
  exact ⟨⟨_, rfl, _, _, _, _, rfl, hr.1, hr.2.keep2 hb2' (by simp) (by simp) _ _⟩, (Ext.store' ((he0.trans he1).trans he2) HB (by omega) 0 _).store' HB (by omega) 1 _⟩
theorem rof_any (n : Int) (w : World) (h0 : -9223372036854775808 ≤ n) (h1 : n < 9223372036854775808) :
    Calls Tryz.prog 58 #[.int .i64 n] w fun e w' => (∃ v, e = .returned v ∧ IntV w' v n) ∧ Ext w w' := by
  by_cases h : n < 0
  · exact rof_neg n w h h0
  · exact rof_nonneg n w (by omega) h1
/-- law.of -/
theorem lof_any (n : Int) (w : World) (h0 : -9223372036854775808 ≤ n) (h1 : n < 9223372036854775808) :
    Calls Tryz.prog 23 #[.int .i64 n] w fun e w' => (∃ v, e = .returned v ∧ IntV w' v n) ∧ Ext w w' := by
  obtain ⟨B, w0, hB, hw0, hb0, he0⟩ := one w 24 [.bool false, .slice none 0 0]
  go_enter Tryz.func23, Tryz.ntmps23
  go_wp2_with fail
  rw [← hw0, ← hB]
  have HB := Lib.hid hB
  clear hw0 hB
  go_wp2_with fail
  refine (rof_any n _ (by omega) (by omega)).mono ?_
  rintro e w2 ⟨⟨v, rfl, hv⟩, he2⟩
  obtain ⟨sr, ar, nr, cr, rfl, hr⟩ := hv
  have hb2' := (hb0.ext he2)
  have e0 := hb2'.cell (i := 0) rfl
  have e1 := hb2'.cell (i := 1) rfl
  have f0 := hb2'.free 0
  have f1 := hb2'.free 1
  go_wp2_with fail
  refine bodyPost_ret (results_c rfl rfl (load_int (hb2'.set2 _ _))) rfl ?_
  exact ⟨⟨_, rfl, _, _, _, _, rfl, hr.1, hr.2.keep2 hb2' (by simp) (by simp) _ _⟩, (Ext.store' (he0.trans he2) HB (by omega) 0 _).store' HB (by omega) 1 _⟩
end Go.Proofs.YtddcgojpgdhefaaGreatDoor
