/- Integers: natural, Of, Sign, Valid. -/
import Derived.Test.YtddcgojpgdhefaaGreatDoorInt3
import Derived.Test.YtddcgojpgdhefaaGreatDoorCmp
namespace Go.Proofs.YtddcgojpgdhefaaGreatDoor
open Go.RowKit Go.El
set_option linter.unusedVariables false
theorem val_two (n : Int) : val [n % 4294967296, n / 4294967296] = n := by
  simp only [val]; omega
set_option maxRecDepth 100000 in
/-- integer.natural -/
theorem natural_any (n : Int) (w : World) (h0 : 0 ≤ n) (h1 : n < 18446744073709551616) :
    Calls Tryz.prog 60 #[.int .u64 n] w fun e w' => (∃ a k c, e = .returned (.slice a k c) ∧ Words w' a k c (digs n) ∧ k ≤ 2) ∧ Ext w w' := by
  go_enter Tryz.func60, Tryz.ntmps60
  go_wp2_with fail
  refine (norm_any (some ⟨w.heap.size, 0, none⟩) 2 2 [n % 4294967296, n / 4294967296] _ (Words.of_blk (l := [n % 4294967296, n / 4294967296]) (Blk.new w _ _) ?_ (show 2 ≤ 9223372036854775807 by omega))).mono ?_
  · intro x hx
    simp at hx
    omega
  rintro e w1 ⟨⟨k, rfl, hk, hw⟩, rfl⟩
  rw [val_two] at hw
  go_wp2_with fail
  go_ret
  exact ⟨⟨_, _, _, rfl, hw, hk⟩, (Ext.refl w).alloc _⟩

set_option maxRecDepth 100000 in
/-- integer.Of, less than 0 -/
theorem of_neg (n : Int) (w : World) (h0 : n < 0) (h1 : -9223372036854775808 ≤ n) :
    Calls Tryz.prog 31 #[.int .i64 n] w fun e w' => (∃ v, e = .returned v ∧ IntV w' v n) ∧ Ext w w' := by
  obtain ⟨B, w0, hB, hw0, hb0, he0⟩ := one w 24 [.bool false, .slice none 0 0]
  have hwr : IntKind.u64.wrap (-IntKind.u64.wrap n) = -n := by
    simp only [IntKind.wrap_u64]; omega
  go_enter Tryz.func31, Tryz.ntmps31
  go_wp2_with fail
  rw [← hw0, ← hB]
  have HB := Lib.hid hB
  clear hw0 hB
  go_wp2_with fail
  refine (natural_any (-n) _ (by omega) (by omega)).mono ?_
  rintro e w1 ⟨⟨a, k, c, rfl, hw, hk⟩, he1⟩
  clear hwr
  go_wp2_with fail
  refine (signed_any _ _ _ _ _ n _ hw (by omega) (by rw [val_digs (by omega), if_pos rfl]; omega)).mono ?_
  rintro e w2 ⟨⟨sr, ar, nr, cr, rfl, hr⟩, he2⟩
  have hb2' := (hb0.ext he1).ext he2
  have e0 := hb2'.cell (i := 0) rfl
  have e1 := hb2'.cell (i := 1) rfl
  have f0 := hb2'.free 0
  have f1 := hb2'.free 1
  go_wp2_with fail
  refine bodyPost_ret (results_c rfl rfl (load_int (hb2'.set2 _ _))) rfl ?_
  exact ⟨⟨_, rfl, _, _, _, _, rfl, hr.1, hr.2.keep2 hb2' (by simp) (by simp) _ _⟩, (Ext.store' ((he0.trans he1).trans he2) HB (by omega) 0 _).store' HB (by omega) 1 _⟩
set_option maxRecDepth 100000 in
/-- integer.Of, not less than 0 -/
theorem of_nonneg (n : Int) (w : World) (h0 : 0 ≤ n) (h1 : n < 9223372036854775808) :
    Calls Tryz.prog 31 #[.int .i64 n] w fun e w' => (∃ v, e = .returned v ∧ IntV w' v n) ∧ Ext w w' := by
  obtain ⟨B, w0, hB, hw0, hb0, he0⟩ := one w 24 [.bool false, .slice none 0 0]
  have hwr : IntKind.u64.wrap n = n := by
    simp only [IntKind.wrap_u64]; omega
  go_enter Tryz.func31, Tryz.ntmps31
  go_wp2_with fail
  rw [← hw0, ← hB]
  have HB := Lib.hid hB
  clear hw0 hB
  go_wp2_with fail
  refine (natural_any n _ (by omega) (by omega)).mono ?_
  rintro e w1 ⟨⟨a, k, c, rfl, hw, hk⟩, he1⟩
  clear hwr
  go_wp2_with fail
  refine (signed_any _ _ _ _ _ n _ hw (by omega) (by rw [val_digs (by omega), if_neg (by simp)])).mono ?_
  rintro e w2 ⟨⟨sr, ar, nr, cr, rfl, hr⟩, he2⟩
  have hb2' := (hb0.ext he1).ext he2
  have e0 := hb2'.cell (i := 0) rfl
  have e1 := hb2'.cell (i := 1) rfl
  have f0 := hb2'.free 0
  have f1 := hb2'.free 1
  go_wp2_with fail
  refine bodyPost_ret (results_c rfl rfl (load_int (hb2'.set2 _ _))) rfl ?_
  exact ⟨⟨_, rfl, _, _, _, _, rfl, hr.1, hr.2.keep2 hb2' (by simp) (by simp) _ _⟩, (Ext.store' ((he0.trans he1).trans he2) HB (by omega) 0 _).store' HB (by omega) 1 _⟩
theorem of_any (n : Int) (w : World) (h0 : -9223372036854775808 ≤ n) (h1 : n < 9223372036854775808) :
    Calls Tryz.prog 31 #[.int .i64 n] w fun e w' => (∃ v, e = .returned v ∧ IntV w' v n) ∧ Ext w w' := by
  by_cases h : n < 0
  · exact of_neg n w h h0
  · exact of_nonneg n w (by omega) h1
end Go.Proofs.YtddcgojpgdhefaaGreatDoor
