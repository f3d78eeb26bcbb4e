/- Integers: quo, mod. -/
import Derived.Test.YtddcgojpgdhefaaGreatDoorInt6
namespace Go.Proofs.YtddcgojpgdhefaaGreatDoor
open Go.RowKit Go.El
set_option linter.unusedVariables false
set_option maxRecDepth 100000 in
set_option maxHeartbeats 1000000 in
theorem mod_any (x y : Value) (a b : Int) (w : World) (hx : IntV w x a) (hy : IntV w y b) (ha : Fits a 1073741824) (hB1 : Fits b 1073741824) (hb : b ≠ 0) :
    Calls Tryz.prog 76 #[x, y] w fun e w' => (∃ v, e = .returned v ∧ IntV w' v (a % b)) ∧ Ext w w' := by
  have HX := Lib.hid hx
  have HY := Lib.hid hy
  obtain ⟨na, ax, nx, cx, rfl, hna, hwx⟩ := hx
  obtain ⟨nb, ay, ny, cy, rfl, hnb, hwy⟩ := hy
  clear hwx hwy hna hnb
  obtain ⟨B, w0, hB, hw0, hb0, hb1, hb2, he0⟩ := three w 24 24 24 [.bool na, .slice ax nx cx] [.bool nb, .slice ay ny cy] [.bool false, .slice none 0 0]
  go_enter Tryz.func76, Tryz.ntmps76
  go_wp2_with fail
  rw [← hw0, ← hB]
  have HB := Lib.hid hB
  clear hw0 hB hb0 hb1
  refine (divmod_any _ _ a b _ (HX.out.ext he0) (HY.out.ext he0) ha hB1 hb).mono ?_
  rintro e w1 ⟨⟨u, v, rfl, hu, hv⟩, he1⟩
  obtain ⟨s1, a1, n1, c1, rfl, h1⟩ := hu
  obtain ⟨s2, a2, n2, c2, rfl, h2⟩ := hv
  have H1 := Lib.hid h1
  have H2 := Lib.hid h2
  have he2 := ((he0.trans he1).alloc (.cells #[.bool s1, .slice a1 n1 c1] 24)).alloc (.cells #[.bool s2, .slice a2 n2 c2] 24)
  clear h1 h2 he0
  have hb2' := (((hb2.ext he1).alloc (.cells #[.bool s1, .slice a1 n1 c1] 24)).alloc (.cells #[.bool s2, .slice a2 n2 c2] 24))
  have e0 := hb2'.cell (i := 0) rfl
  have e1 := hb2'.cell (i := 1) rfl
  have f0 := hb2'.free 0
  have f1 := hb2'.free 1
  clear hb2
  go_wp2_with fail
  have hr := H2.out.ext (((Ext.refl w1).alloc (.cells #[.bool s1, .slice a1 n1 c1] 24)).alloc (.cells #[.bool s2, .slice a2 n2 c2] 24))
  refine bodyPost_ret (results_c rfl rfl (load_int (hb2'.set2 _ _))) rfl ?_
  exact ⟨⟨_, rfl, _, _, _, _, rfl, hr.1, hr.2.keep2 hb2' (by simp) (by simp) _ _⟩, (he2.store' HB (by omega) 0 _).store' HB (by omega) 1 _⟩
set_option maxRecDepth 100000 in
set_option maxHeartbeats 1000000 in
theorem quo_any (x y : Value) (a b : Int) (w : World) (hx : IntV w x a) (hy : IntV w y b) (ha : Fits a 1073741824) (hB1 : Fits b 1073741824) (hb : b ≠ 0) :
    Calls Tryz.prog 77 #[x, y] w fun e w' => (∃ v, e = .returned v ∧ IntV w' v (a / b)) ∧ Ext w w' := by
  have HX := Lib.hid hx
  have HY := Lib.hid hy
  obtain ⟨na, ax, nx, cx, rfl, hna, hwx⟩ := hx
  obtain ⟨nb, ay, ny, cy, rfl, hnb, hwy⟩ := hy
  clear hwx hwy hna hnb
  obtain ⟨B, w0, hB, hw0, hb0, hb1, hb2, he0⟩ := three w 24 24 24 [.bool na, .slice ax nx cx] [.bool nb, .slice ay ny cy] [.bool false, .slice none 0 0]
  go_enter Tryz.func77, Tryz.ntmps77
  go_wp2_with fail
  rw [← hw0, ← hB]
  have HB := Lib.hid hB
  clear hw0 hB hb0 hb1
  refine (divmod_any _ _ a b _ (HX.out.ext he0) (HY.out.ext he0) ha hB1 hb).mono ?_
  rintro e w1 ⟨⟨u, v, rfl, hu, hv⟩, he1⟩
  obtain ⟨s1, a1, n1, c1, rfl, h1⟩ := hu
  obtain ⟨s2, a2, n2, c2, rfl, h2⟩ := hv
  have H1 := Lib.hid h1
  have H2 := Lib.hid h2
  have he2 := ((he0.trans he1).alloc (.cells #[.bool s1, .slice a1 n1 c1] 24)).alloc (.cells #[.bool s2, .slice a2 n2 c2] 24)
  clear h1 h2 he0
  have hb2' := (((hb2.ext he1).alloc (.cells #[.bool s1, .slice a1 n1 c1] 24)).alloc (.cells #[.bool s2, .slice a2 n2 c2] 24))
  have e0 := hb2'.cell (i := 0) rfl
  have e1 := hb2'.cell (i := 1) rfl
  have f0 := hb2'.free 0
  have f1 := hb2'.free 1
  clear hb2
  go_wp2_with fail
  have hr := H1.out.ext (((Ext.refl w1).alloc (.cells #[.bool s1, .slice a1 n1 c1] 24)).alloc (.cells #[.bool s2, .slice a2 n2 c2] 24))
  refine bodyPost_ret (results_c rfl rfl (load_int (hb2'.set2 _ _))) rfl ?_
  exact ⟨⟨_, rfl, _, _, _, _, rfl, hr.1, hr.2.keep2 hb2' (by simp) (by simp) _ _⟩, (he2.store' HB (by omega) 0 _).store' HB (by omega) 1 _⟩
end Go.Proofs.YtddcgojpgdhefaaGreatDoor
