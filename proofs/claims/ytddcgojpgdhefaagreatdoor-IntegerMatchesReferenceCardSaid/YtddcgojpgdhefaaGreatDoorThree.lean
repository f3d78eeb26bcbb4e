/- The law's function three, where its answer is true; Bezout for any two numbers; Root and Pow in the forms that the laws use. -/
import Derived.Test.YtddcgojpgdhefaaGreatDoorBezA
import Derived.Test.YtddcgojpgdhefaaGreatDoorTextA
namespace Go.El
open Go.RowKit
end Go.El
namespace Go.Proofs.YtddcgojpgdhefaaGreatDoor
open Go.RowKit Go.El
set_option linter.unusedVariables false
theorem same_true (x y : Value) (a : Int) (w : World) (hx : IntV w x a) (hy : IntV w y a) :
    Calls Tryz.prog 21 #[x, y] w fun e w' => e = .returned (.bool true) ∧ Ext w w' := by
  have h := same_any x y a a w hx hy
  rwa [decide_eq_true (rfl : a = a)] at h
set_option maxRecDepth 100000 in
theorem three_true (x y z : Value) (p q r : Int) (w : World) (hx : IntV w x p) (hy : IntV w y q) (hz : IntV w z r)
    (p0 : -9223372036854775808 ≤ p) (p1 : p < 9223372036854775808) (q0 : -9223372036854775808 ≤ q) (q1 : q < 9223372036854775808) (r0 : -9223372036854775808 ≤ r) (r1 : r < 9223372036854775808) :
    Calls Tryz.prog 50 #[x, y, z, .int .i64 p, .int .i64 q, .int .i64 r] w fun e w' => e = .returned (.bool true) ∧ Ext w w' := by
  have HX := Lib.hid hx
  have HY := Lib.hid hy
  have HZ := Lib.hid hz
  obtain ⟨na, ax, nx, cx, rfl, hna, hwx⟩ := hx
  obtain ⟨nb, ay, ny, cy, rfl, hnb, hwy⟩ := hy
  obtain ⟨nc, az, nz, cz, rfl, hnc, hwz⟩ := hz
  clear hna hwx hnb hwy hnc hwz
  obtain ⟨B, w0, hB, hw0, hb0, hb1, hb2, he0⟩ := three w 24 24 24 [.bool na, .slice ax nx cx] [.bool nb, .slice ay ny cy] [.bool nc, .slice az nz cz]
  have HP : Hid (∀ W, Calls Tryz.prog 23 #[.int .i64 p] W fun e w' => (∃ v, e = .returned v ∧ IntV w' v p) ∧ Ext W w') := Lib.hid fun W => lof_any p W p0 p1
  have HQ : Hid (∀ W, Calls Tryz.prog 23 #[.int .i64 q] W fun e w' => (∃ v, e = .returned v ∧ IntV w' v q) ∧ Ext W w') := Lib.hid fun W => lof_any q W q0 q1
  have HR : Hid (∀ W, Calls Tryz.prog 23 #[.int .i64 r] W fun e w' => (∃ v, e = .returned v ∧ IntV w' v r) ∧ Ext W w') := Lib.hid fun W => lof_any r W r0 r1
  clear p0 p1 q0 q1 r0 r1
  go_enter Tryz.func50, Tryz.ntmps50
  go_wp2_with fail
  rw [← hw0, ← hB]
  have KX : Hid (∀ w', Ext w0 w' → w'.cell? ⟨B, 0, none⟩ = some (.bool na) ∧ w'.cell? ⟨B, 1, none⟩ = some (.slice ax nx cx) ∧ w'.cell? ⟨B + 1, 0, none⟩ = some (.bool nb) ∧ w'.cell? ⟨B + 1, 1, none⟩ = some (.slice ay ny cy) ∧ w'.cell? ⟨B + 1 + 1, 0, none⟩ = some (.bool nc) ∧ w'.cell? ⟨B + 1 + 1, 1, none⟩ = some (.slice az nz cz)) :=
    Lib.hid fun w' h => ⟨h.cell (hb0.cell (i := 0) rfl), h.cell (hb0.cell (i := 1) rfl), h.cell (hb1.cell (i := 0) rfl), h.cell (hb1.cell (i := 1) rfl), h.cell (hb2.cell (i := 0) rfl), h.cell (hb2.cell (i := 1) rfl)⟩
  have hk0 := Below.drewExt w0
  clear hw0 hB hb0 hb1 hb2
  go_region_held3
    (fun w' => w'.cell? ⟨B, 0, none⟩ = some (.bool na) ∧ w'.cell? ⟨B, 1, none⟩ = some (.slice ax nx cx) ∧ w'.cell? ⟨B + 1, 0, none⟩ = some (.bool nb) ∧ w'.cell? ⟨B + 1, 1, none⟩ = some (.slice ay ny cy) ∧ w'.cell? ⟨B + 1 + 1, 0, none⟩ = some (.bool nc) ∧ w'.cell? ⟨B + 1 + 1, 1, none⟩ = some (.slice az nz cz))
    (with_reducible exact KX.out _ (by assumption))
    (first
    | (go_at_call 23; (with_reducible refine (HP.out _).mono ?_); rintro e w1 ⟨⟨v1, rfl, hv1⟩, he1⟩; have hk1 := hk0.trans he1)
    | (go_at_call 21; (with_reducible refine (same_true _ v1 p _ (HX.out.ext (he0.trans hk1)) hv1).mono ?_); rintro e w2 ⟨rfl, he2⟩; have hk2 := hk1.trans he2)
    | (go_at_call 23; (with_reducible refine (HQ.out _).mono ?_); rintro e w3 ⟨⟨v3, rfl, hv3⟩, he3⟩; have hk3 := hk2.trans he3)
    | (go_at_call 21; (with_reducible refine (same_true _ v3 q _ (HY.out.ext (he0.trans hk3)) hv3).mono ?_); rintro e w4 ⟨rfl, he4⟩; have hk4 := hk3.trans he4)
    | (go_at_call 23; (with_reducible refine (HR.out _).mono ?_); rintro e w5 ⟨⟨v5, rfl, hv5⟩, he5⟩; have hk5 := hk4.trans he5)
    | (go_at_call 21; (with_reducible refine (same_true _ v5 r _ (HZ.out.ext (he0.trans hk5)) hv5).mono ?_); rintro e w6 ⟨rfl, he6⟩; have hk6 := hk5.trans he6)
    )
  go_wp2_with fail
  go_ret
  exact ⟨rfl, he0.trans hk6⟩
end Go.Proofs.YtddcgojpgdhefaaGreatDoor
