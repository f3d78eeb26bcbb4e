/- The reference's Bezout: walked. Written by refbez.py. -/
import Derived.Test.YtddcgojpgdhefaaGreatDoorRefI
import Derived.Test.YtddcgojpgdhefaaGreatDoorBezA
namespace Go.El
open Go.RowKit
theorem cell_far2 {w : World} {P Q i : Nat} {v x0 x1 : Value} (hne : P ≠ Q) (h : w.cell? ⟨Q, i, none⟩ = some v) : ((w.setCell ⟨P, 0, none⟩ x0).setCell ⟨P, 1, none⟩ x1).cell? ⟨Q, i, none⟩ = some v :=
  (World.cell?_setCell_far _ _ _ _ hne).trans ((World.cell?_setCell_far _ _ _ _ hne).trans h)
end Go.El
namespace Go.Proofs.YtddcgojpgdhefaaGreatDoor
open Go.RowKit Go.El
set_option linter.unusedVariables false
set_option maxRecDepth 100000 in
set_option maxHeartbeats 400000 in
theorem rbezout_zero (x y : Value) (a : Int) (w : World) (hx : IntV w x a) (hy : IntV w y 0) (ha : Fits a 1073741824) :
    Calls Tryz.prog 36 #[x, y] w fun e w' => (∃ g u v, e = .returned (.tuple #[g, u, v]) ∧ IntV w' g a.natAbs ∧ IntV w' u (sgn a 0) ∧ IntV w' v 0) ∧ Ext w w' := by
  have HXV := Lib.hid hx
  obtain ⟨na, ax, nx, cx, rfl, hna, hwx⟩ := hx
  obtain ⟨nb, ay, ny, cy, rfl, hnb, hwy⟩ := hy
  obtain rfl : ny = 0 := by rw [← hwy.hlen, Int.natAbs_zero, Int.ofNat_zero, digs_zero]; rfl
  have hnx : Hid (nx ≤ 1073741824) := by rw [← hwx.hlen]; exact ha.len
  obtain ⟨B, w0, hB, hw0, hb0, hb1, hb2, hb3, hb4, he0⟩ := five w 24 24 24 24 24 [.bool na, .slice ax nx cx] [.bool nb, .slice ay 0 cy] [.bool false, .slice none 0 0] [.bool false, .slice none 0 0] [.bool false, .slice none 0 0]
  have Hx := Lib.hid hwx
  have HZ : Hid (∀ b, b = false → (a.natAbs : Int) = if b = true then -(val (digs a.natAbs)) else val (digs a.natAbs)) := by
    rintro b rfl
    rw [if_neg (by simp), val_digs (by omega)]
  have HA := Lib.hid (ha.mono (show 1073741824 ≤ 4398046511104 by omega))
  clear hwx hwy hna hnb ha
  obtain ⟨s, hs, hs0, hs1⟩ : ∃ s : Int, s = sgn a 0 ∧ -1 ≤ s ∧ s ≤ 1 := ⟨_, rfl, by have := sgn_cases a 0; omega, by have := sgn_cases a 0; omega⟩
  have HS := Lib.hid hs
  clear hs
  go_enter Tryz.func36, Tryz.ntmps36
  go_wp2_with fail
  rw [← hw0, ← hB]
  have c0 := hb0.cell (i := 0) rfl
  have c1 := hb0.cell (i := 1) rfl
  have HB := Lib.hid hB
  have hsz := hb4.lt
  have KH : Hid (∀ w', Below (B + 1 + 1) w0 w' → w'.cell? ⟨B, 0, none⟩ = some (.bool na) ∧ w'.cell? ⟨B, 1, none⟩ = some (.slice ax nx cx)) := fun w' h => ⟨(h.cell (p := ⟨B, 0, none⟩) (by show B < B + 1 + 1; omega)).trans c0, (h.cell (p := ⟨B, 1, none⟩) (by show B < B + 1 + 1; omega)).trans c1⟩
  clear hw0 hB hb0 hb1
  go_region_held3
    (fun w' => w'.cell? ⟨B, 0, none⟩ = some (.bool na) ∧ w'.cell? ⟨B, 1, none⟩ = some (.slice ax nx cx))
    ((refine KH.out _ ?_; repeat (first | with_reducible exact hx3 | with_reducible exact hx2 | with_reducible exact hx1 | with_reducible exact (Below.refl _ _).drew | with_reducible refine Below.set2 ?_ (by omega) _ _)))
    (first
    | (go_at_call 78; (with_reducible refine (rabs_any _ a _ (HXV.out.ext he0.drew) HA.out).mono ?_); rintro e w1 ⟨⟨v, rfl, sr, ar, nr, cr, rfl, hr⟩, he1⟩; have hx1 := (Below.refl (B + 1 + 1) w0).drew.trans (he1.upto (show B + 1 + 1 ≤ w0.heap.size by omega)))
    | (go_at_call 49; (with_reducible refine (rsign_any _ a _ (HXV.out.ext (he0.drew.trans he1))).mono ?_); rintro e w2 ⟨rfl, he2⟩; rw [← HS.out]; have hx2 := hx1.trans (he2.upto (Nat.le_trans (show B + 1 + 1 ≤ w0.heap.size by omega) hx1.size)))
    | (go_at_call 58; (with_reducible refine (rof_any s _ (by omega) (by omega)).mono ?_); rintro e w3 ⟨⟨v, rfl, hv⟩, he3⟩; obtain ⟨s2, a2, n2, k2, rfl, hv2⟩ := hv; have hx3 := hx2.trans (he3.upto (Nat.le_trans (show B + 1 + 1 ≤ w0.heap.size by omega) hx2.size)); have hb2' := hb2.drew.ext ((he1.trans he2).trans he3); have hb3' := hb3.drew.ext ((he1.trans he2).trans he3); have hb4' := hb4.drew.ext ((he1.trans he2).trans he3); have e0 := hb2'.cell (i := 0) rfl; have e1 := hb2'.cell (i := 1) rfl; have f0 := hb2'.free 0; have f1 := hb2'.free 1; have g0 := hb3'.cell (i := 0) rfl; have g1 := hb3'.cell (i := 1) rfl; have i0 := hb3'.free 0; have i1 := hb3'.free 1; have j0 := hb4'.cell (i := 0) rfl; have j1 := hb4'.cell (i := 1) rfl; have k0 := hb4'.free 0; have k1 := hb4'.free 1)
    )
  go_wp2_with fail
  have h23 : B + 1 + 1 + 1 ≠ B + 1 + 1 := by omega
  have h24 : B + 1 + 1 + 1 + 1 ≠ B + 1 + 1 := by omega
  have h34 : B + 1 + 1 + 1 + 1 ≠ B + 1 + 1 + 1 := by omega
  have hA := ((hb2'.set2 (.bool sr) (.slice ar nr cr)).other2 h23 (.bool s2) (.slice a2 n2 k2)).other2 h24 (.bool false) (.slice none 0 0)
  have hB2 := hb3'.other2 (Ne.symm h23) (.bool sr) (.slice ar nr cr)
  have hC2 := (hb4'.other2 (Ne.symm h24) (.bool sr) (.slice ar nr cr)).other2 (Ne.symm h34) (.bool s2) (.slice a2 n2 k2)
  have hBB := (hB2.set2 (.bool s2) (.slice a2 n2 k2)).other2 h34 (.bool false) (.slice none 0 0)
  have keep : ∀ {a n c l}, Words w3 a n c l → Words ((((((w3.setCell ⟨B + 1 + 1, 0, none⟩ (.bool sr)).setCell ⟨B + 1 + 1, 1, none⟩ (.slice ar nr cr)).setCell ⟨B + 1 + 1 + 1, 0, none⟩ (.bool s2)).setCell ⟨B + 1 + 1 + 1, 1, none⟩ (.slice a2 n2 k2)).setCell ⟨B + 1 + 1 + 1 + 1, 0, none⟩ (.bool false)).setCell ⟨B + 1 + 1 + 1 + 1, 1, none⟩ (.slice none 0 0)) a n c l := fun h => ((h.keep2 hb2' (by simp) (by simp) _ _).keep2 hB2 (by simp) (by simp) _ _).keep2 hC2 (by simp) (by simp) _ _
  refine bodyPost_ret (results_ccc rfl rfl (load_int hA) rfl (load_int hBB) rfl (load_int (hC2.set2 _ _))) rfl ?_
  refine ⟨⟨_, _, _, rfl, ⟨_, _, _, _, rfl, hr.1, keep (hr.2.ext (he2.trans he3))⟩, ⟨_, _, _, _, rfl, ?_⟩, ⟨_, _, _, _, rfl, by simp, by rw [Int.natAbs_zero, Int.ofNat_zero, digs_zero]; exact Words.nil' _⟩⟩, ?_⟩
  · rw [← HS.out]; exact ⟨hv2.1, keep hv2.2⟩
  · exact (((((((he0.drew).trans he1).trans he2).trans he3).set2' HB (by omega) _ _).set2' HB (by omega) _ _).set2' HB (by omega) _ _)
structure RBez9 (w3 : World) (s11 : Bool) (a11 : Option Addr) (n11 : Nat) (c11 : Nat) (s13 : Bool) (a13 : Option Addr) (n13 : Nat) (c13 : Nat) (s12 : Bool) (a12 : Option Addr) (n12 : Nat) (c12 : Nat) (z3 : Int) (z4 : Int) (L : Nat → Bool) (y : Nat → Value) (w : World) : Prop where
  e : Ext w3 w
  f0 : L 0 = true → y 58 = .agg #[.bool s11, .slice a11 n11 c11]
  f1 : L 1 = true → y 59 = .agg #[.bool s13, .slice a13 n13 c13]
  f2 : L 2 = true → y 60 = .agg #[.bool s12, .slice a12 n12 c12]
  f3 : L 3 = true → IntV w (y 61) z3
  f4 : L 4 = true → IntV w (y 62) z4
  f5 : L 5 = true → RoomI w (y 16) w3.heap.size
  f6 : L 6 = true → AtI w (y 16) w3.heap.size z4
  c6 : L 6 = true → L 5 = true
theorem RBez9.ext {w3 : World} {s11 : Bool} {a11 : Option Addr} {n11 : Nat} {c11 : Nat} {s13 : Bool} {a13 : Option Addr} {n13 : Nat} {c13 : Nat} {s12 : Bool} {a12 : Option Addr} {n12 : Nat} {c12 : Nat} {z3 : Int} {z4 : Int} {L : Nat → Bool} {y : Nat → Value} {w w1 : World} (h : RBez9 w3 s11 a11 n11 c11 s13 a13 n13 c13 s12 a12 n12 c12 z3 z4 L y w) (he : Ext w w1) : RBez9 w3 s11 a11 n11 c11 s13 a13 n13 c13 s12 a12 n12 c12 z3 z4 L y w1 :=
  ⟨h.e.trans he, h.f0, h.f1, h.f2, fun k => (h.f3 k).ext he, fun k => (h.f4 k).ext he, fun k => (h.f5 k).ext he, fun k => (h.f6 k).ext he, h.c6⟩
structure RBez16 (w3 : World) (s7 : Bool) (a7 : Option Addr) (n7 : Nat) (c7 : Nat) (s21 : Bool) (a21 : Option Addr) (n21 : Nat) (c21 : Nat) (na : Bool) (ax : Option Addr) (nx : Nat) (cx : Nat) (nb : Bool) (ay : Option Addr) (ny : Nat) (cy : Nat) (z3 : Int) (z4 : Int) (z6_0 : Int) (z6_1 : Int) (L : Nat → Bool) (y : Nat → Value) (w : World) : Prop where
  e : Ext w3 w
  f0 : L 0 = true → y 82 = .agg #[.bool s7, .slice a7 n7 c7]
  f1 : L 1 = true → y 83 = .agg #[.bool s21, .slice a21 n21 c21]
  f2 : L 2 = true → y 84 = .agg #[.bool na, .slice ax nx cx]
  f3 : L 3 = true → IntV w (y 85) z3
  f4 : L 4 = true → IntV w (y 86) z4
  f5 : L 5 = true → y 87 = .agg #[.bool nb, .slice ay ny cy]
  f6 : L 6 = true → PairT w (y 88) z6_0 z6_1
  f7 : L 7 = true → PairT w (y 81) z6_0 z6_1
  f8 : L 8 = true → IntV w (y 89) z6_0
  f9 : L 9 = true → IntV w (y 90) z6_1
  f10 : L 10 = true → y 91 = .int .i64 0
  f11 : L 11 = true → RoomI w (y 23) w3.heap.size
  f13 : L 13 = true → AtI w (y 23) w3.heap.size z6_0
  c13 : L 13 = true → L 11 = true
  d11_12 : L 11 = true → L 12 = true → y 23 ≠ y 24
  f12 : L 12 = true → RoomI w (y 24) w3.heap.size
  f14 : L 14 = true → AtI w (y 24) w3.heap.size z6_1
  c14 : L 14 = true → L 12 = true
  f15 : L 15 = true → y 25 = .int .i64 0
theorem RBez16.ext {w3 : World} {s7 : Bool} {a7 : Option Addr} {n7 : Nat} {c7 : Nat} {s21 : Bool} {a21 : Option Addr} {n21 : Nat} {c21 : Nat} {na : Bool} {ax : Option Addr} {nx : Nat} {cx : Nat} {nb : Bool} {ay : Option Addr} {ny : Nat} {cy : Nat} {z3 : Int} {z4 : Int} {z6_0 : Int} {z6_1 : Int} {L : Nat → Bool} {y : Nat → Value} {w w1 : World} (h : RBez16 w3 s7 a7 n7 c7 s21 a21 n21 c21 na ax nx cx nb ay ny cy z3 z4 z6_0 z6_1 L y w) (he : Ext w w1) : RBez16 w3 s7 a7 n7 c7 s21 a21 n21 c21 na ax nx cx nb ay ny cy z3 z4 z6_0 z6_1 L y w1 :=
  ⟨h.e.trans he, h.f0, h.f1, h.f2, fun k => (h.f3 k).ext he, fun k => (h.f4 k).ext he, h.f5, fun k => (h.f6 k).ext he, fun k => (h.f7 k).ext he, fun k => (h.f8 k).ext he, fun k => (h.f9 k).ext he, h.f10, fun k => (h.f11 k).ext he, fun k => (h.f13 k).ext he, h.c13, h.d11_12, fun k => (h.f12 k).ext he, fun k => (h.f14 k).ext he, h.c14, h.f15⟩
structure RBez17 (W w3 : World) (B P7 P21 P23 : Nat) (s7 : Bool) (a7 : Option Addr) (n7 : Nat) (c7 : Nat) (s21 : Bool) (a21 : Option Addr) (n21 : Nat) (c21 : Nat) (s10_13 : Bool) (a10_13 : Option Addr) (n10_13 : Nat) (c10_13 : Nat) (L : Nat → Bool) (y : Nat → Value) (w : World) : Prop where
  e : Ext W w
  st : Stay w3 w
  cs : w.cell? ⟨P7, 0, none⟩ = some (.bool s7) ∧ w.cell? ⟨P7, 1, none⟩ = some (.slice a7 n7 c7) ∧ w.cell? ⟨P21, 0, none⟩ = some (.bool s21) ∧ w.cell? ⟨P21, 1, none⟩ = some (.slice a21 n21 c21) ∧ w.cell? ⟨P23, 0, none⟩ = some (.bool s10_13) ∧ w.cell? ⟨P23, 1, none⟩ = some (.slice a10_13 n10_13 c10_13)
  r2 : PlaceI w (B + 1 + 1)
  r3 : PlaceI w (B + 1 + 1 + 1)
  r4 : PlaceI w (B + 1 + 1 + 1 + 1)
  f0 : L 0 = true → y 92 = .agg #[.bool s7, .slice a7 n7 c7]
  f1 : L 1 = true → y 93 = .agg #[.bool s21, .slice a21 n21 c21]
  f2 : L 2 = true → y 94 = .agg #[.bool s10_13, .slice a10_13 n10_13 c10_13]
  a0 : L 3 = true → Blk w (B + 1 + 1) 24 [.bool s7, .slice a7 n7 c7]
  a1 : L 4 = true → Blk w (B + 1 + 1 + 1) 24 [.bool s21, .slice a21 n21 c21]
  a2 : L 5 = true → Blk w (B + 1 + 1 + 1 + 1) 24 [.bool s10_13, .slice a10_13 n10_13 c10_13]
set_option maxRecDepth 100000 in
set_option maxHeartbeats 16000000 in
theorem rbezout_some (x y : Value) (a b : Int) (w : World) (hx : IntV w x a) (hy : IntV w y b) (ha : Fits a 1000) (hb : Fits b 1000) (hb0 : b ≠ 0) :
    Calls Tryz.prog 36 #[x, y] w fun e w' => (∃ g u v gi ui vi, e = .returned (.tuple #[g, u, v]) ∧ IntV w' g gi ∧ IntV w' u ui ∧ IntV w' v vi ∧ BezRes a b gi ui vi) ∧ Ext w w' := by
  have HX0 := Lib.hid hx
  have HY0 := Lib.hid hy
  obtain ⟨na, ax, nx, cx, rfl, hna, hwx⟩ := hx
  obtain ⟨nb, ay, ny, cy, rfl, hnb, hwy⟩ := hy
  have hny : ((ny : Int) == 0) = false := by
    have h1 := digs_pos_len (show 0 < (b.natAbs : Int) by omega)
    rw [hwy.hlen] at h1
    simp; omega
  have HFa := Lib.hid ha
  have HFb := Lib.hid hb
  have HB0 := Lib.hid hb0
  obtain ⟨B, w0, hB, hw0, hr0, hr1, hr2, hr3, hr4, he0⟩ := five w 24 24 24 24 24 [.bool na, .slice ax nx cx] [.bool nb, .slice ay ny cy] [.bool false, .slice none 0 0] [.bool false, .slice none 0 0] [.bool false, .slice none 0 0]
  have HB := Lib.hid hB
  have HR2 := Lib.hid hr2
  have HR3 := Lib.hid hr3
  have HR4 := Lib.hid hr4
  have hsz0 := hr4.lt
  have HA : Hid (IntV w0 (.agg #[.bool na, .slice ax nx cx]) a) := HX0.out.ext he0
  have HBv : Hid (IntV w0 (.agg #[.bool nb, .slice ay ny cy]) b) := HY0.out.ext he0
  have KB2 : Hid (∀ W, Ext w0 W → W.cell? ⟨B, 0, none⟩ = some (.bool na) ∧ W.cell? ⟨B, 1, none⟩ = some (.slice ax nx cx)) := Lib.hid fun W h => ⟨h.cell (hr0.cell (i := 0) rfl), h.cell (hr0.cell (i := 1) rfl)⟩
  have KB3 : Hid (∀ W, Ext w0 W → W.cell? ⟨B + 1, 0, none⟩ = some (.bool nb) ∧ W.cell? ⟨B + 1, 1, none⟩ = some (.slice ay ny cy)) := Lib.hid fun W h => ⟨h.cell (hr1.cell (i := 0) rfl), h.cell (hr1.cell (i := 1) rfl)⟩
  have hq0 := hw0.symm
  have hp0 := hB.symm
  clear hna hnb hwx hwy ha hb hb0 hw0 hB hr0 hr1 hr2 hr3 hr4
  obtain ⟨cc2_0_1, cc2_1_1⟩ := KB2.out w0 (Ext.refl _)
  obtain ⟨cc3_0_2, cc3_1_2⟩ := KB3.out w0 (Ext.refl _)
  go_enter Tryz.func36, Tryz.ntmps36
  go_wp2_with fail
  clear hq0 hp0 cc2_0_1 cc2_1_1 cc3_0_2 cc3_1_2
  go_wp2_with fail
  refine (rabs_any _ b _ HBv.out (HFb.out.mono (by omega))).mono ?_
  rintro e w3 ⟨⟨v3_0, rfl, ⟨s3_0, a3_0, n3_0, c3_0, rfl, hi3_0⟩⟩, x3⟩
  have HV3_0 : Hid (IntV w3 (.agg #[.bool s3_0, .slice a3_0 n3_0 c3_0]) ((b.natAbs : Int))) := Lib.hid ⟨_, _, _, _, rfl, hi3_0⟩
  clear hi3_0
  obtain ⟨D4, wb4, hD4, hw4, hb4_0, xb4⟩ := one w3 24 [.bool s3_0, .slice a3_0 n3_0 c3_0]
  have KB7 : Hid (∀ W, Ext wb4 W → W.cell? ⟨D4, 0, none⟩ = some (.bool s3_0) ∧ W.cell? ⟨D4, 1, none⟩ = some (.slice a3_0 n3_0 c3_0)) := Lib.hid fun W h => ⟨h.cell (hb4_0.cell (i := 0) rfl), h.cell (hb4_0.cell (i := 1) rfl)⟩
  have HP7 := Lib.hid hb4_0
  have NHP7 : Hid (w3.heap.size ≤ D4) := Lib.hid (by omega)
  clear hb4_0
  obtain ⟨cc2_0_5, cc2_1_5⟩ := KB2.out wb4 (x3.trans xb4)
  obtain ⟨cc3_0_6, cc3_1_6⟩ := KB3.out wb4 (x3.trans xb4)
  have hq4 := hw4.symm
  have hp4 := hD4.symm
  clear hw4 hD4
  go_wp2_with fail
  clear hq4 hp4
  clear cc2_0_5 cc2_1_5 cc3_0_6 cc3_1_6
  refine (rdivmod_any _ _ a b _ (HA.out.ext (x3.trans xb4)) (HBv.out.ext (x3.trans xb4)) (HFa.out.mono (by omega)) (HFb.out.mono (by omega)) HB0.out).mono ?_
  rintro e w7 ⟨⟨_, _, rfl, ⟨s8, a8, n8, c8, rfl, h8⟩, ⟨s9, a9, n9, c9, rfl, h9⟩⟩, x7⟩
  have HV9 : Hid (IntV w7 (.agg #[.bool s9, .slice a9 n9 c9]) (a % b)) := Lib.hid ⟨_, _, _, _, rfl, h9⟩
  clear h8 h9
  obtain ⟨D8, wb8, hD8, hw8, hb8_0, hb8_1, xb8⟩ := two w7 24 24 [.bool s8, .slice a8 n8 c8] [.bool s9, .slice a9 n9 c9]
  have KB8 : Hid (∀ W, Ext wb8 W → W.cell? ⟨D8, 0, none⟩ = some (.bool s8) ∧ W.cell? ⟨D8, 1, none⟩ = some (.slice a8 n8 c8)) := Lib.hid fun W h => ⟨h.cell (hb8_0.cell (i := 0) rfl), h.cell (hb8_0.cell (i := 1) rfl)⟩
  have HP8 := Lib.hid hb8_0
  have NHP8 : Hid (w7.heap.size ≤ D8) := Lib.hid (by omega)
  have KB9 : Hid (∀ W, Ext wb8 W → W.cell? ⟨D8 + 1, 0, none⟩ = some (.bool s9) ∧ W.cell? ⟨D8 + 1, 1, none⟩ = some (.slice a9 n9 c9)) := Lib.hid fun W h => ⟨h.cell (hb8_1.cell (i := 0) rfl), h.cell (hb8_1.cell (i := 1) rfl)⟩
  have HP9 := Lib.hid hb8_1
  have NHP9 : Hid (w7.heap.size ≤ D8 + 1) := Lib.hid (by omega)
  clear hb8_0 hb8_1
  obtain ⟨D9, wb9, hD9, hw9, hb9_0, xb9⟩ := one wb8 24 [.bool false, .slice none 0 0]
  have KB11 : Hid (∀ W, Ext wb9 W → W.cell? ⟨D9, 0, none⟩ = some (.bool false) ∧ W.cell? ⟨D9, 1, none⟩ = some (.slice none 0 0)) := Lib.hid fun W h => ⟨h.cell (hb9_0.cell (i := 0) rfl), h.cell (hb9_0.cell (i := 1) rfl)⟩
  have HP11 := Lib.hid hb9_0
  have NHP11 : Hid (wb8.heap.size ≤ D9) := Lib.hid (by omega)
  have zc9_00 := hb9_0.cell (i := 0) rfl
  have ze9_00 := setCell_same hb9_0 (i := 0) rfl
  have zf9_00 := hb9_0.free 0
  have zc9_01 := hb9_0.cell (i := 1) rfl
  have ze9_01 := setCell_same hb9_0 (i := 1) rfl
  have zf9_01 := hb9_0.free 1
  clear hb9_0
  have hq8 := hw8.symm
  have hp8 := hD8.symm
  clear hw8 hD8
  have hq9 := hw9.symm
  have hp9 := hD9.symm
  clear hw9 hD9
  go_wp2_with fail
  clear hq8 hp8 hq9 hp9
  clear zc9_00 ze9_00 zf9_00 zc9_01 ze9_01 zf9_01
  refine (rof_any 1 _ (by omega) (by omega)).mono ?_
  rintro e w10 ⟨⟨v10_0, rfl, ⟨s10_0, a10_0, n10_0, c10_0, rfl, hi10_0⟩⟩, x10⟩
  have HV10_0 : Hid (IntV w10 (.agg #[.bool s10_0, .slice a10_0 n10_0 c10_0]) (1)) := Lib.hid ⟨_, _, _, _, rfl, hi10_0⟩
  clear hi10_0
  obtain ⟨D11, wb11, hD11, hw11, hb11_0, xb11⟩ := one w10 24 [.bool s10_0, .slice a10_0 n10_0 c10_0]
  have KB12 : Hid (∀ W, Ext wb11 W → W.cell? ⟨D11, 0, none⟩ = some (.bool s10_0) ∧ W.cell? ⟨D11, 1, none⟩ = some (.slice a10_0 n10_0 c10_0)) := Lib.hid fun W h => ⟨h.cell (hb11_0.cell (i := 0) rfl), h.cell (hb11_0.cell (i := 1) rfl)⟩
  have HP12 := Lib.hid hb11_0
  have NHP12 : Hid (w10.heap.size ≤ D11) := Lib.hid (by omega)
  clear hb11_0
  have H7 : Hid (HoldI wb11 (D4) (b.natAbs : Int)) := Lib.hid ⟨_, _, _, _, HP7.out.ext ((((x7.trans xb8).trans xb9).trans x10).trans xb11), intV_W2 (HV3_0.out.ext (((((xb4.trans x7).trans xb8).trans xb9).trans x10).trans xb11))⟩
  have H9 : Hid (HoldI wb11 (D8 + 1) (a % b)) := Lib.hid ⟨_, _, _, _, HP9.out.ext ((xb9.trans x10).trans xb11), intV_W2 (HV9.out.ext (((xb8.trans xb9).trans x10).trans xb11))⟩
  have H11 : Hid (HoldI wb11 (D9) 0) := Lib.hid ⟨_, _, _, _, HP11.out.ext (x10.trans xb11), intW_zero _⟩
  have H12 : Hid (HoldI wb11 (D11) 1) := Lib.hid ⟨_, _, _, _, HP12.out.ext (Ext.refl _), intV_W2 (HV10_0.out.ext xb11)⟩
  have E7_9 : D4 ≠ D8 + 1 := by have u1 := (HP7.out.ext x7).lt; have u2 := NHP9.out; omega
  have E7_11 : D4 ≠ D9 := by have u1 := (HP7.out.ext (x7.trans xb8)).lt; have u2 := NHP11.out; omega
  have E7_12 : D4 ≠ D11 := by have u1 := (HP7.out.ext (((x7.trans xb8).trans xb9).trans x10)).lt; have u2 := NHP12.out; omega
  have E9_11 : D8 + 1 ≠ D9 := by have u1 := (HP9.out.ext (Ext.refl _)).lt; have u2 := NHP11.out; omega
  have E9_12 : D8 + 1 ≠ D11 := by have u1 := (HP9.out.ext (xb9.trans x10)).lt; have u2 := NHP12.out; omega
  have E11_12 : D9 ≠ D11 := by have u1 := (HP11.out.ext x10).lt; have u2 := NHP12.out; omega
  have M7 : Hid (w0.heap.size ≤ D4) := Lib.hid (Nat.le_trans (x3).size NHP7.out)
  have M9 : Hid (w0.heap.size ≤ D8 + 1) := Lib.hid (Nat.le_trans (((x3.trans xb4).trans x7)).size NHP9.out)
  have M11 : Hid (w0.heap.size ≤ D9) := Lib.hid (Nat.le_trans ((((x3.trans xb4).trans x7).trans xb8)).size NHP11.out)
  have M12 : Hid (w0.heap.size ≤ D11) := Lib.hid (Nat.le_trans ((((((x3.trans xb4).trans x7).trans xb8).trans xb9).trans x10)).size NHP12.out)
  obtain ⟨Q7, hQ7⟩ : ∃ Q, Q = D4 := ⟨_, rfl⟩
  obtain ⟨Q9, hQ9⟩ : ∃ Q, Q = D8 + 1 := ⟨_, rfl⟩
  obtain ⟨Q11, hQ11⟩ : ∃ Q, Q = D9 := ⟨_, rfl⟩
  obtain ⟨Q12, hQ12⟩ : ∃ Q, Q = D11 := ⟨_, rfl⟩
  have hq11 := hw11.symm
  have hp11 := hD11.symm
  clear hw11 hD11
  go_wp2_with fail
  clear hq11 hp11
  rw [← hQ7] at E7_9 E7_11 E7_12 M7 H7
  rw [← hQ9] at E7_9 E9_11 E9_12 M9 H9
  rw [← hQ11] at E7_11 E9_11 E11_12 M11 H11
  rw [← hQ12] at E7_12 E9_12 E11_12 M12 H12
  rw [← hQ7, ← hQ9, ← hQ11, ← hQ12]
  have HI := Lib.hid (BezI.init (a := a) HB0.out)
  have hE := ((((((x3.trans xb4).trans x7).trans xb8).trans xb9).trans x10).trans xb11)
  clear hQ7 hQ9 hQ11 hQ12 HP7 HP8 HP9 HP11 HP12 NHP7 NHP8 NHP9 NHP11 NHP12 KB7 KB8 KB9 KB11 KB12
  go_loopw [15] (fun _ wr => ∃ gx gy gs gt : Int, HoldI wr Q7 gx ∧ HoldI wr Q9 gy ∧ HoldI wr Q11 gs ∧ HoldI wr Q12 gt ∧ BezI a b gx gy gs gt ∧ Ext w0 wr) (fun _ wr => cval wr ⟨Q9, 1, none⟩)
  case atStart => exact ⟨_, _, _, _, H7.out, H9.out, H11.out, H12.out, HI.out, hE⟩
  case round =>
    clear H7 H9 H11 H12 HI hE
    obtain ⟨gx, gy, gs, gt, h7, h9, h11, h12, hir, hE⟩ := hrel
    have HIr := Lib.hid hir
    have H7 := Lib.hid h7
    have H9 := Lib.hid h9
    have H11 := Lib.hid h11
    have H12 := Lib.hid h12
    clear h7 h9 h11 h12 hir
    obtain ⟨s7, a7, n7, c7, hb7, hi7⟩ := H7.out
    have HB7 := Lib.hid hb7
    have HW7 := Lib.hid hi7
    have KB7 : Hid (∀ W, Ext wr W → W.cell? ⟨Q7, 0, none⟩ = some (.bool s7) ∧ W.cell? ⟨Q7, 1, none⟩ = some (.slice a7 n7 c7)) := Lib.hid fun W h => ⟨h.cell (hb7.cell (i := 0) rfl), h.cell (hb7.cell (i := 1) rfl)⟩
    clear hb7 hi7
    obtain ⟨s9, a9, n9, c9, hb9, hi9⟩ := H9.out
    have HB9 := Lib.hid hb9
    have HW9 := Lib.hid hi9
    have KB9 : Hid (∀ W, Ext wr W → W.cell? ⟨Q9, 0, none⟩ = some (.bool s9) ∧ W.cell? ⟨Q9, 1, none⟩ = some (.slice a9 n9 c9)) := Lib.hid fun W h => ⟨h.cell (hb9.cell (i := 0) rfl), h.cell (hb9.cell (i := 1) rfl)⟩
    clear hb9 hi9
    obtain ⟨s11, a11, n11, c11, hb11, hi11⟩ := H11.out
    have HB11 := Lib.hid hb11
    have HW11 := Lib.hid hi11
    have KB11 : Hid (∀ W, Ext wr W → W.cell? ⟨Q11, 0, none⟩ = some (.bool s11) ∧ W.cell? ⟨Q11, 1, none⟩ = some (.slice a11 n11 c11)) := Lib.hid fun W h => ⟨h.cell (hb11.cell (i := 0) rfl), h.cell (hb11.cell (i := 1) rfl)⟩
    clear hb11 hi11
    obtain ⟨s12, a12, n12, c12, hb12, hi12⟩ := H12.out
    have HB12 := Lib.hid hb12
    have HW12 := Lib.hid hi12
    have KB12 : Hid (∀ W, Ext wr W → W.cell? ⟨Q12, 0, none⟩ = some (.bool s12) ∧ W.cell? ⟨Q12, 1, none⟩ = some (.slice a12 n12 c12)) := Lib.hid fun W h => ⟨h.cell (hb12.cell (i := 0) rfl), h.cell (hb12.cell (i := 1) rfl)⟩
    clear hb12 hi12
    have HV7 : Hid (IntV wr (.agg #[.bool s7, .slice a7 n7 c7]) gx) := Lib.hid ⟨_, _, _, _, rfl, HW7.out⟩
    have HV9 : Hid (IntV wr (.agg #[.bool s9, .slice a9 n9 c9]) gy) := Lib.hid ⟨_, _, _, _, rfl, HW9.out⟩
    have HV11 : Hid (IntV wr (.agg #[.bool s11, .slice a11 n11 c11]) gs) := Lib.hid ⟨_, _, _, _, rfl, HW11.out⟩
    have HV12 : Hid (IntV wr (.agg #[.bool s12, .slice a12 n12 c12]) gt) := Lib.hid ⟨_, _, _, _, rfl, HW12.out⟩
    have F7 : Hid (Fits gx 1000) := Lib.hid (fits_le HFb.out (by have := HIr.out.q0; have := HIr.out.p0; omega))
    have F9 : Hid (Fits gy 1000) := Lib.hid (fits_le HFb.out (by have := HIr.out.q1; have := HIr.out.p1; omega))
    have F11 : Hid (Fits gs 1000) := Lib.hid (fits_le HFb.out (by have := HIr.out.b0; omega))
    have F12 : Hid (Fits gt 1000) := Lib.hid (fits_le HFb.out (by have := HIr.out.b1; omega))
    by_cases hy0 : gy = 0
    · obtain rfl : n9 = 0 := intW_len0 HW9.out hy0
      subst hy0
      obtain ⟨hgx, hm0, hres⟩ := BezI.done HB0.out HIr.out
      have HRes := Lib.hid hres
      have HM0 := Lib.hid hm0
      have HXp : Hid (gx ≠ 0) := Lib.hid (by have := HIr.out.p0; omega)
      clear hgx hm0 hres
      have FM : Hid (Fits (b / gx) 1000) := Lib.hid (fits_le HFb.out (Int.natAbs_ediv_le_natAbs b gx))
      have FU : Hid (Fits (gs % (b / gx)) 1000) := Lib.hid (fits_le FM.out (by have h1 := Int.emod_nonneg gs HM0.out; have h2 := Int.emod_lt gs HM0.out; omega))
      obtain ⟨cc3_0_1, cc3_1_1⟩ := KB3.out wr hE
      obtain ⟨cc7_0_2, cc7_1_2⟩ := KB7.out wr (Ext.refl _)
      obtain ⟨cc9_0_3, cc9_1_3⟩ := KB9.out wr (Ext.refl _)
      go_wp2_with fail
      clear cc3_0_1 cc3_1_1 cc7_0_2 cc7_1_2 cc9_0_3 cc9_1_3
      refine (rdivmod_any _ _ b gx _ (HBv.out.ext hE) HV7.out (HFb.out.mono (by omega)) (F7.out.mono (by omega)) HXp.out).mono ?_
      rintro e w4 ⟨⟨_, _, rfl, ⟨s17, a17, n17, c17, rfl, h17⟩, ⟨s18, a18, n18, c18, rfl, h18⟩⟩, x4⟩
      have HV17 : Hid (IntV w4 (.agg #[.bool s17, .slice a17 n17 c17]) (b / gx)) := Lib.hid ⟨_, _, _, _, rfl, h17⟩
      clear h17 h18
      obtain ⟨D5, wb5, hD5, hw5, hb5_0, hb5_1, xb5⟩ := two w4 24 24 [.bool s17, .slice a17 n17 c17] [.bool s18, .slice a18 n18 c18]
      have KB17 : Hid (∀ W, Ext wb5 W → W.cell? ⟨D5, 0, none⟩ = some (.bool s17) ∧ W.cell? ⟨D5, 1, none⟩ = some (.slice a17 n17 c17)) := Lib.hid fun W h => ⟨h.cell (hb5_0.cell (i := 0) rfl), h.cell (hb5_0.cell (i := 1) rfl)⟩
      have KB18 : Hid (∀ W, Ext wb5 W → W.cell? ⟨D5 + 1, 0, none⟩ = some (.bool s18) ∧ W.cell? ⟨D5 + 1, 1, none⟩ = some (.slice a18 n18 c18)) := Lib.hid fun W h => ⟨h.cell (hb5_1.cell (i := 0) rfl), h.cell (hb5_1.cell (i := 1) rfl)⟩
      clear hb5_0 hb5_1
      obtain ⟨cc11_0_6, cc11_1_6⟩ := KB11.out wb5 (x4.trans xb5)
      obtain ⟨cc17_0_7, cc17_1_7⟩ := KB17.out wb5 (Ext.refl _)
      have hq5 := hw5.symm
      have hp5 := hD5.symm
      clear hw5 hD5
      go_wp2_with fail
      clear hq5 hp5
      clear cc11_0_6 cc11_1_6 cc17_0_7 cc17_1_7
      refine (rdivmod_any _ _ gs (b / gx) _ (HV11.out.ext (x4.trans xb5)) (HV17.out.ext xb5) (F11.out.mono (by omega)) (FM.out.mono (by omega)) HM0.out).mono ?_
      rintro e w8 ⟨⟨_, _, rfl, ⟨s20, a20, n20, c20, rfl, h20⟩, ⟨s21, a21, n21, c21, rfl, h21⟩⟩, x8⟩
      have HV21 : Hid (IntV w8 (.agg #[.bool s21, .slice a21 n21 c21]) (gs % (b / gx))) := Lib.hid ⟨_, _, _, _, rfl, h21⟩
      clear h20 h21
      obtain ⟨D9, wb9, hD9, hw9, hb9_0, hb9_1, xb9⟩ := two w8 24 24 [.bool s20, .slice a20 n20 c20] [.bool s21, .slice a21 n21 c21]
      have KB20 : Hid (∀ W, Ext wb9 W → W.cell? ⟨D9, 0, none⟩ = some (.bool s20) ∧ W.cell? ⟨D9, 1, none⟩ = some (.slice a20 n20 c20)) := Lib.hid fun W h => ⟨h.cell (hb9_0.cell (i := 0) rfl), h.cell (hb9_0.cell (i := 1) rfl)⟩
      have HP20 := Lib.hid hb9_0
      have NHP20 : Hid (w8.heap.size ≤ D9) := Lib.hid (by omega)
      have KB21 : Hid (∀ W, Ext wb9 W → W.cell? ⟨D9 + 1, 0, none⟩ = some (.bool s21) ∧ W.cell? ⟨D9 + 1, 1, none⟩ = some (.slice a21 n21 c21)) := Lib.hid fun W h => ⟨h.cell (hb9_1.cell (i := 0) rfl), h.cell (hb9_1.cell (i := 1) rfl)⟩
      have HP21 := Lib.hid hb9_1
      have NHP21 : Hid (w8.heap.size ≤ D9 + 1) := Lib.hid (by omega)
      clear hb9_0 hb9_1
      have N21 := NHP21
      have HX0e := Lib.hid ((((hE.trans x4).trans xb5).trans x8)).size
      have F85 := Lib.hid (FU.out.mul HFa.out)
      have F86 : Hid (Fits (gx - gs % (b / gx) * a) 2001) := Lib.hid (Fits.sub (F7.out.mono (by omega)) (F85.out.mono (by omega)))
      have hq9 := hw9.symm
      have hp9 := hD9.symm
      clear hw9 hD9
      go_wp2_with fail
      clear hq9 hp9
      refine wp_region_facts [82, 83, 84, 85, 86, 87, 88, 81, 89, 90, 91, 23, 24, 25] (RBez16 wb9 s7 a7 n7 c7 s21 a21 n21 c21 na ax nx cx nb ay ny cy (gs % (b / gx) * a) (gx - gs % (b / gx) * a) ((gx - gs % (b / gx) * a) / b) ((gx - gs % (b / gx) * a) % b)) (by kernel_rfl) (by kernel_rfl) ?_ ?_ ?_
      · intro y
        exact ⟨(Ext.refl _).drew, by simp, by simp, by simp, by simp, by simp, by simp, by simp, by simp, by simp, by simp, by simp, by simp, by simp, by simp, by simp, by simp, by simp, by simp, by simp⟩
      · intro Q
        refine AllF.cons rfl ?_ ?_
        · skip
          with_reducible refine StepF.dst (d := 82) (by kernel_rfl) (by kernel_rfl) ?_
          intro L y w hi hp h K hK
          simp only [putAll, List.foldl, Act.put, List.setIfInBounds_toArray, List.set_cons_zero, List.set_cons_succ] at hK ⊢
          have HK := Lib.hid hK
          clear hK
          obtain ⟨cc0, cc1⟩ := KB7.out w ((((x4.trans xb5).trans x8).trans xb9).trans h.out.e)
          go_simp
          refine HK.out _ _ ?_
          have k := h.out
          exact ⟨k.e, fun _ => upd_eq, k.f1, k.f2, k.f3, k.f4, k.f5, k.f6, k.f7, k.f8, k.f9, k.f10, k.f11, k.f13, k.c13, k.d11_12, k.f12, k.f14, k.c14, k.f15⟩
        refine AllF.cons rfl ?_ ?_
        · skip
          with_reducible refine StepF.dst (d := 83) (by kernel_rfl) (by kernel_rfl) ?_
          intro L y w hi hp h K hK
          simp only [putAll, List.foldl, Act.put, List.setIfInBounds_toArray, List.set_cons_zero, List.set_cons_succ] at hK ⊢
          have HK := Lib.hid hK
          clear hK
          obtain ⟨cc0, cc1⟩ := KB21.out w ((Ext.refl _).trans h.out.e)
          go_simp
          refine HK.out _ _ ?_
          have k := h.out
          exact ⟨k.e, k.f0, fun _ => upd_eq, k.f2, k.f3, k.f4, k.f5, k.f6, k.f7, k.f8, k.f9, k.f10, k.f11, k.f13, k.c13, k.d11_12, k.f12, k.f14, k.c14, k.f15⟩
        refine AllF.cons rfl ?_ ?_
        · skip
          with_reducible refine StepF.dst (d := 84) (by kernel_rfl) (by kernel_rfl) ?_
          intro L y w hi hp h K hK
          simp only [putAll, List.foldl, Act.put, List.setIfInBounds_toArray, List.set_cons_zero, List.set_cons_succ] at hK ⊢
          have HK := Lib.hid hK
          clear hK
          obtain ⟨cc0, cc1⟩ := KB2.out w (((((hE.trans x4).trans xb5).trans x8).trans xb9).trans h.out.e)
          go_simp
          refine HK.out _ _ ?_
          have k := h.out
          exact ⟨k.e, k.f0, k.f1, fun _ => upd_eq, k.f3, k.f4, k.f5, k.f6, k.f7, k.f8, k.f9, k.f10, k.f11, k.f13, k.c13, k.d11_12, k.f12, k.f14, k.c14, k.f15⟩
        refine AllF.cons rfl ?_ ?_
        · skip
          with_reducible refine StepF.dst (d := 85) (by kernel_rfl) (by kernel_rfl) ?_
          intro L y w hi hp h K hK
          simp only [putAll, List.foldl, Act.put, List.setIfInBounds_toArray, List.set_cons_zero, List.set_cons_succ] at hK ⊢
          have HK := Lib.hid hK
          clear hK
          have g1 := h.out.f1 (hp.out 1 (by kernel_rfl))
          have g2 := h.out.f2 (hp.out 2 (by kernel_rfl))
          simp only [g1, g2] at HK
          go_simp
          refine (rmul_any _ _ (gs % (b / gx)) a _ ((HV21.out.ext xb9).ext h.out.e) ((HA.out.ext ((((hE.trans x4).trans xb5).trans x8).trans xb9)).ext h.out.e) (FU.out.mono (by omega)) (HFa.out.mono (by omega))).mono ?_
          rintro e w4 ⟨⟨v, rfl, hr⟩, he4⟩
          clear g1 g2
          go_simp
          refine HK.out _ _ ?_
          have k := h.out.ext he4
          exact ⟨k.e, k.f0, k.f1, k.f2, fun _ => by rw [upd_eq]; exact hr, k.f4, k.f5, k.f6, k.f7, k.f8, k.f9, k.f10, k.f11, k.f13, k.c13, k.d11_12, k.f12, k.f14, k.c14, k.f15⟩
        refine AllF.cons rfl ?_ ?_
        · skip
          with_reducible refine StepF.dst (d := 86) (by kernel_rfl) (by kernel_rfl) ?_
          intro L y w hi hp h K hK
          simp only [putAll, List.foldl, Act.put, List.setIfInBounds_toArray, List.set_cons_zero, List.set_cons_succ] at hK ⊢
          have HK := Lib.hid hK
          clear hK
          have g0 := h.out.f0 (hp.out 0 (by kernel_rfl))
          simp only [g0] at HK
          have g3 := h.out.f3 (hp.out 3 (by kernel_rfl))
          have G3 := Lib.hid g3
          clear g3
          go_simp
          refine (rsub_any _ _ gx (gs % (b / gx) * a) _ ((HV7.out.ext (((x4.trans xb5).trans x8).trans xb9)).ext h.out.e) G3.out (F7.out.mono (by omega)) (F85.out.mono (by omega))).mono ?_
          rintro e w4 ⟨⟨v, rfl, hr⟩, he4⟩
          clear g0
          go_simp
          refine HK.out _ _ ?_
          have k := h.out.ext he4
          exact ⟨k.e, k.f0, k.f1, k.f2, k.f3, fun _ => by rw [upd_eq]; exact hr, k.f5, k.f6, k.f7, k.f8, k.f9, k.f10, k.f11, k.f13, k.c13, k.d11_12, k.f12, k.f14, k.c14, k.f15⟩
        refine AllF.cons rfl ?_ ?_
        · skip
          with_reducible refine StepF.dst (d := 87) (by kernel_rfl) (by kernel_rfl) ?_
          intro L y w hi hp h K hK
          simp only [putAll, List.foldl, Act.put, List.setIfInBounds_toArray, List.set_cons_zero, List.set_cons_succ] at hK ⊢
          have HK := Lib.hid hK
          clear hK
          obtain ⟨cc0, cc1⟩ := KB3.out w (((((hE.trans x4).trans xb5).trans x8).trans xb9).trans h.out.e)
          go_simp
          refine HK.out _ _ ?_
          have k := h.out
          exact ⟨k.e, k.f0, k.f1, k.f2, k.f3, k.f4, fun _ => upd_eq, k.f6, k.f7, k.f8, k.f9, k.f10, k.f11, k.f13, k.c13, k.d11_12, k.f12, k.f14, k.c14, k.f15⟩
        refine AllF.cons rfl ?_ ?_
        · skip
          with_reducible refine StepF.dst (d := 88) (by kernel_rfl) (by kernel_rfl) ?_
          intro L y w hi hp h K hK
          simp only [putAll, List.foldl, Act.put, List.setIfInBounds_toArray, List.set_cons_zero, List.set_cons_succ] at hK ⊢
          have HK := Lib.hid hK
          clear hK
          have g5 := h.out.f5 (hp.out 5 (by kernel_rfl))
          simp only [g5] at HK
          have g4 := h.out.f4 (hp.out 4 (by kernel_rfl))
          have G4 := Lib.hid g4
          clear g4
          go_simp
          refine (rdivmod_any _ _ (gx - gs % (b / gx) * a) b _ G4.out ((HBv.out.ext ((((hE.trans x4).trans xb5).trans x8).trans xb9)).ext h.out.e) (F86.out.mono (by omega)) (HFb.out.mono (by omega)) HB0.out).mono ?_
          rintro e w4 ⟨⟨qv, rv, rfl, hq, hr⟩, he4⟩
          clear g5
          go_simp
          refine HK.out _ _ ?_
          have k := h.out.ext he4
          exact ⟨k.e, k.f0, k.f1, k.f2, k.f3, k.f4, k.f5, fun _ => by rw [upd_eq]; exact ⟨_, _, rfl, hq, hr⟩, k.f7, k.f8, k.f9, k.f10, k.f11, k.f13, k.c13, k.d11_12, k.f12, k.f14, k.c14, k.f15⟩
        refine AllF.cons rfl ?_ ?_
        · skip
          with_reducible refine StepF.dst (d := 81) (by kernel_rfl) (by kernel_rfl) ?_
          intro L y w hi hp h K hK
          simp only [putAll, List.foldl, Act.put, List.setIfInBounds_toArray, List.set_cons_zero, List.set_cons_succ] at hK ⊢
          have HK := Lib.hid hK
          clear hK
          obtain ⟨tu, tv, g, hu, hv⟩ := h.out.f6 (hp.out 6 (by kernel_rfl))
          have HU := Lib.hid hu
          have HV := Lib.hid hv
          clear hu hv
          simp only [g] at HK
          go_simp
          refine HK.out _ _ ?_
          have k := h.out
          exact ⟨k.e, k.f0, k.f1, k.f2, k.f3, k.f4, k.f5, k.f6, fun _ => by rw [upd_eq]; exact ⟨_, _, rfl, HU.out, HV.out⟩, k.f8, k.f9, k.f10, k.f11, k.f13, k.c13, k.d11_12, k.f12, k.f14, k.c14, k.f15⟩
        refine AllF.cons rfl ?_ ?_
        · skip
          with_reducible refine StepF.dst (d := 89) (by kernel_rfl) (by kernel_rfl) ?_
          intro L y w hi hp h K hK
          simp only [putAll, List.foldl, Act.put, List.setIfInBounds_toArray, List.set_cons_zero, List.set_cons_succ] at hK ⊢
          have HK := Lib.hid hK
          clear hK
          obtain ⟨tu, tv, g, hu, hv⟩ := h.out.f7 (hp.out 7 (by kernel_rfl))
          have HU := Lib.hid hu
          have HV := Lib.hid hv
          clear hu hv
          simp only [g] at HK
          go_simp
          refine HK.out _ _ ?_
          have k := h.out
          exact ⟨k.e, k.f0, k.f1, k.f2, k.f3, k.f4, k.f5, k.f6, k.f7, fun _ => by rw [upd_eq]; exact HU.out, k.f9, k.f10, k.f11, k.f13, k.c13, k.d11_12, k.f12, k.f14, k.c14, k.f15⟩
        refine AllF.cons rfl ?_ ?_
        · skip
          with_reducible refine StepF.dst (d := 90) (by kernel_rfl) (by kernel_rfl) ?_
          intro L y w hi hp h K hK
          simp only [putAll, List.foldl, Act.put, List.setIfInBounds_toArray, List.set_cons_zero, List.set_cons_succ] at hK ⊢
          have HK := Lib.hid hK
          clear hK
          obtain ⟨tu, tv, g, hu, hv⟩ := h.out.f7 (hp.out 7 (by kernel_rfl))
          have HU := Lib.hid hu
          have HV := Lib.hid hv
          clear hu hv
          simp only [g] at HK
          go_simp
          refine HK.out _ _ ?_
          have k := h.out
          exact ⟨k.e, k.f0, k.f1, k.f2, k.f3, k.f4, k.f5, k.f6, k.f7, k.f8, fun _ => by rw [upd_eq]; exact HV.out, k.f10, k.f11, k.f13, k.c13, k.d11_12, k.f12, k.f14, k.c14, k.f15⟩
        refine AllF.cons rfl ?_ ?_
        · skip
          with_reducible refine StepF.dst (d := 91) (by kernel_rfl) (by kernel_rfl) ?_
          intro L y w hi hp h K hK
          simp only [putAll, List.foldl, Act.put, List.setIfInBounds_toArray, List.set_cons_zero, List.set_cons_succ] at hK ⊢
          have HK := Lib.hid hK
          clear hK
          obtain ⟨tu, tv, g, hu, hv⟩ := h.out.f7 (hp.out 7 (by kernel_rfl))
          have HU := Lib.hid hu
          have HV := Lib.hid hv
          clear hu hv
          simp only [g] at HK
          go_simp
          refine HK.out _ _ ?_
          have k := h.out
          exact ⟨k.e, k.f0, k.f1, k.f2, k.f3, k.f4, k.f5, k.f6, k.f7, k.f8, k.f9, fun _ => upd_eq, k.f11, k.f13, k.c13, k.d11_12, k.f12, k.f14, k.c14, k.f15⟩
        refine AllF.cons rfl ?_ ?_
        · skip
          with_reducible refine StepF.dst (d := 23) (by kernel_rfl) (by kernel_rfl) ?_
          intro L y w hi hp h K hK
          simp only [putAll, List.foldl, Act.put, List.setIfInBounds_toArray, List.set_cons_zero, List.set_cons_succ] at hK ⊢
          have HK := Lib.hid hK
          clear hK
          go_simp
          refine HK.out _ _ ?_
          have k := h.out.ext ((Ext.refl w).alloc (.cells #[.bool false, .slice none 0 0] 24))
          exact ⟨k.e, k.f0, k.f1, k.f2, k.f3, k.f4, k.f5, k.f6, k.f7, k.f8, k.f9, k.f10, fun _ => by rw [upd_eq]; exact roomI_new h.out.e, fun q => absurd (h.out.c13 q) (by rw [hi.out]; simp), fun _ => rfl, fun _ q => roomI_ne (h.out.f12 q) upd_eq, k.f12, k.f14, k.c14, k.f15⟩
        refine AllF.cons rfl ?_ ?_
        · skip
          with_reducible refine StepF.dst (d := 24) (by kernel_rfl) (by kernel_rfl) ?_
          intro L y w hi hp h K hK
          simp only [putAll, List.foldl, Act.put, List.setIfInBounds_toArray, List.set_cons_zero, List.set_cons_succ] at hK ⊢
          have HK := Lib.hid hK
          clear hK
          go_simp
          refine HK.out _ _ ?_
          have k := h.out.ext ((Ext.refl w).alloc (.cells #[.bool false, .slice none 0 0] 24))
          exact ⟨k.e, k.f0, k.f1, k.f2, k.f3, k.f4, k.f5, k.f6, k.f7, k.f8, k.f9, k.f10, k.f11, k.f13, k.c13, fun q _ => (roomI_ne (h.out.f11 q) upd_eq).symm, fun _ => by rw [upd_eq]; exact roomI_new h.out.e, fun q => absurd (h.out.c14 q) (by rw [hi.out]; simp), fun _ => rfl, k.f15⟩
        refine AllF.cons rfl ?_ ?_
        · skip
          with_reducible refine StepF.none ?_
          intro L y w hi hp h K hK
          simp only [putAll, List.foldl, Act.put, List.setIfInBounds_toArray, List.set_cons_zero, List.set_cons_succ] at hK ⊢
          have HK := Lib.hid hK
          clear hK
          obtain ⟨s8, a8, n8, c8, g8, h8⟩ := h.out.f8 (hp.out 8 (by kernel_rfl))
          have H8 := Lib.hid h8
          clear h8
          obtain ⟨P, s6, a6, n6, c6, g6, hb6, hm6⟩ := h.out.f11 (hp.out 11 (by kernel_rfl))
          simp only [g8, g6] at HK
          have HB6 := Lib.hid hb6
          have cc0 := hb6.cell (i := 0) rfl
          have cc1 := hb6.cell (i := 1) rfl
          have ff0 := hb6.free 0
          have ff1 := hb6.free 1
          clear hb6
          go_simp
          refine HK.out _ ?_
          have k := h.out
          have hs := stay_st2 HB6.out (.bool s8) (.slice a8 n8 c8)
          have hd12 : L 12 = true → (.pointer (some ⟨P, 0, none⟩) : Value) ≠ y 24 := fun q => by rw [← g6]; exact k.d11_12 (hp.out 11 (by kernel_rfl)) q
          exact ⟨ext_st2 k.e hm6 _ _, k.f0, k.f1, k.f2, fun z => (k.f3 z).stay hs, fun z => (k.f4 z).stay hs, k.f5, fun z => (k.f6 z).stay hs, fun z => (k.f7 z).stay hs, fun z => (k.f8 z).stay hs, fun z => (k.f9 z).stay hs, k.f10, fun _ => ⟨_, _, _, _, _, g6, Blk.st2 HB6.out _ _, hm6⟩, fun _ => ⟨_, _, _, _, _, g6, Blk.st2 HB6.out _ _, hm6, IntW.stay H8.out hs⟩, fun _ => hp.out 11 (by kernel_rfl), k.d11_12, fun z => (k.f12 z).st2_other (hd12 z) _ _, fun z => (k.f14 z).st2_other (hd12 (k.c14 z)) hs, k.c14, k.f15⟩
        refine AllF.cons rfl ?_ ?_
        · skip
          with_reducible refine StepF.none ?_
          intro L y w hi hp h K hK
          simp only [putAll, List.foldl, Act.put, List.setIfInBounds_toArray, List.set_cons_zero, List.set_cons_succ] at hK ⊢
          have HK := Lib.hid hK
          clear hK
          obtain ⟨s8, a8, n8, c8, g8, h8⟩ := h.out.f9 (hp.out 9 (by kernel_rfl))
          have H8 := Lib.hid h8
          clear h8
          obtain ⟨P, s6, a6, n6, c6, g6, hb6, hm6⟩ := h.out.f12 (hp.out 12 (by kernel_rfl))
          simp only [g8, g6] at HK
          have HB6 := Lib.hid hb6
          have cc0 := hb6.cell (i := 0) rfl
          have cc1 := hb6.cell (i := 1) rfl
          have ff0 := hb6.free 0
          have ff1 := hb6.free 1
          clear hb6
          go_simp
          refine HK.out _ ?_
          have k := h.out
          have hs := stay_st2 HB6.out (.bool s8) (.slice a8 n8 c8)
          have hd11 : L 11 = true → (.pointer (some ⟨P, 0, none⟩) : Value) ≠ y 23 := fun q => by rw [← g6]; exact (k.d11_12 q (hp.out 12 (by kernel_rfl))).symm
          exact ⟨ext_st2 k.e hm6 _ _, k.f0, k.f1, k.f2, fun z => (k.f3 z).stay hs, fun z => (k.f4 z).stay hs, k.f5, fun z => (k.f6 z).stay hs, fun z => (k.f7 z).stay hs, fun z => (k.f8 z).stay hs, fun z => (k.f9 z).stay hs, k.f10, fun z => (k.f11 z).st2_other (hd11 z) _ _, fun z => (k.f13 z).st2_other (hd11 (k.c13 z)) hs, k.c13, k.d11_12, fun _ => ⟨_, _, _, _, _, g6, Blk.st2 HB6.out _ _, hm6⟩, fun _ => ⟨_, _, _, _, _, g6, Blk.st2 HB6.out _ _, hm6, IntW.stay H8.out hs⟩, fun _ => hp.out 12 (by kernel_rfl), k.f15⟩
        refine AllF.cons rfl ?_ ?_
        · skip
          with_reducible refine StepF.dst (d := 25) (by kernel_rfl) (by kernel_rfl) ?_
          intro L y w hi hp h K hK
          simp only [putAll, List.foldl, Act.put, List.setIfInBounds_toArray, List.set_cons_zero, List.set_cons_succ] at hK ⊢
          have HK := Lib.hid hK
          clear hK
          have g10 := h.out.f10 (hp.out 10 (by kernel_rfl))
          simp only [g10] at HK
          go_simp
          refine HK.out _ _ ?_
          have k := h.out
          exact ⟨k.e, k.f0, k.f1, k.f2, k.f3, k.f4, k.f5, k.f6, k.f7, k.f8, k.f9, k.f10, k.f11, k.f13, k.c13, k.d11_12, k.f12, k.f14, k.c14, fun _ => upd_eq⟩
        exact trivial
      · intro L y wE10 hL h
        have xE10 := h.e
        obtain ⟨U10_13, s10_13, a10_13, n10_13, c10_13, ey10_13, hb10_13, hm10_13, hu10_13⟩ := h.f13 (hL 13 (by decide))
        have HV10_13 : Hid (IntV wE10 (.agg #[.bool s10_13, .slice a10_13 n10_13 c10_13]) ((gx - gs % (b / gx) * a) / b)) := Lib.hid ⟨_, _, _, _, rfl, hu10_13⟩
        have HM10_13 := Lib.hid hm10_13
        have HBU10_13 := Lib.hid hb10_13
        obtain ⟨U10_14, s10_14, a10_14, n10_14, c10_14, ey10_14, hb10_14, hm10_14, hu10_14⟩ := h.f14 (hL 14 (by decide))
        have HV10_14 : Hid (IntV wE10 (.agg #[.bool s10_14, .slice a10_14 n10_14 c10_14]) ((gx - gs % (b / gx) * a) % b)) := Lib.hid ⟨_, _, _, _, rfl, hu10_14⟩
        have HM10_14 := Lib.hid hm10_14
        have HBU10_14 := Lib.hid hb10_14
        have ey10_10 := h.f10 (hL 10 (by decide))
        have ey10_15 := h.f15 (hL 15 (by decide))
        simp only [putAll, List.foldl, Act.put, List.setIfInBounds_toArray, List.set_cons_zero, List.set_cons_succ]
        simp only [ey10_13, ey10_14, ey10_10, ey10_15]
        clear hL h ey10_13 ey10_14 ey10_10 ey10_15 hu10_13 hm10_13 hu10_14 hm10_14
        have KB23 : Hid (∀ W, Ext wE10 W → W.cell? ⟨U10_13, 0, none⟩ = some (.bool s10_13) ∧ W.cell? ⟨U10_13, 1, none⟩ = some (.slice a10_13 n10_13 c10_13)) := Lib.hid fun W h => ⟨h.cell (hb10_13.cell (i := 0) rfl), h.cell (hb10_13.cell (i := 1) rfl)⟩
        clear hb10_13
        have KB24 : Hid (∀ W, Ext wE10 W → W.cell? ⟨U10_14, 0, none⟩ = some (.bool s10_14) ∧ W.cell? ⟨U10_14, 1, none⟩ = some (.slice a10_14 n10_14 c10_14)) := Lib.hid fun W h => ⟨h.cell (hb10_14.cell (i := 0) rfl), h.cell (hb10_14.cell (i := 1) rfl)⟩
        clear hb10_14
        have HX0f := Lib.hid (((((hE.trans x4).trans xb5).trans x8).trans xb9)).size
        go_wp2_with fail
        obtain ⟨cc7_0_11, cc7_1_11⟩ := KB7.out wE10 ((((x4.trans xb5).trans x8).trans xb9).trans xE10)
        obtain ⟨cc21_0_12, cc21_1_12⟩ := KB21.out wE10 xE10
        obtain ⟨cc23_0_13, cc23_1_13⟩ := KB23.out wE10 (Ext.refl _)
        have hS : wE10.cell? ⟨Q7, 0, none⟩ = some (.bool s7) ∧ wE10.cell? ⟨Q7, 1, none⟩ = some (.slice a7 n7 c7) ∧ wE10.cell? ⟨D9 + 1, 0, none⟩ = some (.bool s21) ∧ wE10.cell? ⟨D9 + 1, 1, none⟩ = some (.slice a21 n21 c21) ∧ wE10.cell? ⟨U10_13, 0, none⟩ = some (.bool s10_13) ∧ wE10.cell? ⟨U10_13, 1, none⟩ = some (.slice a10_13 n10_13 c10_13) := ⟨cc7_0_11, cc7_1_11, cc21_0_12, cc21_1_12, cc23_0_13, cc23_1_13⟩
        clear cc7_0_11 cc7_1_11 cc21_0_12 cc21_1_12 cc23_0_13 cc23_1_13
        have g7 : w0.heap.size ≤ Q7 := by have := M7.out; omega
        have g21 : w0.heap.size ≤ D9 + 1 := by have u1 := (HX0e.out); have u2 := N21.out; omega
        have g23 : w0.heap.size ≤ U10_13 := by have u1 := (HX0f.out); have u2 := HM10_13.out; omega
        have KF : Hid (∀ (w' : World) (P : Nat) (x0 x1 : Value), P < w0.heap.size → (w'.cell? ⟨Q7, 0, none⟩ = some (.bool s7) ∧ w'.cell? ⟨Q7, 1, none⟩ = some (.slice a7 n7 c7) ∧ w'.cell? ⟨D9 + 1, 0, none⟩ = some (.bool s21) ∧ w'.cell? ⟨D9 + 1, 1, none⟩ = some (.slice a21 n21 c21) ∧ w'.cell? ⟨U10_13, 0, none⟩ = some (.bool s10_13) ∧ w'.cell? ⟨U10_13, 1, none⟩ = some (.slice a10_13 n10_13 c10_13)) → (((w'.setCell ⟨P, 0, none⟩ x0).setCell ⟨P, 1, none⟩ x1).cell? ⟨Q7, 0, none⟩ = some (.bool s7) ∧ ((w'.setCell ⟨P, 0, none⟩ x0).setCell ⟨P, 1, none⟩ x1).cell? ⟨Q7, 1, none⟩ = some (.slice a7 n7 c7) ∧ ((w'.setCell ⟨P, 0, none⟩ x0).setCell ⟨P, 1, none⟩ x1).cell? ⟨D9 + 1, 0, none⟩ = some (.bool s21) ∧ ((w'.setCell ⟨P, 0, none⟩ x0).setCell ⟨P, 1, none⟩ x1).cell? ⟨D9 + 1, 1, none⟩ = some (.slice a21 n21 c21) ∧ ((w'.setCell ⟨P, 0, none⟩ x0).setCell ⟨P, 1, none⟩ x1).cell? ⟨U10_13, 0, none⟩ = some (.bool s10_13) ∧ ((w'.setCell ⟨P, 0, none⟩ x0).setCell ⟨P, 1, none⟩ x1).cell? ⟨U10_13, 1, none⟩ = some (.slice a10_13 n10_13 c10_13))) := Lib.hid fun w' P x0 x1 hP h => by
          obtain ⟨h0, h1, h2, h3, h4, h5⟩ := h
          exact ⟨cell_far2 (by omega) h0, cell_far2 (by omega) h1, cell_far2 (by omega) h2, cell_far2 (by omega) h3, cell_far2 (by omega) h4, cell_far2 (by omega) h5⟩
        have HS : Hid (wE10.drew.cell? ⟨Q7, 0, none⟩ = some (.bool s7) ∧ wE10.drew.cell? ⟨Q7, 1, none⟩ = some (.slice a7 n7 c7) ∧ wE10.drew.cell? ⟨D9 + 1, 0, none⟩ = some (.bool s21) ∧ wE10.drew.cell? ⟨D9 + 1, 1, none⟩ = some (.slice a21 n21 c21) ∧ wE10.drew.cell? ⟨U10_13, 0, none⟩ = some (.bool s10_13) ∧ wE10.drew.cell? ⟨U10_13, 1, none⟩ = some (.slice a10_13 n10_13 c10_13)) := Lib.hid hS
        clear hS
        have lt2 : B + 1 + 1 < w0.heap.size := by omega
        have lt3 : B + 1 + 1 + 1 < w0.heap.size := by omega
        have lt4 : B + 1 + 1 + 1 + 1 < w0.heap.size := by omega
        have h23 : B + 1 + 1 + 1 ≠ B + 1 + 1 := by omega
        have h24 : B + 1 + 1 + 1 + 1 ≠ B + 1 + 1 := by omega
        have h34 : B + 1 + 1 + 1 + 1 ≠ B + 1 + 1 + 1 := by omega
        have HRR2 : Hid (PlaceI wE10.drew (B + 1 + 1)) := Lib.hid ⟨_, _, _, _, (HR2.out.ext (((((hE.trans x4).trans xb5).trans x8).trans xb9).trans xE10)).drew⟩
        have HRR3 : Hid (PlaceI wE10.drew (B + 1 + 1 + 1)) := Lib.hid ⟨_, _, _, _, (HR3.out.ext (((((hE.trans x4).trans xb5).trans x8).trans xb9).trans xE10)).drew⟩
        have HRR4 : Hid (PlaceI wE10.drew (B + 1 + 1 + 1 + 1)) := Lib.hid ⟨_, _, _, _, (HR4.out.ext (((((hE.trans x4).trans xb5).trans x8).trans xb9).trans xE10)).drew⟩
        have HEE : Hid (Ext w wE10.drew) := Lib.hid (he0.trans (((((hE.trans x4).trans xb5).trans x8).trans xb9).trans xE10)).drew
        refine wp_region_facts [92, 93, 94] (RBez17 w wE10 B (Q7) (D9 + 1) (U10_13) s7 a7 n7 c7 s21 a21 n21 c21 s10_13 a10_13 n10_13 c10_13) (by kernel_rfl) (by kernel_rfl) ?_ ?_ ?_
        · intro y
          exact ⟨HEE.out, Below.drewExt _ |>.stay, HS.out, HRR2.out, HRR3.out, HRR4.out, by simp, by simp, by simp, by simp, by simp, by simp⟩
        · intro Q
          refine AllF.cons rfl ?_ ?_
          · skip
            with_reducible refine StepF.dst (d := 92) (by kernel_rfl) (by kernel_rfl) ?_
            intro L y w hi hp h K hK
            simp only [putAll, List.foldl, Act.put, List.setIfInBounds_toArray, List.set_cons_zero, List.set_cons_succ] at hK ⊢
            have HK := Lib.hid hK
            clear hK
            obtain ⟨cc0, cc1, cc2, cc3, cc4, cc5⟩ := h.out.cs
            go_simp
            refine HK.out _ _ ?_
            have k := h.out
            exact ⟨k.e, k.st, k.cs, k.r2, k.r3, k.r4, fun _ => upd_eq, k.f1, k.f2, k.a0, k.a1, k.a2⟩
          refine AllF.cons rfl ?_ ?_
          · skip
            with_reducible refine StepF.dst (d := 93) (by kernel_rfl) (by kernel_rfl) ?_
            intro L y w hi hp h K hK
            simp only [putAll, List.foldl, Act.put, List.setIfInBounds_toArray, List.set_cons_zero, List.set_cons_succ] at hK ⊢
            have HK := Lib.hid hK
            clear hK
            obtain ⟨cc0, cc1, cc2, cc3, cc4, cc5⟩ := h.out.cs
            go_simp
            refine HK.out _ _ ?_
            have k := h.out
            exact ⟨k.e, k.st, k.cs, k.r2, k.r3, k.r4, k.f0, fun _ => upd_eq, k.f2, k.a0, k.a1, k.a2⟩
          refine AllF.cons rfl ?_ ?_
          · skip
            with_reducible refine StepF.dst (d := 94) (by kernel_rfl) (by kernel_rfl) ?_
            intro L y w hi hp h K hK
            simp only [putAll, List.foldl, Act.put, List.setIfInBounds_toArray, List.set_cons_zero, List.set_cons_succ] at hK ⊢
            have HK := Lib.hid hK
            clear hK
            obtain ⟨cc0, cc1, cc2, cc3, cc4, cc5⟩ := h.out.cs
            go_simp
            refine HK.out _ _ ?_
            have k := h.out
            exact ⟨k.e, k.st, k.cs, k.r2, k.r3, k.r4, k.f0, k.f1, fun _ => upd_eq, k.a0, k.a1, k.a2⟩
          refine AllF.cons rfl ?_ ?_
          · skip
            with_reducible refine StepF.none ?_
            intro L y w hi hp h K hK
            simp only [putAll, List.foldl, Act.put, List.setIfInBounds_toArray, List.set_cons_zero, List.set_cons_succ] at hK ⊢
            have HK := Lib.hid hK
            clear hK
            have g := h.out.f0 (hp.out 0 (by kernel_rfl))
            simp only [g] at HK
            obtain ⟨s6, a6, n6, c6, hb6⟩ := h.out.r2
            have HB6 := Lib.hid hb6
            have cc0 := hb6.cell (i := 0) rfl
            have cc1 := hb6.cell (i := 1) rfl
            have ff0 := hb6.free 0
            have ff1 := hb6.free 1
            clear hb6
            go_simp
            refine HK.out _ ?_
            have k := h.out
            exact ⟨(k.e.store' HB (by omega) 0 _).store' HB (by omega) 1 _, k.st.trans (stay_st2 HB6.out _ _), KF.out _ _ _ _ lt2 k.cs, ⟨_, _, _, _, Blk.st2 HB6.out _ _⟩, PlaceI.st2_other k.r3 (Ne.symm h23) _ _, PlaceI.st2_other k.r4 (Ne.symm h24) _ _, k.f0, k.f1, k.f2, fun _ => Blk.st2 HB6.out _ _, fun z => Blk.st2_other (k.a1 z) (Ne.symm h23) _ _, fun z => Blk.st2_other (k.a2 z) (Ne.symm h24) _ _⟩
          refine AllF.cons rfl ?_ ?_
          · skip
            with_reducible refine StepF.none ?_
            intro L y w hi hp h K hK
            simp only [putAll, List.foldl, Act.put, List.setIfInBounds_toArray, List.set_cons_zero, List.set_cons_succ] at hK ⊢
            have HK := Lib.hid hK
            clear hK
            have g := h.out.f1 (hp.out 1 (by kernel_rfl))
            simp only [g] at HK
            obtain ⟨s6, a6, n6, c6, hb6⟩ := h.out.r3
            have HB6 := Lib.hid hb6
            have cc0 := hb6.cell (i := 0) rfl
            have cc1 := hb6.cell (i := 1) rfl
            have ff0 := hb6.free 0
            have ff1 := hb6.free 1
            clear hb6
            go_simp
            refine HK.out _ ?_
            have k := h.out
            exact ⟨(k.e.store' HB (by omega) 0 _).store' HB (by omega) 1 _, k.st.trans (stay_st2 HB6.out _ _), KF.out _ _ _ _ lt3 k.cs, PlaceI.st2_other k.r2 h23 _ _, ⟨_, _, _, _, Blk.st2 HB6.out _ _⟩, PlaceI.st2_other k.r4 (Ne.symm h34) _ _, k.f0, k.f1, k.f2, fun z => Blk.st2_other (k.a0 z) h23 _ _, fun _ => Blk.st2 HB6.out _ _, fun z => Blk.st2_other (k.a2 z) (Ne.symm h34) _ _⟩
          refine AllF.cons rfl ?_ ?_
          · skip
            with_reducible refine StepF.none ?_
            intro L y w hi hp h K hK
            simp only [putAll, List.foldl, Act.put, List.setIfInBounds_toArray, List.set_cons_zero, List.set_cons_succ] at hK ⊢
            have HK := Lib.hid hK
            clear hK
            have g := h.out.f2 (hp.out 2 (by kernel_rfl))
            simp only [g] at HK
            obtain ⟨s6, a6, n6, c6, hb6⟩ := h.out.r4
            have HB6 := Lib.hid hb6
            have cc0 := hb6.cell (i := 0) rfl
            have cc1 := hb6.cell (i := 1) rfl
            have ff0 := hb6.free 0
            have ff1 := hb6.free 1
            clear hb6
            go_simp
            refine HK.out _ ?_
            have k := h.out
            exact ⟨(k.e.store' HB (by omega) 0 _).store' HB (by omega) 1 _, k.st.trans (stay_st2 HB6.out _ _), KF.out _ _ _ _ lt4 k.cs, PlaceI.st2_other k.r2 h24 _ _, PlaceI.st2_other k.r3 h34 _ _, ⟨_, _, _, _, Blk.st2 HB6.out _ _⟩, k.f0, k.f1, k.f2, fun z => Blk.st2_other (k.a0 z) h24 _ _, fun z => Blk.st2_other (k.a1 z) h34 _ _, fun _ => Blk.st2 HB6.out _ _⟩
          exact trivial
        · intro L y wF hL h
          have HA2 := Lib.hid (h.a0 (hL 3 (by decide)))
          have HA3 := Lib.hid (h.a1 (hL 4 (by decide)))
          have HA4 := Lib.hid (h.a2 (hL 5 (by decide)))
          have HSt := Lib.hid h.st
          have HEx := Lib.hid h.e
          simp only [putAll, List.foldl, Act.put, List.setIfInBounds_toArray, List.set_cons_zero, List.set_cons_succ]
          clear hL h
          go_wp2_with fail
          refine bodyPost_ret (results_ccc rfl rfl (load_int HA2.out) rfl (load_int HA3.out) rfl (load_int HA4.out)) rfl ?_
          have i7 := intV_W2 (HV7.out.ext ((((x4.trans xb5).trans x8).trans xb9).trans xE10))
          have i21 := intV_W2 (HV21.out.ext (xb9.trans xE10))
          have i23 := intV_W2 HV10_13.out
          exact ⟨⟨_, _, _, _, _, _, rfl, ⟨_, _, _, _, rfl, IntW.stay i7 HSt.out⟩, ⟨_, _, _, _, rfl, IntW.stay i21 HSt.out⟩, ⟨_, _, _, _, rfl, IntW.stay i23 HSt.out⟩, HRes.out⟩, HEx.out⟩
    · have hlen := HW9.out.2.hlen
      have hpos := digs_pos_len (show 0 < (gy.natAbs : Int) by omega)
      rw [hlen] at hpos
      obtain ⟨m9, rfl⟩ : ∃ m, n9 = m + 1 := ⟨n9 - 1, by omega⟩
      have HY0 := Lib.hid hy0
      clear hlen hpos hy0
      obtain ⟨cc7_0_1, cc7_1_1⟩ := KB7.out wr (Ext.refl _)
      obtain ⟨cc9_0_2, cc9_1_2⟩ := KB9.out wr (Ext.refl _)
      go_wp2_with fail
      clear cc7_0_1 cc7_1_1 cc9_0_2 cc9_1_2
      refine (rdivmod_any _ _ gx gy _ HV7.out HV9.out (F7.out.mono (by omega)) (F9.out.mono (by omega)) (by have := HY0.out; omega)).mono ?_
      rintro e w3 ⟨⟨_, _, rfl, ⟨s13, a13, n13, c13, rfl, h13⟩, ⟨s14, a14, n14, c14, rfl, h14⟩⟩, x3⟩
      have HV13 : Hid (IntV w3 (.agg #[.bool s13, .slice a13 n13 c13]) (gx / gy)) := Lib.hid ⟨_, _, _, _, rfl, h13⟩
      have HV14 : Hid (IntV w3 (.agg #[.bool s14, .slice a14 n14 c14]) (gx % gy)) := Lib.hid ⟨_, _, _, _, rfl, h14⟩
      clear h13 h14
      have F13 : Hid (Fits (gx / gy) 1000) := Lib.hid (fits_le F7.out (Int.natAbs_ediv_le_natAbs gx gy))
      have F62 : Hid (Fits (gs - gx / gy * gt) 2002) := Lib.hid (Fits.sub (F11.out.mono (show 1000 ≤ 2001 by omega)) ((F13.out.mul F12.out).mono (by omega)))
      obtain ⟨D4, wb4, hD4, hw4, hb4_0, hb4_1, xb4⟩ := two w3 24 24 [.bool s13, .slice a13 n13 c13] [.bool s14, .slice a14 n14 c14]
      have KB13 : Hid (∀ W, Ext wb4 W → W.cell? ⟨D4, 0, none⟩ = some (.bool s13) ∧ W.cell? ⟨D4, 1, none⟩ = some (.slice a13 n13 c13)) := Lib.hid fun W h => ⟨h.cell (hb4_0.cell (i := 0) rfl), h.cell (hb4_0.cell (i := 1) rfl)⟩
      have HP13 := Lib.hid hb4_0
      have NHP13 : Hid (w3.heap.size ≤ D4) := Lib.hid (by omega)
      have KB14 : Hid (∀ W, Ext wb4 W → W.cell? ⟨D4 + 1, 0, none⟩ = some (.bool s14) ∧ W.cell? ⟨D4 + 1, 1, none⟩ = some (.slice a14 n14 c14)) := Lib.hid fun W h => ⟨h.cell (hb4_1.cell (i := 0) rfl), h.cell (hb4_1.cell (i := 1) rfl)⟩
      have HP14 := Lib.hid hb4_1
      have NHP14 : Hid (w3.heap.size ≤ D4 + 1) := Lib.hid (by omega)
      clear hb4_0 hb4_1
      have F61 := Lib.hid (F13.out.mul F12.out)
      have hq4 := hw4.symm
      have hp4 := hD4.symm
      clear hw4 hD4
      go_wp2_with fail
      clear hq4 hp4
      refine wp_region_facts [58, 59, 60, 61, 62, 16] (RBez9 wb4 s11 a11 n11 c11 s13 a13 n13 c13 s12 a12 n12 c12 (gx / gy * gt) (gs - gx / gy * gt)) (by kernel_rfl) (by kernel_rfl) ?_ ?_ ?_
      · intro y
        exact ⟨(Ext.refl _).drew, by simp, by simp, by simp, by simp, by simp, by simp, by simp, by simp⟩
      · intro Q
        refine AllF.cons rfl ?_ ?_
        · skip
          with_reducible refine StepF.dst (d := 58) (by kernel_rfl) (by kernel_rfl) ?_
          intro L y w hi hp h K hK
          simp only [putAll, List.foldl, Act.put, List.setIfInBounds_toArray, List.set_cons_zero, List.set_cons_succ] at hK ⊢
          have HK := Lib.hid hK
          clear hK
          obtain ⟨cc0, cc1⟩ := KB11.out w ((x3.trans xb4).trans h.out.e)
          go_simp
          refine HK.out _ _ ?_
          have k := h.out
          exact ⟨k.e, fun _ => upd_eq, k.f1, k.f2, k.f3, k.f4, k.f5, k.f6, k.c6⟩
        refine AllF.cons rfl ?_ ?_
        · skip
          with_reducible refine StepF.dst (d := 59) (by kernel_rfl) (by kernel_rfl) ?_
          intro L y w hi hp h K hK
          simp only [putAll, List.foldl, Act.put, List.setIfInBounds_toArray, List.set_cons_zero, List.set_cons_succ] at hK ⊢
          have HK := Lib.hid hK
          clear hK
          obtain ⟨cc0, cc1⟩ := KB13.out w ((Ext.refl _).trans h.out.e)
          go_simp
          refine HK.out _ _ ?_
          have k := h.out
          exact ⟨k.e, k.f0, fun _ => upd_eq, k.f2, k.f3, k.f4, k.f5, k.f6, k.c6⟩
        refine AllF.cons rfl ?_ ?_
        · skip
          with_reducible refine StepF.dst (d := 60) (by kernel_rfl) (by kernel_rfl) ?_
          intro L y w hi hp h K hK
          simp only [putAll, List.foldl, Act.put, List.setIfInBounds_toArray, List.set_cons_zero, List.set_cons_succ] at hK ⊢
          have HK := Lib.hid hK
          clear hK
          obtain ⟨cc0, cc1⟩ := KB12.out w ((x3.trans xb4).trans h.out.e)
          go_simp
          refine HK.out _ _ ?_
          have k := h.out
          exact ⟨k.e, k.f0, k.f1, fun _ => upd_eq, k.f3, k.f4, k.f5, k.f6, k.c6⟩
        refine AllF.cons rfl ?_ ?_
        · skip
          with_reducible refine StepF.dst (d := 61) (by kernel_rfl) (by kernel_rfl) ?_
          intro L y w hi hp h K hK
          simp only [putAll, List.foldl, Act.put, List.setIfInBounds_toArray, List.set_cons_zero, List.set_cons_succ] at hK ⊢
          have HK := Lib.hid hK
          clear hK
          have g1 := h.out.f1 (hp.out 1 (by kernel_rfl))
          have g2 := h.out.f2 (hp.out 2 (by kernel_rfl))
          simp only [g1, g2] at HK
          go_simp
          refine (rmul_any _ _ (gx / gy) gt _ ((HV13.out.ext xb4).ext h.out.e) ((HV12.out.ext (x3.trans xb4)).ext h.out.e) (F13.out.mono (by omega)) (F12.out.mono (by omega))).mono ?_
          rintro e w4 ⟨⟨v, rfl, hr⟩, he4⟩
          clear g1 g2
          go_simp
          refine HK.out _ _ ?_
          have k := h.out.ext he4
          exact ⟨k.e, k.f0, k.f1, k.f2, fun _ => by rw [upd_eq]; exact hr, k.f4, k.f5, k.f6, k.c6⟩
        refine AllF.cons rfl ?_ ?_
        · skip
          with_reducible refine StepF.dst (d := 62) (by kernel_rfl) (by kernel_rfl) ?_
          intro L y w hi hp h K hK
          simp only [putAll, List.foldl, Act.put, List.setIfInBounds_toArray, List.set_cons_zero, List.set_cons_succ] at hK ⊢
          have HK := Lib.hid hK
          clear hK
          have g0 := h.out.f0 (hp.out 0 (by kernel_rfl))
          simp only [g0] at HK
          have g3 := h.out.f3 (hp.out 3 (by kernel_rfl))
          have G3 := Lib.hid g3
          clear g3
          go_simp
          refine (rsub_any _ _ gs (gx / gy * gt) _ ((HV11.out.ext (x3.trans xb4)).ext h.out.e) G3.out (F11.out.mono (by omega)) (F61.out.mono (by omega))).mono ?_
          rintro e w4 ⟨⟨v, rfl, hr⟩, he4⟩
          clear g0
          go_simp
          refine HK.out _ _ ?_
          have k := h.out.ext he4
          exact ⟨k.e, k.f0, k.f1, k.f2, k.f3, fun _ => by rw [upd_eq]; exact hr, k.f5, k.f6, k.c6⟩
        refine AllF.cons rfl ?_ ?_
        · skip
          with_reducible refine StepF.dst (d := 16) (by kernel_rfl) (by kernel_rfl) ?_
          intro L y w hi hp h K hK
          simp only [putAll, List.foldl, Act.put, List.setIfInBounds_toArray, List.set_cons_zero, List.set_cons_succ] at hK ⊢
          have HK := Lib.hid hK
          clear hK
          go_simp
          refine HK.out _ _ ?_
          have k := h.out.ext ((Ext.refl w).alloc (.cells #[.bool false, .slice none 0 0] 24))
          exact ⟨k.e, k.f0, k.f1, k.f2, k.f3, k.f4, fun _ => by rw [upd_eq]; exact roomI_new h.out.e, fun q => absurd (h.out.c6 q) (by rw [hi.out]; simp), fun _ => rfl⟩
        refine AllF.cons rfl ?_ ?_
        · skip
          with_reducible refine StepF.none ?_
          intro L y w hi hp h K hK
          simp only [putAll, List.foldl, Act.put, List.setIfInBounds_toArray, List.set_cons_zero, List.set_cons_succ] at hK ⊢
          have HK := Lib.hid hK
          clear hK
          obtain ⟨s8, a8, n8, c8, g8, h8⟩ := h.out.f4 (hp.out 4 (by kernel_rfl))
          have H8 := Lib.hid h8
          clear h8
          obtain ⟨P, s6, a6, n6, c6, g6, hb6, hm6⟩ := h.out.f5 (hp.out 5 (by kernel_rfl))
          simp only [g8, g6] at HK
          have HB6 := Lib.hid hb6
          have cc0 := hb6.cell (i := 0) rfl
          have cc1 := hb6.cell (i := 1) rfl
          have ff0 := hb6.free 0
          have ff1 := hb6.free 1
          clear hb6
          go_simp
          refine HK.out _ ?_
          have k := h.out
          have hs := stay_st2 HB6.out (.bool s8) (.slice a8 n8 c8)
          exact ⟨ext_st2 k.e hm6 _ _, k.f0, k.f1, k.f2, fun z => (k.f3 z).stay hs, fun z => (k.f4 z).stay hs, fun _ => ⟨_, _, _, _, _, g6, Blk.st2 HB6.out _ _, hm6⟩, fun _ => ⟨_, _, _, _, _, g6, Blk.st2 HB6.out _ _, hm6, IntW.stay H8.out hs⟩, fun _ => hp.out 5 (by kernel_rfl)⟩
        exact trivial
      · intro L y wE5 hL h
        have xE5 := h.e
        obtain ⟨U5_6, s5_6, a5_6, n5_6, c5_6, ey5_6, hb5_6, hm5_6, hu5_6⟩ := h.f6 (hL 6 (by decide))
        have HV5_6 : Hid (IntV wE5 (.agg #[.bool s5_6, .slice a5_6 n5_6 c5_6]) (gs - gx / gy * gt)) := Lib.hid ⟨_, _, _, _, rfl, hu5_6⟩
        have HM5_6 := Lib.hid hm5_6
        have HBU5_6 := Lib.hid hb5_6
        simp only [putAll, List.foldl, Act.put, List.setIfInBounds_toArray, List.set_cons_zero, List.set_cons_succ]
        simp only [ey5_6]
        clear hL h ey5_6 hu5_6 hm5_6
        have KB16 : Hid (∀ W, Ext wE5 W → W.cell? ⟨U5_6, 0, none⟩ = some (.bool s5_6) ∧ W.cell? ⟨U5_6, 1, none⟩ = some (.slice a5_6 n5_6 c5_6)) := Lib.hid fun W h => ⟨h.cell (hb5_6.cell (i := 0) rfl), h.cell (hb5_6.cell (i := 1) rfl)⟩
        clear hb5_6
        have b0_7 := HB7.out.ext ((x3.trans xb4).trans xE5)
        have e14_7 : D4 + 1 ≠ Q7 := by have u1 := HB7.out.lt; have u2 := x3.size; have u3 := NHP14.out; omega
        have e16_7 : U5_6 ≠ Q7 := by have u1 := HB7.out.lt; have u2 := (x3.trans xb4).size; have u3 := HM5_6.out; omega
        have b0_9 := HB9.out.ext ((x3.trans xb4).trans xE5)
        have e14_9 : D4 + 1 ≠ Q9 := by have u1 := HB9.out.lt; have u2 := x3.size; have u3 := NHP14.out; omega
        have e16_9 : U5_6 ≠ Q9 := by have u1 := HB9.out.lt; have u2 := (x3.trans xb4).size; have u3 := HM5_6.out; omega
        have b0_11 := HB11.out.ext ((x3.trans xb4).trans xE5)
        have e14_11 : D4 + 1 ≠ Q11 := by have u1 := HB11.out.lt; have u2 := x3.size; have u3 := NHP14.out; omega
        have e16_11 : U5_6 ≠ Q11 := by have u1 := HB11.out.lt; have u2 := (x3.trans xb4).size; have u3 := HM5_6.out; omega
        have b0_12 := HB12.out.ext ((x3.trans xb4).trans xE5)
        have e14_12 : D4 + 1 ≠ Q12 := by have u1 := HB12.out.lt; have u2 := x3.size; have u3 := NHP14.out; omega
        have e16_12 : U5_6 ≠ Q12 := by have u1 := HB12.out.lt; have u2 := (x3.trans xb4).size; have u3 := HM5_6.out; omega
        have b0_14 := HP14.out.ext xE5
        have b0_16 := HBU5_6.out
        have S0 := Stay.refl wE5
        have X0 := (((hE.trans x3).trans xb4).trans xE5)
        obtain ⟨V1, hV1⟩ : ∃ V, V = st2 wE5 Q7 (.bool s9) (.slice a9 (m9 + 1) c9) := ⟨_, rfl⟩
        have b1_7 := Blk.st2 b0_7 (.bool s9) (.slice a9 (m9 + 1) c9)
        have b1_9 := Blk.st2_other b0_9 E7_9 (.bool s9) (.slice a9 (m9 + 1) c9)
        have b1_11 := Blk.st2_other b0_11 E7_11 (.bool s9) (.slice a9 (m9 + 1) c9)
        have b1_12 := Blk.st2_other b0_12 E7_12 (.bool s9) (.slice a9 (m9 + 1) c9)
        have b1_14 := Blk.st2_other b0_14 (Ne.symm e14_7) (.bool s9) (.slice a9 (m9 + 1) c9)
        have b1_16 := Blk.st2_other b0_16 (Ne.symm e16_7) (.bool s9) (.slice a9 (m9 + 1) c9)
        have S1 := S0.trans (stay_st2 b0_7 (.bool s9) (.slice a9 (m9 + 1) c9))
        have X1 := ext_st2 X0 M7.out (.bool s9) (.slice a9 (m9 + 1) c9)
        rw [← hV1] at b1_7 b1_9 b1_11 b1_12 b1_14 b1_16 S1 X1
        have q1 : (wE5.setCell ⟨Q7, 0, none⟩ (.bool s9)).setCell ⟨Q7, 1, none⟩ (.slice a9 (m9 + 1) c9) = V1 := hV1.symm
        have z0_9_0 := b0_9.cell (i := 0) rfl
        have z0_9_1 := b0_9.cell (i := 1) rfl
        have z0_7_0 := b0_7.cell (i := 0) rfl
        have z0_7_1 := b0_7.cell (i := 1) rfl
        have f0_0 := b0_7.free 0
        have f0_1 := b0_7.free 1
        obtain ⟨V2, hV2⟩ : ∃ V, V = st2 V1 Q9 (.bool s14) (.slice a14 n14 c14) := ⟨_, rfl⟩
        have b2_7 := Blk.st2_other b1_7 (Ne.symm E7_9) (.bool s14) (.slice a14 n14 c14)
        have b2_9 := Blk.st2 b1_9 (.bool s14) (.slice a14 n14 c14)
        have b2_11 := Blk.st2_other b1_11 E9_11 (.bool s14) (.slice a14 n14 c14)
        have b2_12 := Blk.st2_other b1_12 E9_12 (.bool s14) (.slice a14 n14 c14)
        have b2_14 := Blk.st2_other b1_14 (Ne.symm e14_9) (.bool s14) (.slice a14 n14 c14)
        have b2_16 := Blk.st2_other b1_16 (Ne.symm e16_9) (.bool s14) (.slice a14 n14 c14)
        have S2 := S1.trans (stay_st2 b1_9 (.bool s14) (.slice a14 n14 c14))
        have X2 := ext_st2 X1 M9.out (.bool s14) (.slice a14 n14 c14)
        rw [← hV2] at b2_7 b2_9 b2_11 b2_12 b2_14 b2_16 S2 X2
        have q2 : (V1.setCell ⟨Q9, 0, none⟩ (.bool s14)).setCell ⟨Q9, 1, none⟩ (.slice a14 n14 c14) = V2 := hV2.symm
        have z1_14_0 := b1_14.cell (i := 0) rfl
        have z1_14_1 := b1_14.cell (i := 1) rfl
        have z1_9_0 := b1_9.cell (i := 0) rfl
        have z1_9_1 := b1_9.cell (i := 1) rfl
        have f1_0 := b1_9.free 0
        have f1_1 := b1_9.free 1
        obtain ⟨V3, hV3⟩ : ∃ V, V = st2 V2 Q11 (.bool s12) (.slice a12 n12 c12) := ⟨_, rfl⟩
        have b3_7 := Blk.st2_other b2_7 (Ne.symm E7_11) (.bool s12) (.slice a12 n12 c12)
        have b3_9 := Blk.st2_other b2_9 (Ne.symm E9_11) (.bool s12) (.slice a12 n12 c12)
        have b3_11 := Blk.st2 b2_11 (.bool s12) (.slice a12 n12 c12)
        have b3_12 := Blk.st2_other b2_12 E11_12 (.bool s12) (.slice a12 n12 c12)
        have b3_14 := Blk.st2_other b2_14 (Ne.symm e14_11) (.bool s12) (.slice a12 n12 c12)
        have b3_16 := Blk.st2_other b2_16 (Ne.symm e16_11) (.bool s12) (.slice a12 n12 c12)
        have S3 := S2.trans (stay_st2 b2_11 (.bool s12) (.slice a12 n12 c12))
        have X3 := ext_st2 X2 M11.out (.bool s12) (.slice a12 n12 c12)
        rw [← hV3] at b3_7 b3_9 b3_11 b3_12 b3_14 b3_16 S3 X3
        have q3 : (V2.setCell ⟨Q11, 0, none⟩ (.bool s12)).setCell ⟨Q11, 1, none⟩ (.slice a12 n12 c12) = V3 := hV3.symm
        have z2_12_0 := b2_12.cell (i := 0) rfl
        have z2_12_1 := b2_12.cell (i := 1) rfl
        have z2_11_0 := b2_11.cell (i := 0) rfl
        have z2_11_1 := b2_11.cell (i := 1) rfl
        have f2_0 := b2_11.free 0
        have f2_1 := b2_11.free 1
        obtain ⟨V4, hV4⟩ : ∃ V, V = st2 V3 Q12 (.bool s5_6) (.slice a5_6 n5_6 c5_6) := ⟨_, rfl⟩
        have b4_7 := Blk.st2_other b3_7 (Ne.symm E7_12) (.bool s5_6) (.slice a5_6 n5_6 c5_6)
        have b4_9 := Blk.st2_other b3_9 (Ne.symm E9_12) (.bool s5_6) (.slice a5_6 n5_6 c5_6)
        have b4_11 := Blk.st2_other b3_11 (Ne.symm E11_12) (.bool s5_6) (.slice a5_6 n5_6 c5_6)
        have b4_12 := Blk.st2 b3_12 (.bool s5_6) (.slice a5_6 n5_6 c5_6)
        have b4_14 := Blk.st2_other b3_14 (Ne.symm e14_12) (.bool s5_6) (.slice a5_6 n5_6 c5_6)
        have b4_16 := Blk.st2_other b3_16 (Ne.symm e16_12) (.bool s5_6) (.slice a5_6 n5_6 c5_6)
        have S4 := S3.trans (stay_st2 b3_12 (.bool s5_6) (.slice a5_6 n5_6 c5_6))
        have X4 := ext_st2 X3 M12.out (.bool s5_6) (.slice a5_6 n5_6 c5_6)
        rw [← hV4] at b4_7 b4_9 b4_11 b4_12 b4_14 b4_16 S4 X4
        have q4 : (V3.setCell ⟨Q12, 0, none⟩ (.bool s5_6)).setCell ⟨Q12, 1, none⟩ (.slice a5_6 n5_6 c5_6) = V4 := hV4.symm
        have z3_16_0 := b3_16.cell (i := 0) rfl
        have z3_16_1 := b3_16.cell (i := 1) rfl
        have z3_12_0 := b3_12.cell (i := 0) rfl
        have z3_12_1 := b3_12.cell (i := 1) rfl
        have f3_0 := b3_12.free 0
        have f3_1 := b3_12.free 1
        have K4_7 := Lib.hid b4_7
        have K4_9 := Lib.hid b4_9
        have K4_11 := Lib.hid b4_11
        have K4_12 := Lib.hid b4_12
        have K4_14 := Lib.hid b4_14
        have K4_16 := Lib.hid b4_16
        clear b0_7 b0_9 b0_11 b0_12 b0_14 b0_16
        clear b1_7 b1_9 b1_11 b1_12 b1_14 b1_16
        clear b2_7 b2_9 b2_11 b2_12 b2_14 b2_16
        clear b3_7 b3_9 b3_11 b3_12 b3_14 b3_16
        clear b4_7 b4_9 b4_11 b4_12 b4_14 b4_16
        have HS4 := Lib.hid S4
        have HX4 := Lib.hid X4
        clear S0 S1 S2 S3 S4 X0 X1 X2 X3 X4 hV1 hV2 hV3 hV4
        go_wp2_with fail
        go_roundw
        case rel => exact ⟨gy, gx % gy, gt, gs - gx / gy * gt, ⟨_, _, _, _, K4_7.out, IntW.stay (intV_W2 (HV9.out.ext ((x3.trans xb4).trans xE5))) HS4.out⟩, ⟨_, _, _, _, K4_9.out, IntW.stay (intV_W2 (HV14.out.ext (xb4.trans xE5))) HS4.out⟩, ⟨_, _, _, _, K4_11.out, IntW.stay (intV_W2 (HV12.out.ext ((x3.trans xb4).trans xE5))) HS4.out⟩, ⟨_, _, _, _, K4_12.out, IntW.stay (intV_W2 HV5_6.out) HS4.out⟩, HIr.out.step (by have := HIr.out.p1; have := HY0.out; omega), HX4.out⟩
        case measure =>
          rw [cval_eq (K4_9.out.cell (i := 1) rfl) (IntW.stay (intV_W2 (HV14.out.ext (xb4.trans xE5))) HS4.out), cval_eq (HB9.out.cell (i := 1) rfl) HW9.out]
          have h1 := Int.emod_nonneg gx (show gy ≠ 0 by have := HY0.out; omega)
          have h2 := Int.emod_lt_of_pos gx (show 0 < gy by have := HIr.out.p1; have := HY0.out; omega)
          omega
/-- The cofactors are no others. -/
theorem BezRes.uniq {a b g u v g' u' v' : Int} (hb : b ≠ 0) (h : BezRes a b g u v) (h' : BezRes a b g' u' v') : g = g' ∧ u = u' ∧ v = v' := by
  obtain ⟨hg, h1, h2, h3⟩ := h
  obtain ⟨hg', h1', h2', h3'⟩ := h'
  have e : g = g' := by rw [hg, hg']
  subst e
  have hgb : g ∣ b := by rw [hg]; exact Int.gcd_dvd_right ..
  have hga : g ∣ a := by rw [hg]; exact Int.gcd_dvd_left ..
  obtain ⟨m, hm⟩ := hgb
  obtain ⟨n, hn⟩ := hga
  have hg0 : g ≠ 0 := by
    intro e
    rw [e, Int.zero_mul] at hm
    exact hb hm
  have hmd : b / g = m := by rw [hm, Int.mul_ediv_cancel_left _ hg0]
  rw [hmd] at h3 h3'
  have key : (u - u') * a = (v' - v) * b := by rw [Int.sub_mul, Int.sub_mul]; omega
  have key2 : (u - u') * n = (v' - v) * m := by
    have : g * ((u - u') * n) = g * ((v' - v) * m) := by
      rw [Int.mul_left_comm, ← hn, Int.mul_left_comm, ← hm]; exact key
    exact Int.eq_of_mul_eq_mul_left hg0 this
  have hbez : u * n + v * m = 1 := by
    have : g * (u * n + v * m) = g * 1 := by
      rw [Int.mul_add, Int.mul_left_comm, ← hn, Int.mul_left_comm, ← hm, Int.mul_one]; exact h1
    exact Int.eq_of_mul_eq_mul_left hg0 this
  have hd : m ∣ u - u' := by
    refine ⟨u * (v' - v) + (u - u') * v, ?_⟩
    have h4 : (u - u') * (u * n + v * m) = u - u' := by rw [hbez, Int.mul_one]
    rw [Int.mul_add, Int.mul_left_comm (u - u') u n, key2] at h4
    have h5 : m * (u * (v' - v) + (u - u') * v) = u * ((v' - v) * m) + (u - u') * (v * m) := by
      rw [Int.mul_add, Int.mul_left_comm m u, Int.mul_left_comm m (u - u'), Int.mul_comm m (v' - v), Int.mul_comm m v]
    rw [h5, h4]
  have hu : u = u' := by
    apply Decidable.byContradiction
    intro hne
    have h5 := Int.natAbs_dvd_natAbs.2 hd
    have h6 := Nat.le_of_dvd (by omega) h5
    omega
  subst hu
  refine ⟨rfl, rfl, ?_⟩
  have h7 : v * b = v' * b := by omega
  exact Int.eq_of_mul_eq_mul_right hb h7
end Go.Proofs.YtddcgojpgdhefaaGreatDoor
