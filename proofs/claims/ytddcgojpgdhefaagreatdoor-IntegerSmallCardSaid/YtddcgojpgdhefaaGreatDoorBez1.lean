/- integer.Bezout, divisor 0. -/
import Derived.Test.YtddcgojpgdhefaaGreatDoorGcd
namespace Go.El
open Go.RowKit
theorem five (w : World) (E F G I J : TypeId) (a b c d e : List Value) : ∃ B w0, B = w.heap.size ∧ w0 = ((((w.alloc (.cells a.toArray E)).alloc (.cells b.toArray F)).alloc (.cells c.toArray G)).alloc (.cells d.toArray I)).alloc (.cells e.toArray J) ∧ Blk w0 B E a ∧ Blk w0 (B + 1) F b ∧ Blk w0 (B + 1 + 1) G c ∧ Blk w0 (B + 1 + 1 + 1) I d ∧ Blk w0 (B + 1 + 1 + 1 + 1) J e ∧ Ext w w0 := by
  obtain ⟨B, w0, h1, h2, h3, h4, h5, h6, h7⟩ := four w E F G I a b c d
  subst h1
  subst h2
  refine ⟨_, _, rfl, rfl, h3.alloc _, h4.alloc _, h5.alloc _, h6.alloc _, ?_, h7.alloc _⟩
  have := Blk.new ((((w.alloc (.cells a.toArray E)).alloc (.cells b.toArray F)).alloc (.cells c.toArray G)).alloc (.cells d.toArray I)) J e
  rw [World.size_alloc', World.size_alloc', World.size_alloc', World.size_alloc'] at this
  exact this
theorem Blk.other2 {w : World} {b c : Nat} {E : TypeId} {cs : List Value} (h : Blk w b E cs) (hne : c ≠ b) (x y : Value) : Blk ((w.setCell ⟨c, 0, none⟩ x).setCell ⟨c, 1, none⟩ y) b E cs := (h.other (p := ⟨c, 0, none⟩) hne x).other (p := ⟨c, 1, none⟩) hne y
theorem Ext.set2' {a w : World} (h : Ext a w) {B b : Nat} (hB : Hid (B = a.heap.size)) (hle : B ≤ b) (x y : Value) : Ext a ((w.setCell ⟨b, 0, none⟩ x).setCell ⟨b, 1, none⟩ y) := (h.store' hB hle 0 x).store' hB hle 1 y
end Go.El
namespace Go.Proofs.YtddcgojpgdhefaaGreatDoor
open Go.RowKit Go.El
set_option linter.unusedVariables false
set_option maxRecDepth 100000 in
set_option maxHeartbeats 400000 in
theorem bezout_zero (x y : Value) (a : Int) (w : World) (hx : IntV w x a) (hy : IntV w y 0) (ha : Fits a 1073741824) :
    Calls Tryz.prog 35 #[x, y] w fun e w' => (∃ g u v, e = .returned (.tuple #[g, u, v]) ∧ IntV w' g a.natAbs ∧ IntV w' u (sgn a 0) ∧ IntV w' v 0) ∧ Ext w w' := by
  have HXV := Lib.hid hx
  obtain ⟨na, ax, nx, cx, rfl, hna, hwx⟩ := hx
  obtain ⟨nb, ay, ny, cy, rfl, hnb, hwy⟩ := hy
  obtain rfl : ny = 0 := by rw [← hwy.hlen, Int.natAbs_zero, Int.ofNat_zero, digs_zero]; rfl
  have hnx : Hid (nx ≤ 1073741824) := by rw [← hwx.hlen]; exact ha.len
  obtain ⟨B, w0, hB, hw0, hb0, hb1, hb2, hb3, hb4, he0⟩ := five w 24 24 24 24 24 [.bool na, .slice ax nx cx] [.bool nb, .slice ay 0 cy] [.bool false, .slice none 0 0] [.bool false, .slice none 0 0] [.bool false, .slice none 0 0]
  have Hx := Lib.hid hwx
  have HZ : Hid (∀ b, b = false → (a.natAbs : Int) = if b = true then -(val (digs a.natAbs)) else val (digs a.natAbs)) := by
    rintro b rfl
    rw [if_neg (by simp), val_digs (by omega)]
  clear hwx hwy hna hnb ha
  obtain ⟨s, hs, hs0, hs1⟩ : ∃ s : Int, s = sgn a 0 ∧ -1 ≤ s ∧ s ≤ 1 := ⟨_, rfl, by have := sgn_cases a 0; omega, by have := sgn_cases a 0; omega⟩
  have HS := Lib.hid hs
  clear hs
  go_enter Tryz.func35, Tryz.ntmps35
  go_wp2_with fail
  rw [← hw0, ← hB]
  have c0 := hb0.cell (i := 0) rfl
  have c1 := hb0.cell (i := 1) rfl
  have HB := Lib.hid hB
  have hsz := hb4.lt
  have KH : Hid (∀ w', Below (B + 1 + 1) w0 w' → w'.cell? ⟨B, 0, none⟩ = some (.bool na) ∧ w'.cell? ⟨B, 1, none⟩ = some (.slice ax nx cx)) := fun w' h => ⟨(h.cell (p := ⟨B, 0, none⟩) (by show B < B + 1 + 1; omega)).trans c0, (h.cell (p := ⟨B, 1, none⟩) (by show B < B + 1 + 1; omega)).trans c1⟩
  clear hw0 hB hb0 hb1
  go_region_held3
    (fun w' => w'.cell? ⟨B, 0, none⟩ = some (.bool na) ∧ w'.cell? ⟨B, 1, none⟩ = some (.slice ax nx cx))
    ((refine KH.out _ ?_; repeat (first | with_reducible exact hx3 | with_reducible exact hx2 | with_reducible exact hx1 | with_reducible exact (Below.refl _ _).drew | with_reducible refine Below.set2 ?_ (by omega) _ _)))
    (first
    | (go_at_call 55; (with_reducible refine (signed_any _ _ _ _ _ (a.natAbs : Int) _ (Hx.out.ext he0.drew) (by have := hnx.out; omega) (HZ.out _ rfl)).mono ?_); rintro e w1 ⟨⟨sr, ar, nr, cr, rfl, hr⟩, he1⟩; have hx1 := (Below.refl (B + 1 + 1) w0).drew.trans (he1.upto (show B + 1 + 1 ≤ w0.heap.size by omega)))
    | (go_at_call 24; (with_reducible refine (sign_any _ a _ (HXV.out.ext (he0.drew.trans he1))).mono ?_); rintro e w2 ⟨rfl, he2⟩; rw [← HS.out]; have hx2 := hx1.trans (he2.upto (Nat.le_trans (show B + 1 + 1 ≤ w0.heap.size by omega) hx1.size)))
    | (go_at_call 31; (with_reducible refine (of_any s _ (by omega) (by omega)).mono ?_); rintro e w3 ⟨⟨v, rfl, hv⟩, he3⟩; obtain ⟨s2, a2, n2, k2, rfl, hv2⟩ := hv; have hx3 := hx2.trans (he3.upto (Nat.le_trans (show B + 1 + 1 ≤ w0.heap.size by omega) hx2.size)); have hb2' := hb2.drew.ext ((he1.trans he2).trans he3); have hb3' := hb3.drew.ext ((he1.trans he2).trans he3); have hb4' := hb4.drew.ext ((he1.trans he2).trans he3); have e0 := hb2'.cell (i := 0) rfl; have e1 := hb2'.cell (i := 1) rfl; have f0 := hb2'.free 0; have f1 := hb2'.free 1; have g0 := hb3'.cell (i := 0) rfl; have g1 := hb3'.cell (i := 1) rfl; have i0 := hb3'.free 0; have i1 := hb3'.free 1; have j0 := hb4'.cell (i := 0) rfl; have j1 := hb4'.cell (i := 1) rfl; have k0 := hb4'.free 0; have k1 := hb4'.free 1)
    )
  go_wp2_with fail
  have h23 : B + 1 + 1 + 1 ≠ B + 1 + 1 := by omega
  have h24 : B + 1 + 1 + 1 + 1 ≠ B + 1 + 1 := by omega
  have h34 : B + 1 + 1 + 1 + 1 ≠ B + 1 + 1 + 1 := by omega
  have hA := ((hb2'.set2 (.bool sr) (.slice ar nr cr)).other2 h23 (.bool s2) (.slice a2 n2 k2)).other2 h24 (.bool false) (.slice none 0 0)
  have hB2 := hb3'.other2 (Ne.symm h23) (.bool sr) (.slice ar nr cr)
  have hC2 := (hb4'.other2 (Ne.symm h24) (.bool sr) (.slice ar nr cr)).other2 (Ne.symm h34) (.bool s2) (.slice a2 n2 k2)
  have hBB := (hB2.set2 (.bool s2) (.slice a2 n2 k2)).other2 h34 (.bool false) (.slice none 0 0)
  have keep : ∀ {a n c l}, Words w3 a n c l → Words ((((((w3.setCell ⟨B + 1 + 1, 0, none⟩ (.bool sr)).setCell ⟨B + 1 + 1, 1, none⟩ (.slice ar nr cr)).setCell ⟨B + 1 + 1 + 1, 0, none⟩ (.bool s2)).setCell ⟨B + 1 + 1 + 1, 1, none⟩ (.slice a2 n2 k2)).setCell ⟨B + 1 + 1 + 1 + 1, 0, none⟩ (.bool false)).setCell ⟨B + 1 + 1 + 1 + 1, 1, none⟩ (.slice none 0 0)) a n c l := fun h => ((h.keep2 hb2' (by simp) (by simp) _ _).keep2 hB2 (by simp) (by simp) _ _).keep2 hC2 (by simp) (by simp) _ _
  refine bodyPost_ret (results_ccc rfl rfl (load_int hA) rfl (load_int hBB) rfl (load_int (hC2.set2 _ _))) rfl ?_
  refine ⟨⟨_, _, _, rfl, ⟨_, _, _, _, rfl, hr.1, keep (hr.2.ext (he2.trans he3))⟩, ⟨_, _, _, _, rfl, ?_⟩, ⟨_, _, _, _, rfl, by simp, by rw [Int.natAbs_zero, Int.ofNat_zero, digs_zero]; exact Words.nil' _⟩⟩, ?_⟩
  · rw [← HS.out]; exact ⟨hv2.1, keep hv2.2⟩
  · exact (((((((he0.drew).trans he1).trans he2).trans he3).set2' HB (by omega) _ _).set2' HB (by omega) _ _).set2' HB (by omega) _ _)
end Go.Proofs.YtddcgojpgdhefaaGreatDoor
