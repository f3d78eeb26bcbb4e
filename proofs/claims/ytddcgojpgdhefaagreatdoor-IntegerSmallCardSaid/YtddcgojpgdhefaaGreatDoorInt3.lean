/- Integers: natural, Neg, Sub. -/
import Derived.Test.YtddcgojpgdhefaaGreatDoorInt2
import Derived.Test.YtddcgojpgdhefaaGreatDoorNat1
namespace Go.Proofs.YtddcgojpgdhefaaGreatDoor
open Go.RowKit Go.El
set_option linter.unusedVariables false
set_option maxRecDepth 100000 in
set_option maxHeartbeats 1000000 in
/-- integer.Neg -/
theorem neg_any (x : Value) (a : Int) (w : World) (hx : IntV w x a) (ha : Fits a 4398046511104) :
    Calls Tryz.prog 22 #[x] w fun e w' => (∃ v, e = .returned v ∧ IntV w' v (-a)) ∧ Ext w w' := by
  obtain ⟨na, ax, nx, cx, rfl, hna, hwx⟩ := hx
  have hnx := ha.len
  rw [hwx.hlen] at hnx
  have Hx := Lib.hid hwx
  have HNa := Lib.hid hna
  clear hwx hna
  have HZ : Hid (-a = if (!na) then -(val (digs a.natAbs)) else val (digs a.natAbs)) := by
    rw [val_digs (show 0 ≤ (a.natAbs : Int) by omega)]
    exact neg_sign HNa.out
  obtain ⟨B, w0, hB, hw0, hb0, hb1, he0⟩ := two w 24 24 [.bool na, .slice ax nx cx] [.bool false, .slice none 0 0]
  go_enter Tryz.func22, Tryz.ntmps22
  go_wp2_with fail
  rw [← hw0, ← hB]
  have c0 := hb0.cell (i := 0) rfl
  have c1 := hb0.cell (i := 1) rfl
  have HB := Lib.hid hB
  clear hw0 hB hb0
  have hsz := hb1.lt
  go_wp2_with fail
  refine (signed_any _ _ _ _ _ (-a) _ (Hx.out.ext he0) hnx HZ.out).mono ?_
  rintro e w1 ⟨⟨sr, ar, nr, cr, rfl, hr⟩, he1⟩
  have hb2' := hb1.ext he1
  have e0 := hb2'.cell (i := 0) rfl
  have e1 := hb2'.cell (i := 1) rfl
  have f0 := hb2'.free 0
  have f1 := hb2'.free 1
  go_wp2_with fail
  refine bodyPost_ret (results_c rfl rfl (load_int (hb2'.set2 _ _))) rfl ?_
  exact ⟨⟨_, rfl, _, _, _, _, rfl, hr.1, hr.2.keep2 hb2' (by simp) (by simp) _ _⟩, ((he0.trans he1).store' HB (by omega) 0 _).store' HB (by omega) 1 _⟩

set_option maxRecDepth 100000 in
set_option maxHeartbeats 1000000 in
/-- integer.Sub -/
theorem sub_any (x y : Value) (a b : Int) (w : World) (hx : IntV w x a) (hy : IntV w y b) (ha : Fits a 1073741824) (hb : Fits b 1073741824) :
    Calls Tryz.prog 19 #[x, y] w fun e w' => (∃ v, e = .returned v ∧ IntV w' v (a - b)) ∧ Ext w w' := by
  have HX := Lib.hid hx
  have HY := Lib.hid hy
  obtain ⟨na, ax, nx, cx, rfl, hna, hwx⟩ := hx
  obtain ⟨nb, ay, ny, cy, rfl, hnb, hwy⟩ := hy
  have hnx := ha.len
  have hny := hb.len
  rw [hwx.hlen] at hnx
  rw [hwy.hlen] at hny
  have Hx := Lib.hid hwx
  have Hy := Lib.hid hwy
  have HNa := Lib.hid hna
  have HNb := Lib.hid hnb
  clear hwx hwy hna hnb
  obtain ⟨B, w0, hB, hw0, hb0, hb1, hb2, he0⟩ := three w 24 24 24 [.bool na, .slice ax nx cx] [.bool nb, .slice ay ny cy] [.bool false, .slice none 0 0]
  go_enter Tryz.func19, Tryz.ntmps19
  go_wp2_with fail
  rw [← hw0, ← hB]
  have c0 := hb0.cell (i := 0) rfl
  have c1 := hb0.cell (i := 1) rfl
  have d0 := hb1.cell (i := 0) rfl
  have d1 := hb1.cell (i := 1) rfl
  have HB := Lib.hid hB
  clear hw0 hB hb0 hb1
  have KH : Hid (∀ w', Below (B + 1 + 1) w0 w' → w'.cell? ⟨B, 0, none⟩ = some (.bool na) ∧ w'.cell? ⟨B, 1, none⟩ = some (.slice ax nx cx) ∧ w'.cell? ⟨B + 1, 0, none⟩ = some (.bool nb) ∧ w'.cell? ⟨B + 1, 1, none⟩ = some (.slice ay ny cy)) :=
    fun w' h => ⟨(h.cell (p := ⟨B, 0, none⟩) (by show B < B + 1 + 1; omega)).trans c0, (h.cell (p := ⟨B, 1, none⟩) (by show B < B + 1 + 1; omega)).trans c1, (h.cell (p := ⟨B + 1, 0, none⟩) (by show B + 1 < B + 1 + 1; omega)).trans d0, (h.cell (p := ⟨B + 1, 1, none⟩) (by show B + 1 < B + 1 + 1; omega)).trans d1⟩
  have hsz := hb2.lt
  go_region_held3
    (fun w' => w'.cell? ⟨B, 0, none⟩ = some (.bool na) ∧ w'.cell? ⟨B, 1, none⟩ = some (.slice ax nx cx) ∧ w'.cell? ⟨B + 1, 0, none⟩ = some (.bool nb) ∧ w'.cell? ⟨B + 1, 1, none⟩ = some (.slice ay ny cy))
    (first | exact KH.out _ (Below.refl _ _).drew | exact KH.out _ hx1 | exact KH.out _ hx2 | exact KH.out _ (Below.set2 hx2 (Nat.le_refl _) _ _))
    (first
    | (go_at_call 22; (with_reducible refine (neg_any _ b _ (HY.out.ext he0.drew) (hb.mono (by omega))).mono ?_); rintro e w1 ⟨⟨v, rfl, hv⟩, he1⟩; have hx1 := (Below.refl (B + 1 + 1) w0).drew.trans (he1.upto (Nat.le_of_lt hsz)))
    | (go_at_call 17; (with_reducible refine (add_any _ _ a (-b) _ (HX.out.ext (he0.drew.trans he1)) hv ha hb.neg).mono ?_); rintro e w2 ⟨⟨v, rfl, hv2⟩, he2⟩; obtain ⟨sr, ar, nr, cr, rfl, hr⟩ := hv2; have hx2 := hx1.trans (he2.upto (Nat.le_trans (Nat.le_of_lt hsz) hx1.size)); have hb2' := hb2.drew.ext (he1.trans he2); have e0 := hb2'.cell (i := 0) rfl; have e1 := hb2'.cell (i := 1) rfl; have f0 := hb2'.free 0; have f1 := hb2'.free 1)
    )
  go_wp2_with fail
  refine bodyPost_ret (results_c rfl rfl (load_int (hb2'.set2 _ _))) rfl ?_
  exact ⟨⟨_, rfl, _, _, _, _, rfl, hr.1, hr.2.keep2 hb2' (by simp) (by simp) _ _⟩, Below.toExt (Below.set2 hx2 (Nat.le_refl _) _ _) he0 HB (by omega)⟩
end Go.Proofs.YtddcgojpgdhefaaGreatDoor
