/- Merged texts: Int1, Int2, Int3, Int4, Int5, Int6, Int7, Int8. -/
import Derived.Test.YtddcgojpgdhefaaGreatDoorNatA
import Derived.WalkSpells
import Derived.Test.YtddcgojpgdhefaaGreatDoorDivA
/- Integers: product and sum, walked. -/
namespace Go.Proofs.YtddcgojpgdhefaaGreatDoor
open Go.RowKit Go.El
set_option linter.unusedVariables false
set_option maxRecDepth 100000 in
/-- integer.Mul -/
theorem mul_any (x y : Value) (a b : Int) (w : World) (hx : IntV w x a) (hy : IntV w y b) (ha : Fits a 1073741824) (hb : Fits b 1073741824) :
    Calls Tryz.prog 18 #[x, y] w fun e w' => (∃ v, e = .returned v ∧ IntV w' v (a * b)) ∧ Ext w w' := by
  obtain ⟨na, ax, nx, cx, rfl, hna, hwx⟩ := hx
  obtain ⟨nb, ay, ny, cy, rfl, hnb, hwy⟩ := hy
  have hnx := ha.len
  have hny := hb.len
  rw [hwx.hlen] at hnx
  rw [hwy.hlen] at hny
  have HZ : Hid (a * b = if (!(na == nb)) then -(val (digs (val (digs a.natAbs) * val (digs b.natAbs)))) else val (digs (val (digs a.natAbs) * val (digs b.natAbs)))) := by
    have h := mul_sign hna hnb
    rw [val_digs (show 0 ≤ (a.natAbs : Int) by omega), val_digs (show 0 ≤ (b.natAbs : Int) by omega), val_digs (Int.mul_nonneg (by omega) (by omega))]
    exact h
  have HSz : Hid (∀ (W : World) a' n' c', Words W a' n' c' (digs (val (digs a.natAbs) * val (digs b.natAbs))) → n' ≤ 4398046511104) := by
    intro W a' n' c' h
    rw [← h.hlen, val_digs (show 0 ≤ (a.natAbs : Int) by omega), val_digs (show 0 ≤ (b.natAbs : Int) by omega)]
    have h1 := (ha.mul hb).len
    rw [Int.natAbs_mul, Int.natCast_mul] at h1
    omega
  have Hx := Lib.hid hwx
  have Hy := Lib.hid hwy
  have HNa := Lib.hid hna
  have HNb := Lib.hid hnb
  clear hwx hwy hna hnb
  obtain ⟨B, w0, hB, hw0, hb0, hb1, hb2, he0⟩ := three w 24 24 24 [.bool na, .slice ax nx cx] [.bool nb, .slice ay ny cy] [.bool false, .slice none 0 0]
  go_enter Tryz.func18, Tryz.ntmps18
  go_wp2_with fail
  rw [← hw0, ← hB]
  have c0 := hb0.cell (i := 0) rfl
  have c1 := hb0.cell (i := 1) rfl
  have d0 := hb1.cell (i := 0) rfl
  have d1 := hb1.cell (i := 1) rfl
  have HB := Lib.hid hB
  clear hw0 hB hb0 hb1
  have KH : Hid (∀ w', Below (B + 1 + 1) w0 w' → w'.cell? ⟨B, 0, none⟩ = some (.bool na) ∧ w'.cell? ⟨B, 1, none⟩ = some (.slice ax nx cx) ∧ w'.cell? ⟨B + 1, 0, none⟩ = some (.bool nb) ∧ w'.cell? ⟨B + 1, 1, none⟩ = some (.slice ay ny cy)) :=
    fun w' h => ⟨(h.cell (p := ⟨B, 0, none⟩) (by show B < B + 1 + 1; omega)).trans c0, (h.cell (p := ⟨B, 1, none⟩) (by show B < B + 1 + 1; omega)).trans c1, (h.cell (p := ⟨B + 1, 0, none⟩) (by show B + 1 < B + 1 + 1; omega)).trans d0, (h.cell (p := ⟨B + 1, 1, none⟩) (by show B + 1 < B + 1 + 1; omega)).trans d1⟩
  have hsz := hb2.lt
  go_region_held3 (fun w' => w'.cell? ⟨B, 0, none⟩ = some (.bool na) ∧ w'.cell? ⟨B, 1, none⟩ = some (.slice ax nx cx) ∧ w'.cell? ⟨B + 1, 0, none⟩ = some (.bool nb) ∧ w'.cell? ⟨B + 1, 1, none⟩ = some (.slice ay ny cy))
    (first | exact KH.out _ (Below.refl _ _).drew | exact KH.out _ hx1 | exact KH.out _ hx2 | exact KH.out _ (Below.set2 hx2 (Nat.le_refl _) _ _))
    (first
    | (go_at_call 57; (with_reducible refine (nmul_any ax ay nx cx ny cy _ _ _ (Hx.out.ext (he0.drew)) (Hy.out.ext (he0.drew)) (by omega) (by omega)).mono ?_); rintro e w1 ⟨⟨am, nm, cm, rfl, hm⟩, he1⟩; have hx1 := (Below.refl (B + 1 + 1) w0).drew.trans (he1.upto (Nat.le_of_lt hsz)))
    | (go_at_call 55; (with_reducible refine (signed_any _ _ _ _ _ (a * b) _ hm (HSz.out _ _ _ _ hm) HZ.out).mono ?_); rintro e w2 ⟨⟨sr, ar, nr, cr, rfl, hr⟩, he2⟩; have hx2 := hx1.trans (he2.upto (Nat.le_trans (Nat.le_of_lt hsz) hx1.size)); have hb2' := hb2.drew.ext (he1.trans he2); have e0 := hb2'.cell (i := 0) rfl; have e1 := hb2'.cell (i := 1) rfl; have f0 := hb2'.free 0; have f1 := hb2'.free 1))
  go_wp2_with fail
  refine bodyPost_ret (results_c rfl rfl (load_int (hb2'.set2 _ _))) rfl ?_
  refine ⟨⟨_, rfl, _, _, _, _, rfl, hr.1, hr.2.keep2 hb2' (by simp) (by simp) _ _⟩, Below.toExt (Below.set2 hx2 (Nat.le_refl _) _ _) he0 HB (by omega)⟩


set_option maxRecDepth 100000 in
set_option maxHeartbeats 1000000 in
/-- integer.Add, equal signs. -/
theorem add_same (x y : Value) (a b : Int) (w : World) (hx : IntV w x a) (hy : IntV w y b) (ha : Fits a 1073741824) (hb : Fits b 1073741824) (hsg : decide (a < 0) = decide (b < 0)) :
    Calls Tryz.prog 17 #[x, y] w fun e w' => (∃ v, e = .returned v ∧ IntV w' v (a + b)) ∧ Ext w w' := by
  obtain ⟨na, ax, nx, cx, rfl, hna, hwx⟩ := hx
  obtain ⟨nb, ay, ny, cy, rfl, hnb, hwy⟩ := hy
  have hnx := ha.len
  have hny := hb.len
  rw [hwx.hlen] at hnx
  rw [hwy.hlen] at hny
  have Hx := Lib.hid hwx
  have Hy := Lib.hid hwy
  have HNa := Lib.hid hna
  have HNb := Lib.hid hnb
  clear hwx hwy hna hnb
  have hnn : (na == nb) = true := beq_iff_eq.2 (by rw [HNa.out, HNb.out, hsg])
  have HZ : Hid (a + b = if na then -(val (digs (val (digs a.natAbs) + val (digs b.natAbs)))) else val (digs (val (digs a.natAbs) + val (digs b.natAbs)))) := by
    have h := add_sign HNa.out HNb.out (by rw [HNa.out, HNb.out, hsg])
    rw [val_digs (show 0 ≤ (a.natAbs : Int) by omega), val_digs (show 0 ≤ (b.natAbs : Int) by omega), val_digs (by omega)]
    exact h
  have HSz : Hid (∀ (W : World) a' n' c', Words W a' n' c' (digs (val (digs a.natAbs) + val (digs b.natAbs))) → n' ≤ 4398046511104) := by
    intro W a' n' c' h
    rw [← h.hlen, val_digs (show 0 ≤ (a.natAbs : Int) by omega), val_digs (show 0 ≤ (b.natAbs : Int) by omega)]
    have h1 := ha.sum hb
    omega
  clear hsg
  obtain ⟨B, w0, hB, hw0, hb0, hb1, hb2, he0⟩ := three w 24 24 24 [.bool na, .slice ax nx cx] [.bool nb, .slice ay ny cy] [.bool false, .slice none 0 0]
  go_enter Tryz.func17, Tryz.ntmps17
  go_wp2_with fail
  rw [← hw0, ← hB]
  have c0 := hb0.cell (i := 0) rfl
  have c1 := hb0.cell (i := 1) rfl
  have d0 := hb1.cell (i := 0) rfl
  have d1 := hb1.cell (i := 1) rfl
  have HB := Lib.hid hB
  clear hw0 hB hb0 hb1
  have KH : Hid (∀ w', Below (B + 1 + 1) w0 w' → w'.cell? ⟨B, 0, none⟩ = some (.bool na) ∧ w'.cell? ⟨B, 1, none⟩ = some (.slice ax nx cx) ∧ w'.cell? ⟨B + 1, 0, none⟩ = some (.bool nb) ∧ w'.cell? ⟨B + 1, 1, none⟩ = some (.slice ay ny cy)) :=
    fun w' h => ⟨(h.cell (p := ⟨B, 0, none⟩) (by show B < B + 1 + 1; omega)).trans c0, (h.cell (p := ⟨B, 1, none⟩) (by show B < B + 1 + 1; omega)).trans c1, (h.cell (p := ⟨B + 1, 0, none⟩) (by show B + 1 < B + 1 + 1; omega)).trans d0, (h.cell (p := ⟨B + 1, 1, none⟩) (by show B + 1 < B + 1 + 1; omega)).trans d1⟩
  have hsz := hb2.lt
  go_quiet (fail)
  have he0q := he0.drewN nq
  have hb2q := Blk.drewN' hb2 nq
  have hszq : B + 1 + 1 < (w0.drewN nq).heap.size := hsz
  have KHq := Lib.hid (fun w' (h : Below (B + 1 + 1) (w0.drewN nq) w') => KH.out w' (((Below.refl (B + 1 + 1) w0).drewN nq).trans h))
  have c0q : (w0.drewN nq).cell? ⟨B, 0, none⟩ = some (.bool na) := c0
  have c1q : (w0.drewN nq).cell? ⟨B, 1, none⟩ = some (.slice ax nx cx) := c1
  have d0q : (w0.drewN nq).cell? ⟨B + 1, 0, none⟩ = some (.bool nb) := d0
  have d1q : (w0.drewN nq).cell? ⟨B + 1, 1, none⟩ = some (.slice ay ny cy) := d1
  clear he0 hb2 hsz KH c0 c1 d0 d1
  generalize w0.drewN nq = wq at he0q hb2q hszq KHq c0q c1q d0q d1q ⊢
  clear w0
  obtain ⟨w0, rfl⟩ : ∃ x : World, x = wq := ⟨_, rfl⟩
  have he0 := he0q
  have hb2 := hb2q
  have hsz := hszq
  have KH := KHq
  have c0 := c0q
  have c1 := c1q
  have d0 := d0q
  have d1 := d1q
  clear he0q hb2q hszq KHq c0q c1q d0q d1q
  go_wp2_with fail
  go_region_held3
    (fun w' => w'.cell? ⟨B, 0, none⟩ = some (.bool na) ∧ w'.cell? ⟨B, 1, none⟩ = some (.slice ax nx cx) ∧ w'.cell? ⟨B + 1, 0, none⟩ = some (.bool nb) ∧ w'.cell? ⟨B + 1, 1, none⟩ = some (.slice ay ny cy))
    (first | exact KH.out _ (Below.refl _ _).drew | exact KH.out _ hx1 | exact KH.out _ hx2 | exact KH.out _ (Below.set2 hx2 (Nat.le_refl _) _ _))
    (first
    | (go_at_call 54; (with_reducible refine (nadd_any ax ay nx cx ny cy _ _ _ (Hx.out.ext he0.drew) (Hy.out.ext he0.drew) (by omega) (by omega)).mono ?_); rintro e w1 ⟨⟨am, nm, cm, rfl, hm⟩, he1⟩; have hx1 := (Below.refl (B + 1 + 1) w0).drew.trans (he1.upto (Nat.le_of_lt hsz)))
    | (go_at_call 55; (with_reducible refine (signed_any _ _ _ _ _ (a+b) _ hm (HSz.out _ _ _ _ hm) HZ.out).mono ?_); rintro e w2 ⟨⟨sr, ar, nr, cr, rfl, hr⟩, he2⟩; have hx2 := hx1.trans (he2.upto (Nat.le_trans (Nat.le_of_lt hsz) hx1.size)); have hb2' := hb2.drew.ext (he1.trans he2); have e0 := hb2'.cell (i := 0) rfl; have e1 := hb2'.cell (i := 1) rfl; have f0 := hb2'.free 0; have f1 := hb2'.free 1)
    )
  go_wp2_with fail
  refine bodyPost_ret (results_c rfl rfl (load_int (hb2'.set2 _ _))) rfl ?_
  exact ⟨⟨_, rfl, _, _, _, _, rfl, hr.1, hr.2.keep2 hb2' (by simp) (by simp) _ _⟩, Below.toExt (Below.set2 hx2 (Nat.le_refl _) _ _) he0 HB (by omega)⟩
end Go.Proofs.YtddcgojpgdhefaaGreatDoor
/- Integers: sum, unequal signs. -/
namespace Go.Proofs.YtddcgojpgdhefaaGreatDoor
open Go.RowKit Go.El
set_option linter.unusedVariables false
set_option maxRecDepth 100000 in
set_option maxHeartbeats 1000000 in
/-- integer.Add, unequal signs, the first one less. -/
theorem add_less (x y : Value) (a b : Int) (w : World) (hx : IntV w x a) (hy : IntV w y b) (ha : Fits a 1073741824) (hb : Fits b 1073741824) (hsg : decide (a < 0) ≠ decide (b < 0)) (hlt : (a.natAbs : Int) < b.natAbs) :
    Calls Tryz.prog 17 #[x, y] w fun e w' => (∃ v, e = .returned v ∧ IntV w' v (a + b)) ∧ Ext w w' := by
  obtain ⟨na, ax, nx, cx, rfl, hna, hwx⟩ := hx
  obtain ⟨nb, ay, ny, cy, rfl, hnb, hwy⟩ := hy
  have hnx := ha.len
  have hny := hb.len
  rw [hwx.hlen] at hnx
  rw [hwy.hlen] at hny
  have Hx := Lib.hid hwx
  have Hy := Lib.hid hwy
  have HNa := Lib.hid hna
  have HNb := Lib.hid hnb
  clear hwx hwy hna hnb
  have hnn : (na == nb) = false := beq_eq_false_iff_ne.2 (by rw [HNa.out, HNb.out]; exact hsg)
  have HZ : Hid (a + b = if nb then -(val (digs (val (digs b.natAbs) - val (digs a.natAbs)))) else val (digs (val (digs b.natAbs) - val (digs a.natAbs)))) := by
    have h := sub_sign HNb.out HNa.out (by rw [HNa.out, HNb.out]; exact hsg.symm)
    rw [val_digs (show 0 ≤ (a.natAbs : Int) by omega), val_digs (show 0 ≤ (b.natAbs : Int) by omega), val_digs (by omega), Int.add_comm]
    exact h
  have HSz : Hid (∀ (W : World) a' n' c', Words W a' n' c' (digs (val (digs b.natAbs) - val (digs a.natAbs))) → n' ≤ 4398046511104) := by
    intro W a' n' c' h
    rw [← h.hlen, val_digs (show 0 ≤ (a.natAbs : Int) by omega), val_digs (show 0 ≤ (b.natAbs : Int) by omega)]
    have h1 := digs_len_le (show (0 : Int) ≤ b.natAbs - a.natAbs by omega) (show (b.natAbs - a.natAbs : Int) < pw 1073741824 by unfold Fits at hb; omega)
    omega
  have hle : val (digs a.natAbs) ≤ val (digs b.natAbs) := by
    rw [val_digs (show 0 ≤ (a.natAbs : Int) by omega), val_digs (show 0 ≤ (b.natAbs : Int) by omega)]; omega
  have hll : nx ≤ ny := by
    rw [← Hx.out.hlen, ← Hy.out.hlen]
    exact digs_len_mono (by omega) (by omega)
  have hs := sgn_lt hlt
  clear hsg
  obtain ⟨B, w0, hB, hw0, hb0, hb1, hb2, he0⟩ := three w 24 24 24 [.bool na, .slice ax nx cx] [.bool nb, .slice ay ny cy] [.bool false, .slice none 0 0]
  go_enter Tryz.func17, Tryz.ntmps17
  go_wp2_with fail
  rw [← hw0, ← hB]
  have c0 := hb0.cell (i := 0) rfl
  have c1 := hb0.cell (i := 1) rfl
  have d0 := hb1.cell (i := 0) rfl
  have d1 := hb1.cell (i := 1) rfl
  have HB := Lib.hid hB
  clear hw0 hB hb0 hb1
  have KH : Hid (∀ w', Below (B + 1 + 1) w0 w' → w'.cell? ⟨B, 0, none⟩ = some (.bool na) ∧ w'.cell? ⟨B, 1, none⟩ = some (.slice ax nx cx) ∧ w'.cell? ⟨B + 1, 0, none⟩ = some (.bool nb) ∧ w'.cell? ⟨B + 1, 1, none⟩ = some (.slice ay ny cy)) :=
    fun w' h => ⟨(h.cell (p := ⟨B, 0, none⟩) (by show B < B + 1 + 1; omega)).trans c0, (h.cell (p := ⟨B, 1, none⟩) (by show B < B + 1 + 1; omega)).trans c1, (h.cell (p := ⟨B + 1, 0, none⟩) (by show B + 1 < B + 1 + 1; omega)).trans d0, (h.cell (p := ⟨B + 1, 1, none⟩) (by show B + 1 < B + 1 + 1; omega)).trans d1⟩
  have hsz := hb2.lt
  go_quiet (fail)
  have he0q := he0.drewN nq
  have hb2q := Blk.drewN' hb2 nq
  have hszq : B + 1 + 1 < (w0.drewN nq).heap.size := hsz
  have KHq := Lib.hid (fun w' (h : Below (B + 1 + 1) (w0.drewN nq) w') => KH.out w' (((Below.refl (B + 1 + 1) w0).drewN nq).trans h))
  have c0q : (w0.drewN nq).cell? ⟨B, 0, none⟩ = some (.bool na) := c0
  have c1q : (w0.drewN nq).cell? ⟨B, 1, none⟩ = some (.slice ax nx cx) := c1
  have d0q : (w0.drewN nq).cell? ⟨B + 1, 0, none⟩ = some (.bool nb) := d0
  have d1q : (w0.drewN nq).cell? ⟨B + 1, 1, none⟩ = some (.slice ay ny cy) := d1
  clear he0 hb2 hsz KH c0 c1 d0 d1
  generalize w0.drewN nq = wq at he0q hb2q hszq KHq c0q c1q d0q d1q ⊢
  clear w0
  obtain ⟨w0, rfl⟩ : ∃ x : World, x = wq := ⟨_, rfl⟩
  have he0 := he0q
  have hb2 := hb2q
  have hsz := hszq
  have KH := KHq
  have c0 := c0q
  have c1 := c1q
  have d0 := d0q
  have d1 := d1q
  clear he0q hb2q hszq KHq c0q c1q d0q d1q
  go_wp2_with fail
  refine (ncmp_any ax ay nx cx ny cy _ _ _ (by omega) (by omega) (Hx.out.ext he0) (Hy.out.ext he0)).mono ?_
  rintro e w' ⟨rfl, nq, rfl⟩
  have he0q := he0.drewN nq
  have hb2q := Blk.drewN' hb2 nq
  have hszq : B + 1 + 1 < (w0.drewN nq).heap.size := hsz
  have KHq := Lib.hid (fun w' (h : Below (B + 1 + 1) (w0.drewN nq) w') => KH.out w' (((Below.refl (B + 1 + 1) w0).drewN nq).trans h))
  have c0q : (w0.drewN nq).cell? ⟨B, 0, none⟩ = some (.bool na) := c0
  have c1q : (w0.drewN nq).cell? ⟨B, 1, none⟩ = some (.slice ax nx cx) := c1
  have d0q : (w0.drewN nq).cell? ⟨B + 1, 0, none⟩ = some (.bool nb) := d0
  have d1q : (w0.drewN nq).cell? ⟨B + 1, 1, none⟩ = some (.slice ay ny cy) := d1
  clear he0 hb2 hsz KH c0 c1 d0 d1
  generalize w0.drewN nq = wq at he0q hb2q hszq KHq c0q c1q d0q d1q ⊢
  clear w0
  obtain ⟨w0, rfl⟩ : ∃ x : World, x = wq := ⟨_, rfl⟩
  have he0 := he0q
  have hb2 := hb2q
  have hsz := hszq
  have KH := KHq
  have c0 := c0q
  have c1 := c1q
  have d0 := d0q
  have d1 := d1q
  clear he0q hb2q hszq KHq c0q c1q d0q d1q
  go_wp2_with fail
  go_region_held3
    (fun w' => w'.cell? ⟨B, 0, none⟩ = some (.bool na) ∧ w'.cell? ⟨B, 1, none⟩ = some (.slice ax nx cx) ∧ w'.cell? ⟨B + 1, 0, none⟩ = some (.bool nb) ∧ w'.cell? ⟨B + 1, 1, none⟩ = some (.slice ay ny cy))
    (first | exact KH.out _ (Below.refl _ _).drew | exact KH.out _ hx1 | exact KH.out _ hx2 | exact KH.out _ (Below.set2 hx2 (Nat.le_refl _) _ _))
    (first
    | (go_at_call 56; (with_reducible refine (nsub_any ay ax ny cy nx cx _ _ _ (Hy.out.ext he0.drew) (Hx.out.ext he0.drew) (by omega) hle hll).mono ?_); rintro e w1 ⟨⟨am, nm, cm, rfl, hm⟩, he1⟩; have hx1 := (Below.refl (B + 1 + 1) w0).drew.trans (he1.upto (Nat.le_of_lt hsz)))
    | (go_at_call 55; (with_reducible refine (signed_any _ _ _ _ _ (a+b) _ hm (HSz.out _ _ _ _ hm) HZ.out).mono ?_); rintro e w2 ⟨⟨sr, ar, nr, cr, rfl, hr⟩, he2⟩; have hx2 := hx1.trans (he2.upto (Nat.le_trans (Nat.le_of_lt hsz) hx1.size)); have hb2' := hb2.drew.ext (he1.trans he2); have e0 := hb2'.cell (i := 0) rfl; have e1 := hb2'.cell (i := 1) rfl; have f0 := hb2'.free 0; have f1 := hb2'.free 1)
    )
  go_wp2_with fail
  refine bodyPost_ret (results_c rfl rfl (load_int (hb2'.set2 _ _))) rfl ?_
  exact ⟨⟨_, rfl, _, _, _, _, rfl, hr.1, hr.2.keep2 hb2' (by simp) (by simp) _ _⟩, Below.toExt (Below.set2 hx2 (Nat.le_refl _) _ _) he0 HB (by omega)⟩
set_option maxRecDepth 100000 in
set_option maxHeartbeats 1000000 in
/-- integer.Add, unequal signs, the first one not less. -/
theorem add_more (x y : Value) (a b : Int) (w : World) (hx : IntV w x a) (hy : IntV w y b) (ha : Fits a 1073741824) (hb : Fits b 1073741824) (hsg : decide (a < 0) ≠ decide (b < 0)) (hge : (b.natAbs : Int) ≤ a.natAbs) (s : Int) (hs : sgn (a.natAbs : Int) (b.natAbs : Int) = s) (hs0 : (decide (s < 0)) = false) :
    Calls Tryz.prog 17 #[x, y] w fun e w' => (∃ v, e = .returned v ∧ IntV w' v (a + b)) ∧ Ext w w' := by
  obtain ⟨na, ax, nx, cx, rfl, hna, hwx⟩ := hx
  obtain ⟨nb, ay, ny, cy, rfl, hnb, hwy⟩ := hy
  have hnx := ha.len
  have hny := hb.len
  rw [hwx.hlen] at hnx
  rw [hwy.hlen] at hny
  have Hx := Lib.hid hwx
  have Hy := Lib.hid hwy
  have HNa := Lib.hid hna
  have HNb := Lib.hid hnb
  clear hwx hwy hna hnb
  have hnn : (na == nb) = false := beq_eq_false_iff_ne.2 (by rw [HNa.out, HNb.out]; exact hsg)
  have HZ : Hid (a + b = if na then -(val (digs (val (digs a.natAbs) - val (digs b.natAbs)))) else val (digs (val (digs a.natAbs) - val (digs b.natAbs)))) := by
    have h := sub_sign HNa.out HNb.out (by rw [HNa.out, HNb.out]; exact hsg)
    rw [val_digs (show 0 ≤ (a.natAbs : Int) by omega), val_digs (show 0 ≤ (b.natAbs : Int) by omega), val_digs (by omega)]
    exact h
  have HSz : Hid (∀ (W : World) a' n' c', Words W a' n' c' (digs (val (digs a.natAbs) - val (digs b.natAbs))) → n' ≤ 4398046511104) := by
    intro W a' n' c' h
    rw [← h.hlen, val_digs (show 0 ≤ (a.natAbs : Int) by omega), val_digs (show 0 ≤ (b.natAbs : Int) by omega)]
    have h1 := digs_len_le (show (0 : Int) ≤ a.natAbs - b.natAbs by omega) (show (a.natAbs - b.natAbs : Int) < pw 1073741824 by unfold Fits at ha; omega)
    omega
  have hle : val (digs b.natAbs) ≤ val (digs a.natAbs) := by
    rw [val_digs (show 0 ≤ (a.natAbs : Int) by omega), val_digs (show 0 ≤ (b.natAbs : Int) by omega)]; omega
  have hll : ny ≤ nx := by
    rw [← Hx.out.hlen, ← Hy.out.hlen]
    exact digs_len_mono (by omega) (by omega)
  clear hsg
  obtain ⟨B, w0, hB, hw0, hb0, hb1, hb2, he0⟩ := three w 24 24 24 [.bool na, .slice ax nx cx] [.bool nb, .slice ay ny cy] [.bool false, .slice none 0 0]
  go_enter Tryz.func17, Tryz.ntmps17
  go_wp2_with fail
  rw [← hw0, ← hB]
  have c0 := hb0.cell (i := 0) rfl
  have c1 := hb0.cell (i := 1) rfl
  have d0 := hb1.cell (i := 0) rfl
  have d1 := hb1.cell (i := 1) rfl
  have HB := Lib.hid hB
  clear hw0 hB hb0 hb1
  have KH : Hid (∀ w', Below (B + 1 + 1) w0 w' → w'.cell? ⟨B, 0, none⟩ = some (.bool na) ∧ w'.cell? ⟨B, 1, none⟩ = some (.slice ax nx cx) ∧ w'.cell? ⟨B + 1, 0, none⟩ = some (.bool nb) ∧ w'.cell? ⟨B + 1, 1, none⟩ = some (.slice ay ny cy)) :=
    fun w' h => ⟨(h.cell (p := ⟨B, 0, none⟩) (by show B < B + 1 + 1; omega)).trans c0, (h.cell (p := ⟨B, 1, none⟩) (by show B < B + 1 + 1; omega)).trans c1, (h.cell (p := ⟨B + 1, 0, none⟩) (by show B + 1 < B + 1 + 1; omega)).trans d0, (h.cell (p := ⟨B + 1, 1, none⟩) (by show B + 1 < B + 1 + 1; omega)).trans d1⟩
  have hsz := hb2.lt
  go_quiet (fail)
  have he0q := he0.drewN nq
  have hb2q := Blk.drewN' hb2 nq
  have hszq : B + 1 + 1 < (w0.drewN nq).heap.size := hsz
  have KHq := Lib.hid (fun w' (h : Below (B + 1 + 1) (w0.drewN nq) w') => KH.out w' (((Below.refl (B + 1 + 1) w0).drewN nq).trans h))
  have c0q : (w0.drewN nq).cell? ⟨B, 0, none⟩ = some (.bool na) := c0
  have c1q : (w0.drewN nq).cell? ⟨B, 1, none⟩ = some (.slice ax nx cx) := c1
  have d0q : (w0.drewN nq).cell? ⟨B + 1, 0, none⟩ = some (.bool nb) := d0
  have d1q : (w0.drewN nq).cell? ⟨B + 1, 1, none⟩ = some (.slice ay ny cy) := d1
  clear he0 hb2 hsz KH c0 c1 d0 d1
  generalize w0.drewN nq = wq at he0q hb2q hszq KHq c0q c1q d0q d1q ⊢
  clear w0
  obtain ⟨w0, rfl⟩ : ∃ x : World, x = wq := ⟨_, rfl⟩
  have he0 := he0q
  have hb2 := hb2q
  have hsz := hszq
  have KH := KHq
  have c0 := c0q
  have c1 := c1q
  have d0 := d0q
  have d1 := d1q
  clear he0q hb2q hszq KHq c0q c1q d0q d1q
  go_wp2_with fail
  refine (ncmp_any ax ay nx cx ny cy _ _ _ (by omega) (by omega) (Hx.out.ext he0) (Hy.out.ext he0)).mono ?_
  rintro e w' ⟨rfl, nq, rfl⟩
  have he0q := he0.drewN nq
  have hb2q := Blk.drewN' hb2 nq
  have hszq : B + 1 + 1 < (w0.drewN nq).heap.size := hsz
  have KHq := Lib.hid (fun w' (h : Below (B + 1 + 1) (w0.drewN nq) w') => KH.out w' (((Below.refl (B + 1 + 1) w0).drewN nq).trans h))
  have c0q : (w0.drewN nq).cell? ⟨B, 0, none⟩ = some (.bool na) := c0
  have c1q : (w0.drewN nq).cell? ⟨B, 1, none⟩ = some (.slice ax nx cx) := c1
  have d0q : (w0.drewN nq).cell? ⟨B + 1, 0, none⟩ = some (.bool nb) := d0
  have d1q : (w0.drewN nq).cell? ⟨B + 1, 1, none⟩ = some (.slice ay ny cy) := d1
  clear he0 hb2 hsz KH c0 c1 d0 d1
  generalize w0.drewN nq = wq at he0q hb2q hszq KHq c0q c1q d0q d1q ⊢
  clear w0
  obtain ⟨w0, rfl⟩ : ∃ x : World, x = wq := ⟨_, rfl⟩
  have he0 := he0q
  have hb2 := hb2q
  have hsz := hszq
  have KH := KHq
  have c0 := c0q
  have c1 := c1q
  have d0 := d0q
  have d1 := d1q
  clear he0q hb2q hszq KHq c0q c1q d0q d1q
  go_wp2_with fail
  go_region_held3
    (fun w' => w'.cell? ⟨B, 0, none⟩ = some (.bool na) ∧ w'.cell? ⟨B, 1, none⟩ = some (.slice ax nx cx) ∧ w'.cell? ⟨B + 1, 0, none⟩ = some (.bool nb) ∧ w'.cell? ⟨B + 1, 1, none⟩ = some (.slice ay ny cy))
    (first | exact KH.out _ (Below.refl _ _).drew | exact KH.out _ hx1 | exact KH.out _ hx2 | exact KH.out _ (Below.set2 hx2 (Nat.le_refl _) _ _))
    (first
    | (go_at_call 56; (with_reducible refine (nsub_any ax ay nx cx ny cy _ _ _ (Hx.out.ext he0.drew) (Hy.out.ext he0.drew) (by omega) hle hll).mono ?_); rintro e w1 ⟨⟨am, nm, cm, rfl, hm⟩, he1⟩; have hx1 := (Below.refl (B + 1 + 1) w0).drew.trans (he1.upto (Nat.le_of_lt hsz)))
    | (go_at_call 55; (with_reducible refine (signed_any _ _ _ _ _ (a+b) _ hm (HSz.out _ _ _ _ hm) HZ.out).mono ?_); rintro e w2 ⟨⟨sr, ar, nr, cr, rfl, hr⟩, he2⟩; have hx2 := hx1.trans (he2.upto (Nat.le_trans (Nat.le_of_lt hsz) hx1.size)); have hb2' := hb2.drew.ext (he1.trans he2); have e0 := hb2'.cell (i := 0) rfl; have e1 := hb2'.cell (i := 1) rfl; have f0 := hb2'.free 0; have f1 := hb2'.free 1)
    )
  go_wp2_with fail
  refine bodyPost_ret (results_c rfl rfl (load_int (hb2'.set2 _ _))) rfl ?_
  exact ⟨⟨_, rfl, _, _, _, _, rfl, hr.1, hr.2.keep2 hb2' (by simp) (by simp) _ _⟩, Below.toExt (Below.set2 hx2 (Nat.le_refl _) _ _) he0 HB (by omega)⟩

theorem add_any (x y : Value) (a b : Int) (w : World) (hx : IntV w x a) (hy : IntV w y b) (ha : Fits a 1073741824) (hb : Fits b 1073741824) :
    Calls Tryz.prog 17 #[x, y] w fun e w' => (∃ v, e = .returned v ∧ IntV w' v (a + b)) ∧ Ext w w' := by
  by_cases hsg : decide (a < 0) = decide (b < 0)
  · exact add_same x y a b w hx hy ha hb hsg
  · by_cases hlt : (a.natAbs : Int) < b.natAbs
    · exact add_less x y a b w hx hy ha hb hsg hlt
    · exact add_more x y a b w hx hy ha hb hsg (by omega) _ rfl (by unfold sgn; split <;> (try split) <;> simp_all)
end Go.Proofs.YtddcgojpgdhefaaGreatDoor
/- Integers: natural, Neg, Sub. -/
namespace Go.Proofs.YtddcgojpgdhefaaGreatDoor
open Go.RowKit Go.El
set_option linter.unusedVariables false
set_option maxRecDepth 100000 in
set_option maxHeartbeats 1000000 in
/-- integer.Neg -/
theorem neg_any (x : Value) (a : Int) (w : World) (hx : IntV w x a) (ha : Fits a 4398046511104) :
    Calls Tryz.prog 22 #[x] w fun e w' => (∃ v, e = .returned v ∧ IntV w' v (-a)) ∧ Ext w w' := by
  obtain ⟨na, ax, nx, cx, rfl, hna, hwx⟩ := hx
  have hnx := ha.len
  rw [hwx.hlen] at hnx
  have Hx := Lib.hid hwx
  have HNa := Lib.hid hna
  clear hwx hna
  have HZ : Hid (-a = if (!na) then -(val (digs a.natAbs)) else val (digs a.natAbs)) := by
    rw [val_digs (show 0 ≤ (a.natAbs : Int) by omega)]
    exact neg_sign HNa.out
  obtain ⟨B, w0, hB, hw0, hb0, hb1, he0⟩ := two w 24 24 [.bool na, .slice ax nx cx] [.bool false, .slice none 0 0]
  go_enter Tryz.func22, Tryz.ntmps22
  go_wp2_with fail
  rw [← hw0, ← hB]
  have c0 := hb0.cell (i := 0) rfl
  have c1 := hb0.cell (i := 1) rfl
  have HB := Lib.hid hB
  clear hw0 hB hb0
  have hsz := hb1.lt
  go_wp2_with fail
  refine (signed_any _ _ _ _ _ (-a) _ (Hx.out.ext he0) hnx HZ.out).mono ?_
  rintro e w1 ⟨⟨sr, ar, nr, cr, rfl, hr⟩, he1⟩
  have hb2' := hb1.ext he1
  have e0 := hb2'.cell (i := 0) rfl
  have e1 := hb2'.cell (i := 1) rfl
  have f0 := hb2'.free 0
  have f1 := hb2'.free 1
  go_wp2_with fail
  refine bodyPost_ret (results_c rfl rfl (load_int (hb2'.set2 _ _))) rfl ?_
  exact ⟨⟨_, rfl, _, _, _, _, rfl, hr.1, hr.2.keep2 hb2' (by simp) (by simp) _ _⟩, ((he0.trans he1).store' HB (by omega) 0 _).store' HB (by omega) 1 _⟩

set_option maxRecDepth 100000 in
set_option maxHeartbeats 1000000 in
/-- integer.Sub -/
theorem sub_any (x y : Value) (a b : Int) (w : World) (hx : IntV w x a) (hy : IntV w y b) (ha : Fits a 1073741824) (hb : Fits b 1073741824) :
    Calls Tryz.prog 19 #[x, y] w fun e w' => (∃ v, e = .returned v ∧ IntV w' v (a - b)) ∧ Ext w w' := by
  have HX := Lib.hid hx
  have HY := Lib.hid hy
  obtain ⟨na, ax, nx, cx, rfl, hna, hwx⟩ := hx
  obtain ⟨nb, ay, ny, cy, rfl, hnb, hwy⟩ := hy
  have hnx := ha.len
  have hny := hb.len
  rw [hwx.hlen] at hnx
  rw [hwy.hlen] at hny
  have Hx := Lib.hid hwx
  have Hy := Lib.hid hwy
  have HNa := Lib.hid hna
  have HNb := Lib.hid hnb
  clear hwx hwy hna hnb
  obtain ⟨B, w0, hB, hw0, hb0, hb1, hb2, he0⟩ := three w 24 24 24 [.bool na, .slice ax nx cx] [.bool nb, .slice ay ny cy] [.bool false, .slice none 0 0]
  go_enter Tryz.func19, Tryz.ntmps19
  go_wp2_with fail
  rw [← hw0, ← hB]
  have c0 := hb0.cell (i := 0) rfl
  have c1 := hb0.cell (i := 1) rfl
  have d0 := hb1.cell (i := 0) rfl
  have d1 := hb1.cell (i := 1) rfl
  have HB := Lib.hid hB
  clear hw0 hB hb0 hb1
  have KH : Hid (∀ w', Below (B + 1 + 1) w0 w' → w'.cell? ⟨B, 0, none⟩ = some (.bool na) ∧ w'.cell? ⟨B, 1, none⟩ = some (.slice ax nx cx) ∧ w'.cell? ⟨B + 1, 0, none⟩ = some (.bool nb) ∧ w'.cell? ⟨B + 1, 1, none⟩ = some (.slice ay ny cy)) :=
    fun w' h => ⟨(h.cell (p := ⟨B, 0, none⟩) (by show B < B + 1 + 1; omega)).trans c0, (h.cell (p := ⟨B, 1, none⟩) (by show B < B + 1 + 1; omega)).trans c1, (h.cell (p := ⟨B + 1, 0, none⟩) (by show B + 1 < B + 1 + 1; omega)).trans d0, (h.cell (p := ⟨B + 1, 1, none⟩) (by show B + 1 < B + 1 + 1; omega)).trans d1⟩
  have hsz := hb2.lt
  go_region_held3
    (fun w' => w'.cell? ⟨B, 0, none⟩ = some (.bool na) ∧ w'.cell? ⟨B, 1, none⟩ = some (.slice ax nx cx) ∧ w'.cell? ⟨B + 1, 0, none⟩ = some (.bool nb) ∧ w'.cell? ⟨B + 1, 1, none⟩ = some (.slice ay ny cy))
    (first | exact KH.out _ (Below.refl _ _).drew | exact KH.out _ hx1 | exact KH.out _ hx2 | exact KH.out _ (Below.set2 hx2 (Nat.le_refl _) _ _))
    (first
    | (go_at_call 22; (with_reducible refine (neg_any _ b _ (HY.out.ext he0.drew) (hb.mono (by omega))).mono ?_); rintro e w1 ⟨⟨v, rfl, hv⟩, he1⟩; have hx1 := (Below.refl (B + 1 + 1) w0).drew.trans (he1.upto (Nat.le_of_lt hsz)))
    | (go_at_call 17; (with_reducible refine (add_any _ _ a (-b) _ (HX.out.ext (he0.drew.trans he1)) hv ha hb.neg).mono ?_); rintro e w2 ⟨⟨v, rfl, hv2⟩, he2⟩; obtain ⟨sr, ar, nr, cr, rfl, hr⟩ := hv2; have hx2 := hx1.trans (he2.upto (Nat.le_trans (Nat.le_of_lt hsz) hx1.size)); have hb2' := hb2.drew.ext (he1.trans he2); have e0 := hb2'.cell (i := 0) rfl; have e1 := hb2'.cell (i := 1) rfl; have f0 := hb2'.free 0; have f1 := hb2'.free 1)
    )
  go_wp2_with fail
  refine bodyPost_ret (results_c rfl rfl (load_int (hb2'.set2 _ _))) rfl ?_
  exact ⟨⟨_, rfl, _, _, _, _, rfl, hr.1, hr.2.keep2 hb2' (by simp) (by simp) _ _⟩, Below.toExt (Below.set2 hx2 (Nat.le_refl _) _ _) he0 HB (by omega)⟩
end Go.Proofs.YtddcgojpgdhefaaGreatDoor
/- Integers: natural, Of, Sign, Valid. -/
namespace Go.Proofs.YtddcgojpgdhefaaGreatDoor
open Go.RowKit Go.El
set_option linter.unusedVariables false
theorem val_two (n : Int) : val [n % 4294967296, n / 4294967296] = n := by
  simp only [val]; omega
set_option maxRecDepth 100000 in
/-- integer.natural -/
theorem natural_any (n : Int) (w : World) (h0 : 0 ≤ n) (h1 : n < 18446744073709551616) :
    Calls Tryz.prog 60 #[.int .u64 n] w fun e w' => (∃ a k c, e = .returned (.slice a k c) ∧ Words w' a k c (digs n) ∧ k ≤ 2) ∧ Ext w w' := by
  go_enter Tryz.func60, Tryz.ntmps60
  go_wp2_with fail
  refine (norm_any (some ⟨w.heap.size, 0, none⟩) 2 2 [n % 4294967296, n / 4294967296] _ (Words.of_blk (l := [n % 4294967296, n / 4294967296]) (Blk.new w _ _) ?_ (show 2 ≤ 9223372036854775807 by omega))).mono ?_
  · intro x hx
    simp at hx
    omega
  rintro e w1 ⟨⟨k, rfl, hk, hw⟩, rfl⟩
  rw [val_two] at hw
  go_wp2_with fail
  go_ret
  exact ⟨⟨_, _, _, rfl, hw, hk⟩, (Ext.refl w).alloc _⟩

set_option maxRecDepth 100000 in
/-- integer.Of, less than 0 -/
theorem of_neg (n : Int) (w : World) (h0 : n < 0) (h1 : -9223372036854775808 ≤ n) :
    Calls Tryz.prog 31 #[.int .i64 n] w fun e w' => (∃ v, e = .returned v ∧ IntV w' v n) ∧ Ext w w' := by
  obtain ⟨B, w0, hB, hw0, hb0, he0⟩ := one w 24 [.bool false, .slice none 0 0]
  have hwr : IntKind.u64.wrap (-IntKind.u64.wrap n) = -n := by
    simp only [IntKind.wrap_u64]; omega
  go_enter Tryz.func31, Tryz.ntmps31
  go_wp2_with fail
  rw [← hw0, ← hB]
  have HB := Lib.hid hB
  clear hw0 hB
  go_wp2_with fail
  refine (natural_any (-n) _ (by omega) (by omega)).mono ?_
  rintro e w1 ⟨⟨a, k, c, rfl, hw, hk⟩, he1⟩
  clear hwr
  go_wp2_with fail
  refine (signed_any _ _ _ _ _ n _ hw (by omega) (by rw [val_digs (by omega), if_pos rfl]; omega)).mono ?_
  rintro e w2 ⟨⟨sr, ar, nr, cr, rfl, hr⟩, he2⟩
  have hb2' := (hb0.ext he1).ext he2
  have e0 := hb2'.cell (i := 0) rfl
  have e1 := hb2'.cell (i := 1) rfl
  have f0 := hb2'.free 0
  have f1 := hb2'.free 1
  go_wp2_with fail
  refine bodyPost_ret (results_c rfl rfl (load_int (hb2'.set2 _ _))) rfl ?_
  exact ⟨⟨_, rfl, _, _, _, _, rfl, hr.1, hr.2.keep2 hb2' (by simp) (by simp) _ _⟩, (Ext.store' ((he0.trans he1).trans he2) HB (by omega) 0 _).store' HB (by omega) 1 _⟩
set_option maxRecDepth 100000 in
/-- integer.Of, not less than 0 -/
theorem of_nonneg (n : Int) (w : World) (h0 : 0 ≤ n) (h1 : n < 9223372036854775808) :
    Calls Tryz.prog 31 #[.int .i64 n] w fun e w' => (∃ v, e = .returned v ∧ IntV w' v n) ∧ Ext w w' := by
  obtain ⟨B, w0, hB, hw0, hb0, he0⟩ := one w 24 [.bool false, .slice none 0 0]
  have hwr : IntKind.u64.wrap n = n := by
    simp only [IntKind.wrap_u64]; omega
  go_enter Tryz.func31, Tryz.ntmps31
  go_wp2_with fail
  rw [← hw0, ← hB]
  have HB := Lib.hid hB
  clear hw0 hB
  go_wp2_with fail
  refine (natural_any n _ (by omega) (by omega)).mono ?_
  rintro e w1 ⟨⟨a, k, c, rfl, hw, hk⟩, he1⟩
  clear hwr
  go_wp2_with fail
  refine (signed_any _ _ _ _ _ n _ hw (by omega) (by rw [val_digs (by omega), if_neg (by simp)])).mono ?_
  rintro e w2 ⟨⟨sr, ar, nr, cr, rfl, hr⟩, he2⟩
  have hb2' := (hb0.ext he1).ext he2
  have e0 := hb2'.cell (i := 0) rfl
  have e1 := hb2'.cell (i := 1) rfl
  have f0 := hb2'.free 0
  have f1 := hb2'.free 1
  go_wp2_with fail
  refine bodyPost_ret (results_c rfl rfl (load_int (hb2'.set2 _ _))) rfl ?_
  exact ⟨⟨_, rfl, _, _, _, _, rfl, hr.1, hr.2.keep2 hb2' (by simp) (by simp) _ _⟩, (Ext.store' ((he0.trans he1).trans he2) HB (by omega) 0 _).store' HB (by omega) 1 _⟩
theorem of_any (n : Int) (w : World) (h0 : -9223372036854775808 ≤ n) (h1 : n < 9223372036854775808) :
    Calls Tryz.prog 31 #[.int .i64 n] w fun e w' => (∃ v, e = .returned v ∧ IntV w' v n) ∧ Ext w w' := by
  by_cases h : n < 0
  · exact of_neg n w h h0
  · exact of_nonneg n w (by omega) h1
end Go.Proofs.YtddcgojpgdhefaaGreatDoor
/- Integers: DivMod. -/
namespace Go.El
open Go.RowKit
theorem divmod_plain {a b : Int} {na nb : Bool} (hna : na = decide (a < 0)) (hnb : nb = decide (b < 0)) (hb : b ≠ 0) (h : na = true → (a.natAbs : Int) % b.natAbs = 0) :
    (a / b = if (!(na == nb)) then -((a.natAbs : Int) / b.natAbs) else (a.natAbs : Int) / b.natAbs) ∧ a % b = (a.natAbs : Int) % b.natAbs := by
  subst hna
  subst hnb
  have hb' : b < 0 ∨ 0 < b := by omega
  by_cases h1 : a < 0
  · have h0 := h (by simp [h1])
    have e0 : ((-a) / b.natAbs) * b.natAbs + 0 = -a := by
      have := Int.mul_ediv_add_emod (-a) b.natAbs
      rw [show ((a.natAbs : Nat) : Int) = -a by omega] at h0
      rw [h0] at this
      rw [Int.mul_comm]; exact this
    rw [show ((a.natAbs : Nat) : Int) = -a by omega] at h0 ⊢
    generalize hq : -a / (b.natAbs : Int) = q at *
    rcases hb' with h2 | h2
    · rw [show ((b.natAbs : Nat) : Int) = -b by omega] at *
      rw [if_neg (by simp [h1, h2]), h0]
      have e1 : a = b * q := by rw [Int.mul_neg] at e0; rw [Int.mul_comm]; omega
      rw [e1]
      exact ⟨Int.mul_ediv_cancel_left _ hb, Int.mul_emod_right _ _⟩
    · rw [show ((b.natAbs : Nat) : Int) = b by omega] at *
      rw [if_pos (by simp [h1]; omega), h0]
      have e1 : a = b * -q := by rw [Int.mul_neg, Int.mul_comm]; omega
      rw [e1]
      exact ⟨Int.mul_ediv_cancel_left _ hb, Int.mul_emod_right _ _⟩
  · rw [show ((a.natAbs : Nat) : Int) = a by omega]
    rcases hb' with h2 | h2
    · rw [show ((b.natAbs : Nat) : Int) = -b by omega]
      rw [if_pos (by simp [h1, h2]), Int.ediv_neg, Int.neg_neg, Int.emod_neg]
      exact ⟨rfl, rfl⟩
    · rw [show ((b.natAbs : Nat) : Int) = b by omega]
      rw [if_neg (by simp [h1]; omega)]
      exact ⟨rfl, rfl⟩
theorem divmod_up {a b : Int} {nb : Bool} (ha : a < 0) (hnb : nb = decide (b < 0)) (hb : b ≠ 0) (h : (a.natAbs : Int) % b.natAbs ≠ 0) :
    (a / b = if (!(true == nb)) then -((a.natAbs : Int) / b.natAbs + 1) else (a.natAbs : Int) / b.natAbs + 1) ∧ a % b = (b.natAbs : Int) - (a.natAbs : Int) % b.natAbs := by
  subst hnb
  have hb' : b < 0 ∨ 0 < b := by omega
  have e0 := Int.mul_ediv_add_emod (-a) b.natAbs
  rw [show ((a.natAbs : Nat) : Int) = -a by omega] at h ⊢
  have h3 := Int.emod_nonneg (-a) (show (b.natAbs : Int) ≠ 0 by omega)
  have h4 := Int.emod_lt_of_pos (-a) (show 0 < (b.natAbs : Int) by omega)
  generalize -a / (b.natAbs : Int) = q at *
  generalize -a % (b.natAbs : Int) = r at *
  rcases hb' with h2 | h2
  · rw [show ((b.natAbs : Nat) : Int) = -b by omega] at *
    rw [if_neg (by simp [h2])]
    have e2 := (Int.ediv_emod_unique (a := a) (b := -b) (q := -(q + 1)) (r := -b - r) (by omega)).2 ⟨by rw [Int.mul_neg, Int.mul_add]; omega, by omega, by omega⟩
    rw [Int.ediv_neg, Int.emod_neg] at e2
    exact ⟨by omega, e2.2⟩
  · rw [show ((b.natAbs : Nat) : Int) = b by omega] at *
    rw [if_pos (by simp; omega)]
    exact (Int.ediv_emod_unique (a := a) (b := b) (q := -(q + 1)) (r := b - r) (by omega)).2 ⟨by rw [Int.mul_neg, Int.mul_add]; omega, by omega, by omega⟩
theorem div_len {a b : Int} (ha : 0 ≤ a) (hb : 0 < b) : (digs (a / b)).length ≤ (digs a).length := by
  have h1 : 0 ≤ a / b := Int.ediv_nonneg ha (by omega)
  have h2 : a / b ≤ a := Int.ediv_le_self b ha
  exact digs_len_mono h1 h2
theorem emod_le' {a b : Int} (ha : 0 ≤ a) (hb : 0 < b) : a % b ≤ a := by
  have h1 := Int.mul_ediv_add_emod a b
  have h2 := Int.mul_nonneg (show 0 ≤ b by omega) (Int.ediv_nonneg ha (show 0 ≤ b by omega))
  omega
theorem digs_succ_len {z : Int} {k : Nat} (h0 : 0 ≤ z) (h : z < pw k) : (digs (z + 1)).length ≤ k + 1 :=
  digs_len_le (by omega) (by have := pw_pos k; simp only [pw]; omega)
end Go.El
/- Integers: DivMod walked. -/
namespace Go.Proofs.YtddcgojpgdhefaaGreatDoor
open Go.RowKit Go.El
set_option linter.unusedVariables false
theorem intv_zero {w : World} {b : Nat} (h : Blk w b 24 [.bool false, .slice none 0 0]) : (loadVar 24 ⟨b, 0, none⟩).run Tryz.prog w = .ok (.agg #[.bool false, .slice none 0 0]) w := load_int h
set_option maxRecDepth 100000 in
set_option maxHeartbeats 1000000 in
theorem divmod_zero (x y : Value) (a : Int) (w : World) (hx : IntV w x a) (hy : IntV w y 0) :
    Calls Tryz.prog 25 #[x, y] w fun e w' => e = .returned (.tuple #[.agg #[.bool false, .slice none 0 0], .agg #[.bool false, .slice none 0 0], .int .i64 10]) ∧ Ext w w' := by
  obtain ⟨na, ax, nx, cx, rfl, hna, hwx⟩ := hx
  obtain ⟨nb, ay, ny, cy, rfl, hnb, hwy⟩ := hy
  obtain rfl : ny = 0 := by rw [← hwy.hlen, Int.natAbs_zero, Int.ofNat_zero, digs_zero]; rfl
  clear hwx hwy hna hnb
  obtain ⟨B, w0, hB, hw0, hb0, hb1, hb2, hb3, he0⟩ := four w 24 24 24 24 [.bool na, .slice ax nx cx] [.bool nb, .slice ay 0 cy] [.bool false, .slice none 0 0] [.bool false, .slice none 0 0]
  go_enter Tryz.func25, Tryz.ntmps25
  go_wp2_with fail
  rw [← hw0, ← hB]
  exact bodyPost_ret (results_cct rfl rfl (intv_zero hb2) rfl (intv_zero hb3)) rfl ⟨rfl, he0⟩
set_option maxRecDepth 100000 in
set_option maxHeartbeats 1000000 in
theorem divmod_plain_walk (x y : Value) (a b : Int) (w : World) (hx : IntV w x a) (hy : IntV w y b) (ha : Fits a 1073741824) (hb : b ≠ 0) (h0 : decide (a < 0) = true → (a.natAbs : Int) % b.natAbs = 0) :
    Calls Tryz.prog 25 #[x, y] w fun e w' => (∃ u v, e = .returned (.tuple #[u, v, .int .i64 0]) ∧ IntV w' u (a / b) ∧ IntV w' v (a % b)) ∧ Ext w w' := by
  obtain ⟨na, ax, nx, cx, rfl, hna, hwx⟩ := hx
  obtain ⟨nb, ay, ny, cy, rfl, hnb, hwy⟩ := hy
  have hnx := ha.len
  rw [hwx.hlen] at hnx
  have hny : ((ny : Int) == 0) = false := by
    have h1 := digs_pos_len (show 0 < (b.natAbs : Int) by omega)
    rw [hwy.hlen] at h1
    simp; omega
  have hzz := divmod_plain hna hnb hb (by rw [hna]; exact h0)
  have HZq : Hid (∀ X, X = (!(na == nb)) → a / b = if X = true then -val (digs ((a.natAbs : Int) / b.natAbs)) else val (digs ((a.natAbs : Int) / b.natAbs))) := by
    rintro X rfl
    rw [val_digs (Int.ediv_nonneg (by omega) (by omega))]
    exact hzz.1
  have HZr : Hid (a % b = if false = true then -val (digs ((a.natAbs : Int) % b.natAbs)) else val (digs ((a.natAbs : Int) % b.natAbs))) := by
    rw [if_neg (by simp), val_digs (Int.emod_nonneg _ (by omega))]
    exact hzz.2
  have H0 : Hid (na = true → (a.natAbs : Int) % b.natAbs = 0) := by rw [hna]; exact h0
  have Hx := Lib.hid hwx
  have Hy := Lib.hid hwy
  clear hzz h0 hna hnb hwx hwy
  obtain ⟨B, w0, hB, hw0, hb0, hb1, hb2, hb3, he0⟩ := four w 24 24 24 24 [.bool na, .slice ax nx cx] [.bool nb, .slice ay ny cy] [.bool false, .slice none 0 0] [.bool false, .slice none 0 0]
  go_enter Tryz.func25, Tryz.ntmps25
  go_wp2_with fail
  rw [← hw0, ← hB]
  have HB := Lib.hid hB
  clear hw0 hB
  have hsz := hb3.lt
  refine (ndiv_any ax ay nx cx ny cy (a.natAbs : Int) (b.natAbs : Int) _ (by omega) (by omega) (Hx.out.ext he0) (Hy.out.ext he0) (by omega)).mono ?_
  rintro e w1 ⟨⟨qa, qn, qc, ra, rn, rc, rfl, hq, hr⟩, he1⟩
  have hc0 := (hb0.ext he1).cell (i := 0) rfl
  have hd0 := (hb1.ext he1).cell (i := 0) rfl
  have HQ := Lib.hid hq
  have HR := Lib.hid hr
  have HQl : Hid (qn ≤ 1073741824) := by
    have := div_len (show 0 ≤ (a.natAbs : Int) by omega) (show 0 < (b.natAbs : Int) by omega)
    rw [hq.hlen] at this
    exact Nat.le_trans this ha.len
  have HRl : Hid (rn ≤ 1073741824) := by
    have := digs_len_mono (Int.emod_nonneg (a.natAbs : Int) (show (b.natAbs : Int) ≠ 0 by omega)) (emod_le' (show 0 ≤ (a.natAbs : Int) by omega) (show 0 < (b.natAbs : Int) by omega))
    rw [hr.hlen] at this
    exact Nat.le_trans this ha.len
  cases na with
  | false =>
    go_wp2_with fail
    refine (signed_any _ _ _ _ _ (a / b) _ HQ.out (by have := HQl.out; omega) (HZq.out _ (by cases nb <;> rfl))).mono ?_
    rintro e w2 ⟨⟨s1, a1, n1, k1, rfl, hr1⟩, he2⟩
    go_wp2_with fail
    refine (signed_any _ _ _ _ _ (a % b) _ (HR.out.ext he2) (by have := HRl.out; omega) HZr.out).mono ?_
    rintro e w3 ⟨⟨s2, a2, n2, k2, rfl, hr2⟩, he3⟩
    have he4 := (he1.trans he2).trans he3
    have hb2' := hb2.ext he4
    have hb3' := hb3.ext he4
    have ec0 := hb2'.cell (i := 0) rfl
    have ec1 := hb2'.cell (i := 1) rfl
    have ef0 := hb2'.free 0
    have ef1 := hb2'.free 1
    have gc0 := hb3'.cell (i := 0) rfl
    have gc1 := hb3'.cell (i := 1) rfl
    have gf0 := hb3'.free 0
    have gf1 := hb3'.free 1
    go_wp2_with fail
    have hbA := ((hb2'.set2 (.bool s1) (.slice a1 n1 k1)).other (p := ⟨B + 1 + 1 + 1, 0, none⟩) (by show B + 1 + 1 + 1 ≠ B + 1 + 1; omega) (.bool s2)).other (p := ⟨B + 1 + 1 + 1, 1, none⟩) (by show B + 1 + 1 + 1 ≠ B + 1 + 1; omega) (.slice a2 n2 k2)
    have hbB := (hb3'.other (p := ⟨B + 1 + 1, 0, none⟩) (by show B + 1 + 1 ≠ B + 1 + 1 + 1; omega) (.bool s1)).other (p := ⟨B + 1 + 1, 1, none⟩) (by show B + 1 + 1 ≠ B + 1 + 1 + 1; omega) (.slice a1 n1 k1)
    refine bodyPost_ret (results_cct rfl rfl (load_int hbA) rfl (load_int (hbB.set2 _ _))) rfl ?_
    refine ⟨⟨_, _, rfl, ⟨_, _, _, _, rfl, hr1.1, ?_⟩, ⟨_, _, _, _, rfl, hr2.1, ?_⟩⟩, (((((he0.trans he4).store' HB (by omega) 0 _).store' HB (by omega) 1 _).store' HB (by omega) 0 _).store' HB (by omega) 1 _)⟩
    · exact ((hr1.2.ext he3).keep2 hb2' (by simp) (by simp) _ _).keep2 hbB (by simp) (by simp) _ _
    · exact (hr2.2.keep2 hb2' (by simp) (by simp) _ _).keep2 hbB (by simp) (by simp) _ _
  | true =>
    have := H0.out rfl
    rw [this] at hr
    have h2 := hr.hlen
    rw [digs_zero] at h2
    obtain rfl : rn = 0 := h2.symm
    clear h2 this hr
    go_wp2_with fail
    refine (signed_any _ _ _ _ _ (a / b) _ HQ.out (by have := HQl.out; omega) (HZq.out _ (by cases nb <;> rfl))).mono ?_
    rintro e w2 ⟨⟨s1, a1, n1, k1, rfl, hr1⟩, he2⟩
    go_wp2_with fail
    refine (signed_any _ _ _ _ _ (a % b) _ (HR.out.ext he2) (by have := HRl.out; omega) HZr.out).mono ?_
    rintro e w3 ⟨⟨s2, a2, n2, k2, rfl, hr2⟩, he3⟩
    have he4 := (he1.trans he2).trans he3
    have hb2' := hb2.ext he4
    have hb3' := hb3.ext he4
    have ec0 := hb2'.cell (i := 0) rfl
    have ec1 := hb2'.cell (i := 1) rfl
    have ef0 := hb2'.free 0
    have ef1 := hb2'.free 1
    have gc0 := hb3'.cell (i := 0) rfl
    have gc1 := hb3'.cell (i := 1) rfl
    have gf0 := hb3'.free 0
    have gf1 := hb3'.free 1
    go_wp2_with fail
    have hbA := ((hb2'.set2 (.bool s1) (.slice a1 n1 k1)).other (p := ⟨B + 1 + 1 + 1, 0, none⟩) (by show B + 1 + 1 + 1 ≠ B + 1 + 1; omega) (.bool s2)).other (p := ⟨B + 1 + 1 + 1, 1, none⟩) (by show B + 1 + 1 + 1 ≠ B + 1 + 1; omega) (.slice a2 n2 k2)
    have hbB := (hb3'.other (p := ⟨B + 1 + 1, 0, none⟩) (by show B + 1 + 1 ≠ B + 1 + 1 + 1; omega) (.bool s1)).other (p := ⟨B + 1 + 1, 1, none⟩) (by show B + 1 + 1 ≠ B + 1 + 1 + 1; omega) (.slice a1 n1 k1)
    refine bodyPost_ret (results_cct rfl rfl (load_int hbA) rfl (load_int (hbB.set2 _ _))) rfl ?_
    refine ⟨⟨_, _, rfl, ⟨_, _, _, _, rfl, hr1.1, ?_⟩, ⟨_, _, _, _, rfl, hr2.1, ?_⟩⟩, (((((he0.trans he4).store' HB (by omega) 0 _).store' HB (by omega) 1 _).store' HB (by omega) 0 _).store' HB (by omega) 1 _)⟩
    · exact ((hr1.2.ext he3).keep2 hb2' (by simp) (by simp) _ _).keep2 hbB (by simp) (by simp) _ _
    · exact (hr2.2.keep2 hb2' (by simp) (by simp) _ _).keep2 hbB (by simp) (by simp) _ _
set_option maxRecDepth 100000 in
set_option maxHeartbeats 1000000 in
theorem divmod_up_walk (x y : Value) (a b : Int) (w : World) (hx : IntV w x a) (hy : IntV w y b) (ha : Fits a 1073741824) (hB1 : Fits b 1073741824) (hb : b ≠ 0) (h0 : a < 0) (h1 : (a.natAbs : Int) % b.natAbs ≠ 0) :
    Calls Tryz.prog 25 #[x, y] w fun e w' => (∃ u v, e = .returned (.tuple #[u, v, .int .i64 0]) ∧ IntV w' u (a / b) ∧ IntV w' v (a % b)) ∧ Ext w w' := by
  obtain ⟨na, ax, nx, cx, rfl, hna, hwx⟩ := hx
  obtain ⟨nb, ay, ny, cy, rfl, hnb, hwy⟩ := hy
  obtain rfl : na = true := by rw [hna]; simp [h0]
  have hnx := ha.len
  rw [hwx.hlen] at hnx
  have hny : ((ny : Int) == 0) = false := by
    have h1 := digs_pos_len (show 0 < (b.natAbs : Int) by omega)
    rw [hwy.hlen] at h1
    simp; omega
  have hzz := divmod_up h0 hnb hb h1
  obtain ⟨lq, hlq⟩ : ∃ l, l = digs (val (digs ((a.natAbs : Int) / b.natAbs)) + val (digs 1)) := ⟨_, rfl⟩
  obtain ⟨lr, hlr⟩ : ∃ l, l = digs (val (digs (b.natAbs : Int)) - val (digs ((a.natAbs : Int) % b.natAbs))) := ⟨_, rfl⟩
  have HZq : Hid (∀ X, X = (!(true == nb)) → a / b = if X = true then -val lq else val lq) := by
    rintro X rfl
    have := Int.ediv_nonneg (show 0 ≤ (a.natAbs : Int) by omega) (show 0 ≤ (b.natAbs : Int) by omega)
    rw [hlq, val_digs this, val_digs (show (0 : Int) ≤ 1 by omega), val_digs (by omega)]
    exact hzz.1
  have HZr : Hid (a % b = if false = true then -val lr else val lr) := by
    have h3 := Int.emod_nonneg (a.natAbs : Int) (show (b.natAbs : Int) ≠ 0 by omega)
    have h4 := Int.emod_lt_of_pos (a.natAbs : Int) (show 0 < (b.natAbs : Int) by omega)
    rw [hlr, if_neg (by simp), val_digs h3, val_digs (show 0 ≤ (b.natAbs : Int) by omega), val_digs (by omega)]
    exact hzz.2
  have HLQ := Lib.hid hlq
  have HLR := Lib.hid hlr
  clear hlq hlr
  have H1 := Lib.hid h1
  have Hny : Hid (ny ≤ 1073741824) := by rw [← hwy.hlen]; exact hB1.len
  have Hx := Lib.hid hwx
  have Hy := Lib.hid hwy
  clear hzz h0 h1 hna hnb hwx hwy
  obtain ⟨B, w0, hB, hw0, hb0, hb1, hb2, hb3, he0⟩ := four w 24 24 24 24 [.bool true, .slice ax nx cx] [.bool nb, .slice ay ny cy] [.bool false, .slice none 0 0] [.bool false, .slice none 0 0]
  go_enter Tryz.func25, Tryz.ntmps25
  go_wp2_with fail
  rw [← hw0, ← hB]
  have HB := Lib.hid hB
  clear hw0 hB
  have hsz := hb3.lt
  refine (ndiv_any ax ay nx cx ny cy (a.natAbs : Int) (b.natAbs : Int) _ (by omega) (by omega) (Hx.out.ext he0) (Hy.out.ext he0) (by omega)).mono ?_
  rintro e w1 ⟨⟨qa, qn, qc, ra, rn, rc, rfl, hq, hr⟩, he1⟩
  have hc0 := (hb0.ext he1).cell (i := 0) rfl
  have hd0 := (hb1.ext he1).cell (i := 0) rfl
  have HQ := Lib.hid hq
  have HR := Lib.hid hr
  have HQl : Hid (qn ≤ 1073741824) := by
    have := div_len (show 0 ≤ (a.natAbs : Int) by omega) (show 0 < (b.natAbs : Int) by omega)
    rw [hq.hlen] at this
    exact Nat.le_trans this ha.len
  have HRl : Hid (rn ≤ 1073741824) := by
    have := digs_len_mono (Int.emod_nonneg (a.natAbs : Int) (show (b.natAbs : Int) ≠ 0 by omega)) (emod_le' (show 0 ≤ (a.natAbs : Int) by omega) (show 0 < (b.natAbs : Int) by omega))
    rw [hr.hlen] at this
    exact Nat.le_trans this ha.len
  have hrp : decide ((rn : Int) > 0) = true := by
    have h3 := Int.emod_nonneg (a.natAbs : Int) (show (b.natAbs : Int) ≠ 0 by omega)
    have h5 := digs_pos_len (show 0 < (a.natAbs : Int) % b.natAbs by have := H1.out; omega)
    rw [hr.hlen] at h5
    simp; omega
  have hle : val (digs ((a.natAbs : Int) % b.natAbs)) ≤ val (digs (b.natAbs : Int)) := by
    have h3 := Int.emod_nonneg (a.natAbs : Int) (show (b.natAbs : Int) ≠ 0 by omega)
    have h4 := Int.emod_lt_of_pos (a.natAbs : Int) (show 0 < (b.natAbs : Int) by omega)
    rw [val_digs h3, val_digs (by omega)]; omega
  have hll : rn ≤ ny := by
    have h3 := Int.emod_nonneg (a.natAbs : Int) (show (b.natAbs : Int) ≠ 0 by omega)
    have h4 := Int.emod_lt_of_pos (a.natAbs : Int) (show 0 < (b.natAbs : Int) by omega)
    rw [← hr.hlen, ← Hy.out.hlen]
    exact digs_len_mono h3 (by omega)
  obtain ⟨m, rfl⟩ : ∃ m, rn = m + 1 := ⟨rn - 1, by have := of_decide_eq_true hrp; omega⟩
  have HLE := Lib.hid hle
  have HLL := Lib.hid hll
  clear hq hr hrp hle hll
  go_wp2_with fail
  refine (natural_any 1 _ (by omega) (by omega)).mono ?_
  rintro e w2 ⟨⟨oa, on, oc, rfl, ho, hon⟩, he2⟩
  have HO := Lib.hid ho
  clear ho
  go_wp2_with fail
  refine (nadd_any qa oa qn qc on oc _ _ _ (HQ.out.ext he2) HO.out (by have := HQl.out; omega) (by omega)).mono ?_
  rintro e w3 ⟨⟨qa', qn', qc', rfl, hq'⟩, he3⟩
  rw [← HLQ.out] at hq'
  have HQ' := Lib.hid hq'
  clear hq'
  go_wp2_with fail
  refine (nsub_any ay ra ny cy (m + 1) rc _ _ _ (Hy.out.ext ((he0.trans he1).trans (he2.trans he3))) (HR.out.ext (he2.trans he3)) (by have := Hny.out; omega) HLE.out HLL.out).mono ?_
  rintro e w4 ⟨⟨ra', rn', rc', rfl, hr'⟩, he4⟩
  rw [← HLR.out] at hr'
  have HR' := Lib.hid hr'
  clear hr' 
  have HQl' : Hid (qn' ≤ 1073741825) := by
    rw [← HQ'.out.hlen, HLQ.out]
    have h2 := Int.ediv_nonneg (show 0 ≤ (a.natAbs : Int) by omega) (show 0 ≤ (b.natAbs : Int) by omega)
    have h4 := Int.ediv_le_self (a := (a.natAbs : Int)) (b.natAbs : Int) (by omega)
    rw [val_digs h2, val_digs (show (0 : Int) ≤ 1 by omega)]
    refine digs_succ_len h2 (Int.lt_of_le_of_lt h4 ha)
  have HRl' : Hid (rn' ≤ 1073741824) := by
    rw [← HR'.out.hlen, HLR.out]
    have h3 := Int.emod_nonneg (a.natAbs : Int) (show (b.natAbs : Int) ≠ 0 by omega)
    have h4 := Int.emod_lt_of_pos (a.natAbs : Int) (show 0 < (b.natAbs : Int) by omega)
    rw [val_digs h3, val_digs (show 0 ≤ (b.natAbs : Int) by omega)]
    refine digs_len_le (by omega) ?_
    unfold Fits at hB1
    omega
  have hd := hc0
  have hd' := hd0
  clear hc0 hd0 hd hd'
  have HQ4 := Lib.hid (HQ'.out.ext he4)
  have he1' := ((he1.trans he2).trans he3).trans he4
  have he1 := he1'
  clear he1' he2 he3 he4
  have hc0 := (hb0.ext he1).cell (i := 0) rfl
  have hd0 := (hb1.ext he1).cell (i := 0) rfl
  clear HQ HR HQl HRl
  have HQ := HQ4
  have HR := HR'
  have HQl := HQl'
  have HRl := HRl'
  clear HQ4 HR' HQl' HRl' HQ'
  obtain ⟨w1, rfl⟩ : ∃ x : World, x = w4 := ⟨_, rfl⟩
  go_wp2_with fail
  refine (signed_any _ _ _ _ _ (a / b) _ HQ.out (by have := HQl.out; omega) (HZq.out _ (by cases nb <;> rfl))).mono ?_
  rintro e w2 ⟨⟨s1, a1, n1, k1, rfl, hr1⟩, he2⟩
  go_wp2_with fail
  refine (signed_any _ _ _ _ _ (a % b) _ (HR.out.ext he2) (by have := HRl.out; omega) HZr.out).mono ?_
  rintro e w3 ⟨⟨s2, a2, n2, k2, rfl, hr2⟩, he3⟩
  have he4 := (he1.trans he2).trans he3
  have hb2' := hb2.ext he4
  have hb3' := hb3.ext he4
  have ec0 := hb2'.cell (i := 0) rfl
  have ec1 := hb2'.cell (i := 1) rfl
  have ef0 := hb2'.free 0
  have ef1 := hb2'.free 1
  have gc0 := hb3'.cell (i := 0) rfl
  have gc1 := hb3'.cell (i := 1) rfl
  have gf0 := hb3'.free 0
  have gf1 := hb3'.free 1
  go_wp2_with fail
  have hbA := ((hb2'.set2 (.bool s1) (.slice a1 n1 k1)).other (p := ⟨B + 1 + 1 + 1, 0, none⟩) (by show B + 1 + 1 + 1 ≠ B + 1 + 1; omega) (.bool s2)).other (p := ⟨B + 1 + 1 + 1, 1, none⟩) (by show B + 1 + 1 + 1 ≠ B + 1 + 1; omega) (.slice a2 n2 k2)
  have hbB := (hb3'.other (p := ⟨B + 1 + 1, 0, none⟩) (by show B + 1 + 1 ≠ B + 1 + 1 + 1; omega) (.bool s1)).other (p := ⟨B + 1 + 1, 1, none⟩) (by show B + 1 + 1 ≠ B + 1 + 1 + 1; omega) (.slice a1 n1 k1)
  refine bodyPost_ret (results_cct rfl rfl (load_int hbA) rfl (load_int (hbB.set2 _ _))) rfl ?_
  refine ⟨⟨_, _, rfl, ⟨_, _, _, _, rfl, hr1.1, ?_⟩, ⟨_, _, _, _, rfl, hr2.1, ?_⟩⟩, (((((he0.trans he4).store' HB (by omega) 0 _).store' HB (by omega) 1 _).store' HB (by omega) 0 _).store' HB (by omega) 1 _)⟩
  · exact ((hr1.2.ext he3).keep2 hb2' (by simp) (by simp) _ _).keep2 hbB (by simp) (by simp) _ _
  · exact (hr2.2.keep2 hb2' (by simp) (by simp) _ _).keep2 hbB (by simp) (by simp) _ _
/-- integer.DivMod, a divisor other than 0 -/
theorem divmod_any (x y : Value) (a b : Int) (w : World) (hx : IntV w x a) (hy : IntV w y b) (ha : Fits a 1073741824) (hB1 : Fits b 1073741824) (hb : b ≠ 0) :
    Calls Tryz.prog 25 #[x, y] w fun e w' => (∃ u v, e = .returned (.tuple #[u, v, .int .i64 0]) ∧ IntV w' u (a / b) ∧ IntV w' v (a % b)) ∧ Ext w w' := by
  by_cases h : a < 0 ∧ (a.natAbs : Int) % b.natAbs ≠ 0
  · exact divmod_up_walk x y a b w hx hy ha hB1 hb h.1 h.2
  · refine divmod_plain_walk x y a b w hx hy ha hb fun h1 => ?_
    by_cases h2 : (a.natAbs : Int) % b.natAbs = 0
    · exact h2
    · exact absurd ⟨of_decide_eq_true h1, h2⟩ h
end Go.Proofs.YtddcgojpgdhefaaGreatDoor
/- Integers: quo, mod. -/
namespace Go.Proofs.YtddcgojpgdhefaaGreatDoor
open Go.RowKit Go.El
set_option linter.unusedVariables false
set_option maxRecDepth 100000 in
set_option maxHeartbeats 1000000 in
theorem mod_any (x y : Value) (a b : Int) (w : World) (hx : IntV w x a) (hy : IntV w y b) (ha : Fits a 1073741824) (hB1 : Fits b 1073741824) (hb : b ≠ 0) :
    Calls Tryz.prog 76 #[x, y] w fun e w' => (∃ v, e = .returned v ∧ IntV w' v (a % b)) ∧ Ext w w' := by
  have HX := Lib.hid hx
  have HY := Lib.hid hy
  obtain ⟨na, ax, nx, cx, rfl, hna, hwx⟩ := hx
  obtain ⟨nb, ay, ny, cy, rfl, hnb, hwy⟩ := hy
  clear hwx hwy hna hnb
  obtain ⟨B, w0, hB, hw0, hb0, hb1, hb2, he0⟩ := three w 24 24 24 [.bool na, .slice ax nx cx] [.bool nb, .slice ay ny cy] [.bool false, .slice none 0 0]
  go_enter Tryz.func76, Tryz.ntmps76
  go_wp2_with fail
  rw [← hw0, ← hB]
  have HB := Lib.hid hB
  clear hw0 hB hb0 hb1
  refine (divmod_any _ _ a b _ (HX.out.ext he0) (HY.out.ext he0) ha hB1 hb).mono ?_
  rintro e w1 ⟨⟨u, v, rfl, hu, hv⟩, he1⟩
  obtain ⟨s1, a1, n1, c1, rfl, h1⟩ := hu
  obtain ⟨s2, a2, n2, c2, rfl, h2⟩ := hv
  have H1 := Lib.hid h1
  have H2 := Lib.hid h2
  have he2 := ((he0.trans he1).alloc (.cells #[.bool s1, .slice a1 n1 c1] 24)).alloc (.cells #[.bool s2, .slice a2 n2 c2] 24)
  clear h1 h2 he0
  have hb2' := (((hb2.ext he1).alloc (.cells #[.bool s1, .slice a1 n1 c1] 24)).alloc (.cells #[.bool s2, .slice a2 n2 c2] 24))
  have e0 := hb2'.cell (i := 0) rfl
  have e1 := hb2'.cell (i := 1) rfl
  have f0 := hb2'.free 0
  have f1 := hb2'.free 1
  clear hb2
  go_wp2_with fail
  have hr := H2.out.ext (((Ext.refl w1).alloc (.cells #[.bool s1, .slice a1 n1 c1] 24)).alloc (.cells #[.bool s2, .slice a2 n2 c2] 24))
  refine bodyPost_ret (results_c rfl rfl (load_int (hb2'.set2 _ _))) rfl ?_
  exact ⟨⟨_, rfl, _, _, _, _, rfl, hr.1, hr.2.keep2 hb2' (by simp) (by simp) _ _⟩, (he2.store' HB (by omega) 0 _).store' HB (by omega) 1 _⟩
set_option maxRecDepth 100000 in
set_option maxHeartbeats 1000000 in
theorem quo_any (x y : Value) (a b : Int) (w : World) (hx : IntV w x a) (hy : IntV w y b) (ha : Fits a 1073741824) (hB1 : Fits b 1073741824) (hb : b ≠ 0) :
    Calls Tryz.prog 77 #[x, y] w fun e w' => (∃ v, e = .returned v ∧ IntV w' v (a / b)) ∧ Ext w w' := by
  have HX := Lib.hid hx
  have HY := Lib.hid hy
  obtain ⟨na, ax, nx, cx, rfl, hna, hwx⟩ := hx
  obtain ⟨nb, ay, ny, cy, rfl, hnb, hwy⟩ := hy
  clear hwx hwy hna hnb
  obtain ⟨B, w0, hB, hw0, hb0, hb1, hb2, he0⟩ := three w 24 24 24 [.bool na, .slice ax nx cx] [.bool nb, .slice ay ny cy] [.bool false, .slice none 0 0]
  go_enter Tryz.func77, Tryz.ntmps77
  go_wp2_with fail
  rw [← hw0, ← hB]
  have HB := Lib.hid hB
  clear hw0 hB hb0 hb1
  refine (divmod_any _ _ a b _ (HX.out.ext he0) (HY.out.ext he0) ha hB1 hb).mono ?_
  rintro e w1 ⟨⟨u, v, rfl, hu, hv⟩, he1⟩
  obtain ⟨s1, a1, n1, c1, rfl, h1⟩ := hu
  obtain ⟨s2, a2, n2, c2, rfl, h2⟩ := hv
  have H1 := Lib.hid h1
  have H2 := Lib.hid h2
  have he2 := ((he0.trans he1).alloc (.cells #[.bool s1, .slice a1 n1 c1] 24)).alloc (.cells #[.bool s2, .slice a2 n2 c2] 24)
  clear h1 h2 he0
  have hb2' := (((hb2.ext he1).alloc (.cells #[.bool s1, .slice a1 n1 c1] 24)).alloc (.cells #[.bool s2, .slice a2 n2 c2] 24))
  have e0 := hb2'.cell (i := 0) rfl
  have e1 := hb2'.cell (i := 1) rfl
  have f0 := hb2'.free 0
  have f1 := hb2'.free 1
  clear hb2
  go_wp2_with fail
  have hr := H1.out.ext (((Ext.refl w1).alloc (.cells #[.bool s1, .slice a1 n1 c1] 24)).alloc (.cells #[.bool s2, .slice a2 n2 c2] 24))
  refine bodyPost_ret (results_c rfl rfl (load_int (hb2'.set2 _ _))) rfl ?_
  exact ⟨⟨_, rfl, _, _, _, _, rfl, hr.1, hr.2.keep2 hb2' (by simp) (by simp) _ _⟩, (he2.store' HB (by omega) 0 _).store' HB (by omega) 1 _⟩
end Go.Proofs.YtddcgojpgdhefaaGreatDoor
/- Integers: Sign, Cmp. -/
namespace Go.El
theorem sgn_cases (a b : Int) : (a < b ∧ sgn a b = -1) ∨ (a = b ∧ sgn a b = 0) ∨ (b < a ∧ sgn a b = 1) := by
  unfold sgn
  by_cases h : a < b
  · exact Or.inl ⟨h, by simp [h]⟩
  · by_cases h' : b < a
    · exact Or.inr (Or.inr ⟨h', by simp [h, h']⟩)
    · exact Or.inr (Or.inl ⟨by omega, by simp [h, h']⟩)
theorem sgn_sgn {a b : Int} (h5 : (a < 0) ≠ (b < 0)) : sgn (sgn a 0) (sgn b 0) = sgn a b := by
  have key : ∀ p q : Prop, p = q → p ≠ q → False := fun p q h k => k h
  rcases sgn_cases a 0 with ⟨p1, e1⟩ | ⟨p1, e1⟩ | ⟨p1, e1⟩ <;> rcases sgn_cases b 0 with ⟨p2, e2⟩ | ⟨p2, e2⟩ | ⟨p2, e2⟩ <;> rw [e1, e2] <;> rcases sgn_cases a b with ⟨p3, e3⟩ | ⟨p3, e3⟩ | ⟨p3, e3⟩ <;> first | (rw [e3]; rfl) | (exfalso; omega) | exact absurd (propext (by omega)) h5
theorem sgn_minus (a b : Int) : sgn (-b) (-a) = sgn a b := by
  rcases sgn_cases a b with ⟨p, e⟩ | ⟨p, e⟩ | ⟨p, e⟩ <;> rcases sgn_cases (-b) (-a) with ⟨q, f⟩ | ⟨q, f⟩ | ⟨q, f⟩ <;> rw [e, f] <;> omega
end Go.El
namespace Go.Proofs.YtddcgojpgdhefaaGreatDoor
open Go.RowKit Go.El
set_option linter.unusedVariables false
set_option maxRecDepth 100000 in
/-- integer.Sign -/
theorem sign_any (x : Value) (a : Int) (w : World) (hx : IntV w x a) :
    Calls Tryz.prog 24 #[x] w fun e w' => e = .returned (.int .i64 (sgn a 0)) ∧ Ext w w' := by
  obtain ⟨na, ax, nx, cx, rfl, hna, hwx⟩ := hx
  by_cases h : a < 0
  · obtain rfl : na = true := by rw [hna]; simp [h]
    have hs : sgn a 0 = -1 := by have := sgn_cases a 0; omega
    rw [hs]
    clear hwx hna hs
    go_enter Tryz.func24, Tryz.ntmps24
    go_wp2_with fail
    go_ret
    exact ⟨rfl, (Ext.refl w).alloc _⟩
  · obtain rfl : na = false := by rw [hna]; simp [h]
    by_cases h0 : a = 0
    · subst h0
      obtain rfl : nx = 0 := by rw [← hwx.hlen, Int.natAbs_zero, Int.ofNat_zero, digs_zero]; rfl
      clear hwx hna h
      rw [show sgn 0 0 = 0 by rfl]
      go_enter Tryz.func24, Tryz.ntmps24
      go_wp2_with fail
      go_ret
      exact ⟨rfl, (Ext.refl w).alloc _⟩
    · have h1 := digs_pos_len (show 0 < (a.natAbs : Int) by omega)
      rw [hwx.hlen] at h1
      have hs : sgn a 0 = 1 := by have := sgn_cases a 0; omega
      rw [hs]
      obtain ⟨m, rfl⟩ : ∃ m, nx = m + 1 := ⟨nx - 1, by omega⟩
      clear hwx hna hs h h0 h1
      go_enter Tryz.func24, Tryz.ntmps24
      go_wp2_with fail
      go_ret
      rw [Int.min_eq_right (by omega)]
      exact ⟨rfl, (Ext.refl w).alloc _⟩
set_option maxRecDepth 100000 in
/-- ref.Sign -/
theorem rsign_any (x : Value) (a : Int) (w : World) (hx : IntV w x a) :
    Calls Tryz.prog 49 #[x] w fun e w' => e = .returned (.int .i64 (sgn a 0)) ∧ Ext w w' := by
  obtain ⟨na, ax, nx, cx, rfl, hna, hwx⟩ := hx
  by_cases h : a < 0
  · obtain rfl : na = true := by rw [hna]; simp [h]
    have hs : sgn a 0 = -1 := by have := sgn_cases a 0; omega
    rw [hs]
    clear hwx hna hs
    go_enter Tryz.func49, Tryz.ntmps49
    go_wp2_with fail
    go_ret
    exact ⟨rfl, (Ext.refl w).alloc _⟩
  · obtain rfl : na = false := by rw [hna]; simp [h]
    by_cases h0 : a = 0
    · subst h0
      obtain rfl : nx = 0 := by rw [← hwx.hlen, Int.natAbs_zero, Int.ofNat_zero, digs_zero]; rfl
      clear hwx hna h
      rw [show sgn 0 0 = 0 by rfl]
      go_enter Tryz.func49, Tryz.ntmps49
      go_wp2_with fail
      go_ret
      exact ⟨rfl, (Ext.refl w).alloc _⟩
    · have h1 := digs_pos_len (show 0 < (a.natAbs : Int) by omega)
      rw [hwx.hlen] at h1
      have hs : sgn a 0 = 1 := by have := sgn_cases a 0; omega
      rw [hs]
      obtain ⟨m, rfl⟩ : ∃ m, nx = m + 1 := ⟨nx - 1, by omega⟩
      clear hwx hna hs h h0 h1
      go_enter Tryz.func49, Tryz.ntmps49
      go_wp2_with fail
      go_ret
      rw [Int.min_eq_right (by omega)]
      exact ⟨rfl, (Ext.refl w).alloc _⟩

set_option maxRecDepth 100000 in
/-- integer.Cmp, signs not equal -/
theorem cmp_signs (x y : Value) (a b : Int) (w : World) (hx : IntV w x a) (hy : IntV w y b) (hsg : decide (a < 0) ≠ decide (b < 0)) :
    Calls Tryz.prog 16 #[x, y] w fun e w' => e = .returned (.int .i64 (sgn a b)) ∧ Ext w w' := by
  have HX := Lib.hid hx
  have HY := Lib.hid hy
  obtain ⟨na, ax, nx, cx, rfl, hna, hwx⟩ := hx
  obtain ⟨nb, ay, ny, cy, rfl, hnb, hwy⟩ := hy
  have hnn : (na == nb) = false := beq_eq_false_iff_ne.2 (by rw [hna, hnb]; exact hsg)
  have HS : Hid (sgn (sgn a 0) (sgn b 0) = sgn a b) := by
    exact sgn_sgn (fun h => hsg (by simp only [h]))
  clear hwx hwy hna hnb hsg
  obtain ⟨B, w0, hB, hw0, hb0, hb1, he0⟩ := two w 24 24 [.bool na, .slice ax nx cx] [.bool nb, .slice ay ny cy]
  go_enter Tryz.func16, Tryz.ntmps16
  go_wp2_with fail
  rw [← hw0, ← hB]
  have c0 := hb0.cell (i := 0) rfl
  have c1 := hb0.cell (i := 1) rfl
  have d0 := hb1.cell (i := 0) rfl
  have d1 := hb1.cell (i := 1) rfl
  have HB := Lib.hid hB
  have KH : Hid (∀ w', Ext w0 w' → w'.cell? ⟨B, 0, none⟩ = some (.bool na) ∧ w'.cell? ⟨B, 1, none⟩ = some (.slice ax nx cx) ∧ w'.cell? ⟨B + 1, 0, none⟩ = some (.bool nb) ∧ w'.cell? ⟨B + 1, 1, none⟩ = some (.slice ay ny cy)) :=
    fun w' h => ⟨h.cell c0, h.cell c1, h.cell d0, h.cell d1⟩
  clear hw0 hB
  clear hb0 hb1
  go_region_held3 (fun w' => w'.cell? ⟨B, 0, none⟩ = some (.bool na) ∧ w'.cell? ⟨B, 1, none⟩ = some (.slice ax nx cx) ∧ w'.cell? ⟨B + 1, 0, none⟩ = some (.bool nb) ∧ w'.cell? ⟨B + 1, 1, none⟩ = some (.slice ay ny cy))
    (first | exact KH.out _ (Ext.refl _).drew | exact KH.out _ ((Ext.refl w0).drew.trans he1) | exact KH.out _ (((Ext.refl w0).drew.trans he1).trans he2))
    (first
    | (go_at_call 24; (with_reducible refine (sign_any _ a _ (HX.out.ext he0.drew)).mono ?_); rintro e w1 ⟨rfl, he1⟩)
    | (go_at_call 24; (with_reducible refine (sign_any _ b _ (HY.out.ext (he0.drew.trans he1))).mono ?_); rintro e w2 ⟨rfl, he2⟩)
    | (go_at_call 52; (with_reducible refine (compare_int _ _ _).mono ?_); rintro e w3 ⟨rfl, rfl⟩)
    )
  go_wp2_with fail
  go_ret
  rw [HS.out]
  exact ⟨rfl, (he0.drew.trans he1).trans he2⟩
set_option maxRecDepth 100000 in
theorem cmp_minus (x y : Value) (a b : Int) (w : World) (hx : IntV w x a) (hy : IntV w y b) (h1 : a < 0) (h2 : b < 0) :
    Calls Tryz.prog 16 #[x, y] w fun e w' => e = .returned (.int .i64 (sgn a b)) ∧ Ext w w' := by
  obtain ⟨na, ax, nx, cx, rfl, hna, hwx⟩ := hx
  obtain ⟨nb, ay, ny, cy, rfl, hnb, hwy⟩ := hy
  obtain rfl : na = true := by rw [hna]; simp [h1]
  obtain rfl : nb = true := by rw [hnb]; simp [h2]
  have HS : Hid (sgn (b.natAbs : Int) (a.natAbs : Int) = sgn a b) := by
    rw [show (a.natAbs : Int) = -a by omega, show (b.natAbs : Int) = -b by omega]
    exact sgn_minus a b
  have Hx := Lib.hid hwx
  have Hy := Lib.hid hwy
  clear hwx hwy hna hnb h1 h2
  obtain ⟨B, w0, hB, hw0, hb0, hb1, he0⟩ := two w 24 24 [.bool true, .slice ay ny cy] [.bool true, .slice ax nx cx]
  go_enter Tryz.func16, Tryz.ntmps16
  go_wp2_with fail
  refine (ncmp_any ay ax ny cy nx cx (b.natAbs : Int) (a.natAbs : Int) _ (by omega) (by omega) (Hy.out.ext ?_) (Hx.out.ext ?_)).mono ?_
  · rw [← hw0]; exact he0
  · rw [← hw0]; exact he0
  rw [← hw0, ← hB]
  rintro e w1 ⟨rfl, hd⟩
  clear hw0 hB hb0 hb1
  go_wp2_with fail
  go_ret
  rw [HS.out]
  exact ⟨rfl, he0.trans hd.ext⟩
set_option maxRecDepth 100000 in
theorem cmp_plus (x y : Value) (a b : Int) (w : World) (hx : IntV w x a) (hy : IntV w y b) (h1 : ¬ a < 0) (h2 : ¬ b < 0) :
    Calls Tryz.prog 16 #[x, y] w fun e w' => e = .returned (.int .i64 (sgn a b)) ∧ Ext w w' := by
  obtain ⟨na, ax, nx, cx, rfl, hna, hwx⟩ := hx
  obtain ⟨nb, ay, ny, cy, rfl, hnb, hwy⟩ := hy
  obtain rfl : na = false := by rw [hna]; simp [h1]
  obtain rfl : nb = false := by rw [hnb]; simp [h2]
  have HS : Hid (sgn (a.natAbs : Int) (b.natAbs : Int) = sgn a b) := by
    rw [show (a.natAbs : Int) = a by omega, show (b.natAbs : Int) = b by omega]
    exact rfl
  have Hx := Lib.hid hwx
  have Hy := Lib.hid hwy
  clear hwx hwy hna hnb h1 h2
  obtain ⟨B, w0, hB, hw0, hb0, hb1, he0⟩ := two w 24 24 [.bool false, .slice ax nx cx] [.bool false, .slice ay ny cy]
  go_enter Tryz.func16, Tryz.ntmps16
  go_wp2_with fail
  refine (ncmp_any ax ay nx cx ny cy (a.natAbs : Int) (b.natAbs : Int) _ (by omega) (by omega) (Hx.out.ext ?_) (Hy.out.ext ?_)).mono ?_
  · rw [← hw0]; exact he0
  · rw [← hw0]; exact he0
  rw [← hw0, ← hB]
  rintro e w1 ⟨rfl, hd⟩
  clear hw0 hB hb0 hb1
  go_wp2_with fail
  go_ret
  rw [HS.out]
  exact ⟨rfl, he0.trans hd.ext⟩
/-- integer.Cmp -/
theorem cmp_any (x y : Value) (a b : Int) (w : World) (hx : IntV w x a) (hy : IntV w y b) :
    Calls Tryz.prog 16 #[x, y] w fun e w' => e = .returned (.int .i64 (sgn a b)) ∧ Ext w w' := by
  by_cases hsg : decide (a < 0) = decide (b < 0)
  · by_cases h1 : a < 0
    · exact cmp_minus x y a b w hx hy h1 (by simpa [h1] using hsg)
    · exact cmp_plus x y a b w hx hy h1 (by simpa [h1] using hsg)
  · exact cmp_signs x y a b w hx hy hsg
end Go.Proofs.YtddcgojpgdhefaaGreatDoor
