/- The reference's integers: product, sum, difference, quotient, order: walked. Written by refgen.py out of XIntA. -/
import Derived.Test.YtddcgojpgdhefaaGreatDoorRefD
namespace Go.Proofs.YtddcgojpgdhefaaGreatDoor
open Go.RowKit Go.El
set_option linter.unusedVariables false
theorem rmade (a : Option Addr) (n c : Nat) (l : List Int) (neg : Bool) (z : Int) (w : World) (h : Words w a n c l) (_ : n ≤ 4398046511104) (hz : z = if neg then - val l else val l) :
    Calls Tryz.prog 51 #[.bool neg, .slice a n c] w fun e w' => (∃ s a n c, e = .returned (.agg #[.bool s, .slice a n c]) ∧ IntW w' s a n c z) ∧ Ext w w' := by
  refine (made_any a n c l neg z w h hz).mono ?_
  rintro e w' ⟨⟨v, rfl, s, a', n', c', rfl, hw⟩, he⟩
  exact ⟨⟨s, a', n', c', rfl, hw⟩, he⟩
set_option maxRecDepth 100000 in
/-- ref.Mul -/
theorem rmul_any (x y : Value) (a b : Int) (w : World) (hx : IntV w x a) (hy : IntV w y b) (ha : Fits a 1073741824) (hb : Fits b 1073741824) :
    Calls Tryz.prog 44 #[x, y] w fun e w' => (∃ v, e = .returned v ∧ IntV w' v (a * b)) ∧ Ext w w' := by
  obtain ⟨na, ax, nx, cx, rfl, hna, hwx⟩ := hx
  obtain ⟨nb, ay, ny, cy, rfl, hnb, hwy⟩ := hy
  have hnx := ha.len
  have hny := hb.len
  rw [hwx.hlen] at hnx
  rw [hwy.hlen] at hny
  have HZ : Hid (a * b = if (!(na == nb)) then -(val (digs (val (digs a.natAbs) * val (digs b.natAbs)))) else val (digs (val (digs a.natAbs) * val (digs b.natAbs)))) := by
    have h := mul_sign hna hnb
    rw [val_digs (show 0 ≤ (a.natAbs : Int) by omega), val_digs (show 0 ≤ (b.natAbs : Int) by omega), val_digs (Int.mul_nonneg (by omega) (by omega))]
    exact h
  have HSz : Hid (∀ (W : World) a' n' c', Words W a' n' c' (digs (val (digs a.natAbs) * val (digs b.natAbs))) → n' ≤ 4398046511104) := by
    intro W a' n' c' h
    rw [← h.hlen, val_digs (show 0 ≤ (a.natAbs : Int) by omega), val_digs (show 0 ≤ (b.natAbs : Int) by omega)]
    have h1 := (ha.mul hb).len
    rw [Int.natAbs_mul, Int.natCast_mul] at h1
    omega
  have Hx := Lib.hid hwx
  have Hy := Lib.hid hwy
  have HNa := Lib.hid hna
  have HNb := Lib.hid hnb
  clear hwx hwy hna hnb
  obtain ⟨B, w0, hB, hw0, hb0, hb1, hb2, he0⟩ := three w 24 24 24 [.bool na, .slice ax nx cx] [.bool nb, .slice ay ny cy] [.bool false, .slice none 0 0]
  go_enter Tryz.func44, Tryz.ntmps44
  go_wp2_with fail
  rw [← hw0, ← hB]
  have c0 := hb0.cell (i := 0) rfl
  have c1 := hb0.cell (i := 1) rfl
  have d0 := hb1.cell (i := 0) rfl
  have d1 := hb1.cell (i := 1) rfl
  have HB := Lib.hid hB
  clear hw0 hB hb0 hb1
  have KH : Hid (∀ w', Below (B + 1 + 1) w0 w' → w'.cell? ⟨B, 0, none⟩ = some (.bool na) ∧ w'.cell? ⟨B, 1, none⟩ = some (.slice ax nx cx) ∧ w'.cell? ⟨B + 1, 0, none⟩ = some (.bool nb) ∧ w'.cell? ⟨B + 1, 1, none⟩ = some (.slice ay ny cy)) :=
    fun w' h => ⟨(h.cell (p := ⟨B, 0, none⟩) (by show B < B + 1 + 1; omega)).trans c0, (h.cell (p := ⟨B, 1, none⟩) (by show B < B + 1 + 1; omega)).trans c1, (h.cell (p := ⟨B + 1, 0, none⟩) (by show B + 1 < B + 1 + 1; omega)).trans d0, (h.cell (p := ⟨B + 1, 1, none⟩) (by show B + 1 < B + 1 + 1; omega)).trans d1⟩
  have hsz := hb2.lt
  go_region_held3 (fun w' => w'.cell? ⟨B, 0, none⟩ = some (.bool na) ∧ w'.cell? ⟨B, 1, none⟩ = some (.slice ax nx cx) ∧ w'.cell? ⟨B + 1, 0, none⟩ = some (.bool nb) ∧ w'.cell? ⟨B + 1, 1, none⟩ = some (.slice ay ny cy))
    (first | exact KH.out _ (Below.refl _ _).drew | exact KH.out _ hx1 | exact KH.out _ hx2 | exact KH.out _ (Below.set2 hx2 (Nat.le_refl _) _ _))
    (first
    | (go_at_call 70; (with_reducible refine (rtimes ax ay nx cx ny cy _ _ _ (Hx.out.ext (he0.drew)) (Hy.out.ext (he0.drew)) (by omega) (by omega)).mono ?_); rintro e w1 ⟨⟨am, nm, cm, rfl, hm⟩, he1⟩; have hx1 := (Below.refl (B + 1 + 1) w0).drew.trans (he1.upto (Nat.le_of_lt hsz)))
    | (go_at_call 51; (with_reducible refine (rmade _ _ _ _ _ (a * b) _ hm (HSz.out _ _ _ _ hm) HZ.out).mono ?_); rintro e w2 ⟨⟨sr, ar, nr, cr, rfl, hr⟩, he2⟩; have hx2 := hx1.trans (he2.upto (Nat.le_trans (Nat.le_of_lt hsz) hx1.size)); have hb2' := hb2.drew.ext (he1.trans he2); have e0 := hb2'.cell (i := 0) rfl; have e1 := hb2'.cell (i := 1) rfl; have f0 := hb2'.free 0; have f1 := hb2'.free 1))
  go_wp2_with fail
  refine bodyPost_ret (results_c rfl rfl (load_int (hb2'.set2 _ _))) rfl ?_
  refine ⟨⟨_, rfl, _, _, _, _, rfl, hr.1, hr.2.keep2 hb2' (by simp) (by simp) _ _⟩, Below.toExt (Below.set2 hx2 (Nat.le_refl _) _ _) he0 HB (by omega)⟩
set_option maxRecDepth 100000 in
set_option maxHeartbeats 1000000 in
/-- ref.Add, equal signs. -/
theorem radd_same (x y : Value) (a b : Int) (w : World) (hx : IntV w x a) (hy : IntV w y b) (ha : Fits a 1073741824) (hb : Fits b 1073741824) (hsg : decide (a < 0) = decide (b < 0)) :
    Calls Tryz.prog 42 #[x, y] w fun e w' => (∃ v, e = .returned v ∧ IntV w' v (a + b)) ∧ Ext w w' := by
  obtain ⟨na, ax, nx, cx, rfl, hna, hwx⟩ := hx
  obtain ⟨nb, ay, ny, cy, rfl, hnb, hwy⟩ := hy
  have hnx := ha.len
  have hny := hb.len
  rw [hwx.hlen] at hnx
  rw [hwy.hlen] at hny
  have Hx := Lib.hid hwx
  have Hy := Lib.hid hwy
  have HNa := Lib.hid hna
  have HNb := Lib.hid hnb
  clear hwx hwy hna hnb
  have hnn : (na == nb) = true := beq_iff_eq.2 (by rw [HNa.out, HNb.out, hsg])
  have HZ : Hid (a + b = if na then -(val (digs (val (digs a.natAbs) + val (digs b.natAbs)))) else val (digs (val (digs a.natAbs) + val (digs b.natAbs)))) := by
    have h := add_sign HNa.out HNb.out (by rw [HNa.out, HNb.out, hsg])
    rw [val_digs (show 0 ≤ (a.natAbs : Int) by omega), val_digs (show 0 ≤ (b.natAbs : Int) by omega), val_digs (by omega)]
    exact h
  have HSz : Hid (∀ (W : World) a' n' c', Words W a' n' c' (digs (val (digs a.natAbs) + val (digs b.natAbs))) → n' ≤ 4398046511104) := by
    intro W a' n' c' h
    rw [← h.hlen, val_digs (show 0 ≤ (a.natAbs : Int) by omega), val_digs (show 0 ≤ (b.natAbs : Int) by omega)]
    have h1 := ha.sum hb
    omega
  clear hsg
  obtain ⟨B, w0, hB, hw0, hb0, hb1, hb2, he0⟩ := three w 24 24 24 [.bool na, .slice ax nx cx] [.bool nb, .slice ay ny cy] [.bool false, .slice none 0 0]
  go_enter Tryz.func42, Tryz.ntmps42
  go_wp2_with fail
  rw [← hw0, ← hB]
  have c0 := hb0.cell (i := 0) rfl
  have c1 := hb0.cell (i := 1) rfl
  have d0 := hb1.cell (i := 0) rfl
  have d1 := hb1.cell (i := 1) rfl
  have HB := Lib.hid hB
  clear hw0 hB hb0 hb1
  have KH : Hid (∀ w', Below (B + 1 + 1) w0 w' → w'.cell? ⟨B, 0, none⟩ = some (.bool na) ∧ w'.cell? ⟨B, 1, none⟩ = some (.slice ax nx cx) ∧ w'.cell? ⟨B + 1, 0, none⟩ = some (.bool nb) ∧ w'.cell? ⟨B + 1, 1, none⟩ = some (.slice ay ny cy)) :=
    fun w' h => ⟨(h.cell (p := ⟨B, 0, none⟩) (by show B < B + 1 + 1; omega)).trans c0, (h.cell (p := ⟨B, 1, none⟩) (by show B < B + 1 + 1; omega)).trans c1, (h.cell (p := ⟨B + 1, 0, none⟩) (by show B + 1 < B + 1 + 1; omega)).trans d0, (h.cell (p := ⟨B + 1, 1, none⟩) (by show B + 1 < B + 1 + 1; omega)).trans d1⟩
  have hsz := hb2.lt
  go_region_held3
    (fun w' => w'.cell? ⟨B, 0, none⟩ = some (.bool na) ∧ w'.cell? ⟨B, 1, none⟩ = some (.slice ax nx cx) ∧ w'.cell? ⟨B + 1, 0, none⟩ = some (.bool nb) ∧ w'.cell? ⟨B + 1, 1, none⟩ = some (.slice ay ny cy))
    (first | exact KH.out _ (Below.refl _ _).drew | exact KH.out _ hx1 | exact KH.out _ hx2 | exact KH.out _ (Below.set2 hx2 (Nat.le_refl _) _ _))
    (first
    | (go_at_call 69; (with_reducible refine (radded ax ay nx cx ny cy _ _ _ (Hx.out.ext he0.drew) (Hy.out.ext he0.drew) (by omega) (by omega)).mono ?_); rintro e w1 ⟨⟨am, nm, cm, rfl, hm⟩, he1⟩; have hx1 := (Below.refl (B + 1 + 1) w0).drew.trans (he1.upto (Nat.le_of_lt hsz)))
    | (go_at_call 51; (with_reducible refine (rmade _ _ _ _ _ (a+b) _ hm (HSz.out _ _ _ _ hm) HZ.out).mono ?_); rintro e w2 ⟨⟨sr, ar, nr, cr, rfl, hr⟩, he2⟩; have hx2 := hx1.trans (he2.upto (Nat.le_trans (Nat.le_of_lt hsz) hx1.size)); have hb2' := hb2.drew.ext (he1.trans he2); have e0 := hb2'.cell (i := 0) rfl; have e1 := hb2'.cell (i := 1) rfl; have f0 := hb2'.free 0; have f1 := hb2'.free 1)
    )
  go_wp2_with fail
  refine bodyPost_ret (results_c rfl rfl (load_int (hb2'.set2 _ _))) rfl ?_
  exact ⟨⟨_, rfl, _, _, _, _, rfl, hr.1, hr.2.keep2 hb2' (by simp) (by simp) _ _⟩, Below.toExt (Below.set2 hx2 (Nat.le_refl _) _ _) he0 HB (by omega)⟩
set_option maxRecDepth 100000 in
set_option maxHeartbeats 1000000 in
/-- ref.Add, unequal signs, the first one less. -/
theorem radd_less (x y : Value) (a b : Int) (w : World) (hx : IntV w x a) (hy : IntV w y b) (ha : Fits a 1073741824) (hb : Fits b 1073741824) (hsg : decide (a < 0) ≠ decide (b < 0)) (hlt : (a.natAbs : Int) < b.natAbs) :
    Calls Tryz.prog 42 #[x, y] w fun e w' => (∃ v, e = .returned v ∧ IntV w' v (a + b)) ∧ Ext w w' := by
  obtain ⟨na, ax, nx, cx, rfl, hna, hwx⟩ := hx
  obtain ⟨nb, ay, ny, cy, rfl, hnb, hwy⟩ := hy
  have hnx := ha.len
  have hny := hb.len
  rw [hwx.hlen] at hnx
  rw [hwy.hlen] at hny
  have Hx := Lib.hid hwx
  have Hy := Lib.hid hwy
  have HNa := Lib.hid hna
  have HNb := Lib.hid hnb
  clear hwx hwy hna hnb
  have hnn : (na == nb) = false := beq_eq_false_iff_ne.2 (by rw [HNa.out, HNb.out]; exact hsg)
  have HZ : Hid (a + b = if nb then -(val (digs (val (digs b.natAbs) - val (digs a.natAbs)))) else val (digs (val (digs b.natAbs) - val (digs a.natAbs)))) := by
    have h := sub_sign HNb.out HNa.out (by rw [HNa.out, HNb.out]; exact hsg.symm)
    rw [val_digs (show 0 ≤ (a.natAbs : Int) by omega), val_digs (show 0 ≤ (b.natAbs : Int) by omega), val_digs (by omega), Int.add_comm]
    exact h
  have HSz : Hid (∀ (W : World) a' n' c', Words W a' n' c' (digs (val (digs b.natAbs) - val (digs a.natAbs))) → n' ≤ 4398046511104) := by
    intro W a' n' c' h
    rw [← h.hlen, val_digs (show 0 ≤ (a.natAbs : Int) by omega), val_digs (show 0 ≤ (b.natAbs : Int) by omega)]
    have h1 := digs_len_le (show (0 : Int) ≤ b.natAbs - a.natAbs by omega) (show (b.natAbs - a.natAbs : Int) < pw 1073741824 by unfold Fits at hb; omega)
    omega
  have hle : val (digs a.natAbs) ≤ val (digs b.natAbs) := by
    rw [val_digs (show 0 ≤ (a.natAbs : Int) by omega), val_digs (show 0 ≤ (b.natAbs : Int) by omega)]; omega
  have hll : nx ≤ ny := by
    rw [← Hx.out.hlen, ← Hy.out.hlen]
    exact digs_len_mono (by omega) (by omega)
  have hs := sgn_lt hlt
  clear hsg
  obtain ⟨B, w0, hB, hw0, hb0, hb1, hb2, he0⟩ := three w 24 24 24 [.bool na, .slice ax nx cx] [.bool nb, .slice ay ny cy] [.bool false, .slice none 0 0]
  go_enter Tryz.func42, Tryz.ntmps42
  go_wp2_with fail
  rw [← hw0, ← hB]
  have c0 := hb0.cell (i := 0) rfl
  have c1 := hb0.cell (i := 1) rfl
  have d0 := hb1.cell (i := 0) rfl
  have d1 := hb1.cell (i := 1) rfl
  have HB := Lib.hid hB
  clear hw0 hB hb0 hb1
  have KH : Hid (∀ w', Below (B + 1 + 1) w0 w' → w'.cell? ⟨B, 0, none⟩ = some (.bool na) ∧ w'.cell? ⟨B, 1, none⟩ = some (.slice ax nx cx) ∧ w'.cell? ⟨B + 1, 0, none⟩ = some (.bool nb) ∧ w'.cell? ⟨B + 1, 1, none⟩ = some (.slice ay ny cy)) :=
    fun w' h => ⟨(h.cell (p := ⟨B, 0, none⟩) (by show B < B + 1 + 1; omega)).trans c0, (h.cell (p := ⟨B, 1, none⟩) (by show B < B + 1 + 1; omega)).trans c1, (h.cell (p := ⟨B + 1, 0, none⟩) (by show B + 1 < B + 1 + 1; omega)).trans d0, (h.cell (p := ⟨B + 1, 1, none⟩) (by show B + 1 < B + 1 + 1; omega)).trans d1⟩
  have hsz := hb2.lt
  refine (rcompared ax ay nx cx ny cy _ _ _ (by omega) (by omega) (Hx.out.ext he0) (Hy.out.ext he0)).mono ?_
  rintro e w' ⟨rfl, nq, rfl⟩
  have he0q := he0.drewN nq
  have hb2q := Blk.drewN' hb2 nq
  have hszq : B + 1 + 1 < (w0.drewN nq).heap.size := hsz
  have KHq := Lib.hid (fun w' (h : Below (B + 1 + 1) (w0.drewN nq) w') => KH.out w' (((Below.refl (B + 1 + 1) w0).drewN nq).trans h))
  have c0q : (w0.drewN nq).cell? ⟨B, 0, none⟩ = some (.bool na) := c0
  have c1q : (w0.drewN nq).cell? ⟨B, 1, none⟩ = some (.slice ax nx cx) := c1
  have d0q : (w0.drewN nq).cell? ⟨B + 1, 0, none⟩ = some (.bool nb) := d0
  have d1q : (w0.drewN nq).cell? ⟨B + 1, 1, none⟩ = some (.slice ay ny cy) := d1
  clear he0 hb2 hsz KH c0 c1 d0 d1
  generalize w0.drewN nq = wq at he0q hb2q hszq KHq c0q c1q d0q d1q ⊢
  clear w0
  obtain ⟨w0, rfl⟩ : ∃ x : World, x = wq := ⟨_, rfl⟩
  have he0 := he0q
  have hb2 := hb2q
  have hsz := hszq
  have KH := KHq
  have c0 := c0q
  have c1 := c1q
  have d0 := d0q
  have d1 := d1q
  clear he0q hb2q hszq KHq c0q c1q d0q d1q
  go_wp2_with fail
  go_region_held3
    (fun w' => w'.cell? ⟨B, 0, none⟩ = some (.bool na) ∧ w'.cell? ⟨B, 1, none⟩ = some (.slice ax nx cx) ∧ w'.cell? ⟨B + 1, 0, none⟩ = some (.bool nb) ∧ w'.cell? ⟨B + 1, 1, none⟩ = some (.slice ay ny cy))
    (first | exact KH.out _ (Below.refl _ _).drew | exact KH.out _ hx1 | exact KH.out _ hx2 | exact KH.out _ (Below.set2 hx2 (Nat.le_refl _) _ _))
    (first
    | (go_at_call 75; (with_reducible refine (rtaken ay ax ny cy nx cx _ _ _ (Hy.out.ext he0.drew) (Hx.out.ext he0.drew) (by omega) hle hll).mono ?_); rintro e w1 ⟨⟨am, nm, cm, rfl, hm⟩, he1⟩; have hx1 := (Below.refl (B + 1 + 1) w0).drew.trans (he1.upto (Nat.le_of_lt hsz)))
    | (go_at_call 51; (with_reducible refine (rmade _ _ _ _ _ (a+b) _ hm (HSz.out _ _ _ _ hm) HZ.out).mono ?_); rintro e w2 ⟨⟨sr, ar, nr, cr, rfl, hr⟩, he2⟩; have hx2 := hx1.trans (he2.upto (Nat.le_trans (Nat.le_of_lt hsz) hx1.size)); have hb2' := hb2.drew.ext (he1.trans he2); have e0 := hb2'.cell (i := 0) rfl; have e1 := hb2'.cell (i := 1) rfl; have f0 := hb2'.free 0; have f1 := hb2'.free 1)
    )
  go_wp2_with fail
  refine bodyPost_ret (results_c rfl rfl (load_int (hb2'.set2 _ _))) rfl ?_
  exact ⟨⟨_, rfl, _, _, _, _, rfl, hr.1, hr.2.keep2 hb2' (by simp) (by simp) _ _⟩, Below.toExt (Below.set2 hx2 (Nat.le_refl _) _ _) he0 HB (by omega)⟩
set_option maxRecDepth 100000 in
set_option maxHeartbeats 1000000 in
/-- ref.Add, unequal signs, the first one not less. -/
theorem radd_more (x y : Value) (a b : Int) (w : World) (hx : IntV w x a) (hy : IntV w y b) (ha : Fits a 1073741824) (hb : Fits b 1073741824) (hsg : decide (a < 0) ≠ decide (b < 0)) (hge : (b.natAbs : Int) ≤ a.natAbs) (s : Int) (hs : sgn (a.natAbs : Int) (b.natAbs : Int) = s) (hs0 : (decide (s < 0)) = false) :
    Calls Tryz.prog 42 #[x, y] w fun e w' => (∃ v, e = .returned v ∧ IntV w' v (a + b)) ∧ Ext w w' := by
  obtain ⟨na, ax, nx, cx, rfl, hna, hwx⟩ := hx
  obtain ⟨nb, ay, ny, cy, rfl, hnb, hwy⟩ := hy
  have hnx := ha.len
  have hny := hb.len
  rw [hwx.hlen] at hnx
  rw [hwy.hlen] at hny
  have Hx := Lib.hid hwx
  have Hy := Lib.hid hwy
  have HNa := Lib.hid hna
  have HNb := Lib.hid hnb
  clear hwx hwy hna hnb
  have hnn : (na == nb) = false := beq_eq_false_iff_ne.2 (by rw [HNa.out, HNb.out]; exact hsg)
  have HZ : Hid (a + b = if na then -(val (digs (val (digs a.natAbs) - val (digs b.natAbs)))) else val (digs (val (digs a.natAbs) - val (digs b.natAbs)))) := by
    have h := sub_sign HNa.out HNb.out (by rw [HNa.out, HNb.out]; exact hsg)
    rw [val_digs (show 0 ≤ (a.natAbs : Int) by omega), val_digs (show 0 ≤ (b.natAbs : Int) by omega), val_digs (by omega)]
    exact h
  have HSz : Hid (∀ (W : World) a' n' c', Words W a' n' c' (digs (val (digs a.natAbs) - val (digs b.natAbs))) → n' ≤ 4398046511104) := by
    intro W a' n' c' h
    rw [← h.hlen, val_digs (show 0 ≤ (a.natAbs : Int) by omega), val_digs (show 0 ≤ (b.natAbs : Int) by omega)]
    have h1 := digs_len_le (show (0 : Int) ≤ a.natAbs - b.natAbs by omega) (show (a.natAbs - b.natAbs : Int) < pw 1073741824 by unfold Fits at ha; omega)
    omega
  have hle : val (digs b.natAbs) ≤ val (digs a.natAbs) := by
    rw [val_digs (show 0 ≤ (a.natAbs : Int) by omega), val_digs (show 0 ≤ (b.natAbs : Int) by omega)]; omega
  have hll : ny ≤ nx := by
    rw [← Hx.out.hlen, ← Hy.out.hlen]
    exact digs_len_mono (by omega) (by omega)
  clear hsg
  obtain ⟨B, w0, hB, hw0, hb0, hb1, hb2, he0⟩ := three w 24 24 24 [.bool na, .slice ax nx cx] [.bool nb, .slice ay ny cy] [.bool false, .slice none 0 0]
  go_enter Tryz.func42, Tryz.ntmps42
  go_wp2_with fail
  rw [← hw0, ← hB]
  have c0 := hb0.cell (i := 0) rfl
  have c1 := hb0.cell (i := 1) rfl
  have d0 := hb1.cell (i := 0) rfl
  have d1 := hb1.cell (i := 1) rfl
  have HB := Lib.hid hB
  clear hw0 hB hb0 hb1
  have KH : Hid (∀ w', Below (B + 1 + 1) w0 w' → w'.cell? ⟨B, 0, none⟩ = some (.bool na) ∧ w'.cell? ⟨B, 1, none⟩ = some (.slice ax nx cx) ∧ w'.cell? ⟨B + 1, 0, none⟩ = some (.bool nb) ∧ w'.cell? ⟨B + 1, 1, none⟩ = some (.slice ay ny cy)) :=
    fun w' h => ⟨(h.cell (p := ⟨B, 0, none⟩) (by show B < B + 1 + 1; omega)).trans c0, (h.cell (p := ⟨B, 1, none⟩) (by show B < B + 1 + 1; omega)).trans c1, (h.cell (p := ⟨B + 1, 0, none⟩) (by show B + 1 < B + 1 + 1; omega)).trans d0, (h.cell (p := ⟨B + 1, 1, none⟩) (by show B + 1 < B + 1 + 1; omega)).trans d1⟩
  have hsz := hb2.lt
  refine (rcompared ax ay nx cx ny cy _ _ _ (by omega) (by omega) (Hx.out.ext he0) (Hy.out.ext he0)).mono ?_
  rintro e w' ⟨rfl, nq, rfl⟩
  have he0q := he0.drewN nq
  have hb2q := Blk.drewN' hb2 nq
  have hszq : B + 1 + 1 < (w0.drewN nq).heap.size := hsz
  have KHq := Lib.hid (fun w' (h : Below (B + 1 + 1) (w0.drewN nq) w') => KH.out w' (((Below.refl (B + 1 + 1) w0).drewN nq).trans h))
  have c0q : (w0.drewN nq).cell? ⟨B, 0, none⟩ = some (.bool na) := c0
  have c1q : (w0.drewN nq).cell? ⟨B, 1, none⟩ = some (.slice ax nx cx) := c1
  have d0q : (w0.drewN nq).cell? ⟨B + 1, 0, none⟩ = some (.bool nb) := d0
  have d1q : (w0.drewN nq).cell? ⟨B + 1, 1, none⟩ = some (.slice ay ny cy) := d1
  clear he0 hb2 hsz KH c0 c1 d0 d1
  generalize w0.drewN nq = wq at he0q hb2q hszq KHq c0q c1q d0q d1q ⊢
  clear w0
  obtain ⟨w0, rfl⟩ : ∃ x : World, x = wq := ⟨_, rfl⟩
  have he0 := he0q
  have hb2 := hb2q
  have hsz := hszq
  have KH := KHq
  have c0 := c0q
  have c1 := c1q
  have d0 := d0q
  have d1 := d1q
  clear he0q hb2q hszq KHq c0q c1q d0q d1q
  go_wp2_with fail
  go_region_held3
    (fun w' => w'.cell? ⟨B, 0, none⟩ = some (.bool na) ∧ w'.cell? ⟨B, 1, none⟩ = some (.slice ax nx cx) ∧ w'.cell? ⟨B + 1, 0, none⟩ = some (.bool nb) ∧ w'.cell? ⟨B + 1, 1, none⟩ = some (.slice ay ny cy))
    (first | exact KH.out _ (Below.refl _ _).drew | exact KH.out _ hx1 | exact KH.out _ hx2 | exact KH.out _ (Below.set2 hx2 (Nat.le_refl _) _ _))
    (first
    | (go_at_call 75; (with_reducible refine (rtaken ax ay nx cx ny cy _ _ _ (Hx.out.ext he0.drew) (Hy.out.ext he0.drew) (by omega) hle hll).mono ?_); rintro e w1 ⟨⟨am, nm, cm, rfl, hm⟩, he1⟩; have hx1 := (Below.refl (B + 1 + 1) w0).drew.trans (he1.upto (Nat.le_of_lt hsz)))
    | (go_at_call 51; (with_reducible refine (rmade _ _ _ _ _ (a+b) _ hm (HSz.out _ _ _ _ hm) HZ.out).mono ?_); rintro e w2 ⟨⟨sr, ar, nr, cr, rfl, hr⟩, he2⟩; have hx2 := hx1.trans (he2.upto (Nat.le_trans (Nat.le_of_lt hsz) hx1.size)); have hb2' := hb2.drew.ext (he1.trans he2); have e0 := hb2'.cell (i := 0) rfl; have e1 := hb2'.cell (i := 1) rfl; have f0 := hb2'.free 0; have f1 := hb2'.free 1)
    )
  go_wp2_with fail
  refine bodyPost_ret (results_c rfl rfl (load_int (hb2'.set2 _ _))) rfl ?_
  exact ⟨⟨_, rfl, _, _, _, _, rfl, hr.1, hr.2.keep2 hb2' (by simp) (by simp) _ _⟩, Below.toExt (Below.set2 hx2 (Nat.le_refl _) _ _) he0 HB (by omega)⟩
theorem radd_any (x y : Value) (a b : Int) (w : World) (hx : IntV w x a) (hy : IntV w y b) (ha : Fits a 1073741824) (hb : Fits b 1073741824) :
    Calls Tryz.prog 42 #[x, y] w fun e w' => (∃ v, e = .returned v ∧ IntV w' v (a + b)) ∧ Ext w w' := by
  by_cases hsg : decide (a < 0) = decide (b < 0)
  · exact radd_same x y a b w hx hy ha hb hsg
  · by_cases hlt : (a.natAbs : Int) < b.natAbs
    · exact radd_less x y a b w hx hy ha hb hsg hlt
    · exact radd_more x y a b w hx hy ha hb hsg (by omega) _ rfl (by unfold sgn; split <;> (try split) <;> simp_all)
set_option maxRecDepth 100000 in
set_option maxHeartbeats 1000000 in
/-- ref.Neg -/
theorem rneg_any (x : Value) (a : Int) (w : World) (hx : IntV w x a) (ha : Fits a 4398046511104) :
    Calls Tryz.prog 81 #[x] w fun e w' => (∃ v, e = .returned v ∧ IntV w' v (-a)) ∧ Ext w w' := by
  obtain ⟨na, ax, nx, cx, rfl, hna, hwx⟩ := hx
  have hnx := ha.len
  rw [hwx.hlen] at hnx
  have Hx := Lib.hid hwx
  have HNa := Lib.hid hna
  clear hwx hna
  have HZ : Hid (-a = if (!na) then -(val (digs a.natAbs)) else val (digs a.natAbs)) := by
    rw [val_digs (show 0 ≤ (a.natAbs : Int) by omega)]
    exact neg_sign HNa.out
  obtain ⟨B, w0, hB, hw0, hb0, hb1, he0⟩ := two w 24 24 [.bool na, .slice ax nx cx] [.bool false, .slice none 0 0]
  go_enter Tryz.func81, Tryz.ntmps81
  go_wp2_with fail
  rw [← hw0, ← hB]
  have c0 := hb0.cell (i := 0) rfl
  have c1 := hb0.cell (i := 1) rfl
  have HB := Lib.hid hB
  clear hw0 hB hb0
  have hsz := hb1.lt
  go_wp2_with fail
  refine (rmade _ _ _ _ _ (-a) _ (Hx.out.ext he0) hnx HZ.out).mono ?_
  rintro e w1 ⟨⟨sr, ar, nr, cr, rfl, hr⟩, he1⟩
  have hb2' := hb1.ext he1
  have e0 := hb2'.cell (i := 0) rfl
  have e1 := hb2'.cell (i := 1) rfl
  have f0 := hb2'.free 0
  have f1 := hb2'.free 1
  go_wp2_with fail
  refine bodyPost_ret (results_c rfl rfl (load_int (hb2'.set2 _ _))) rfl ?_
  exact ⟨⟨_, rfl, _, _, _, _, rfl, hr.1, hr.2.keep2 hb2' (by simp) (by simp) _ _⟩, ((he0.trans he1).store' HB (by omega) 0 _).store' HB (by omega) 1 _⟩
set_option maxRecDepth 100000 in
set_option maxHeartbeats 1000000 in
/-- ref.Sub -/
theorem rsub_any (x y : Value) (a b : Int) (w : World) (hx : IntV w x a) (hy : IntV w y b) (ha : Fits a 1073741824) (hb : Fits b 1073741824) :
    Calls Tryz.prog 43 #[x, y] w fun e w' => (∃ v, e = .returned v ∧ IntV w' v (a - b)) ∧ Ext w w' := by
  have HX := Lib.hid hx
  have HY := Lib.hid hy
  obtain ⟨na, ax, nx, cx, rfl, hna, hwx⟩ := hx
  obtain ⟨nb, ay, ny, cy, rfl, hnb, hwy⟩ := hy
  have hnx := ha.len
  have hny := hb.len
  rw [hwx.hlen] at hnx
  rw [hwy.hlen] at hny
  have Hx := Lib.hid hwx
  have Hy := Lib.hid hwy
  have HNa := Lib.hid hna
  have HNb := Lib.hid hnb
  clear hwx hwy hna hnb
  obtain ⟨B, w0, hB, hw0, hb0, hb1, hb2, he0⟩ := three w 24 24 24 [.bool na, .slice ax nx cx] [.bool nb, .slice ay ny cy] [.bool false, .slice none 0 0]
  go_enter Tryz.func43, Tryz.ntmps43
  go_wp2_with fail
  rw [← hw0, ← hB]
  have c0 := hb0.cell (i := 0) rfl
  have c1 := hb0.cell (i := 1) rfl
  have d0 := hb1.cell (i := 0) rfl
  have d1 := hb1.cell (i := 1) rfl
  have HB := Lib.hid hB
  clear hw0 hB hb0 hb1
  have KH : Hid (∀ w', Below (B + 1 + 1) w0 w' → w'.cell? ⟨B, 0, none⟩ = some (.bool na) ∧ w'.cell? ⟨B, 1, none⟩ = some (.slice ax nx cx) ∧ w'.cell? ⟨B + 1, 0, none⟩ = some (.bool nb) ∧ w'.cell? ⟨B + 1, 1, none⟩ = some (.slice ay ny cy)) :=
    fun w' h => ⟨(h.cell (p := ⟨B, 0, none⟩) (by show B < B + 1 + 1; omega)).trans c0, (h.cell (p := ⟨B, 1, none⟩) (by show B < B + 1 + 1; omega)).trans c1, (h.cell (p := ⟨B + 1, 0, none⟩) (by show B + 1 < B + 1 + 1; omega)).trans d0, (h.cell (p := ⟨B + 1, 1, none⟩) (by show B + 1 < B + 1 + 1; omega)).trans d1⟩
  have hsz := hb2.lt
  go_region_held3
    (fun w' => w'.cell? ⟨B, 0, none⟩ = some (.bool na) ∧ w'.cell? ⟨B, 1, none⟩ = some (.slice ax nx cx) ∧ w'.cell? ⟨B + 1, 0, none⟩ = some (.bool nb) ∧ w'.cell? ⟨B + 1, 1, none⟩ = some (.slice ay ny cy))
    (first | exact KH.out _ (Below.refl _ _).drew | exact KH.out _ hx1 | exact KH.out _ hx2 | exact KH.out _ (Below.set2 hx2 (Nat.le_refl _) _ _))
    (first
    | (go_at_call 81; (with_reducible refine (rneg_any _ b _ (HY.out.ext he0.drew) (hb.mono (by omega))).mono ?_); rintro e w1 ⟨⟨v, rfl, hv⟩, he1⟩; have hx1 := (Below.refl (B + 1 + 1) w0).drew.trans (he1.upto (Nat.le_of_lt hsz)))
    | (go_at_call 42; (with_reducible refine (radd_any _ _ a (-b) _ (HX.out.ext (he0.drew.trans he1)) hv ha hb.neg).mono ?_); rintro e w2 ⟨⟨v, rfl, hv2⟩, he2⟩; obtain ⟨sr, ar, nr, cr, rfl, hr⟩ := hv2; have hx2 := hx1.trans (he2.upto (Nat.le_trans (Nat.le_of_lt hsz) hx1.size)); have hb2' := hb2.drew.ext (he1.trans he2); have e0 := hb2'.cell (i := 0) rfl; have e1 := hb2'.cell (i := 1) rfl; have f0 := hb2'.free 0; have f1 := hb2'.free 1)
    )
  go_wp2_with fail
  refine bodyPost_ret (results_c rfl rfl (load_int (hb2'.set2 _ _))) rfl ?_
  exact ⟨⟨_, rfl, _, _, _, _, rfl, hr.1, hr.2.keep2 hb2' (by simp) (by simp) _ _⟩, Below.toExt (Below.set2 hx2 (Nat.le_refl _) _ _) he0 HB (by omega)⟩
set_option maxRecDepth 100000 in
set_option maxHeartbeats 1000000 in
theorem rdivmod_zero (x y : Value) (a : Int) (w : World) (hx : IntV w x a) (hy : IntV w y 0) :
    Calls Tryz.prog 34 #[x, y] w fun e w' => e = .returned (.tuple #[.agg #[.bool false, .slice none 0 0], .agg #[.bool false, .slice none 0 0], .int .i64 10]) ∧ Ext w w' := by
  obtain ⟨na, ax, nx, cx, rfl, hna, hwx⟩ := hx
  obtain ⟨nb, ay, ny, cy, rfl, hnb, hwy⟩ := hy
  obtain rfl : ny = 0 := by rw [← hwy.hlen, Int.natAbs_zero, Int.ofNat_zero, digs_zero]; rfl
  clear hwx hwy hna hnb
  obtain ⟨B, w0, hB, hw0, hb0, hb1, hb2, hb3, he0⟩ := four w 24 24 24 24 [.bool na, .slice ax nx cx] [.bool nb, .slice ay 0 cy] [.bool false, .slice none 0 0] [.bool false, .slice none 0 0]
  go_enter Tryz.func34, Tryz.ntmps34
  go_wp2_with fail
  rw [← hw0, ← hB]
  exact bodyPost_ret (results_cct rfl rfl (intv_zero hb2) rfl (intv_zero hb3)) rfl ⟨rfl, he0⟩
set_option maxRecDepth 100000 in
set_option maxHeartbeats 1000000 in
theorem rdivmod_plain (x y : Value) (a b : Int) (w : World) (hx : IntV w x a) (hy : IntV w y b) (ha : Fits a 1073741824) (hb : b ≠ 0) (h0 : decide (a < 0) = true → (a.natAbs : Int) % b.natAbs = 0) :
    Calls Tryz.prog 34 #[x, y] w fun e w' => (∃ u v, e = .returned (.tuple #[u, v, .int .i64 0]) ∧ IntV w' u (a / b) ∧ IntV w' v (a % b)) ∧ Ext w w' := by
  obtain ⟨na, ax, nx, cx, rfl, hna, hwx⟩ := hx
  obtain ⟨nb, ay, ny, cy, rfl, hnb, hwy⟩ := hy
  have hnx := ha.len
  rw [hwx.hlen] at hnx
  have hny : ((ny : Int) == 0) = false := by
    have h1 := digs_pos_len (show 0 < (b.natAbs : Int) by omega)
    rw [hwy.hlen] at h1
    simp; omega
  have hzz := divmod_plain hna hnb hb (by rw [hna]; exact h0)
  have HZq : Hid (∀ X, X = (!(na == nb)) → a / b = if X = true then -val (digs ((a.natAbs : Int) / b.natAbs)) else val (digs ((a.natAbs : Int) / b.natAbs))) := by
    rintro X rfl
    rw [val_digs (Int.ediv_nonneg (by omega) (by omega))]
    exact hzz.1
  have HZr : Hid (a % b = if false = true then -val (digs ((a.natAbs : Int) % b.natAbs)) else val (digs ((a.natAbs : Int) % b.natAbs))) := by
    rw [if_neg (by simp), val_digs (Int.emod_nonneg _ (by omega))]
    exact hzz.2
  have H0 : Hid (na = true → (a.natAbs : Int) % b.natAbs = 0) := by rw [hna]; exact h0
  have Hx := Lib.hid hwx
  have Hy := Lib.hid hwy
  clear hzz h0 hna hnb hwx hwy
  obtain ⟨B, w0, hB, hw0, hb0, hb1, hb2, hb3, he0⟩ := four w 24 24 24 24 [.bool na, .slice ax nx cx] [.bool nb, .slice ay ny cy] [.bool false, .slice none 0 0] [.bool false, .slice none 0 0]
  go_enter Tryz.func34, Tryz.ntmps34
  go_wp2_with fail
  rw [← hw0, ← hB]
  have HB := Lib.hid hB
  clear hw0 hB
  have hsz := hb3.lt
  refine (rdivided ax ay nx cx ny cy (a.natAbs : Int) (b.natAbs : Int) _ (by omega) (by omega) (Hx.out.ext he0) (Hy.out.ext he0) (by omega)).mono ?_
  rintro e w1 ⟨⟨qa, qn, qc, ra, rn, rc, rfl, hq, hr⟩, he1⟩
  have hc0 := (hb0.ext he1).cell (i := 0) rfl
  have hd0 := (hb1.ext he1).cell (i := 0) rfl
  have HQ := Lib.hid hq
  have HR := Lib.hid hr
  have HQl : Hid (qn ≤ 1073741824) := by
    have := div_len (show 0 ≤ (a.natAbs : Int) by omega) (show 0 < (b.natAbs : Int) by omega)
    rw [hq.hlen] at this
    exact Nat.le_trans this ha.len
  have HRl : Hid (rn ≤ 1073741824) := by
    have := digs_len_mono (Int.emod_nonneg (a.natAbs : Int) (show (b.natAbs : Int) ≠ 0 by omega)) (emod_le' (show 0 ≤ (a.natAbs : Int) by omega) (show 0 < (b.natAbs : Int) by omega))
    rw [hr.hlen] at this
    exact Nat.le_trans this ha.len
  cases na with
  | false =>
    go_wp2_with fail
    refine (rmade _ _ _ _ _ (a / b) _ HQ.out (by have := HQl.out; omega) (HZq.out _ (by cases nb <;> rfl))).mono ?_
    rintro e w2 ⟨⟨s1, a1, n1, k1, rfl, hr1⟩, he2⟩
    go_wp2_with fail
    refine (rmade _ _ _ _ _ (a % b) _ (HR.out.ext he2) (by have := HRl.out; omega) HZr.out).mono ?_
    rintro e w3 ⟨⟨s2, a2, n2, k2, rfl, hr2⟩, he3⟩
    have he4 := (he1.trans he2).trans he3
    have hb2' := hb2.ext he4
    have hb3' := hb3.ext he4
    have ec0 := hb2'.cell (i := 0) rfl
    have ec1 := hb2'.cell (i := 1) rfl
    have ef0 := hb2'.free 0
    have ef1 := hb2'.free 1
    have gc0 := hb3'.cell (i := 0) rfl
    have gc1 := hb3'.cell (i := 1) rfl
    have gf0 := hb3'.free 0
    have gf1 := hb3'.free 1
    go_wp2_with fail
    have hbA := ((hb2'.set2 (.bool s1) (.slice a1 n1 k1)).other (p := ⟨B + 1 + 1 + 1, 0, none⟩) (by show B + 1 + 1 + 1 ≠ B + 1 + 1; omega) (.bool s2)).other (p := ⟨B + 1 + 1 + 1, 1, none⟩) (by show B + 1 + 1 + 1 ≠ B + 1 + 1; omega) (.slice a2 n2 k2)
    have hbB := (hb3'.other (p := ⟨B + 1 + 1, 0, none⟩) (by show B + 1 + 1 ≠ B + 1 + 1 + 1; omega) (.bool s1)).other (p := ⟨B + 1 + 1, 1, none⟩) (by show B + 1 + 1 ≠ B + 1 + 1 + 1; omega) (.slice a1 n1 k1)
    refine bodyPost_ret (results_cct rfl rfl (load_int hbA) rfl (load_int (hbB.set2 _ _))) rfl ?_
    refine ⟨⟨_, _, rfl, ⟨_, _, _, _, rfl, hr1.1, ?_⟩, ⟨_, _, _, _, rfl, hr2.1, ?_⟩⟩, (((((he0.trans he4).store' HB (by omega) 0 _).store' HB (by omega) 1 _).store' HB (by omega) 0 _).store' HB (by omega) 1 _)⟩
    · exact ((hr1.2.ext he3).keep2 hb2' (by simp) (by simp) _ _).keep2 hbB (by simp) (by simp) _ _
    · exact (hr2.2.keep2 hb2' (by simp) (by simp) _ _).keep2 hbB (by simp) (by simp) _ _
  | true =>
    have := H0.out rfl
    rw [this] at hr
    have h2 := hr.hlen
    rw [digs_zero] at h2
    obtain rfl : rn = 0 := h2.symm
    clear h2 this hr
    go_wp2_with fail
    refine (rmade _ _ _ _ _ (a / b) _ HQ.out (by have := HQl.out; omega) (HZq.out _ (by cases nb <;> rfl))).mono ?_
    rintro e w2 ⟨⟨s1, a1, n1, k1, rfl, hr1⟩, he2⟩
    go_wp2_with fail
    refine (rmade _ _ _ _ _ (a % b) _ (HR.out.ext he2) (by have := HRl.out; omega) HZr.out).mono ?_
    rintro e w3 ⟨⟨s2, a2, n2, k2, rfl, hr2⟩, he3⟩
    have he4 := (he1.trans he2).trans he3
    have hb2' := hb2.ext he4
    have hb3' := hb3.ext he4
    have ec0 := hb2'.cell (i := 0) rfl
    have ec1 := hb2'.cell (i := 1) rfl
    have ef0 := hb2'.free 0
    have ef1 := hb2'.free 1
    have gc0 := hb3'.cell (i := 0) rfl
    have gc1 := hb3'.cell (i := 1) rfl
    have gf0 := hb3'.free 0
    have gf1 := hb3'.free 1
    go_wp2_with fail
    have hbA := ((hb2'.set2 (.bool s1) (.slice a1 n1 k1)).other (p := ⟨B + 1 + 1 + 1, 0, none⟩) (by show B + 1 + 1 + 1 ≠ B + 1 + 1; omega) (.bool s2)).other (p := ⟨B + 1 + 1 + 1, 1, none⟩) (by show B + 1 + 1 + 1 ≠ B + 1 + 1; omega) (.slice a2 n2 k2)
    have hbB := (hb3'.other (p := ⟨B + 1 + 1, 0, none⟩) (by show B + 1 + 1 ≠ B + 1 + 1 + 1; omega) (.bool s1)).other (p := ⟨B + 1 + 1, 1, none⟩) (by show B + 1 + 1 ≠ B + 1 + 1 + 1; omega) (.slice a1 n1 k1)
    refine bodyPost_ret (results_cct rfl rfl (load_int hbA) rfl (load_int (hbB.set2 _ _))) rfl ?_
    refine ⟨⟨_, _, rfl, ⟨_, _, _, _, rfl, hr1.1, ?_⟩, ⟨_, _, _, _, rfl, hr2.1, ?_⟩⟩, (((((he0.trans he4).store' HB (by omega) 0 _).store' HB (by omega) 1 _).store' HB (by omega) 0 _).store' HB (by omega) 1 _)⟩
    · exact ((hr1.2.ext he3).keep2 hb2' (by simp) (by simp) _ _).keep2 hbB (by simp) (by simp) _ _
    · exact (hr2.2.keep2 hb2' (by simp) (by simp) _ _).keep2 hbB (by simp) (by simp) _ _
set_option maxRecDepth 100000 in
set_option maxHeartbeats 1000000 in
theorem rdivmod_up (x y : Value) (a b : Int) (w : World) (hx : IntV w x a) (hy : IntV w y b) (ha : Fits a 1073741824) (hB1 : Fits b 1073741824) (hb : b ≠ 0) (h0 : a < 0) (h1 : (a.natAbs : Int) % b.natAbs ≠ 0) :
    Calls Tryz.prog 34 #[x, y] w fun e w' => (∃ u v, e = .returned (.tuple #[u, v, .int .i64 0]) ∧ IntV w' u (a / b) ∧ IntV w' v (a % b)) ∧ Ext w w' := by
  obtain ⟨na, ax, nx, cx, rfl, hna, hwx⟩ := hx
  obtain ⟨nb, ay, ny, cy, rfl, hnb, hwy⟩ := hy
  obtain rfl : na = true := by rw [hna]; simp [h0]
  have hnx := ha.len
  rw [hwx.hlen] at hnx
  have hny : ((ny : Int) == 0) = false := by
    have h1 := digs_pos_len (show 0 < (b.natAbs : Int) by omega)
    rw [hwy.hlen] at h1
    simp; omega
  have hzz := divmod_up h0 hnb hb h1
  obtain ⟨lq, hlq⟩ : ∃ l, l = digs (val (digs ((a.natAbs : Int) / b.natAbs)) + val (digs 1)) := ⟨_, rfl⟩
  obtain ⟨lr, hlr⟩ : ∃ l, l = digs (val (digs (b.natAbs : Int)) - val (digs ((a.natAbs : Int) % b.natAbs))) := ⟨_, rfl⟩
  have HZq : Hid (∀ X, X = (!(true == nb)) → a / b = if X = true then -val lq else val lq) := by
    rintro X rfl
    have := Int.ediv_nonneg (show 0 ≤ (a.natAbs : Int) by omega) (show 0 ≤ (b.natAbs : Int) by omega)
    rw [hlq, val_digs this, val_digs (show (0 : Int) ≤ 1 by omega), val_digs (by omega)]
    exact hzz.1
  have HZr : Hid (a % b = if false = true then -val lr else val lr) := by
    have h3 := Int.emod_nonneg (a.natAbs : Int) (show (b.natAbs : Int) ≠ 0 by omega)
    have h4 := Int.emod_lt_of_pos (a.natAbs : Int) (show 0 < (b.natAbs : Int) by omega)
    rw [hlr, if_neg (by simp), val_digs h3, val_digs (show 0 ≤ (b.natAbs : Int) by omega), val_digs (by omega)]
    exact hzz.2
  have HLQ := Lib.hid hlq
  have HLR := Lib.hid hlr
  clear hlq hlr
  have H1 := Lib.hid h1
  have Hny : Hid (ny ≤ 1073741824) := by rw [← hwy.hlen]; exact hB1.len
  have Hx := Lib.hid hwx
  have Hy := Lib.hid hwy
  clear hzz h0 h1 hna hnb hwx hwy
  obtain ⟨B, w0, hB, hw0, hb0, hb1, hb2, hb3, he0⟩ := four w 24 24 24 24 [.bool true, .slice ax nx cx] [.bool nb, .slice ay ny cy] [.bool false, .slice none 0 0] [.bool false, .slice none 0 0]
  go_enter Tryz.func34, Tryz.ntmps34
  go_wp2_with fail
  rw [← hw0, ← hB]
  have HB := Lib.hid hB
  clear hw0 hB
  have hsz := hb3.lt
  refine (rdivided ax ay nx cx ny cy (a.natAbs : Int) (b.natAbs : Int) _ (by omega) (by omega) (Hx.out.ext he0) (Hy.out.ext he0) (by omega)).mono ?_
  rintro e w1 ⟨⟨qa, qn, qc, ra, rn, rc, rfl, hq, hr⟩, he1⟩
  have hc0 := (hb0.ext he1).cell (i := 0) rfl
  have hd0 := (hb1.ext he1).cell (i := 0) rfl
  have HQ := Lib.hid hq
  have HR := Lib.hid hr
  have HQl : Hid (qn ≤ 1073741824) := by
    have := div_len (show 0 ≤ (a.natAbs : Int) by omega) (show 0 < (b.natAbs : Int) by omega)
    rw [hq.hlen] at this
    exact Nat.le_trans this ha.len
  have HRl : Hid (rn ≤ 1073741824) := by
    have := digs_len_mono (Int.emod_nonneg (a.natAbs : Int) (show (b.natAbs : Int) ≠ 0 by omega)) (emod_le' (show 0 ≤ (a.natAbs : Int) by omega) (show 0 < (b.natAbs : Int) by omega))
    rw [hr.hlen] at this
    exact Nat.le_trans this ha.len
  have hrp : decide ((rn : Int) > 0) = true := by
    have h3 := Int.emod_nonneg (a.natAbs : Int) (show (b.natAbs : Int) ≠ 0 by omega)
    have h5 := digs_pos_len (show 0 < (a.natAbs : Int) % b.natAbs by have := H1.out; omega)
    rw [hr.hlen] at h5
    simp; omega
  have hle : val (digs ((a.natAbs : Int) % b.natAbs)) ≤ val (digs (b.natAbs : Int)) := by
    have h3 := Int.emod_nonneg (a.natAbs : Int) (show (b.natAbs : Int) ≠ 0 by omega)
    have h4 := Int.emod_lt_of_pos (a.natAbs : Int) (show 0 < (b.natAbs : Int) by omega)
    rw [val_digs h3, val_digs (by omega)]; omega
  have hll : rn ≤ ny := by
    have h3 := Int.emod_nonneg (a.natAbs : Int) (show (b.natAbs : Int) ≠ 0 by omega)
    have h4 := Int.emod_lt_of_pos (a.natAbs : Int) (show 0 < (b.natAbs : Int) by omega)
    rw [← hr.hlen, ← Hy.out.hlen]
    exact digs_len_mono h3 (by omega)
  obtain ⟨m, rfl⟩ : ∃ m, rn = m + 1 := ⟨rn - 1, by have := of_decide_eq_true hrp; omega⟩
  have HLE := Lib.hid hle
  have HLL := Lib.hid hll
  clear hq hr hrp hle hll
  go_wp2_with fail
  have hone := Words.of_blk (Blk.new w1 27 (u32s [1])) (Wf.nil.cons (show (0 : Int) ≤ 1 by omega) (by omega)) (show 1 ≤ 9223372036854775807 by omega)
  have he2 := (Ext.refl w1).alloc (.cells (u32s [1]).toArray 27)
  refine (radded qa (some ⟨w1.heap.size, 0, none⟩) qn qc 1 1 _ [1] _ (HQ.out.ext he2) hone (by have := HQl.out; omega) (by omega)).mono ?_
  rintro e w3 ⟨⟨qa', qn', qc', rfl, hq'⟩, he3⟩
  rw [show val [1] = val (digs 1) by rw [val_digs (by omega), val_one]] at hq'
  have hdw := (hb1.ext (he1.trans (he2.trans he3))).cell (i := 1) rfl
  rw [← HLQ.out] at hq'
  have HQ' := Lib.hid hq'
  clear hq'
  go_wp2_with fail
  refine (rtaken ay ra ny cy (m + 1) rc _ _ _ (Hy.out.ext ((he0.trans he1).trans (he2.trans he3))) (HR.out.ext (he2.trans he3)) (by have := Hny.out; omega) HLE.out HLL.out).mono ?_
  rintro e w4 ⟨⟨ra', rn', rc', rfl, hr'⟩, he4⟩
  rw [← HLR.out] at hr'
  have HR' := Lib.hid hr'
  clear hr' 
  have HQl' : Hid (qn' ≤ 1073741825) := by
    rw [← HQ'.out.hlen, HLQ.out]
    have h2 := Int.ediv_nonneg (show 0 ≤ (a.natAbs : Int) by omega) (show 0 ≤ (b.natAbs : Int) by omega)
    have h4 := Int.ediv_le_self (a := (a.natAbs : Int)) (b.natAbs : Int) (by omega)
    rw [val_digs h2, val_digs (show (0 : Int) ≤ 1 by omega)]
    refine digs_succ_len h2 (Int.lt_of_le_of_lt h4 ha)
  have HRl' : Hid (rn' ≤ 1073741824) := by
    rw [← HR'.out.hlen, HLR.out]
    have h3 := Int.emod_nonneg (a.natAbs : Int) (show (b.natAbs : Int) ≠ 0 by omega)
    have h4 := Int.emod_lt_of_pos (a.natAbs : Int) (show 0 < (b.natAbs : Int) by omega)
    rw [val_digs h3, val_digs (show 0 ≤ (b.natAbs : Int) by omega)]
    refine digs_len_le (by omega) ?_
    unfold Fits at hB1
    omega
  have hd := hc0
  have hd' := hd0
  clear hc0 hd0 hd hd'
  have HQ4 := Lib.hid (HQ'.out.ext he4)
  have he1' := ((he1.trans he2).trans he3).trans he4
  have he1 := he1'
  clear he1' he2 he3 he4
  have hc0 := (hb0.ext he1).cell (i := 0) rfl
  have hd0 := (hb1.ext he1).cell (i := 0) rfl
  clear HQ HR HQl HRl
  have HQ := HQ4
  have HR := HR'
  have HQl := HQl'
  have HRl := HRl'
  clear HQ4 HR' HQl' HRl' HQ'
  obtain ⟨w1, rfl⟩ : ∃ x : World, x = w4 := ⟨_, rfl⟩
  go_wp2_with fail
  refine (rmade _ _ _ _ _ (a / b) _ HQ.out (by have := HQl.out; omega) (HZq.out _ (by cases nb <;> rfl))).mono ?_
  rintro e w2 ⟨⟨s1, a1, n1, k1, rfl, hr1⟩, he2⟩
  go_wp2_with fail
  refine (rmade _ _ _ _ _ (a % b) _ (HR.out.ext he2) (by have := HRl.out; omega) HZr.out).mono ?_
  rintro e w3 ⟨⟨s2, a2, n2, k2, rfl, hr2⟩, he3⟩
  have he4 := (he1.trans he2).trans he3
  have hb2' := hb2.ext he4
  have hb3' := hb3.ext he4
  have ec0 := hb2'.cell (i := 0) rfl
  have ec1 := hb2'.cell (i := 1) rfl
  have ef0 := hb2'.free 0
  have ef1 := hb2'.free 1
  have gc0 := hb3'.cell (i := 0) rfl
  have gc1 := hb3'.cell (i := 1) rfl
  have gf0 := hb3'.free 0
  have gf1 := hb3'.free 1
  go_wp2_with fail
  have hbA := ((hb2'.set2 (.bool s1) (.slice a1 n1 k1)).other (p := ⟨B + 1 + 1 + 1, 0, none⟩) (by show B + 1 + 1 + 1 ≠ B + 1 + 1; omega) (.bool s2)).other (p := ⟨B + 1 + 1 + 1, 1, none⟩) (by show B + 1 + 1 + 1 ≠ B + 1 + 1; omega) (.slice a2 n2 k2)
  have hbB := (hb3'.other (p := ⟨B + 1 + 1, 0, none⟩) (by show B + 1 + 1 ≠ B + 1 + 1 + 1; omega) (.bool s1)).other (p := ⟨B + 1 + 1, 1, none⟩) (by show B + 1 + 1 ≠ B + 1 + 1 + 1; omega) (.slice a1 n1 k1)
  refine bodyPost_ret (results_cct rfl rfl (load_int hbA) rfl (load_int (hbB.set2 _ _))) rfl ?_
  refine ⟨⟨_, _, rfl, ⟨_, _, _, _, rfl, hr1.1, ?_⟩, ⟨_, _, _, _, rfl, hr2.1, ?_⟩⟩, (((((he0.trans he4).store' HB (by omega) 0 _).store' HB (by omega) 1 _).store' HB (by omega) 0 _).store' HB (by omega) 1 _)⟩
  · exact ((hr1.2.ext he3).keep2 hb2' (by simp) (by simp) _ _).keep2 hbB (by simp) (by simp) _ _
  · exact (hr2.2.keep2 hb2' (by simp) (by simp) _ _).keep2 hbB (by simp) (by simp) _ _
/-- ref.DivMod, a divisor other than 0 -/
theorem rdivmod_any (x y : Value) (a b : Int) (w : World) (hx : IntV w x a) (hy : IntV w y b) (ha : Fits a 1073741824) (hB1 : Fits b 1073741824) (hb : b ≠ 0) :
    Calls Tryz.prog 34 #[x, y] w fun e w' => (∃ u v, e = .returned (.tuple #[u, v, .int .i64 0]) ∧ IntV w' u (a / b) ∧ IntV w' v (a % b)) ∧ Ext w w' := by
  by_cases h : a < 0 ∧ (a.natAbs : Int) % b.natAbs ≠ 0
  · exact rdivmod_up x y a b w hx hy ha hB1 hb h.1 h.2
  · refine rdivmod_plain x y a b w hx hy ha hb fun h1 => ?_
    by_cases h2 : (a.natAbs : Int) % b.natAbs = 0
    · exact h2
    · exact absurd ⟨of_decide_eq_true h1, h2⟩ h
end Go.Proofs.YtddcgojpgdhefaaGreatDoor
