/- Integers: sum, unequal signs. -/
import Derived.Test.YtddcgojpgdhefaaGreatDoorInt1
import Derived.Test.YtddcgojpgdhefaaGreatDoorCmp
namespace Go.Proofs.YtddcgojpgdhefaaGreatDoor
open Go.RowKit Go.El
set_option linter.unusedVariables false
set_option maxRecDepth 100000 in
set_option maxHeartbeats 1000000 in
/-- integer.Add, unequal signs, the first one less. -/
theorem add_less (x y : Value) (a b : Int) (w : World) (hx : IntV w x a) (hy : IntV w y b) (ha : Fits a 1073741824) (hb : Fits b 1073741824) (hsg : decide (a < 0) ≠ decide (b < 0)) (hlt : (a.natAbs : Int) < b.natAbs) :
    Calls Tryz.prog 17 #[x, y] w fun e w' => (∃ v, e = .returned v ∧ IntV w' v (a + b)) ∧ Ext w w' := by
  obtain ⟨na, ax, nx, cx, rfl, hna, hwx⟩ := hx
  obtain ⟨nb, ay, ny, cy, rfl, hnb, hwy⟩ := hy
  have hnx := ha.len
  have hny := hb.len
  rw [hwx.hlen] at hnx
  rw [hwy.hlen] at hny
  have Hx := Lib.hid hwx
  have Hy := Lib.hid hwy
  have HNa := Lib.hid hna
  have HNb := Lib.hid hnb
  clear hwx hwy hna hnb
  have hnn : (na == nb) = false := beq_eq_false_iff_ne.2 (by rw [HNa.out, HNb.out]; exact hsg)
  have HZ : Hid (a + b = if nb then -(val (digs (val (digs b.natAbs) - val (digs a.natAbs)))) else val (digs (val (digs b.natAbs) - val (digs a.natAbs)))) := by
    have h := sub_sign HNb.out HNa.out (by rw [HNa.out, HNb.out]; exact hsg.symm)
    rw [val_digs (show 0 ≤ (a.natAbs : Int) by omega), val_digs (show 0 ≤ (b.natAbs : Int) by omega), val_digs (by omega), Int.add_comm]
    exact h
  have HSz : Hid (∀ (W : World) a' n' c', Words W a' n' c' (digs (val (digs b.natAbs) - val (digs a.natAbs))) → n' ≤ 4398046511104) := by
    intro W a' n' c' h
    rw [← h.hlen, val_digs (show 0 ≤ (a.natAbs : Int) by omega), val_digs (show 0 ≤ (b.natAbs : Int) by omega)]
    have h1 := digs_len_le (show (0 : Int) ≤ b.natAbs - a.natAbs by omega) (show (b.natAbs - a.natAbs : Int) < pw 1073741824 by unfold Fits at hb; omega)
    omega
  have hle : val (digs a.natAbs) ≤ val (digs b.natAbs) := by
    rw [val_digs (show 0 ≤ (a.natAbs : Int) by omega), val_digs (show 0 ≤ (b.natAbs : Int) by omega)]; omega
  have hll : nx ≤ ny := by
    rw [← Hx.out.hlen, ← Hy.out.hlen]
    exact digs_len_mono (by omega) (by omega)
  have hs := sgn_lt hlt
  clear hsg
  obtain ⟨B, w0, hB, hw0, hb0, hb1, hb2, he0⟩ := three w 24 24 24 [.bool na, .slice ax nx cx] [.bool nb, .slice ay ny cy] [.bool false, .slice none 0 0]
  go_enter Tryz.func17, Tryz.ntmps17
  go_wp2_with fail
  rw [← hw0, ← hB]
  have c0 := hb0.cell (i := 0) rfl
  have c1 := hb0.cell (i := 1) rfl
  have d0 := hb1.cell (i := 0) rfl
  have d1 := hb1.cell (i := 1) rfl
  have HB := Lib.hid hB
  clear hw0 hB hb0 hb1
  have KH : Hid (∀ w', Below (B + 1 + 1) w0 w' → w'.cell? ⟨B, 0, none⟩ = some (.bool na) ∧ w'.cell? ⟨B, 1, none⟩ = some (.slice ax nx cx) ∧ w'.cell? ⟨B + 1, 0, none⟩ = some (.bool nb) ∧ w'.cell? ⟨B + 1, 1, none⟩ = some (.slice ay ny cy)) :=
    fun w' h => ⟨(h.cell (p := ⟨B, 0, none⟩) (by show B < B + 1 + 1; omega)).trans c0, (h.cell (p := ⟨B, 1, none⟩) (by show B < B + 1 + 1; omega)).trans c1, (h.cell (p := ⟨B + 1, 0, none⟩) (by show B + 1 < B + 1 + 1; omega)).trans d0, (h.cell (p := ⟨B + 1, 1, none⟩) (by show B + 1 < B + 1 + 1; omega)).trans d1⟩
  have hsz := hb2.lt
  go_quiet (fail)
  have he0q := he0.drewN nq
  have hb2q := Blk.drewN' hb2 nq
  have hszq : B + 1 + 1 < (w0.drewN nq).heap.size := hsz
  have KHq := Lib.hid (fun w' (h : Below (B + 1 + 1) (w0.drewN nq) w') => KH.out w' (((Below.refl (B + 1 + 1) w0).drewN nq).trans h))
  have c0q : (w0.drewN nq).cell? ⟨B, 0, none⟩ = some (.bool na) := c0
  have c1q : (w0.drewN nq).cell? ⟨B, 1, none⟩ = some (.slice ax nx cx) := c1
  have d0q : (w0.drewN nq).cell? ⟨B + 1, 0, none⟩ = some (.bool nb) := d0
  have d1q : (w0.drewN nq).cell? ⟨B + 1, 1, none⟩ = some (.slice ay ny cy) := d1
  clear he0 hb2 hsz KH c0 c1 d0 d1
  generalize w0.drewN nq = wq at he0q hb2q hszq KHq c0q c1q d0q d1q ⊢
  clear w0
  obtain ⟨w0, rfl⟩ : ∃ x : World, x = wq := ⟨_, rfl⟩
  have he0 := he0q
  have hb2 := hb2q
  have hsz := hszq
  have KH := KHq
  have c0 := c0q
  have c1 := c1q
  have d0 := d0q
  have d1 := d1q
  clear he0q hb2q hszq KHq c0q c1q d0q d1q
  go_wp2_with fail
  refine (ncmp_any ax ay nx cx ny cy _ _ _ (by omega) (by omega) (Hx.out.ext he0) (Hy.out.ext he0)).mono ?_
  rintro e w' ⟨rfl, nq, rfl⟩
  have he0q := he0.drewN nq
  have hb2q := Blk.drewN' hb2 nq
  have hszq : B + 1 + 1 < (w0.drewN nq).heap.size := hsz
  have KHq := Lib.hid (fun w' (h : Below (B + 1 + 1) (w0.drewN nq) w') => KH.out w' (((Below.refl (B + 1 + 1) w0).drewN nq).trans h))
  have c0q : (w0.drewN nq).cell? ⟨B, 0, none⟩ = some (.bool na) := c0
  have c1q : (w0.drewN nq).cell? ⟨B, 1, none⟩ = some (.slice ax nx cx) := c1
  have d0q : (w0.drewN nq).cell? ⟨B + 1, 0, none⟩ = some (.bool nb) := d0
  have d1q : (w0.drewN nq).cell? ⟨B + 1, 1, none⟩ = some (.slice ay ny cy) := d1
  clear he0 hb2 hsz KH c0 c1 d0 d1
  generalize w0.drewN nq = wq at he0q hb2q hszq KHq c0q c1q d0q d1q ⊢
  clear w0
  obtain ⟨w0, rfl⟩ : ∃ x : World, x = wq := ⟨_, rfl⟩
  have he0 := he0q
  have hb2 := hb2q
  have hsz := hszq
  have KH := KHq
  have c0 := c0q
  have c1 := c1q
  have d0 := d0q
  have d1 := d1q
  clear he0q hb2q hszq KHq c0q c1q d0q d1q
  go_wp2_with fail
  go_region_held3
    (fun w' => w'.cell? ⟨B, 0, none⟩ = some (.bool na) ∧ w'.cell? ⟨B, 1, none⟩ = some (.slice ax nx cx) ∧ w'.cell? ⟨B + 1, 0, none⟩ = some (.bool nb) ∧ w'.cell? ⟨B + 1, 1, none⟩ = some (.slice ay ny cy))
    (first | exact KH.out _ (Below.refl _ _).drew | exact KH.out _ hx1 | exact KH.out _ hx2 | exact KH.out _ (Below.set2 hx2 (Nat.le_refl _) _ _))
    (first
    | (go_at_call 56; (with_reducible refine (nsub_any ay ax ny cy nx cx _ _ _ (Hy.out.ext he0.drew) (Hx.out.ext he0.drew) (by omega) hle hll).mono ?_); rintro e w1 ⟨⟨am, nm, cm, rfl, hm⟩, he1⟩; have hx1 := (Below.refl (B + 1 + 1) w0).drew.trans (he1.upto (Nat.le_of_lt hsz)))
    | (go_at_call 55; (with_reducible refine (signed_any _ _ _ _ _ (a+b) _ hm (HSz.out _ _ _ _ hm) HZ.out).mono ?_); rintro e w2 ⟨⟨sr, ar, nr, cr, rfl, hr⟩, he2⟩; have hx2 := hx1.trans (he2.upto (Nat.le_trans (Nat.le_of_lt hsz) hx1.size)); have hb2' := hb2.drew.ext (he1.trans he2); have e0 := hb2'.cell (i := 0) rfl; have e1 := hb2'.cell (i := 1) rfl; have f0 := hb2'.free 0; have f1 := hb2'.free 1)
    )
  go_wp2_with fail
  refine bodyPost_ret (results_c rfl rfl (load_int (hb2'.set2 _ _))) rfl ?_
  exact ⟨⟨_, rfl, _, _, _, _, rfl, hr.1, hr.2.keep2 hb2' (by simp) (by simp) _ _⟩, Below.toExt (Below.set2 hx2 (Nat.le_refl _) _ _) he0 HB (by omega)⟩
set_option maxRecDepth 100000 in
set_option maxHeartbeats 1000000 in
/-- integer.Add, unequal signs, the first one not less. -/
theorem add_more (x y : Value) (a b : Int) (w : World) (hx : IntV w x a) (hy : IntV w y b) (ha : Fits a 1073741824) (hb : Fits b 1073741824) (hsg : decide (a < 0) ≠ decide (b < 0)) (hge : (b.natAbs : Int) ≤ a.natAbs) (s : Int) (hs : sgn (a.natAbs : Int) (b.natAbs : Int) = s) (hs0 : (decide (s < 0)) = false) :
    Calls Tryz.prog 17 #[x, y] w fun e w' => (∃ v, e = .returned v ∧ IntV w' v (a + b)) ∧ Ext w w' := by
  obtain ⟨na, ax, nx, cx, rfl, hna, hwx⟩ := hx
  obtain ⟨nb, ay, ny, cy, rfl, hnb, hwy⟩ := hy
  have hnx := ha.len
  have hny := hb.len
  rw [hwx.hlen] at hnx
  rw [hwy.hlen] at hny
  have Hx := Lib.hid hwx
  have Hy := Lib.hid hwy
  have HNa := Lib.hid hna
  have HNb := Lib.hid hnb
  clear hwx hwy hna hnb
  have hnn : (na == nb) = false := beq_eq_false_iff_ne.2 (by rw [HNa.out, HNb.out]; exact hsg)
  have HZ : Hid (a + b = if na then -(val (digs (val (digs a.natAbs) - val (digs b.natAbs)))) else val (digs (val (digs a.natAbs) - val (digs b.natAbs)))) := by
    have h := sub_sign HNa.out HNb.out (by rw [HNa.out, HNb.out]; exact hsg)
    rw [val_digs (show 0 ≤ (a.natAbs : Int) by omega), val_digs (show 0 ≤ (b.natAbs : Int) by omega), val_digs (by omega)]
    exact h
  have HSz : Hid (∀ (W : World) a' n' c', Words W a' n' c' (digs (val (digs a.natAbs) - val (digs b.natAbs))) → n' ≤ 4398046511104) := by
    intro W a' n' c' h
    rw [← h.hlen, val_digs (show 0 ≤ (a.natAbs : Int) by omega), val_digs (show 0 ≤ (b.natAbs : Int) by omega)]
    have h1 := digs_len_le (show (0 : Int) ≤ a.natAbs - b.natAbs by omega) (show (a.natAbs - b.natAbs : Int) < pw 1073741824 by unfold Fits at ha; omega)
    omega
  have hle : val (digs b.natAbs) ≤ val (digs a.natAbs) := by
    rw [val_digs (show 0 ≤ (a.natAbs : Int) by omega), val_digs (show 0 ≤ (b.natAbs : Int) by omega)]; omega
  have hll : ny ≤ nx := by
    rw [← Hx.out.hlen, ← Hy.out.hlen]
    exact digs_len_mono (by omega) (by omega)
  clear hsg
  obtain ⟨B, w0, hB, hw0, hb0, hb1, hb2, he0⟩ := three w 24 24 24 [.bool na, .slice ax nx cx] [.bool nb, .slice ay ny cy] [.bool false, .slice none 0 0]
  go_enter Tryz.func17, Tryz.ntmps17
  go_wp2_with fail
  rw [← hw0, ← hB]
  have c0 := hb0.cell (i := 0) rfl
  have c1 := hb0.cell (i := 1) rfl
  have d0 := hb1.cell (i := 0) rfl
  have d1 := hb1.cell (i := 1) rfl
  have HB := Lib.hid hB
  clear hw0 hB hb0 hb1
  have KH : Hid (∀ w', Below (B + 1 + 1) w0 w' → w'.cell? ⟨B, 0, none⟩ = some (.bool na) ∧ w'.cell? ⟨B, 1, none⟩ = some (.slice ax nx cx) ∧ w'.cell? ⟨B + 1, 0, none⟩ = some (.bool nb) ∧ w'.cell? ⟨B + 1, 1, none⟩ = some (.slice ay ny cy)) :=
    fun w' h => ⟨(h.cell (p := ⟨B, 0, none⟩) (by show B < B + 1 + 1; omega)).trans c0, (h.cell (p := ⟨B, 1, none⟩) (by show B < B + 1 + 1; omega)).trans c1, (h.cell (p := ⟨B + 1, 0, none⟩) (by show B + 1 < B + 1 + 1; omega)).trans d0, (h.cell (p := ⟨B + 1, 1, none⟩) (by show B + 1 < B + 1 + 1; omega)).trans d1⟩
  have hsz := hb2.lt
  go_quiet (fail)
  have he0q := he0.drewN nq
  have hb2q := Blk.drewN' hb2 nq
  have hszq : B + 1 + 1 < (w0.drewN nq).heap.size := hsz
  have KHq := Lib.hid (fun w' (h : Below (B + 1 + 1) (w0.drewN nq) w') => KH.out w' (((Below.refl (B + 1 + 1) w0).drewN nq).trans h))
  have c0q : (w0.drewN nq).cell? ⟨B, 0, none⟩ = some (.bool na) := c0
  have c1q : (w0.drewN nq).cell? ⟨B, 1, none⟩ = some (.slice ax nx cx) := c1
  have d0q : (w0.drewN nq).cell? ⟨B + 1, 0, none⟩ = some (.bool nb) := d0
  have d1q : (w0.drewN nq).cell? ⟨B + 1, 1, none⟩ = some (.slice ay ny cy) := d1
  clear he0 hb2 hsz KH c0 c1 d0 d1
  generalize w0.drewN nq = wq at he0q hb2q hszq KHq c0q c1q d0q d1q ⊢
  clear w0
  obtain ⟨w0, rfl⟩ : ∃ x : World, x = wq := ⟨_, rfl⟩
  have he0 := he0q
  have hb2 := hb2q
  have hsz := hszq
  have KH := KHq
  have c0 := c0q
  have c1 := c1q
  have d0 := d0q
  have d1 := d1q
  clear he0q hb2q hszq KHq c0q c1q d0q d1q
  go_wp2_with fail
  refine (ncmp_any ax ay nx cx ny cy _ _ _ (by omega) (by omega) (Hx.out.ext he0) (Hy.out.ext he0)).mono ?_
  rintro e w' ⟨rfl, nq, rfl⟩
  have he0q := he0.drewN nq
  have hb2q := Blk.drewN' hb2 nq
  have hszq : B + 1 + 1 < (w0.drewN nq).heap.size := hsz
  have KHq := Lib.hid (fun w' (h : Below (B + 1 + 1) (w0.drewN nq) w') => KH.out w' (((Below.refl (B + 1 + 1) w0).drewN nq).trans h))
  have c0q : (w0.drewN nq).cell? ⟨B, 0, none⟩ = some (.bool na) := c0
  have c1q : (w0.drewN nq).cell? ⟨B, 1, none⟩ = some (.slice ax nx cx) := c1
  have d0q : (w0.drewN nq).cell? ⟨B + 1, 0, none⟩ = some (.bool nb) := d0
  have d1q : (w0.drewN nq).cell? ⟨B + 1, 1, none⟩ = some (.slice ay ny cy) := d1
  clear he0 hb2 hsz KH c0 c1 d0 d1
  generalize w0.drewN nq = wq at he0q hb2q hszq KHq c0q c1q d0q d1q ⊢
  clear w0
  obtain ⟨w0, rfl⟩ : ∃ x : World, x = wq := ⟨_, rfl⟩
  have he0 := he0q
  have hb2 := hb2q
  have hsz := hszq
  have KH := KHq
  have c0 := c0q
  have c1 := c1q
  have d0 := d0q
  have d1 := d1q
  clear he0q hb2q hszq KHq c0q c1q d0q d1q
  go_wp2_with fail
  go_region_held3
    (fun w' => w'.cell? ⟨B, 0, none⟩ = some (.bool na) ∧ w'.cell? ⟨B, 1, none⟩ = some (.slice ax nx cx) ∧ w'.cell? ⟨B + 1, 0, none⟩ = some (.bool nb) ∧ w'.cell? ⟨B + 1, 1, none⟩ = some (.slice ay ny cy))
    (first | exact KH.out _ (Below.refl _ _).drew | exact KH.out _ hx1 | exact KH.out _ hx2 | exact KH.out _ (Below.set2 hx2 (Nat.le_refl _) _ _))
    (first
    | (go_at_call 56; (with_reducible refine (nsub_any ax ay nx cx ny cy _ _ _ (Hx.out.ext he0.drew) (Hy.out.ext he0.drew) (by omega) hle hll).mono ?_); rintro e w1 ⟨⟨am, nm, cm, rfl, hm⟩, he1⟩; have hx1 := (Below.refl (B + 1 + 1) w0).drew.trans (he1.upto (Nat.le_of_lt hsz)))
    | (go_at_call 55; (with_reducible refine (signed_any _ _ _ _ _ (a+b) _ hm (HSz.out _ _ _ _ hm) HZ.out).mono ?_); rintro e w2 ⟨⟨sr, ar, nr, cr, rfl, hr⟩, he2⟩; have hx2 := hx1.trans (he2.upto (Nat.le_trans (Nat.le_of_lt hsz) hx1.size)); have hb2' := hb2.drew.ext (he1.trans he2); have e0 := hb2'.cell (i := 0) rfl; have e1 := hb2'.cell (i := 1) rfl; have f0 := hb2'.free 0; have f1 := hb2'.free 1)
    )
  go_wp2_with fail
  refine bodyPost_ret (results_c rfl rfl (load_int (hb2'.set2 _ _))) rfl ?_
  exact ⟨⟨_, rfl, _, _, _, _, rfl, hr.1, hr.2.keep2 hb2' (by simp) (by simp) _ _⟩, Below.toExt (Below.set2 hx2 (Nat.le_refl _) _ _) he0 HB (by omega)⟩

theorem add_any (x y : Value) (a b : Int) (w : World) (hx : IntV w x a) (hy : IntV w y b) (ha : Fits a 1073741824) (hb : Fits b 1073741824) :
    Calls Tryz.prog 17 #[x, y] w fun e w' => (∃ v, e = .returned v ∧ IntV w' v (a + b)) ∧ Ext w w' := by
  by_cases hsg : decide (a < 0) = decide (b < 0)
  · exact add_same x y a b w hx hy ha hb hsg
  · by_cases hlt : (a.natAbs : Int) < b.natAbs
    · exact add_less x y a b w hx hy ha hb hsg hlt
    · exact add_more x y a b w hx hy ha hb hsg (by omega) _ rfl (by unfold sgn; split <;> (try split) <;> simp_all)
end Go.Proofs.YtddcgojpgdhefaaGreatDoor
