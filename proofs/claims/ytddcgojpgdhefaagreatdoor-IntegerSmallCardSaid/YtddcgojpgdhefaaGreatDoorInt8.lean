/- Integers: Sign, Cmp. -/
import Derived.Test.YtddcgojpgdhefaaGreatDoorInt7
namespace Go.El
theorem sgn_cases (a b : Int) : (a < b ∧ sgn a b = -1) ∨ (a = b ∧ sgn a b = 0) ∨ (b < a ∧ sgn a b = 1) := by
  unfold sgn
  by_cases h : a < b
  · exact Or.inl ⟨h, by simp [h]⟩
  · by_cases h' : b < a
    · exact Or.inr (Or.inr ⟨h', by simp [h, h']⟩)
    · exact Or.inr (Or.inl ⟨by omega, by simp [h, h']⟩)
theorem sgn_sgn {a b : Int} (h5 : (a < 0) ≠ (b < 0)) : sgn (sgn a 0) (sgn b 0) = sgn a b := by
  have key : ∀ p q : Prop, p = q → p ≠ q → False := fun p q h k => k h
  rcases sgn_cases a 0 with ⟨p1, e1⟩ | ⟨p1, e1⟩ | ⟨p1, e1⟩ <;> rcases sgn_cases b 0 with ⟨p2, e2⟩ | ⟨p2, e2⟩ | ⟨p2, e2⟩ <;> rw [e1, e2] <;> rcases sgn_cases a b with ⟨p3, e3⟩ | ⟨p3, e3⟩ | ⟨p3, e3⟩ <;> first | (rw [e3]; rfl) | (exfalso; omega) | exact absurd (propext (by omega)) h5
theorem sgn_minus (a b : Int) : sgn (-b) (-a) = sgn a b := by
  rcases sgn_cases a b with ⟨p, e⟩ | ⟨p, e⟩ | ⟨p, e⟩ <;> rcases sgn_cases (-b) (-a) with ⟨q, f⟩ | ⟨q, f⟩ | ⟨q, f⟩ <;> rw [e, f] <;> omega
end Go.El
namespace Go.Proofs.YtddcgojpgdhefaaGreatDoor
open Go.RowKit Go.El
set_option linter.unusedVariables false
set_option maxRecDepth 100000 in
/-- integer.Sign -/
theorem sign_any (x : Value) (a : Int) (w : World) (hx : IntV w x a) :
    Calls Tryz.prog 24 #[x] w fun e w' => e = .returned (.int .i64 (sgn a 0)) ∧ Ext w w' := by
  obtain ⟨na, ax, nx, cx, rfl, hna, hwx⟩ := hx
  by_cases h : a < 0
  · obtain rfl : na = true := by rw [hna]; simp [h]
    have hs : sgn a 0 = -1 := by have := sgn_cases a 0; omega
    rw [hs]
    clear hwx hna hs
    go_enter Tryz.func24, Tryz.ntmps24
    go_wp2_with fail
    go_ret
    exact ⟨rfl, (Ext.refl w).alloc _⟩
  · obtain rfl : na = false := by rw [hna]; simp [h]
    by_cases h0 : a = 0
    · subst h0
      obtain rfl : nx = 0 := by rw [← hwx.hlen, Int.natAbs_zero, Int.ofNat_zero, digs_zero]; rfl
      clear hwx hna h
      rw [show sgn 0 0 = 0 by rfl]
      go_enter Tryz.func24, Tryz.ntmps24
      go_wp2_with fail
      go_ret
      exact ⟨rfl, (Ext.refl w).alloc _⟩
    · have h1 := digs_pos_len (show 0 < (a.natAbs : Int) by omega)
      rw [hwx.hlen] at h1
      have hs : sgn a 0 = 1 := by have := sgn_cases a 0; omega
      rw [hs]
      obtain ⟨m, rfl⟩ : ∃ m, nx = m + 1 := ⟨nx - 1, by omega⟩
      clear hwx hna hs h h0 h1
      go_enter Tryz.func24, Tryz.ntmps24
      go_wp2_with fail
      go_ret
      rw [Int.min_eq_right (by omega)]
      exact ⟨rfl, (Ext.refl w).alloc _⟩
set_option maxRecDepth 100000 in
/-- ref.Sign -/
theorem rsign_any (x : Value) (a : Int) (w : World) (hx : IntV w x a) :
    Calls Tryz.prog 49 #[x] w fun e w' => e = .returned (.int .i64 (sgn a 0)) ∧ Ext w w' := by
  obtain ⟨na, ax, nx, cx, rfl, hna, hwx⟩ := hx
  by_cases h : a < 0
  · obtain rfl : na = true := by rw [hna]; simp [h]
    have hs : sgn a 0 = -1 := by have := sgn_cases a 0; omega
    rw [hs]
    clear hwx hna hs
    go_enter Tryz.func49, Tryz.ntmps49
    go_wp2_with fail
    go_ret
    exact ⟨rfl, (Ext.refl w).alloc _⟩
  · obtain rfl : na = false := by rw [hna]; simp [h]
    by_cases h0 : a = 0
    · subst h0
      obtain rfl : nx = 0 := by rw [← hwx.hlen, Int.natAbs_zero, Int.ofNat_zero, digs_zero]; rfl
      clear hwx hna h
      rw [show sgn 0 0 = 0 by rfl]
      go_enter Tryz.func49, Tryz.ntmps49
      go_wp2_with fail
      go_ret
      exact ⟨rfl, (Ext.refl w).alloc _⟩
    · have h1 := digs_pos_len (show 0 < (a.natAbs : Int) by omega)
      rw [hwx.hlen] at h1
      have hs : sgn a 0 = 1 := by have := sgn_cases a 0; omega
      rw [hs]
      obtain ⟨m, rfl⟩ : ∃ m, nx = m + 1 := ⟨nx - 1, by omega⟩
      clear hwx hna hs h h0 h1
      go_enter Tryz.func49, Tryz.ntmps49
      go_wp2_with fail
      go_ret
      rw [Int.min_eq_right (by omega)]
      exact ⟨rfl, (Ext.refl w).alloc _⟩

set_option maxRecDepth 100000 in
/-- integer.Cmp, signs not equal -/
theorem cmp_signs (x y : Value) (a b : Int) (w : World) (hx : IntV w x a) (hy : IntV w y b) (hsg : decide (a < 0) ≠ decide (b < 0)) :
    Calls Tryz.prog 16 #[x, y] w fun e w' => e = .returned (.int .i64 (sgn a b)) ∧ Ext w w' := by
  have HX := Lib.hid hx
  have HY := Lib.hid hy
  obtain ⟨na, ax, nx, cx, rfl, hna, hwx⟩ := hx
  obtain ⟨nb, ay, ny, cy, rfl, hnb, hwy⟩ := hy
  have hnn : (na == nb) = false := beq_eq_false_iff_ne.2 (by rw [hna, hnb]; exact hsg)
  have HS : Hid (sgn (sgn a 0) (sgn b 0) = sgn a b) := by
    exact sgn_sgn (fun h => hsg (by simp only [h]))
  clear hwx hwy hna hnb hsg
  obtain ⟨B, w0, hB, hw0, hb0, hb1, he0⟩ := two w 24 24 [.bool na, .slice ax nx cx] [.bool nb, .slice ay ny cy]
  go_enter Tryz.func16, Tryz.ntmps16
  go_wp2_with fail
  rw [← hw0, ← hB]
  have c0 := hb0.cell (i := 0) rfl
  have c1 := hb0.cell (i := 1) rfl
  have d0 := hb1.cell (i := 0) rfl
  have d1 := hb1.cell (i := 1) rfl
  have HB := Lib.hid hB
  have KH : Hid (∀ w', Ext w0 w' → w'.cell? ⟨B, 0, none⟩ = some (.bool na) ∧ w'.cell? ⟨B, 1, none⟩ = some (.slice ax nx cx) ∧ w'.cell? ⟨B + 1, 0, none⟩ = some (.bool nb) ∧ w'.cell? ⟨B + 1, 1, none⟩ = some (.slice ay ny cy)) :=
    fun w' h => ⟨h.cell c0, h.cell c1, h.cell d0, h.cell d1⟩
  clear hw0 hB
  clear hb0 hb1
  go_region_held3 (fun w' => w'.cell? ⟨B, 0, none⟩ = some (.bool na) ∧ w'.cell? ⟨B, 1, none⟩ = some (.slice ax nx cx) ∧ w'.cell? ⟨B + 1, 0, none⟩ = some (.bool nb) ∧ w'.cell? ⟨B + 1, 1, none⟩ = some (.slice ay ny cy))
    (first | exact KH.out _ (Ext.refl _).drew | exact KH.out _ ((Ext.refl w0).drew.trans he1) | exact KH.out _ (((Ext.refl w0).drew.trans he1).trans he2))
    (first
    | (go_at_call 24; (with_reducible refine (sign_any _ a _ (HX.out.ext he0.drew)).mono ?_); rintro e w1 ⟨rfl, he1⟩)
    | (go_at_call 24; (with_reducible refine (sign_any _ b _ (HY.out.ext (he0.drew.trans he1))).mono ?_); rintro e w2 ⟨rfl, he2⟩)
    | (go_at_call 52; (with_reducible refine (compare_int _ _ _).mono ?_); rintro e w3 ⟨rfl, rfl⟩)
    )
  go_wp2_with fail
  go_ret
  rw [HS.out]
  exact ⟨rfl, (he0.drew.trans he1).trans he2⟩
set_option maxRecDepth 100000 in
theorem cmp_minus (x y : Value) (a b : Int) (w : World) (hx : IntV w x a) (hy : IntV w y b) (h1 : a < 0) (h2 : b < 0) :
    Calls Tryz.prog 16 #[x, y] w fun e w' => e = .returned (.int .i64 (sgn a b)) ∧ Ext w w' := by
  obtain ⟨na, ax, nx, cx, rfl, hna, hwx⟩ := hx
  obtain ⟨nb, ay, ny, cy, rfl, hnb, hwy⟩ := hy
  obtain rfl : na = true := by rw [hna]; simp [h1]
  obtain rfl : nb = true := by rw [hnb]; simp [h2]
  have HS : Hid (sgn (b.natAbs : Int) (a.natAbs : Int) = sgn a b) := by
    rw [show (a.natAbs : Int) = -a by omega, show (b.natAbs : Int) = -b by omega]
    exact sgn_minus a b
  have Hx := Lib.hid hwx
  have Hy := Lib.hid hwy
  clear hwx hwy hna hnb h1 h2
  obtain ⟨B, w0, hB, hw0, hb0, hb1, he0⟩ := two w 24 24 [.bool true, .slice ay ny cy] [.bool true, .slice ax nx cx]
  go_enter Tryz.func16, Tryz.ntmps16
  go_wp2_with fail
  refine (ncmp_any ay ax ny cy nx cx (b.natAbs : Int) (a.natAbs : Int) _ (by omega) (by omega) (Hy.out.ext ?_) (Hx.out.ext ?_)).mono ?_
  · rw [← hw0]; exact he0
  · rw [← hw0]; exact he0
  rw [← hw0, ← hB]
  rintro e w1 ⟨rfl, hd⟩
  clear hw0 hB hb0 hb1
  go_wp2_with fail
  go_ret
  rw [HS.out]
  exact ⟨rfl, he0.trans hd.ext⟩
set_option maxRecDepth 100000 in
theorem cmp_plus (x y : Value) (a b : Int) (w : World) (hx : IntV w x a) (hy : IntV w y b) (h1 : ¬ a < 0) (h2 : ¬ b < 0) :
    Calls Tryz.prog 16 #[x, y] w fun e w' => e = .returned (.int .i64 (sgn a b)) ∧ Ext w w' := by
  obtain ⟨na, ax, nx, cx, rfl, hna, hwx⟩ := hx
  obtain ⟨nb, ay, ny, cy, rfl, hnb, hwy⟩ := hy
  obtain rfl : na = false := by rw [hna]; simp [h1]
  obtain rfl : nb = false := by rw [hnb]; simp [h2]
  have HS : Hid (sgn (a.natAbs : Int) (b.natAbs : Int) = sgn a b) := by
    rw [show (a.natAbs : Int) = a by omega, show (b.natAbs : Int) = b by omega]
    exact rfl
  have Hx := Lib.hid hwx
  have Hy := Lib.hid hwy
  clear hwx hwy hna hnb h1 h2
  obtain ⟨B, w0, hB, hw0, hb0, hb1, he0⟩ := two w 24 24 [.bool false, .slice ax nx cx] [.bool false, .slice ay ny cy]
  go_enter Tryz.func16, Tryz.ntmps16
  go_wp2_with fail
  refine (ncmp_any ax ay nx cx ny cy (a.natAbs : Int) (b.natAbs : Int) _ (by omega) (by omega) (Hx.out.ext ?_) (Hy.out.ext ?_)).mono ?_
  · rw [← hw0]; exact he0
  · rw [← hw0]; exact he0
  rw [← hw0, ← hB]
  rintro e w1 ⟨rfl, hd⟩
  clear hw0 hB hb0 hb1
  go_wp2_with fail
  go_ret
  rw [HS.out]
  exact ⟨rfl, he0.trans hd.ext⟩
/-- integer.Cmp -/
theorem cmp_any (x y : Value) (a b : Int) (w : World) (hx : IntV w x a) (hy : IntV w y b) :
    Calls Tryz.prog 16 #[x, y] w fun e w' => e = .returned (.int .i64 (sgn a b)) ∧ Ext w w' := by
  by_cases hsg : decide (a < 0) = decide (b < 0)
  · by_cases h1 : a < 0
    · exact cmp_minus x y a b w hx hy h1 (by simpa [h1] using hsg)
    · exact cmp_plus x y a b w hx hy h1 (by simpa [h1] using hsg)
  · exact cmp_signs x y a b w hx hy hsg
end Go.Proofs.YtddcgojpgdhefaaGreatDoor
