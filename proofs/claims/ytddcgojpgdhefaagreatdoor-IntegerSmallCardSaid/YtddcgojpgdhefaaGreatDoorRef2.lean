/- The reference: Same, Valid. -/
import Derived.Test.YtddcgojpgdhefaaGreatDoorRef1
namespace Go.El
theorem take_step {l : List Int} {k : Nat} (h : k < l.length) : l.take (k + 1) = l.take k ++ [l.getD k 0] := by
  rw [List.take_add_one, List.getElem?_eq_getElem h, List.getD, List.getElem?_eq_getElem h]; rfl
theorem abs_sign_inj {a b : Int} (h : (a.natAbs : Int) = b.natAbs) (hs : decide (a < 0) = decide (b < 0)) : a = b := by
  have h5 : (a < 0) ↔ (b < 0) := by
    constructor
    · intro h; exact of_decide_eq_true (by rw [← hs]; exact decide_eq_true h)
    · intro h; exact of_decide_eq_true (by rw [hs]; exact decide_eq_true h)
  by_cases ha : a < 0
  · have := h5.1 ha; omega
  · have : ¬ b < 0 := fun h => ha (h5.2 h)
    omega
end Go.El
namespace Go.Proofs.YtddcgojpgdhefaaGreatDoor
open Go.RowKit Go.El
set_option linter.unusedVariables false
set_option maxRecDepth 100000 in
/-- ref.Same, another sign -/
theorem same_sign (x y : Value) (a b : Int) (w : World) (hx : IntV w x a) (hy : IntV w y b) (hs : decide (a < 0) ≠ decide (b < 0)) :
    Calls Tryz.prog 21 #[x, y] w fun e w' => e = .returned (.bool false) ∧ Ext w w' := by
  obtain ⟨na, ax, nx, cx, rfl, hna, hwx⟩ := hx
  obtain ⟨nb, ay, ny, cy, rfl, hnb, hwy⟩ := hy
  have hnn : (na == nb) = false := beq_eq_false_iff_ne.2 (by rw [hna, hnb]; exact hs)
  clear hwx hwy hna hnb hs
  go_enter Tryz.func21, Tryz.ntmps21
  go_wp2_with fail
  go_ret
  exact ⟨rfl, ((Ext.refl w).alloc _).alloc _⟩
set_option maxRecDepth 100000 in
/-- ref.Same, another length -/
theorem same_len (x y : Value) (a b : Int) (w : World) (hx : IntV w x a) (hy : IntV w y b) (hs : decide (a < 0) = decide (b < 0)) (hl : (digs a.natAbs).length ≠ (digs b.natAbs).length) :
    Calls Tryz.prog 21 #[x, y] w fun e w' => e = .returned (.bool false) ∧ Ext w w' := by
  obtain ⟨na, ax, nx, cx, rfl, hna, hwx⟩ := hx
  obtain ⟨nb, ay, ny, cy, rfl, hnb, hwy⟩ := hy
  obtain rfl : na = nb := by rw [hna, hnb]; exact hs
  have hnn : ((nx : Int) != ny) = true := by rw [← hwx.hlen, ← hwy.hlen]; simp; omega
  clear hwx hwy hna hnb hs hl
  go_enter Tryz.func21, Tryz.ntmps21
  go_wp2_with fail
  go_ret
  exact ⟨rfl, ((Ext.refl w).alloc _).alloc _⟩
set_option maxRecDepth 100000 in
/-- ref.Same, the loop -/
theorem same_loop (x y : Value) (a b : Int) (w : World) (hx : IntV w x a) (hy : IntV w y b) (hs : decide (a < 0) = decide (b < 0)) (hl : (digs a.natAbs).length = (digs b.natAbs).length) :
    Calls Tryz.prog 21 #[x, y] w fun e w' => e = .returned (.bool (decide (a = b))) ∧ Ext w w' := by
  obtain ⟨na, ax, nx, cx, rfl, hna, hwx⟩ := hx
  obtain ⟨nb, ay, ny, cy, rfl, hnb, hwy⟩ := hy
  obtain rfl : na = nb := by rw [hna, hnb]; exact hs
  obtain rfl : nx = ny := by rw [← hwx.hlen, ← hwy.hlen]; exact hl
  have hmx := hwx.max
  have hmy := hwy.max
  have hlx := hwx.le
  have hly := hwy.le
  have hn : ((nx : Int) != nx) = false := by simp
  obtain ⟨lx, hlx⟩ : ∃ lx, lx = digs a.natAbs := ⟨_, rfl⟩
  obtain ⟨ly, hly⟩ : ∃ ly, ly = digs b.natAbs := ⟨_, rfl⟩
  have HR : Hid (lx = ly → decide (a = b) = true) := by
    intro h
    rw [hlx, hly] at h
    exact decide_eq_true (abs_sign_inj (digs_inj (by omega) (by omega) h) hs)
  have HF : Hid (lx ≠ ly → decide (a = b) = false) := by
    intro h
    refine decide_eq_false fun e => h ?_
    rw [hlx, hly, e]
  rw [← hlx] at hwx
  rw [← hly] at hwy
  have Hx := Lib.hid hwx
  have Hy := Lib.hid hwy
  have HLx := Lib.hid hwx.hlen
  have HLy := Lib.hid hwy.hlen
  clear hwx hwy hna hnb hs hl hlx hly
  obtain ⟨B, w0, hB, hw0, hb0, hb1, he0⟩ := two w 24 24 [.bool na, .slice ax nx cx] [.bool na, .slice ay nx cy]
  go_enter Tryz.func21, Tryz.ntmps21
  go_wp2_with fail
  rw [← hw0, ← hB]
  have c1 := hb0.cell (i := 1) rfl
  have d1 := hb1.cell (i := 1) rfl
  clear hw0 hB hb0 hb1
  have Hx0 := Lib.hid (Hx.out.ext he0)
  have Hy0 := Lib.hid (Hy.out.ext he0)
  go_loopw [5] (fun i wr => ∃ k : Nat, k ≤ nx ∧ i = .int .i64 k ∧ Dr w0 wr ∧ lx.take k = ly.take k) (fun i _ => nx - (intOf i).toNat)
  case atStart => exact ⟨0, Nat.zero_le _, rfl, Dr.refl w0, by simp⟩
  case round =>
    obtain ⟨k, hk, rfl, hdr, htake⟩ := hrel
    obtain ⟨q, rfl⟩ := hdr
    have HT := Lib.hid htake
    clear htake
    by_cases hkn : k < nx
    · obtain ⟨x, hx⟩ : ∃ x, x = lx.getD k 0 := ⟨_, rfl⟩
      obtain ⟨y, hy⟩ : ∃ y, y = ly.getD k 0 := ⟨_, rfl⟩
      obtain ⟨bx, ox, hax, hcx⟩ := Hx0.out.cells k x (by rw [hx, List.getD, List.getElem?_eq_getElem (by rw [HLx.out]; omega)]; simp)
      obtain ⟨by_, oy, hay, hcy⟩ := Hy0.out.cells k y (by rw [hy, List.getD, List.getElem?_eq_getElem (by rw [HLy.out]; omega)]; simp)
      have HX := Lib.hid hx
      have HY := Lib.hid hy
      clear hx hy
      subst hax
      subst hay
      by_cases hxy : x = y
      · have hxx : (x != y) = false := by simp [hxy]
        have HXY := Lib.hid hxy
        clear hxy
        go_wp2_with fail
        go_quiet (fail)
        go_wp2
        go_roundw
        case rel => exact ⟨k + 1, by omega, by go_num, ⟨_, rfl⟩, by rw [take_step (by rw [HLx.out]; exact hkn), take_step (by rw [HLy.out]; exact hkn), HT.out, ← HX.out, ← HY.out, HXY.out]⟩
        case measure => simp [intOf]; omega
      · have hxx : (x != y) = true := by simp [hxy]
        have HN : Hid (decide (a = b) = false) := HF.out (fun h => hxy (by rw [HX.out, HY.out, h]))
        clear hxy
        go_wp2_with fail
        go_quiet (fail)
        go_wp2
        go_ret
        rw [HN.out]
        exact ⟨rfl, (he0.drewN _).drewN _⟩
    · obtain rfl : k = nx := by omega
      have HN : Hid (decide (a = b) = true) := HR.out (by
        have := HT.out
        rwa [List.take_of_length_le (by rw [HLx.out]; omega), List.take_of_length_le (by rw [HLy.out]; omega)] at this)
      go_wp2
      go_ret
      rw [HN.out]
      exact ⟨rfl, he0.drewN _⟩
theorem same_any (x y : Value) (a b : Int) (w : World) (hx : IntV w x a) (hy : IntV w y b) :
    Calls Tryz.prog 21 #[x, y] w fun e w' => e = .returned (.bool (decide (a = b))) ∧ Ext w w' := by
  by_cases hs : decide (a < 0) = decide (b < 0)
  · by_cases hl : (digs a.natAbs).length = (digs b.natAbs).length
    · exact same_loop x y a b w hx hy hs hl
    · rw [show decide (a = b) = false from decide_eq_false fun e => hl (by rw [e])]
      exact same_len x y a b w hx hy hs hl
  · rw [show decide (a = b) = false from decide_eq_false fun e => hs (by rw [e])]
    exact same_sign x y a b w hx hy hs
end Go.Proofs.YtddcgojpgdhefaaGreatDoor
