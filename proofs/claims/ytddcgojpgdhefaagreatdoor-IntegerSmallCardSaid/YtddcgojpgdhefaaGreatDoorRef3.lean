/- Valid, both. -/
import Derived.Test.YtddcgojpgdhefaaGreatDoorRef2
namespace Go.El
def validB (na : Bool) (l : List Int) : Bool := if l = [] then !na else (l.getD (l.length - 1) 0 != 0)
theorem validB_nil (na : Bool) : validB na [] = !na := rfl
theorem validB_cons {na : Bool} {l : List Int} (h : 0 < l.length) : validB na l = (l.getD (l.length - 1) 0 != 0) := by
  unfold validB
  rw [if_neg (fun e => by rw [e] at h; simp at h)]
theorem digs_top {z : Int} (hz : 0 < z) : (digs z).getD ((digs z).length - 1) 0 ≠ 0 := by
  have h2 := digs_last (show 0 ≤ z by omega)
  have h1 := digs_pos_len hz
  rw [List.getLast?_eq_getElem?, List.getElem?_eq_getElem (by omega)] at h2
  rw [List.getD, List.getElem?_eq_getElem (by omega)]
  exact fun e => h2 (by simpa using e)
theorem validB_digs (a : Int) : validB (decide (a < 0)) (digs a.natAbs) = true := by
  by_cases h : a = 0
  · subst h; rw [Int.natAbs_zero, Int.ofNat_zero, digs_zero]; rfl
  · have h1 := digs_pos_len (show 0 < (a.natAbs : Int) by omega)
    rw [validB_cons h1]
    have h2 := digs_top (show 0 < (a.natAbs : Int) by omega)
    exact bne_iff_ne.2 h2
end Go.El
namespace Go.Proofs.YtddcgojpgdhefaaGreatDoor
open Go.RowKit Go.El
set_option linter.unusedVariables false
set_option maxRecDepth 100000 in
theorem valid_raw (na : Bool) (ax : Option Addr) (nx cx : Nat) (l : List Int) (w : World) (hw : Words w ax nx cx l) :
    Calls Tryz.prog 15 #[.agg #[.bool na, .slice ax nx cx]] w fun e w' => e = .returned (.bool (validB na l)) ∧ Ext w w' := by
  have hm := hw.max
  have hle := hw.le
  rcases Nat.eq_zero_or_pos nx with rfl | hp
  · have hl : l = [] := List.eq_nil_of_length_eq_zero hw.hlen
    subst hl
    rw [validB_nil]
    clear hw
    go_enter Tryz.func15, Tryz.ntmps15
    go_wp2_with fail
    go_ret
    exact ⟨rfl, (Ext.refl w).alloc _⟩
  · obtain ⟨m, rfl⟩ : ∃ m, nx = m + 1 := ⟨nx - 1, by omega⟩
    obtain ⟨z, hz⟩ : ∃ z, z = l.getD m 0 := ⟨_, rfl⟩
    obtain ⟨b, off, hab, hc⟩ := hw.cells m z (by rw [hz, List.getD, List.getElem?_eq_getElem (by rw [hw.hlen]; omega)]; simp)
    rw [show validB na l = (z != 0) by rw [validB_cons (by rw [hw.hlen]; omega), hw.hlen, Nat.add_sub_cancel, ← hz]]
    clear hw hz hp
    obtain ⟨B, w0, hB, hw0, hb0, he0⟩ := one w 24 [.bool na, .slice ax (m + 1) cx]
    have hc0 := he0.cell hc
    subst hab
    rw [hw0] at hc0
    go_enter Tryz.func15, Tryz.ntmps15
    go_wp2_with fail
    go_ret
    exact ⟨rfl, (Ext.refl w).alloc _⟩
theorem valid_any (x : Value) (a : Int) (w : World) (hx : IntV w x a) :
    Calls Tryz.prog 15 #[x] w fun e w' => e = .returned (.bool true) ∧ Ext w w' := by
  obtain ⟨na, ax, nx, cx, rfl, hna, hwx⟩ := hx
  rw [← validB_digs a, ← hna]
  exact valid_raw na ax nx cx _ w hwx
set_option maxRecDepth 100000 in
theorem rvalid_raw (na : Bool) (ax : Option Addr) (nx cx : Nat) (l : List Int) (w : World) (hw : Words w ax nx cx l) :
    Calls Tryz.prog 20 #[.agg #[.bool na, .slice ax nx cx]] w fun e w' => e = .returned (.bool (validB na l)) ∧ Ext w w' := by
  have hm := hw.max
  have hle := hw.le
  rcases Nat.eq_zero_or_pos nx with rfl | hp
  · have hl : l = [] := List.eq_nil_of_length_eq_zero hw.hlen
    subst hl
    rw [validB_nil]
    clear hw
    go_enter Tryz.func20, Tryz.ntmps20
    go_wp2_with fail
    go_ret
    exact ⟨rfl, (Ext.refl w).alloc _⟩
  · obtain ⟨m, rfl⟩ : ∃ m, nx = m + 1 := ⟨nx - 1, by omega⟩
    obtain ⟨z, hz⟩ : ∃ z, z = l.getD m 0 := ⟨_, rfl⟩
    obtain ⟨b, off, hab, hc⟩ := hw.cells m z (by rw [hz, List.getD, List.getElem?_eq_getElem (by rw [hw.hlen]; omega)]; simp)
    rw [show validB na l = (z != 0) by rw [validB_cons (by rw [hw.hlen]; omega), hw.hlen, Nat.add_sub_cancel, ← hz]]
    clear hw hz hp
    obtain ⟨B, w0, hB, hw0, hb0, he0⟩ := one w 24 [.bool na, .slice ax (m + 1) cx]
    have hc0 := he0.cell hc
    subst hab
    rw [hw0] at hc0
    go_enter Tryz.func20, Tryz.ntmps20
    go_wp2_with fail
    go_ret
    exact ⟨rfl, (Ext.refl w).alloc _⟩
theorem rvalid_any (x : Value) (a : Int) (w : World) (hx : IntV w x a) :
    Calls Tryz.prog 20 #[x] w fun e w' => e = .returned (.bool true) ∧ Ext w w' := by
  obtain ⟨na, ax, nx, cx, rfl, hna, hwx⟩ := hx
  rw [← validB_digs a, ← hna]
  exact rvalid_raw na ax nx cx _ w hwx
end Go.Proofs.YtddcgojpgdhefaaGreatDoor
