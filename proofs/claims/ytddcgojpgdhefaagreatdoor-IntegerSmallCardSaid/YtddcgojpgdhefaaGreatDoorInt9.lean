/- Integers: Bits, Small. -/
import Derived.Test.YtddcgojpgdhefaaGreatDoorBlen
import Derived.Test.YtddcgojpgdhefaaGreatDoorBits
namespace Go.El
theorem val_small {l : List Int} (h : l.length ≤ 2) : val l = l.getD 1 0 * 4294967296 + l.getD 0 0 := by
  match l, h with
  | [], _ => rfl
  | [a], _ => simp [val]
  | [a, b], _ => simp [val]; omega
end Go.El
namespace Go.Proofs.YtddcgojpgdhefaaGreatDoor
open Go.RowKit Go.El
set_option linter.unusedVariables false
set_option maxRecDepth 100000 in
/-- integer.Bits -/
theorem bits_any (x : Value) (a : Int) (w : World) (hx : IntV w x a) (ha : Fits a 1073741824) :
    Calls Tryz.prog 33 #[x] w fun e w' => e = .returned (.int .i64 (blen a.natAbs)) ∧ Ext w w' := by
  obtain ⟨na, ax, nx, cx, rfl, hna, hwx⟩ := hx
  have hmx := hwx.max
  have hle := hwx.le
  have hnx := ha.len
  rw [hwx.hlen] at hnx
  rcases Nat.eq_zero_or_pos nx with rfl | hp
  · have h0 : a.natAbs = 0 := by
      have := (digs_nil (show 0 ≤ (a.natAbs : Int) by omega)).1 (List.eq_nil_of_length_eq_zero hwx.hlen)
      omega
    rw [h0, blen_zero]
    clear hwx hna h0 ha
    go_enter Tryz.func33, Tryz.ntmps33
    go_wp2_with fail
    go_ret
    exact ⟨rfl, (Ext.refl w).alloc _⟩
  · obtain ⟨m, rfl⟩ : ∃ m, nx = m + 1 := ⟨nx - 1, by omega⟩
    obtain ⟨t, ht⟩ : ∃ t, t = (digs a.natAbs).getD m 0 := ⟨_, rfl⟩
    obtain ⟨b, off, hab, hc⟩ := hwx.cells m t (by rw [ht, List.getD, List.getElem?_eq_getElem (by rw [hwx.hlen]; omega)]; simp)
    have hb := hwx.wf.getD m
    rw [← ht] at hb
    have hbl : blen a.natAbs = 32 * m + Lib.bitLen t.toNat := by
      have := blen_words (z := (a.natAbs : Int)) (n := m) (t := t) (by
        have h1 := hwx.hlen
        by_cases h0 : a = 0
        · subst h0; rw [Int.natAbs_zero, Int.ofNat_zero, digs_zero] at h1; simp at h1
        · omega) hwx.hlen ht
      rwa [Int.toNat_natCast] at this
    have hbb := Lib.bitLen_le t.toNat 32 (by omega) (by omega)
    have HBL := Lib.hid hbl
    obtain ⟨B, w0, hB, hw0, hb0, he0⟩ := one w 24 [.bool na, .slice ax (m + 1) cx]
    have hc0 := he0.cell hc
    clear hwx ht hp hbl hc ha hna
    subst hab
    rw [hw0] at hc0
    go_enter Tryz.func33, Tryz.ntmps33
    go_wp2_with fail
    refine (Tryz.bits_Len32 t _ (by omega) (by omega)).mono ?_
    rintro e w1 ⟨rfl, rfl⟩
    generalize Lib.bitLen t.toNat = q at *
    go_wp2_with fail
    go_ret
    rw [HBL.out, Int.natCast_add, Int.natCast_mul]
    exact ⟨rfl, (Ext.refl w).alloc _⟩
def smallOf (z : Int) : Value × Value := if -9223372036854775808 ≤ z ∧ z < 9223372036854775808 then (.int .i64 z, .bool true) else (.int .i64 0, .bool false)
set_option maxRecDepth 100000 in
/-- integer.Small -/
theorem small_any (x : Value) (a : Int) (w : World) (hx : IntV w x a) :
    Calls Tryz.prog 32 #[x] w fun e w' => e = .returned (.tuple #[(smallOf a).1, (smallOf a).2]) ∧ Ext w w' := by
  obtain ⟨na, ax, nx, cx, rfl, hna, hwx⟩ := hx
  have hmx := hwx.max
  have hle := hwx.le
  obtain ⟨p, hp⟩ : ∃ p, p = (digs a.natAbs).getD 1 0 := ⟨_, rfl⟩
  obtain ⟨q, hq⟩ : ∃ q, q = (digs a.natAbs).getD 0 0 := ⟨_, rfl⟩
  have hpb := hwx.wf.getD 1
  have hqb := hwx.wf.getD 0
  rw [← hp] at hpb
  rw [← hq] at hqb
  have ho := or_join p q hpb.1 hpb.2 hqb.1 hqb.2
  have hbig : ¬ nx ≤ 2 → smallOf a = (.int .i64 0, .bool false) := by
    intro h
    have h1 := digs_len_ge (show 0 ≤ (a.natAbs : Int) by omega) (k := 2)
    have h2 : pw 2 = 18446744073709551616 := by rw [pw_pow]; rfl
    have h3 : ¬ (a.natAbs : Int) < pw 2 := fun h3 => by
      have := digs_len_le (show 0 ≤ (a.natAbs : Int) by omega) h3
      rw [hwx.hlen] at this
      exact h this
    rw [smallOf, if_neg (by omega)]
  have hsm : nx ≤ 2 → (a.natAbs : Int) = p * 4294967296 + q := by
    intro h
    rw [hp, hq, ← val_small (by rw [hwx.hlen]; exact h), val_digs (by omega)]
  obtain ⟨B, w0, hB, hw0, hb0, he0⟩ := one w 24 [.bool na, .slice ax nx cx]
  have HBig := Lib.hid hbig
  have HSm := Lib.hid hsm
  have Hx := Lib.hid (hwx.ext he0)
  have HP := Lib.hid hp
  have HQ := Lib.hid hq
  have HNa := Lib.hid hna
  clear hbig hsm hwx hp hq hna
  go_enter Tryz.func32, Tryz.ntmps32
  go_wp2_with fail
  rw [← hw0, ← hB]
  have c0 := hb0.cell (i := 0) rfl
  clear hB hw0 hb0
  refine (at_nat _ _ _ _ 1 p _ Hx.out (by omega) HP.out).mono ?_
  rintro e w1 ⟨rfl, rfl⟩
  go_wp2_with fail
  refine (at_nat _ _ _ _ 0 q _ Hx.out (by omega) HQ.out).mono ?_
  rintro e w1 ⟨rfl, rfl⟩
  by_cases h2 : nx ≤ 2
  · obtain ⟨n, hn⟩ : ∃ n, n = p * 4294967296 + q := ⟨_, rfl⟩
    rw [← hn] at ho
    have hn1 : 0 ≤ n ∧ n < 18446744073709551616 := by omega
    have hab : (a.natAbs : Int) = n := by rw [hn]; exact HSm.out h2
    have HAb := Lib.hid hab
    have HN := Lib.hid hn
    clear hn hab
    have HNb : Hid (na = true → a < 0) := fun h => of_decide_eq_true (HNa.out ▸ h)
    have HNc : Hid (na = false → ¬ a < 0) := fun h => of_decide_eq_false (HNa.out ▸ h)
    cases na with
    | true =>
      by_cases h3 : n ≤ 9223372036854775808
      · have hr : Hid (smallOf a = (.int .i64 (-n), .bool true)) := by
          have := HAb.out; have := HNb.out rfl
          have e : a = -n := by omega
          show smallOf a = _
          rw [e, smallOf, if_pos (by omega)]
        have hwr : wrap64 (IntKind.u64.wrap (-n)) = -n := by simp only [wrap64, IntKind.wrap_u64]; omega
        go_wp2_with fail
        go_ret2
        rw [hr.out, hwr]
        exact ⟨rfl, he0⟩
      · have hr : Hid (smallOf a = (.int .i64 0, .bool false)) := by
          have := HAb.out; have := HNb.out rfl
          show smallOf a = _
          rw [smallOf, if_neg (by omega)]
        go_wp2_with fail
        go_ret2
        rw [hr.out]
        exact ⟨rfl, he0⟩
    | false =>
      by_cases h3 : n < 9223372036854775808
      · have hr : Hid (smallOf a = (.int .i64 n, .bool true)) := by
          have := HAb.out; have := HNc.out rfl
          have e : a = n := by omega
          show smallOf a = _
          rw [e, smallOf, if_pos (by omega)]
        have hwr : wrap64 n = n := by simp only [wrap64]; omega
        go_wp2_with fail
        go_ret2
        rw [hr.out]
        exact ⟨rfl, he0⟩
      · have hr : Hid (smallOf a = (.int .i64 0, .bool false)) := by
          have := HAb.out; have := HNc.out rfl
          show smallOf a = _
          rw [smallOf, if_neg (by omega)]
        go_wp2_with fail
        go_ret2
        rw [hr.out]
        exact ⟨rfl, he0⟩
  · have hr : Hid (smallOf a = (.int .i64 0, .bool false)) := HBig.out h2
    go_wp2_with fail
    go_ret2
    rw [hr.out]
    exact ⟨rfl, he0⟩
end Go.Proofs.YtddcgojpgdhefaaGreatDoor
