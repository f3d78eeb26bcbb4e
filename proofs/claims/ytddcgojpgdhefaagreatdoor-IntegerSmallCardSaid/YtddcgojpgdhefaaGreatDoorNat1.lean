/- The small functions of absolute values: at, norm, Add32, walked. -/
import Derived.Test.YtddcgojpgdhefaaGreatDoorProg
import Derived.Test.YtddcgojpgdhefaaGreatDoorBase
import Derived.WalkLawsBesides
import Derived.WalkSpells
import Derived.Outline
import Derived.Lib.Hide
namespace Go.Proofs.YtddcgojpgdhefaaGreatDoor
open Go.RowKit Go.El
set_option linter.unusedVariables false

theorem info_u32 : (Tryz.prog.info? 27).map (fun i => (i.zero, i.size, i.bytes)) = some (some (.int .u32 0), 1, 4) := by kernel_rfl

theorem at_any (a : Option Addr) (len cap : Nat) (l : List Int) (i : Int) (w : World) (h : Words w a len cap l) (h0 : 0 ≤ i) (h1 : i ≤ 9223372036854775807) :
    Calls Tryz.prog 72 #[.slice a len cap, .int .i64 i] w fun e w' => e = .returned (.int .u32 (l.getD i.toNat 0)) ∧ w = w' := by
  have hm := h.max
  have hle := h.le
  have hlen := h.hlen
  obtain ⟨i, rfl⟩ := Int.eq_ofNat_of_zero_le h0
  by_cases hi : i < len
  · obtain ⟨b, off, rfl, hc⟩ := h.cells i l[i] (by simp)
    have e : l.getD (Int.toNat i) 0 = l[i] := by simp [List.getD, hlen, hi]
    rw [e]
    generalize l[i] = z at *
    clear h e hlen
    go_enter Tryz.func72, Tryz.ntmps72
    go_wp2
    go_ret
    exact ⟨rfl, rfl⟩
  · have e : l.getD (Int.toNat i) 0 = 0 := by simp [List.getD, List.getElem?_eq_none (show l.length ≤ i by omega)]
    rw [e]
    clear h e hlen
    go_enter Tryz.func72, Tryz.ntmps72
    go_wp2
    go_ret
    exact ⟨rfl, rfl⟩

theorem at_nat (a : Option Addr) (len cap : Nat) (l : List Int) (k : Nat) (x : Int) (w : World) (h : Words w a len cap l) (h1 : k ≤ 9223372036854775807) (hx : x = l.getD k 0) :
    Calls Tryz.prog 72 #[.slice a len cap, .int .i64 k] w fun e w' => e = .returned (.int .u32 x) ∧ w = w' := by
  have := at_any a len cap l k w h (by omega) (by omega)
  rwa [Int.toNat_natCast, ← hx] at this

theorem add32 (x y c : Int) (w : World) (hx : 0 ≤ x) (hx' : x < 4294967296) (hy : 0 ≤ y) (hy' : y < 4294967296) (hc : 0 ≤ c) (hc' : c ≤ 1) :
    Calls Tryz.prog 88 #[.int .u32 x, .int .u32 y, .int .u32 c] w fun e w' => e = .returned (.tuple #[.int .u32 ((x + y + c) % 4294967296), .int .u32 ((x + y + c) / 4294967296)]) ∧ w = w' := by
  go_enter Tryz.func88, Tryz.ntmps88
  go_wp2
  go_ret2
  exact ⟨rfl, rfl⟩

theorem norm_any (a : Option Addr) (len cap : Nat) (l : List Int) (w : World) (h : Words w a len cap l) :
    Calls Tryz.prog 89 #[.slice a len cap] w fun e w' => (∃ n : Nat, e = .returned (.slice a n n) ∧ n ≤ len ∧ Words w a n n (digs (val l))) ∧ w = w' := by
  have hm := h.max
  have hle := h.le
  have hlen := h.hlen
  have Hw := Lib.hid h
  clear h hlen
  go_enter Tryz.func89, Tryz.ntmps89
  go_wp2
  go_loop [3] (fun v => ∃ n : Nat, n ≤ len ∧ v = .int .i64 n ∧ (∀ i, n ≤ i → l.getD i 0 = 0)) (fun v => (intOf v).toNat)
  case atStart => exact ⟨len, Nat.le_refl _, rfl, fun i hi => getD_ge (by rw [Hw.out.hlen]; exact hi)⟩
  case round =>
    obtain ⟨n, hn, rfl, hz⟩ := hrel
    have Hz := Lib.hid hz
    clear hz
    have fin : (n = 0 ∨ l.getD (n - 1) 0 ≠ 0) → Words w a n n (digs (val l)) := fun ht => by
      rw [← take_digs Hw.out.wf (by rw [Hw.out.hlen]; exact hn) Hz.out ht]
      exact Hw.out.take hn
    have Fin := Lib.hid fin
    clear fin
    rcases Nat.eq_zero_or_pos n with rfl | hp
    · go_wp2
      go_ret
      exact ⟨⟨0, rfl, hn, Fin.out (by simp)⟩, rfl⟩
    · obtain ⟨m, rfl⟩ : ∃ m, n = m + 1 := ⟨n - 1, by omega⟩
      obtain ⟨b, off, hab, hc⟩ := Hw.out.cells m (l.getD m 0) (by rw [List.getD, List.getElem?_eq_getElem (by rw [Hw.out.hlen]; omega)]; simp)
      have hbd := Hw.out.wf.getD m
      by_cases hz0 : l.getD m 0 = 0
      · rw [hz0] at hc
        have Hz0 := Lib.hid hz0
        clear hz0 hbd
        subst hab
        go_wp2
        go_round
        case rel => exact ⟨m, by omega, by go_num, fun i hi => by
          rcases Nat.eq_or_lt_of_le hi with rfl | h
          · exact Hz0.out
          · exact Hz.out i h⟩
        case measure => simp [intOf]
      · have Hn := Lib.hid (Fin.out (Or.inr hz0))
        generalize l.getD m 0 = z at *
        have hne : (z == 0) = false := by simp [hz0]
        clear hz0
        subst hab
        go_wp2
        go_ret
        exact ⟨⟨m + 1, by rfl, hn, Hn.out⟩, rfl⟩
end Go.Proofs.YtddcgojpgdhefaaGreatDoor
