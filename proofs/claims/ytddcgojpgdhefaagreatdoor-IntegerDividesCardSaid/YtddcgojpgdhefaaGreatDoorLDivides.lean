/- The law IntegerDivides, walked. -/
import Derived.Test.YtddcgojpgdhefaaGreatDoorLawLib
namespace Go.Proofs.YtddcgojpgdhefaaGreatDoor
open Go.RowKit Go.El
set_option linter.unusedVariables false
theorem setCell_same {w : World} {b : Nat} {E : TypeId} {cs : List Value} (h : Blk w b E cs) {i : Nat} {v : Value} (hi : cs[i]? = some v) : w.setCell ⟨b, i, none⟩ v = w := by
  have hh : (w.setCell ⟨b, i, none⟩ v).heap = w.heap := by
    apply Array.ext_getElem?
    intro k
    by_cases hk : k = b
    · subst hk
      have h1 := h.set i v
      have h2 : cs.set i v = cs := by
        apply List.ext_getElem?
        intro j
        rw [List.getElem?_set]
        split
        · rename_i e
          subst e
          rw [hi]
          split
          · rfl
          · rename_i hlt
            rw [List.getElem?_eq_none (by omega)] at hi
            cases hi
        · rfl
      rw [h2] at h1
      unfold Blk at h h1
      rw [h1, h]
    · exact Below.heap_setCell _ _ _ _ hk
  unfold World.setCell at hh ⊢
  cases w
  simp_all
theorem roomI_ne {w : World} {v u : Value} {m : Nat} (h : RoomI w v m) (hu : u = .pointer (some ⟨w.heap.size, 0, none⟩)) : u ≠ v := by
  obtain ⟨P, s, a, n, c, rfl, hb, hm⟩ := h
  rw [hu]
  have := hb.lt
  intro e
  injection e with e
  injection e with e
  injection e with e
  omega
theorem RoomI.st2_other {w : World} {P m : Nat} {v : Value} (h : RoomI w v m) (hv : .pointer (some ⟨P, 0, none⟩) ≠ v) (x0 x1 : Value) : RoomI (st2 w P x0 x1) v m := by
  obtain ⟨Q, s, a, n, c, rfl, hb, hm⟩ := h
  exact ⟨Q, s, a, n, c, rfl, Blk.st2_other hb (by rintro rfl; exact hv rfl) _ _, hm⟩
theorem AtI.st2_other {w : World} {P m : Nat} {v : Value} {z : Int} (h : AtI w v m z) (hv : .pointer (some ⟨P, 0, none⟩) ≠ v) {x0 x1 : Value} (hs : Stay w (st2 w P x0 x1)) : AtI (st2 w P x0 x1) v m z := by
  obtain ⟨Q, s, a, n, c, rfl, hb, hm, hi⟩ := h
  exact ⟨Q, s, a, n, c, rfl, Blk.st2_other hb (by rintro rfl; exact hv rfl) _ _, hm, IntW.stay hi hs⟩
def PairT (w : World) (y : Value) (u v : Int) : Prop := ∃ a b, y = .tuple #[a, b, .int .i64 0] ∧ IntV w a u ∧ IntV w b v
theorem PairT.ext {w w' : World} {y : Value} {u v : Int} (h : PairT w y u v) (he : Ext w w') : PairT w' y u v := by
  obtain ⟨a, b, rfl, h1, h2⟩ := h
  exact ⟨a, b, rfl, h1.ext he, h2.ext he⟩
theorem PairT.stay {w w' : World} {y : Value} {u v : Int} (h : PairT w y u v) (he : Stay w w') : PairT w' y u v := by
  obtain ⟨a, b, rfl, h1, h2⟩ := h
  exact ⟨a, b, rfl, IntV.stay h1 he, IntV.stay h2 he⟩
theorem div_back (c a : Int) {b : Int} (hb : b ≠ 0) : (c * b + a % b) / b = c := by
  rw [Int.add_comm, Int.add_mul_ediv_right _ _ hb]
  have : a % b / b = 0 := by
    have h1 := Int.emod_nonneg a hb
    have h2 := Int.emod_lt a hb
    rcases Int.lt_or_gt_of_ne hb with h | h
    · have := Int.ediv_eq_zero_of_lt h1 (show a % b < -b by omega)
      rw [Int.ediv_neg] at this; omega
    · exact Int.ediv_eq_zero_of_lt h1 (by omega)
  omega
theorem mod_back (c a b : Int) : (c * b + a % b) % b = a % b := by
  rw [Int.add_comm, Int.add_mul_emod_self_right, Int.emod_emod_of_dvd _ (Int.dvd_refl b)]
structure DivF (w3 : World) (D10 D9 D12 : Nat) (a11_0 : Option Addr) (a7_0 : Option Addr) (ar : Option Addr) (c11_0 : Nat) (c7_0 : Nat) (cr : Nat) (n11_0 : Nat) (n7_0 : Nat) (nr : Nat) (s11_0 : Bool) (s7_0 : Bool) (p m u v : Int) (L : Nat → Bool) (y : Nat → Value) (w : World) : Prop where
  e : Ext w3 w
  f0 : L 0 = true → y 101 = .agg #[.bool s11_0, .slice a11_0 n11_0 c11_0]
  f1 : L 1 = true → y 102 = .agg #[.bool s7_0, .slice a7_0 n7_0 c7_0]
  f2 : L 2 = true → IntV w (y 103) p
  f3 : L 3 = true → y 104 = .agg #[.bool false, .slice ar nr cr]
  f4 : L 4 = true → IntV w (y 105) m
  f5 : L 5 = true → y 106 = .agg #[.bool s7_0, .slice a7_0 n7_0 c7_0]
  f6 : L 6 = true → PairT w (y 107) u v
  f7 : L 7 = true → PairT w (y 100) u v
  f8 : L 8 = true → IntV w (y 108) u
  f9 : L 9 = true → IntV w (y 109) v
  f10 : L 10 = true → y 110 = .int .i64 0
  f11 : L 11 = true → RoomI w (y 15) w3.heap.size
  f12 : L 12 = true → RoomI w (y 16) w3.heap.size
  d : L 11 = true → L 12 = true → y 15 ≠ y 16
  f13 : L 13 = true → AtI w (y 15) w3.heap.size u
  f14 : L 14 = true → AtI w (y 16) w3.heap.size v
  c13 : L 13 = true → L 11 = true
  c14 : L 14 = true → L 12 = true
  f15 : L 15 = true → y 17 = .int .i64 0
theorem DivF.ext {w3 : World} {D10 D9 D12 : Nat} {a11_0 : Option Addr} {a7_0 : Option Addr} {ar : Option Addr} {c11_0 : Nat} {c7_0 : Nat} {cr : Nat} {n11_0 : Nat} {n7_0 : Nat} {nr : Nat} {s11_0 : Bool} {s7_0 : Bool} {p m u v : Int} {L : Nat → Bool} {y : Nat → Value} {w w1 : World} (h : DivF w3 D10 D9 D12 a11_0 a7_0 ar c11_0 c7_0 cr n11_0 n7_0 nr s11_0 s7_0 p m u v L y w) (he : Ext w w1) : DivF w3 D10 D9 D12 a11_0 a7_0 ar c11_0 c7_0 cr n11_0 n7_0 nr s11_0 s7_0 p m u v L y w1 :=
  ⟨h.e.trans he, h.f0, h.f1, fun k => (h.f2 k).ext he, h.f3, fun k => (h.f4 k).ext he, h.f5, fun k => (h.f6 k).ext he, fun k => (h.f7 k).ext he, fun k => (h.f8 k).ext he, fun k => (h.f9 k).ext he, h.f10, fun k => (h.f11 k).ext he, fun k => (h.f12 k).ext he, h.d, fun k => (h.f13 k).ext he, fun k => (h.f14 k).ext he, h.c13, h.c14, h.f15⟩
set_option maxRecDepth 100000 in
set_option maxHeartbeats 3000000 in
theorem divides_zero (nx : Bool) (ax : Option Addr) (kx cx : Nat) (lx : List Int) (a : Int) (ea : a = rawZ nx lx 10) (ny : Bool) (ay : Option Addr) (ky cy : Nat) (ly : List Int) (b : Int) (eb : b = rawZ ny ly 6) (nz : Bool) (az : Option Addr) (kz cz : Nat) (lz : List Int) (c : Int) (ec : c = rawZ nz lz 6) (w : World) (hx : Words w ax kx cx lx) (hy : Words w ay ky cy ly) (hz : Words w az kz cz lz) (hb0 : b = 0) :
    Calls Tryz.prog 6 #[.agg #[.bool nx, .slice ax kx cx], .agg #[.bool ny, .slice ay ky cy], .agg #[.bool nz, .slice az kz cz]] w fun e w' => e = .returned (.bool true) ∧ Ext w w' := by
  have E_a := Lib.hid ea
  have HWx := Lib.hid hx
  clear ea hx
  have E_b := Lib.hid eb
  have HWy := Lib.hid hy
  clear eb hy
  have E_c := Lib.hid ec
  have HWz := Lib.hid hz
  clear ec hz
  obtain ⟨B0, w0, hB0, hw0, hr0, hr1, hr2, x0⟩ := three w 25 25 25 [.bool nx, .slice ax kx cx] [.bool ny, .slice ay ky cy] [.bool nz, .slice az kz cz]
  have HF2 : Hid (Fits (a) 10) := Lib.hid (by rw [E_a.out]; exact fits_raw (HWx.out.wf) (by omega))
  have HF6 : Hid (Fits (b) 6) := Lib.hid (by rw [E_b.out]; exact fits_raw (HWy.out.wf) (by omega))
  have HF10 : Hid (Fits (c) 6) := Lib.hid (by rw [E_c.out]; exact fits_raw (HWz.out.wf) (by omega))
  have KB3 : Hid (∀ W, Ext w0 W → W.cell? ⟨B0, 0, none⟩ = some (.bool nx) ∧ W.cell? ⟨B0, 1, none⟩ = some (.slice ax kx cx)) := Lib.hid fun W h => ⟨h.cell (hr0.cell (i := 0) rfl), h.cell (hr0.cell (i := 1) rfl)⟩
  have KB4 : Hid (∀ W, Ext w0 W → W.cell? ⟨B0 + 1, 0, none⟩ = some (.bool ny) ∧ W.cell? ⟨B0 + 1, 1, none⟩ = some (.slice ay ky cy)) := Lib.hid fun W h => ⟨h.cell (hr1.cell (i := 0) rfl), h.cell (hr1.cell (i := 1) rfl)⟩
  have KB5 : Hid (∀ W, Ext w0 W → W.cell? ⟨B0 + 1 + 1, 0, none⟩ = some (.bool nz) ∧ W.cell? ⟨B0 + 1 + 1, 1, none⟩ = some (.slice az kz cz)) := Lib.hid fun W h => ⟨h.cell (hr2.cell (i := 0) rfl), h.cell (hr2.cell (i := 1) rfl)⟩
  clear hr0 hr1 hr2
  go_enter Tryz.func6, Tryz.ntmps6
  go_wp2_with fail
  rw [← hw0, ← hB0]
  clear hw0 hB0
  refine (sanity_any _).mono ?_
  rintro e w1 ⟨rfl, x1⟩
  obtain ⟨cc3_0_4, cc3_1_4⟩ := KB3.out w1 x1
  go_wp2_with fail
  clear cc3_0_4 cc3_1_4
  refine (Made_any nx ax kx cx lx 10 a _ (HWx.out.ext (x0.trans x1)) (by omega) E_a.out).mono ?_
  rintro e w3 ⟨⟨v3_0, rfl, ⟨s3_0, a3_0, n3_0, c3_0, rfl, hi3_0⟩⟩, x3⟩
  have HV3_0 : Hid (IntV w3 (.agg #[.bool s3_0, .slice a3_0 n3_0 c3_0]) (a)) := Lib.hid ⟨_, _, _, _, rfl, hi3_0⟩
  clear hi3_0
  obtain ⟨D5, wb5, hD5, hw5, hb5_0, xb5⟩ := one w3 24 [.bool s3_0, .slice a3_0 n3_0 c3_0]
  have KB8 : Hid (∀ W, Ext wb5 W → W.cell? ⟨D5, 0, none⟩ = some (.bool s3_0) ∧ W.cell? ⟨D5, 1, none⟩ = some (.slice a3_0 n3_0 c3_0)) := Lib.hid fun W h => ⟨h.cell (hb5_0.cell (i := 0) rfl), h.cell (hb5_0.cell (i := 1) rfl)⟩
  clear hb5_0
  obtain ⟨cc4_0_8, cc4_1_8⟩ := KB4.out wb5 ((x1.trans x3).trans xb5)
  have hq5 := hw5.symm
  have hp5 := hD5.symm
  clear hw5 hD5
  go_wp2_with fail
  clear hq5 hp5
  clear cc4_0_8 cc4_1_8
  refine (Made_any ny ay ky cy ly 6 b _ (HWy.out.ext (((x0.trans x1).trans x3).trans xb5)) (by omega) E_b.out).mono ?_
  rintro e w7 ⟨⟨v7_0, rfl, ⟨s7_0, a7_0, n7_0, c7_0, rfl, hi7_0⟩⟩, x7⟩
  obtain rfl : n7_0 = 0 := intW_len0 hi7_0 hb0
  have HV7_0 : Hid (IntV w7 (.agg #[.bool s7_0, .slice a7_0 0 c7_0]) (b)) := Lib.hid ⟨_, _, _, _, rfl, hi7_0⟩
  clear hi7_0
  obtain ⟨D9, wb9, hD9, hw9, hb9_0, xb9⟩ := one w7 24 [.bool s7_0, .slice a7_0 0 c7_0]
  have KB9 : Hid (∀ W, Ext wb9 W → W.cell? ⟨D9, 0, none⟩ = some (.bool s7_0) ∧ W.cell? ⟨D9, 1, none⟩ = some (.slice a7_0 0 c7_0)) := Lib.hid fun W h => ⟨h.cell (hb9_0.cell (i := 0) rfl), h.cell (hb9_0.cell (i := 1) rfl)⟩
  clear hb9_0
  obtain ⟨cc5_0_12, cc5_1_12⟩ := KB5.out wb9 ((((x1.trans x3).trans xb5).trans x7).trans xb9)
  have hq9 := hw9.symm
  have hp9 := hD9.symm
  clear hw9 hD9
  go_wp2_with fail
  clear hq9 hp9
  clear cc5_0_12 cc5_1_12
  refine (Made_any nz az kz cz lz 6 c _ (HWz.out.ext (((((x0.trans x1).trans x3).trans xb5).trans x7).trans xb9)) (by omega) E_c.out).mono ?_
  rintro e w11 ⟨⟨v11_0, rfl, ⟨s11_0, a11_0, n11_0, c11_0, rfl, hi11_0⟩⟩, x11⟩
  have HV11_0 : Hid (IntV w11 (.agg #[.bool s11_0, .slice a11_0 n11_0 c11_0]) (c)) := Lib.hid ⟨_, _, _, _, rfl, hi11_0⟩
  clear hi11_0
  obtain ⟨D13, wb13, hD13, hw13, hb13_0, xb13⟩ := one w11 24 [.bool s11_0, .slice a11_0 n11_0 c11_0]
  have KB10 : Hid (∀ W, Ext wb13 W → W.cell? ⟨D13, 0, none⟩ = some (.bool s11_0) ∧ W.cell? ⟨D13, 1, none⟩ = some (.slice a11_0 n11_0 c11_0)) := Lib.hid fun W h => ⟨h.cell (hb13_0.cell (i := 0) rfl), h.cell (hb13_0.cell (i := 1) rfl)⟩
  clear hb13_0
  obtain ⟨cc8_0_15, cc8_1_15⟩ := KB8.out wb13 (((x7.trans xb9).trans x11).trans xb13)
  obtain ⟨cc9_0_16, cc9_1_16⟩ := KB9.out wb13 (x11.trans xb13)
  have hq13 := hw13.symm
  have hp13 := hD13.symm
  clear hw13 hD13
  go_wp2_with fail
  clear hq13 hp13
  clear cc8_0_15 cc8_1_15 cc9_0_16 cc9_1_16
  refine (divmod_zero' _ _ (a) (b) _ (HV3_0.out.ext ((((xb5.trans x7).trans xb9).trans x11).trans xb13)) (HV7_0.out.ext ((xb9.trans x11).trans xb13)) hb0).mono ?_
  rintro e w14 ⟨rfl, x14⟩
  obtain ⟨D17, wb17, hD17, hw17, hb17_0, hb17_1, xb17⟩ := two w14 24 24 [.bool false, .slice none 0 0] [.bool false, .slice none 0 0]
  have KB11 : Hid (∀ W, Ext wb17 W → W.cell? ⟨D17, 0, none⟩ = some (.bool false) ∧ W.cell? ⟨D17, 1, none⟩ = some (.slice none 0 0)) := Lib.hid fun W h => ⟨h.cell (hb17_0.cell (i := 0) rfl), h.cell (hb17_0.cell (i := 1) rfl)⟩
  have KB12 : Hid (∀ W, Ext wb17 W → W.cell? ⟨D17 + 1, 0, none⟩ = some (.bool false) ∧ W.cell? ⟨D17 + 1, 1, none⟩ = some (.slice none 0 0)) := Lib.hid fun W h => ⟨h.cell (hb17_1.cell (i := 0) rfl), h.cell (hb17_1.cell (i := 1) rfl)⟩
  have ze17_00 := setCell_same hb17_0 (i := 0) rfl
  have zf17_00 := hb17_0.free 0
  have ze17_01 := setCell_same hb17_0 (i := 1) rfl
  have zf17_01 := hb17_0.free 1
  have ze17_10 := setCell_same hb17_1 (i := 0) rfl
  have zf17_10 := hb17_1.free 0
  have ze17_11 := setCell_same hb17_1 (i := 1) rfl
  have zf17_11 := hb17_1.free 1
  clear hb17_0 hb17_1
  obtain ⟨cc9_0_18, cc9_1_18⟩ := KB9.out wb17 (((x11.trans xb13).trans x14).trans xb17)
  obtain ⟨cc11_0_19, cc11_1_19⟩ := KB11.out wb17 (Ext.refl _)
  obtain ⟨cc12_0_20, cc12_1_20⟩ := KB12.out wb17 (Ext.refl _)
  have hq17 := hw17.symm
  have hp17 := hD17.symm
  clear hw17 hD17
  go_wp2_with fail
  clear hq17 hp17
  clear ze17_00 zf17_00 ze17_01 zf17_01 ze17_10 zf17_10 ze17_11 zf17_11 cc9_0_18 cc9_1_18 cc11_0_19 cc11_1_19 cc12_0_20 cc12_1_20
  go_ret
  exact ⟨rfl, (((((((((x0.trans x1).trans x3).trans xb5).trans x7).trans xb9).trans x11).trans xb13).trans x14).trans xb17)⟩
set_option maxRecDepth 100000 in
set_option maxHeartbeats 8000000 in
theorem divides_some (nx : Bool) (ax : Option Addr) (kx cx : Nat) (lx : List Int) (a : Int) (ea : a = rawZ nx lx 10) (ny : Bool) (ay : Option Addr) (ky cy : Nat) (ly : List Int) (b : Int) (eb : b = rawZ ny ly 6) (nz : Bool) (az : Option Addr) (kz cz : Nat) (lz : List Int) (c : Int) (ec : c = rawZ nz lz 6) (w : World) (hx : Words w ax kx cx lx) (hy : Words w ay ky cy ly) (hz : Words w az kz cz lz) (hb0 : b ≠ 0) :
    Calls Tryz.prog 6 #[.agg #[.bool nx, .slice ax kx cx], .agg #[.bool ny, .slice ay ky cy], .agg #[.bool nz, .slice az kz cz]] w fun e w' => e = .returned (.bool true) ∧ Ext w w' := by
  have E_a := Lib.hid ea
  have HWx := Lib.hid hx
  clear ea hx
  have E_b := Lib.hid eb
  have HWy := Lib.hid hy
  clear eb hy
  have E_c := Lib.hid ec
  have HWz := Lib.hid hz
  clear ec hz
  have HB0 := Lib.hid hb0
  clear hb0
  obtain ⟨B0, w0, hB0, hw0, hr0, hr1, hr2, x0⟩ := three w 25 25 25 [.bool nx, .slice ax kx cx] [.bool ny, .slice ay ky cy] [.bool nz, .slice az kz cz]
  have HF2 : Hid (Fits (a) 10) := Lib.hid (by rw [E_a.out]; exact fits_raw (HWx.out.wf) (by omega))
  have HF6 : Hid (Fits (b) 6) := Lib.hid (by rw [E_b.out]; exact fits_raw (HWy.out.wf) (by omega))
  have HF10 : Hid (Fits (c) 6) := Lib.hid (by rw [E_c.out]; exact fits_raw (HWz.out.wf) (by omega))
  have HF17 : Hid (Fits (a / b) 10) := Lib.hid (fits_le HF2.out (Int.natAbs_ediv_le_natAbs a b))
  have HF18 : Hid (Fits (a % b) 6) := Lib.hid (fits_le HF6.out (by have h1 := Int.emod_nonneg a HB0.out; have h2 := Int.emod_lt a HB0.out; omega))
  have HF19 : Hid (Fits ((b.natAbs : Int)) 6) := Lib.hid (fits_abs HF6.out)
  have HF28 : Hid (Fits ((a / b) * b) 16) := Lib.hid (Fits.mul HF17.out HF6.out)
  have HF30 : Hid (Fits (((a / b) * b) + (a % b)) 17) := Lib.hid (Fits.add HF28.out (HF18.out.mono (show 6 ≤ 16 by omega)))
  have HF33 : Hid (Fits (c * b) 12) := Lib.hid (Fits.mul HF10.out HF6.out)
  have HF34 : Hid (Fits (c * b + a % b) 13) := Lib.hid (Fits.add HF33.out (HF18.out.mono (show 6 ≤ 12 by omega)))
  have KB3 : Hid (∀ W, Ext w0 W → W.cell? ⟨B0, 0, none⟩ = some (.bool nx) ∧ W.cell? ⟨B0, 1, none⟩ = some (.slice ax kx cx)) := Lib.hid fun W h => ⟨h.cell (hr0.cell (i := 0) rfl), h.cell (hr0.cell (i := 1) rfl)⟩
  have KB4 : Hid (∀ W, Ext w0 W → W.cell? ⟨B0 + 1, 0, none⟩ = some (.bool ny) ∧ W.cell? ⟨B0 + 1, 1, none⟩ = some (.slice ay ky cy)) := Lib.hid fun W h => ⟨h.cell (hr1.cell (i := 0) rfl), h.cell (hr1.cell (i := 1) rfl)⟩
  have KB5 : Hid (∀ W, Ext w0 W → W.cell? ⟨B0 + 1 + 1, 0, none⟩ = some (.bool nz) ∧ W.cell? ⟨B0 + 1 + 1, 1, none⟩ = some (.slice az kz cz)) := Lib.hid fun W h => ⟨h.cell (hr2.cell (i := 0) rfl), h.cell (hr2.cell (i := 1) rfl)⟩
  clear hr0 hr1 hr2
  go_enter Tryz.func6, Tryz.ntmps6
  go_wp2_with fail
  rw [← hw0, ← hB0]
  clear hw0 hB0
  refine (sanity_any _).mono ?_
  rintro e w1 ⟨rfl, x1⟩
  obtain ⟨cc3_0_4, cc3_1_4⟩ := KB3.out w1 x1
  go_wp2_with fail
  clear cc3_0_4 cc3_1_4
  refine (Made_any nx ax kx cx lx 10 a _ (HWx.out.ext (x0.trans x1)) (by omega) E_a.out).mono ?_
  rintro e w3 ⟨⟨v3_0, rfl, ⟨s3_0, a3_0, n3_0, c3_0, rfl, hi3_0⟩⟩, x3⟩
  have HV3_0 : Hid (IntV w3 (.agg #[.bool s3_0, .slice a3_0 n3_0 c3_0]) (a)) := Lib.hid ⟨_, _, _, _, rfl, hi3_0⟩
  clear hi3_0
  obtain ⟨D5, wb5, hD5, hw5, hb5_0, xb5⟩ := one w3 24 [.bool s3_0, .slice a3_0 n3_0 c3_0]
  have KB8 : Hid (∀ W, Ext wb5 W → W.cell? ⟨D5, 0, none⟩ = some (.bool s3_0) ∧ W.cell? ⟨D5, 1, none⟩ = some (.slice a3_0 n3_0 c3_0)) := Lib.hid fun W h => ⟨h.cell (hb5_0.cell (i := 0) rfl), h.cell (hb5_0.cell (i := 1) rfl)⟩
  clear hb5_0
  obtain ⟨cc4_0_8, cc4_1_8⟩ := KB4.out wb5 ((x1.trans x3).trans xb5)
  have hq5 := hw5.symm
  have hp5 := hD5.symm
  clear hw5 hD5
  go_wp2_with fail
  clear hq5 hp5
  clear cc4_0_8 cc4_1_8
  refine (Made_any ny ay ky cy ly 6 b _ (HWy.out.ext (((x0.trans x1).trans x3).trans xb5)) (by omega) E_b.out).mono ?_
  rintro e w7 ⟨⟨v7_0, rfl, ⟨s7_0, a7_0, n7_0, c7_0, rfl, hi7_0⟩⟩, x7⟩
  have hbn := intW_len hi7_0 HB0.out
  have HV7_0 : Hid (IntV w7 (.agg #[.bool s7_0, .slice a7_0 n7_0 c7_0]) (b)) := Lib.hid ⟨_, _, _, _, rfl, hi7_0⟩
  clear hi7_0
  obtain ⟨D9, wb9, hD9, hw9, hb9_0, xb9⟩ := one w7 24 [.bool s7_0, .slice a7_0 n7_0 c7_0]
  have KB9 : Hid (∀ W, Ext wb9 W → W.cell? ⟨D9, 0, none⟩ = some (.bool s7_0) ∧ W.cell? ⟨D9, 1, none⟩ = some (.slice a7_0 n7_0 c7_0)) := Lib.hid fun W h => ⟨h.cell (hb9_0.cell (i := 0) rfl), h.cell (hb9_0.cell (i := 1) rfl)⟩
  clear hb9_0
  obtain ⟨cc5_0_12, cc5_1_12⟩ := KB5.out wb9 ((((x1.trans x3).trans xb5).trans x7).trans xb9)
  have hq9 := hw9.symm
  have hp9 := hD9.symm
  clear hw9 hD9
  go_wp2_with fail
  clear hq9 hp9
  clear cc5_0_12 cc5_1_12
  refine (Made_any nz az kz cz lz 6 c _ (HWz.out.ext (((((x0.trans x1).trans x3).trans xb5).trans x7).trans xb9)) (by omega) E_c.out).mono ?_
  rintro e w11 ⟨⟨v11_0, rfl, ⟨s11_0, a11_0, n11_0, c11_0, rfl, hi11_0⟩⟩, x11⟩
  have HV11_0 : Hid (IntV w11 (.agg #[.bool s11_0, .slice a11_0 n11_0 c11_0]) (c)) := Lib.hid ⟨_, _, _, _, rfl, hi11_0⟩
  clear hi11_0
  obtain ⟨D13, wb13, hD13, hw13, hb13_0, xb13⟩ := one w11 24 [.bool s11_0, .slice a11_0 n11_0 c11_0]
  have KB10 : Hid (∀ W, Ext wb13 W → W.cell? ⟨D13, 0, none⟩ = some (.bool s11_0) ∧ W.cell? ⟨D13, 1, none⟩ = some (.slice a11_0 n11_0 c11_0)) := Lib.hid fun W h => ⟨h.cell (hb13_0.cell (i := 0) rfl), h.cell (hb13_0.cell (i := 1) rfl)⟩
  clear hb13_0
  obtain ⟨cc8_0_14, cc8_1_14⟩ := KB8.out wb13 (((x7.trans xb9).trans x11).trans xb13)
  obtain ⟨cc9_0_15, cc9_1_15⟩ := KB9.out wb13 (x11.trans xb13)
  have hq13 := hw13.symm
  have hp13 := hD13.symm
  clear hw13 hD13
  go_wp2_with fail
  clear hq13 hp13
  clear cc8_0_14 cc8_1_14 cc9_0_15 cc9_1_15
  refine (divmod_rem _ _ (a) (b) _ (HV3_0.out.ext ((((xb5.trans x7).trans xb9).trans x11).trans xb13)) (HV7_0.out.ext ((xb9.trans x11).trans xb13)) (HF2.out.mono (by omega)) (HF6.out.mono (by omega)) HB0.out).mono ?_
  rintro e w16 ⟨⟨u, ar, nr, cr, rfl, ⟨sq, aq, nq, cq, rfl, hq⟩, hr⟩, x16⟩
  have HQ : Hid (IntV w16 (.agg #[.bool sq, .slice aq nq cq]) (a / b)) := Lib.hid ⟨_, _, _, _, rfl, hq⟩
  have HR : Hid (IntV w16 (.agg #[.bool false, .slice ar nr cr]) (a % b)) := Lib.hid ⟨_, _, _, _, rfl, hr⟩
  clear hq hr
  obtain ⟨D20, wb20, hD20, hw20, hb20_0, hb20_1, xb20⟩ := two w16 24 24 [.bool sq, .slice aq nq cq] [.bool false, .slice ar nr cr]
  have KB11 : Hid (∀ W, Ext wb20 W → W.cell? ⟨D20, 0, none⟩ = some (.bool sq) ∧ W.cell? ⟨D20, 1, none⟩ = some (.slice aq nq cq)) := Lib.hid fun W h => ⟨h.cell (hb20_0.cell (i := 0) rfl), h.cell (hb20_0.cell (i := 1) rfl)⟩
  have KB12 : Hid (∀ W, Ext wb20 W → W.cell? ⟨D20 + 1, 0, none⟩ = some (.bool false) ∧ W.cell? ⟨D20 + 1, 1, none⟩ = some (.slice ar nr cr)) := Lib.hid fun W h => ⟨h.cell (hb20_1.cell (i := 0) rfl), h.cell (hb20_1.cell (i := 1) rfl)⟩
  clear hb20_0 hb20_1
  obtain ⟨cc9_0_21, cc9_1_21⟩ := KB9.out wb20 (((x11.trans xb13).trans x16).trans xb20)
  have HSZ : Hid (IntV wb20 (.agg #[.bool false, .slice a7_0 n7_0 c7_0]) (b.natAbs : Int)) := Lib.hid (intV_abs (HV7_0.out.ext ((((xb9.trans x11).trans xb13).trans x16).trans xb20)))
  obtain ⟨D22, wb22, hD22, hw22, hb22_0, xb22⟩ := one wb20 24 [.bool false, .slice a7_0 n7_0 c7_0]
  have KB14 : Hid (∀ W, Ext wb22 W → W.cell? ⟨D22, 0, none⟩ = some (.bool false) ∧ W.cell? ⟨D22, 1, none⟩ = some (.slice a7_0 n7_0 c7_0)) := Lib.hid fun W h => ⟨h.cell (hb22_0.cell (i := 0) rfl), h.cell (hb22_0.cell (i := 1) rfl)⟩
  clear hb22_0
  obtain ⟨cc9_0_23, cc9_1_23⟩ := KB9.out wb22 ((((x11.trans xb13).trans x16).trans xb20).trans xb22)
  have KX24 : Hid (∀ w', Ext wb22 w' → w'.cell? ⟨D20, 0, none⟩ = some (.bool sq) ∧ w'.cell? ⟨D20, 1, none⟩ = some (.slice aq nq cq) ∧ w'.cell? ⟨D20 + 1, 0, none⟩ = some (.bool false) ∧ w'.cell? ⟨D20 + 1, 1, none⟩ = some (.slice ar nr cr) ∧ w'.cell? ⟨D22, 0, none⟩ = some (.bool false) ∧ w'.cell? ⟨D22, 1, none⟩ = some (.slice a7_0 n7_0 c7_0) ∧ w'.cell? ⟨D9, 0, none⟩ = some (.bool s7_0) ∧ w'.cell? ⟨D9, 1, none⟩ = some (.slice a7_0 n7_0 c7_0) ∧ w'.cell? ⟨D5, 0, none⟩ = some (.bool s3_0) ∧ w'.cell? ⟨D5, 1, none⟩ = some (.slice a3_0 n3_0 c3_0)) := Lib.hid fun w' h => by
    have q11 := KB11.out w' (xb22.trans h)
    have q12 := KB12.out w' (xb22.trans h)
    have q14 := KB14.out w' ((Ext.refl _).trans h)
    have q9 := KB9.out w' (((((x11.trans xb13).trans x16).trans xb20).trans xb22).trans h)
    have q8 := KB8.out w' (((((((x7.trans xb9).trans x11).trans xb13).trans x16).trans xb20).trans xb22).trans h)
    exact ⟨q11.1, q11.2, q12.1, q12.2, q14.1, q14.2, q9.1, q9.2, q8.1, q8.2⟩
  have hq20 := hw20.symm
  have hp20 := hD20.symm
  clear hw20 hD20
  have hq22 := hw22.symm
  have hp22 := hD22.symm
  clear hw22 hD22
  go_wp2_with fail
  clear hq20 hp20 hq22 hp22
  clear cc9_0_21 cc9_1_21 cc9_0_23 cc9_1_23
  have hz24 := Below.drewExt wb22
  go_region_held3
    (fun w' => w'.cell? ⟨D20, 0, none⟩ = some (.bool sq) ∧ w'.cell? ⟨D20, 1, none⟩ = some (.slice aq nq cq) ∧ w'.cell? ⟨D20 + 1, 0, none⟩ = some (.bool false) ∧ w'.cell? ⟨D20 + 1, 1, none⟩ = some (.slice ar nr cr) ∧ w'.cell? ⟨D22, 0, none⟩ = some (.bool false) ∧ w'.cell? ⟨D22, 1, none⟩ = some (.slice a7_0 n7_0 c7_0) ∧ w'.cell? ⟨D9, 0, none⟩ = some (.bool s7_0) ∧ w'.cell? ⟨D9, 1, none⟩ = some (.slice a7_0 n7_0 c7_0) ∧ w'.cell? ⟨D5, 0, none⟩ = some (.bool s3_0) ∧ w'.cell? ⟨D5, 1, none⟩ = some (.slice a3_0 n3_0 c3_0))
    (with_reducible exact KX24.out _ (by assumption))
    (first
    | (go_at_call 20; (with_reducible refine (rvalid_any _ (a / b) _ (HQ.out.ext ((xb20.trans xb22).trans hz24))).mono ?_); rintro e w25 ⟨rfl, x25⟩; have hz25 := hz24.trans x25)
    | (go_at_call 20; (with_reducible refine (rvalid_any _ (a % b) _ (HR.out.ext (((xb20.trans xb22).trans hz24).trans x25))).mono ?_); rintro e w26 ⟨rfl, x26⟩; have hz26 := hz25.trans x26)
    | (go_at_call 16; (with_reducible refine (cmp_is _ _ (a % b) ((b.natAbs : Int)) (-1) _ (HR.out.ext ((((xb20.trans xb22).trans hz24).trans x25).trans x26)) (HSZ.out.ext (((xb22.trans hz24).trans x25).trans x26)) (sgn_lt (by have := Int.emod_lt a HB0.out; omega))).mono ?_); rintro e w27 ⟨rfl, x27⟩; have hz27 := hz26.trans x27)
    | (go_at_call 18; (with_reducible refine (mul_any _ _ (a / b) (b) _ (HQ.out.ext (((((xb20.trans xb22).trans hz24).trans x25).trans x26).trans x27)) (HV7_0.out.ext (((((((((xb9.trans x11).trans xb13).trans x16).trans xb20).trans xb22).trans hz24).trans x25).trans x26).trans x27)) (HF17.out.mono (by omega)) (HF6.out.mono (by omega))).mono ?_); rintro e w29 ⟨⟨v29_0, rfl, hv29_0⟩, x29⟩; have hz29 := hz27.trans x29)
    | (go_at_call 17; (with_reducible refine (add_any _ _ ((a / b) * b) (a % b) _ hv29_0 (HR.out.ext ((((((xb20.trans xb22).trans hz24).trans x25).trans x26).trans x27).trans x29)) (HF28.out.mono (by omega)) (HF18.out.mono (by omega))).mono ?_); rintro e w31 ⟨⟨v31_0, rfl, hv31_0⟩, x31⟩; have hz31 := hz29.trans x31)
    | (go_at_call 21; (with_reducible refine (same_eq _ _ (((a / b) * b) + (a % b)) (a) _ hv31_0 (HV3_0.out.ext (((((((((((((xb5.trans x7).trans xb9).trans x11).trans xb13).trans x16).trans xb20).trans xb22).trans hz24).trans x25).trans x26).trans x27).trans x29).trans x31)) (Int.ediv_mul_add_emod a b)).mono ?_); rintro e w32 ⟨rfl, x32⟩; have hz32 := hz31.trans x32)
    )
  clear KX24
  go_wp2_with fail
  refine wp_region_facts [101, 102, 103, 104, 105, 106, 107, 100, 108, 109, 110, 15, 16, 17] (DivF w32 0 0 0 a11_0 a7_0 ar c11_0 c7_0 cr n11_0 n7_0 nr s11_0 s7_0 (c * b) (c * b + a % b) ((c * b + a % b) / b) ((c * b + a % b) % b)) (by kernel_rfl) (by kernel_rfl) ?_ ?_ ?_
  · intro y
    exact ⟨(Ext.refl _).drew, by simp, by simp, by simp, by simp, by simp, by simp, by simp, by simp, by simp, by simp, by simp, by simp, by simp, by simp, by simp, by simp, by simp, by simp, by simp⟩
  · intro Q
    refine AllF.cons rfl ?_ ?_
    · skip
      with_reducible refine StepF.dst (d := 101) (by kernel_rfl) (by kernel_rfl) ?_
      intro L y w hi hp h K hK
      simp only [putAll, List.foldl, Act.put, List.setIfInBounds_toArray, List.set_cons_zero, List.set_cons_succ] at hK ⊢
      have HK := Lib.hid hK
      clear hK
      obtain ⟨cc0, cc1⟩ := KB10.out w ((((((((((x16.trans xb20).trans xb22).trans hz24).trans x25).trans x26).trans x27).trans x29).trans x31).trans x32).trans h.out.e)
      go_simp
      refine HK.out _ _ ?_
      have k := h.out
      exact ⟨k.e, fun _ => upd_eq, k.f1, k.f2, k.f3, k.f4, k.f5, k.f6, k.f7, k.f8, k.f9, k.f10, k.f11, k.f12, k.d, k.f13, k.f14, k.c13, k.c14, k.f15⟩
    refine AllF.cons rfl ?_ ?_
    · skip
      with_reducible refine StepF.dst (d := 102) (by kernel_rfl) (by kernel_rfl) ?_
      intro L y w hi hp h K hK
      simp only [putAll, List.foldl, Act.put, List.setIfInBounds_toArray, List.set_cons_zero, List.set_cons_succ] at hK ⊢
      have HK := Lib.hid hK
      clear hK
      obtain ⟨cc0, cc1⟩ := KB9.out w ((((((((((((x11.trans xb13).trans x16).trans xb20).trans xb22).trans hz24).trans x25).trans x26).trans x27).trans x29).trans x31).trans x32).trans h.out.e)
      go_simp
      refine HK.out _ _ ?_
      have k := h.out
      exact ⟨k.e, k.f0, fun _ => upd_eq, k.f2, k.f3, k.f4, k.f5, k.f6, k.f7, k.f8, k.f9, k.f10, k.f11, k.f12, k.d, k.f13, k.f14, k.c13, k.c14, k.f15⟩
    refine AllF.cons rfl ?_ ?_
    · skip
      with_reducible refine StepF.dst (d := 103) (by kernel_rfl) (by kernel_rfl) ?_
      intro L y w hi hp h K hK
      simp only [putAll, List.foldl, Act.put, List.setIfInBounds_toArray, List.set_cons_zero, List.set_cons_succ] at hK ⊢
      have HK := Lib.hid hK
      clear hK
      have g0 := h.out.f0 (hp.out 0 (by kernel_rfl))
      have g1 := h.out.f1 (hp.out 1 (by kernel_rfl))
      simp only [g0, g1] at HK
      go_simp
      refine (mul_any _ _ c b _ ((HV11_0.out.ext ((((((((((xb13.trans x16).trans xb20).trans xb22).trans hz24).trans x25).trans x26).trans x27).trans x29).trans x31).trans x32)).ext h.out.e) ((HV7_0.out.ext ((((((((((((xb9.trans x11).trans xb13).trans x16).trans xb20).trans xb22).trans hz24).trans x25).trans x26).trans x27).trans x29).trans x31).trans x32)).ext h.out.e) (HF10.out.mono (by omega)) (HF6.out.mono (by omega))).mono ?_
      rintro e w4 ⟨⟨v, rfl, hr⟩, he4⟩
      clear g0 g1
      go_simp
      refine HK.out _ _ ?_
      have k := h.out.ext he4
      exact ⟨k.e, k.f0, k.f1, fun _ => by rw [upd_eq]; exact hr, k.f3, k.f4, k.f5, k.f6, k.f7, k.f8, k.f9, k.f10, k.f11, k.f12, k.d, k.f13, k.f14, k.c13, k.c14, k.f15⟩
    refine AllF.cons rfl ?_ ?_
    · skip
      with_reducible refine StepF.dst (d := 104) (by kernel_rfl) (by kernel_rfl) ?_
      intro L y w hi hp h K hK
      simp only [putAll, List.foldl, Act.put, List.setIfInBounds_toArray, List.set_cons_zero, List.set_cons_succ] at hK ⊢
      have HK := Lib.hid hK
      clear hK
      obtain ⟨cc0, cc1⟩ := KB12.out w ((((((((xb22.trans hz24).trans x25).trans x26).trans x27).trans x29).trans x31).trans x32).trans h.out.e)
      go_simp
      refine HK.out _ _ ?_
      have k := h.out
      exact ⟨k.e, k.f0, k.f1, k.f2, fun _ => upd_eq, k.f4, k.f5, k.f6, k.f7, k.f8, k.f9, k.f10, k.f11, k.f12, k.d, k.f13, k.f14, k.c13, k.c14, k.f15⟩
    refine AllF.cons rfl ?_ ?_
    · skip
      with_reducible refine StepF.dst (d := 105) (by kernel_rfl) (by kernel_rfl) ?_
      intro L y w hi hp h K hK
      simp only [putAll, List.foldl, Act.put, List.setIfInBounds_toArray, List.set_cons_zero, List.set_cons_succ] at hK ⊢
      have HK := Lib.hid hK
      clear hK
      have g3 := h.out.f3 (hp.out 3 (by kernel_rfl))
      simp only [g3] at HK
      have g2 := h.out.f2 (hp.out 2 (by kernel_rfl))
      have G2 := Lib.hid g2
      clear g2
      go_simp
      refine (add_any _ _ (c * b) (a % b) _ G2.out ((HR.out.ext ((((((((xb20.trans xb22).trans hz24).trans x25).trans x26).trans x27).trans x29).trans x31).trans x32)).ext h.out.e) (HF33.out.mono (by omega)) (HF18.out.mono (by omega))).mono ?_
      rintro e w4 ⟨⟨v, rfl, hr⟩, he4⟩
      clear g3
      go_simp
      refine HK.out _ _ ?_
      have k := h.out.ext he4
      exact ⟨k.e, k.f0, k.f1, k.f2, k.f3, fun _ => by rw [upd_eq]; exact hr, k.f5, k.f6, k.f7, k.f8, k.f9, k.f10, k.f11, k.f12, k.d, k.f13, k.f14, k.c13, k.c14, k.f15⟩
    refine AllF.cons rfl ?_ ?_
    · skip
      with_reducible refine StepF.dst (d := 106) (by kernel_rfl) (by kernel_rfl) ?_
      intro L y w hi hp h K hK
      simp only [putAll, List.foldl, Act.put, List.setIfInBounds_toArray, List.set_cons_zero, List.set_cons_succ] at hK ⊢
      have HK := Lib.hid hK
      clear hK
      obtain ⟨cc0, cc1⟩ := KB9.out w ((((((((((((x11.trans xb13).trans x16).trans xb20).trans xb22).trans hz24).trans x25).trans x26).trans x27).trans x29).trans x31).trans x32).trans h.out.e)
      go_simp
      refine HK.out _ _ ?_
      have k := h.out
      exact ⟨k.e, k.f0, k.f1, k.f2, k.f3, k.f4, fun _ => upd_eq, k.f6, k.f7, k.f8, k.f9, k.f10, k.f11, k.f12, k.d, k.f13, k.f14, k.c13, k.c14, k.f15⟩
    refine AllF.cons rfl ?_ ?_
    · skip
      with_reducible refine StepF.dst (d := 107) (by kernel_rfl) (by kernel_rfl) ?_
      intro L y w hi hp h K hK
      simp only [putAll, List.foldl, Act.put, List.setIfInBounds_toArray, List.set_cons_zero, List.set_cons_succ] at hK ⊢
      have HK := Lib.hid hK
      clear hK
      have g5 := h.out.f5 (hp.out 5 (by kernel_rfl))
      simp only [g5] at HK
      have g4 := h.out.f4 (hp.out 4 (by kernel_rfl))
      have G4 := Lib.hid g4
      clear g4
      go_simp
      refine (divmod_any _ _ (c * b + a % b) b _ G4.out ((HV7_0.out.ext ((((((((((((xb9.trans x11).trans xb13).trans x16).trans xb20).trans xb22).trans hz24).trans x25).trans x26).trans x27).trans x29).trans x31).trans x32)).ext h.out.e) (HF34.out.mono (by omega)) (HF6.out.mono (by omega)) HB0.out).mono ?_
      rintro e w4 ⟨⟨qv, rv, rfl, hq, hr⟩, he4⟩
      clear g5
      go_simp
      refine HK.out _ _ ?_
      have k := h.out.ext he4
      exact ⟨k.e, k.f0, k.f1, k.f2, k.f3, k.f4, k.f5, fun _ => by rw [upd_eq]; exact ⟨_, _, rfl, hq, hr⟩, k.f7, k.f8, k.f9, k.f10, k.f11, k.f12, k.d, k.f13, k.f14, k.c13, k.c14, k.f15⟩
    refine AllF.cons rfl ?_ ?_
    · skip
      with_reducible refine StepF.dst (d := 100) (by kernel_rfl) (by kernel_rfl) ?_
      intro L y w hi hp h K hK
      simp only [putAll, List.foldl, Act.put, List.setIfInBounds_toArray, List.set_cons_zero, List.set_cons_succ] at hK ⊢
      have HK := Lib.hid hK
      clear hK
      obtain ⟨tu, tv, g, hu, hv⟩ := h.out.f6 (hp.out 6 (by kernel_rfl))
      have HU := Lib.hid hu
      have HV := Lib.hid hv
      clear hu hv
      simp only [g] at HK
      go_simp
      refine HK.out _ _ ?_
      have k := h.out
      exact ⟨k.e, k.f0, k.f1, k.f2, k.f3, k.f4, k.f5, k.f6, fun _ => by rw [upd_eq]; exact ⟨_, _, rfl, HU.out, HV.out⟩, k.f8, k.f9, k.f10, k.f11, k.f12, k.d, k.f13, k.f14, k.c13, k.c14, k.f15⟩
    refine AllF.cons rfl ?_ ?_
    · skip
      with_reducible refine StepF.dst (d := 108) (by kernel_rfl) (by kernel_rfl) ?_
      intro L y w hi hp h K hK
      simp only [putAll, List.foldl, Act.put, List.setIfInBounds_toArray, List.set_cons_zero, List.set_cons_succ] at hK ⊢
      have HK := Lib.hid hK
      clear hK
      obtain ⟨tu, tv, g, hu, hv⟩ := h.out.f7 (hp.out 7 (by kernel_rfl))
      have HU := Lib.hid hu
      have HV := Lib.hid hv
      clear hu hv
      simp only [g] at HK
      go_simp
      refine HK.out _ _ ?_
      have k := h.out
      exact ⟨k.e, k.f0, k.f1, k.f2, k.f3, k.f4, k.f5, k.f6, k.f7, fun _ => by rw [upd_eq]; exact HU.out, k.f9, k.f10, k.f11, k.f12, k.d, k.f13, k.f14, k.c13, k.c14, k.f15⟩
    refine AllF.cons rfl ?_ ?_
    · skip
      with_reducible refine StepF.dst (d := 109) (by kernel_rfl) (by kernel_rfl) ?_
      intro L y w hi hp h K hK
      simp only [putAll, List.foldl, Act.put, List.setIfInBounds_toArray, List.set_cons_zero, List.set_cons_succ] at hK ⊢
      have HK := Lib.hid hK
      clear hK
      obtain ⟨tu, tv, g, hu, hv⟩ := h.out.f7 (hp.out 7 (by kernel_rfl))
      have HU := Lib.hid hu
      have HV := Lib.hid hv
      clear hu hv
      simp only [g] at HK
      go_simp
      refine HK.out _ _ ?_
      have k := h.out
      exact ⟨k.e, k.f0, k.f1, k.f2, k.f3, k.f4, k.f5, k.f6, k.f7, k.f8, fun _ => by rw [upd_eq]; exact HV.out, k.f10, k.f11, k.f12, k.d, k.f13, k.f14, k.c13, k.c14, k.f15⟩
    refine AllF.cons rfl ?_ ?_
    · skip
      with_reducible refine StepF.dst (d := 110) (by kernel_rfl) (by kernel_rfl) ?_
      intro L y w hi hp h K hK
      simp only [putAll, List.foldl, Act.put, List.setIfInBounds_toArray, List.set_cons_zero, List.set_cons_succ] at hK ⊢
      have HK := Lib.hid hK
      clear hK
      obtain ⟨tu, tv, g, -, -⟩ := h.out.f7 (hp.out 7 (by kernel_rfl))
      simp only [g] at HK
      go_simp
      refine HK.out _ _ ?_
      have k := h.out
      exact ⟨k.e, k.f0, k.f1, k.f2, k.f3, k.f4, k.f5, k.f6, k.f7, k.f8, k.f9, fun _ => upd_eq, k.f11, k.f12, k.d, k.f13, k.f14, k.c13, k.c14, k.f15⟩
    refine AllF.cons rfl ?_ ?_
    · skip
      with_reducible refine StepF.dst (d := 15) (by kernel_rfl) (by kernel_rfl) ?_
      intro L y w hi hp h K hK
      simp only [putAll, List.foldl, Act.put, List.setIfInBounds_toArray, List.set_cons_zero, List.set_cons_succ] at hK ⊢
      have HK := Lib.hid hK
      clear hK
      go_simp
      refine HK.out _ _ ?_
      have k := h.out.ext ((Ext.refl w).alloc (.cells #[.bool false, .slice none 0 0] 24))
      exact ⟨k.e, k.f0, k.f1, k.f2, k.f3, k.f4, k.f5, k.f6, k.f7, k.f8, k.f9, k.f10, fun _ => by rw [upd_eq]; exact roomI_new h.out.e, k.f12, fun _ q => roomI_ne (h.out.f12 q) upd_eq, fun q => absurd (h.out.c13 q) (by rw [hi.out]; simp), k.f14, fun _ => rfl, k.c14, k.f15⟩
    refine AllF.cons rfl ?_ ?_
    · skip
      with_reducible refine StepF.dst (d := 16) (by kernel_rfl) (by kernel_rfl) ?_
      intro L y w hi hp h K hK
      simp only [putAll, List.foldl, Act.put, List.setIfInBounds_toArray, List.set_cons_zero, List.set_cons_succ] at hK ⊢
      have HK := Lib.hid hK
      clear hK
      go_simp
      refine HK.out _ _ ?_
      have k := h.out.ext ((Ext.refl w).alloc (.cells #[.bool false, .slice none 0 0] 24))
      exact ⟨k.e, k.f0, k.f1, k.f2, k.f3, k.f4, k.f5, k.f6, k.f7, k.f8, k.f9, k.f10, k.f11, fun _ => by rw [upd_eq]; exact roomI_new h.out.e, fun q _ => (roomI_ne (h.out.f11 q) upd_eq).symm, k.f13, fun q => absurd (h.out.c14 q) (by rw [hi.out]; simp), k.c13, fun _ => rfl, k.f15⟩
    refine AllF.cons rfl ?_ ?_
    · skip
      with_reducible refine StepF.none ?_
      intro L y w hi hp h K hK
      simp only [putAll, List.foldl, Act.put, List.setIfInBounds_toArray, List.set_cons_zero, List.set_cons_succ] at hK ⊢
      have HK := Lib.hid hK
      clear hK
      obtain ⟨s8, a8, n8, c8, g8, h8⟩ := h.out.f8 (hp.out 8 (by kernel_rfl))
      have H8 := Lib.hid h8
      clear h8
      obtain ⟨P, s6, a6, n6, c6, g6, hb6, hm6⟩ := h.out.f11 (hp.out 11 (by kernel_rfl))
      simp only [g8, g6] at HK
      have HB6 := Lib.hid hb6
      have cc0 := hb6.cell (i := 0) rfl
      have cc1 := hb6.cell (i := 1) rfl
      have ff0 := hb6.free 0
      have ff1 := hb6.free 1
      clear hb6
      go_simp
      refine HK.out _ ?_
      have k := h.out
      have hs := stay_st2 HB6.out (.bool s8) (.slice a8 n8 c8)
      have hd := k.d (hp.out 11 (by kernel_rfl)) (hp.out 12 (by kernel_rfl))
      rw [g6] at hd
      exact ⟨ext_st2 k.e hm6 _ _, k.f0, k.f1, fun z => (k.f2 z).stay hs, k.f3, fun z => (k.f4 z).stay hs, k.f5, fun z => (k.f6 z).stay hs, fun z => (k.f7 z).stay hs, fun z => (k.f8 z).stay hs, fun z => (k.f9 z).stay hs, k.f10, fun _ => ⟨_, _, _, _, _, g6, Blk.st2 HB6.out _ _, hm6⟩, fun z => (k.f12 z).st2_other hd _ _, k.d, fun _ => ⟨_, _, _, _, _, g6, Blk.st2 HB6.out _ _, hm6, IntW.stay H8.out hs⟩, fun z => (k.f14 z).st2_other hd hs, fun _ => hp.out 11 (by kernel_rfl), k.c14, k.f15⟩
    refine AllF.cons rfl ?_ ?_
    · skip
      with_reducible refine StepF.none ?_
      intro L y w hi hp h K hK
      simp only [putAll, List.foldl, Act.put, List.setIfInBounds_toArray, List.set_cons_zero, List.set_cons_succ] at hK ⊢
      have HK := Lib.hid hK
      clear hK
      obtain ⟨s8, a8, n8, c8, g8, h8⟩ := h.out.f9 (hp.out 9 (by kernel_rfl))
      have H8 := Lib.hid h8
      clear h8
      obtain ⟨P, s6, a6, n6, c6, g6, hb6, hm6⟩ := h.out.f12 (hp.out 12 (by kernel_rfl))
      simp only [g8, g6] at HK
      have HB6 := Lib.hid hb6
      have cc0 := hb6.cell (i := 0) rfl
      have cc1 := hb6.cell (i := 1) rfl
      have ff0 := hb6.free 0
      have ff1 := hb6.free 1
      clear hb6
      go_simp
      refine HK.out _ ?_
      have k := h.out
      have hs := stay_st2 HB6.out (.bool s8) (.slice a8 n8 c8)
      have hd := k.d (hp.out 11 (by kernel_rfl)) (hp.out 12 (by kernel_rfl))
      rw [g6] at hd
      exact ⟨ext_st2 k.e hm6 _ _, k.f0, k.f1, fun z => (k.f2 z).stay hs, k.f3, fun z => (k.f4 z).stay hs, k.f5, fun z => (k.f6 z).stay hs, fun z => (k.f7 z).stay hs, fun z => (k.f8 z).stay hs, fun z => (k.f9 z).stay hs, k.f10, fun z => (k.f11 z).st2_other (Ne.symm hd) _ _, fun _ => ⟨_, _, _, _, _, g6, Blk.st2 HB6.out _ _, hm6⟩, k.d, fun z => (k.f13 z).st2_other (Ne.symm hd) hs, fun _ => ⟨_, _, _, _, _, g6, Blk.st2 HB6.out _ _, hm6, IntW.stay H8.out hs⟩, k.c13, fun _ => hp.out 12 (by kernel_rfl), k.f15⟩
    refine AllF.cons rfl ?_ ?_
    · skip
      with_reducible refine StepF.dst (d := 17) (by kernel_rfl) (by kernel_rfl) ?_
      intro L y w hi hp h K hK
      simp only [putAll, List.foldl, Act.put, List.setIfInBounds_toArray, List.set_cons_zero, List.set_cons_succ] at hK ⊢
      have HK := Lib.hid hK
      clear hK
      have g10 := h.out.f10 (hp.out 10 (by kernel_rfl))
      simp only [g10] at HK
      go_simp
      refine HK.out _ _ ?_
      have k := h.out
      exact ⟨k.e, k.f0, k.f1, k.f2, k.f3, k.f4, k.f5, k.f6, k.f7, k.f8, k.f9, k.f10, k.f11, k.f12, k.d, k.f13, k.f14, k.c13, k.c14, fun _ => upd_eq⟩
    exact trivial
  · intro L y wE hL h
    obtain ⟨U, su, au, nu, cu, e15, hbU, hmU, hu⟩ := h.f13 (hL 13 (by decide))
    obtain ⟨V, sv, av, nv, cv, e16, hbV, hmV, hv⟩ := h.f14 (hL 14 (by decide))
    have e17 := h.f15 (hL 15 (by decide))
    have xE := h.e
    have HUV : Hid (IntV wE (.agg #[.bool su, .slice au nu cu]) ((c * b + a % b) / b)) := Lib.hid ⟨_, _, _, _, rfl, hu⟩
    have HVV : Hid (IntV wE (.agg #[.bool sv, .slice av nv cv]) ((c * b + a % b) % b)) := Lib.hid ⟨_, _, _, _, rfl, hv⟩
    simp only [putAll, List.foldl, Act.put, List.setIfInBounds_toArray, List.set_cons_zero, List.set_cons_succ]
    simp only [e15, e16, e17]
    clear hL e15 e16 e17 hu hv hmU hmV h
    have KB15 : Hid (∀ W, Ext wE W → W.cell? ⟨U, 0, none⟩ = some (.bool su) ∧ W.cell? ⟨U, 1, none⟩ = some (.slice au nu cu)) := Lib.hid fun W h => ⟨h.cell (hbU.cell (i := 0) rfl), h.cell (hbU.cell (i := 1) rfl)⟩
    have KB16 : Hid (∀ W, Ext wE W → W.cell? ⟨V, 0, none⟩ = some (.bool sv) ∧ W.cell? ⟨V, 1, none⟩ = some (.slice av nv cv)) := Lib.hid fun W h => ⟨h.cell (hbV.cell (i := 0) rfl), h.cell (hbV.cell (i := 1) rfl)⟩
    clear hbU hbV
    obtain ⟨cc15_0_36, cc15_1_36⟩ := KB15.out wE (Ext.refl _)
    obtain ⟨cc10_0_37, cc10_1_37⟩ := KB10.out wE ((((((((((x16.trans xb20).trans xb22).trans hz24).trans x25).trans x26).trans x27).trans x29).trans x31).trans x32).trans xE)
    go_wp2_with fail
    clear cc15_0_36 cc15_1_36 cc10_0_37 cc10_1_37
    refine (same_eq _ _ ((c * b + a % b) / b) (c) _ HUV.out (HV11_0.out.ext (((((((((((xb13.trans x16).trans xb20).trans xb22).trans hz24).trans x25).trans x26).trans x27).trans x29).trans x31).trans x32).trans xE)) (div_back c a HB0.out)).mono ?_
    rintro e w35 ⟨rfl, x35⟩
    obtain ⟨cc16_0_39, cc16_1_39⟩ := KB16.out w35 x35
    obtain ⟨cc12_0_40, cc12_1_40⟩ := KB12.out w35 (((((((((xb22.trans hz24).trans x25).trans x26).trans x27).trans x29).trans x31).trans x32).trans xE).trans x35)
    go_wp2_with fail
    clear cc16_0_39 cc16_1_39 cc12_0_40 cc12_1_40
    refine (same_eq _ _ ((c * b + a % b) % b) (a % b) _ (HVV.out.ext x35) (HR.out.ext ((((((((((xb20.trans xb22).trans hz24).trans x25).trans x26).trans x27).trans x29).trans x31).trans x32).trans xE).trans x35)) (mod_back c a b)).mono ?_
    rintro e w38 ⟨rfl, x38⟩
    go_wp2_with fail
    go_ret
    exact ⟨rfl, ((((((((((((((((((((x0.trans x1).trans x3).trans xb5).trans x7).trans xb9).trans x11).trans xb13).trans x16).trans xb20).trans xb22).trans hz24).trans x25).trans x26).trans x27).trans x29).trans x31).trans x32).trans xE).trans x35).trans x38)⟩
theorem lawDivides (nx : Bool) (ax : Option Addr) (kx cx : Nat) (lx : List Int) (a : Int) (ea : a = rawZ nx lx 10) (ny : Bool) (ay : Option Addr) (ky cy : Nat) (ly : List Int) (b : Int) (eb : b = rawZ ny ly 6) (nz : Bool) (az : Option Addr) (kz cz : Nat) (lz : List Int) (c : Int) (ec : c = rawZ nz lz 6) (w : World) (hx : Words w ax kx cx lx) (hy : Words w ay ky cy ly) (hz : Words w az kz cz lz)  :
    Calls Tryz.prog 6 #[.agg #[.bool nx, .slice ax kx cx], .agg #[.bool ny, .slice ay ky cy], .agg #[.bool nz, .slice az kz cz]] w fun e w' => e = .returned (.bool true) ∧ Ext w w' := by
  by_cases h : b = 0
  · exact divides_zero nx ax kx cx lx a ea ny ay ky cy ly b eb nz az kz cz lz c ec w hx hy hz h
  · exact divides_some nx ax kx cx lx a ea ny ay ky cy ly b eb nz az kz cz lz c ec w hx hy hz h
end Go.Proofs.YtddcgojpgdhefaaGreatDoor
