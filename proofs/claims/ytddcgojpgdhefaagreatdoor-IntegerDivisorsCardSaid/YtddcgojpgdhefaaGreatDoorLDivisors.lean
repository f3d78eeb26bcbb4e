/- The law IntegerDivisors, walked. -/
import Derived.Test.YtddcgojpgdhefaaGreatDoorLawLib2
namespace Go.Proofs.YtddcgojpgdhefaaGreatDoor
open Go.RowKit Go.El
set_option linter.unusedVariables false
theorem fits_gcd {a b : Int} {k : Nat} (ha : Fits a k) (hb : Fits b k) : Fits ((Int.gcd a b : Nat) : Int) k := by
  by_cases h : a = 0
  · subst h
    rw [Int.gcd_zero_left]
    exact fits_abs hb
  · refine fits_le ha ?_
    rw [Int.natAbs_natCast]
    exact Nat.le_of_dvd (by omega) (Int.gcd_dvd_natAbs_left a b)
theorem intV_W2 {w : World} {s : Bool} {a : Option Addr} {n c : Nat} {z : Int} (h : IntV w (.agg #[.bool s, .slice a n c]) z) : IntW w s a n c z := by
  obtain ⟨s', a', n', c', e, hi⟩ := h
  cases e
  exact hi
theorem gcd_is (x y : Value) (a b g : Int) (w : World) (hx : IntV w x a) (hy : IntV w y b) (ha : Fits a 1073741824) (hb : Fits b 1073741824) (hg : g = ((Int.gcd a b : Nat) : Int)) :
    Calls Tryz.prog 38 #[x, y] w fun e w' => (∃ v, e = .returned v ∧ IntV w' v g) ∧ Ext w w' := by
  subst hg; exact gcd_any x y a b w hx hy ha hb
theorem gcd_nn (x y : Value) (a b g : Int) (w : World) (hx : IntV w x a) (hy : IntV w y b) (ha : Fits a 1073741824) (hb : Fits b 1073741824) (hg : g = ((Int.gcd a b : Nat) : Int)) :
    Calls Tryz.prog 38 #[x, y] w fun e w' => (∃ a' n c, e = .returned (.agg #[.bool false, .slice a' n c]) ∧ IntW w' false a' n c g) ∧ Ext w w' := by
  refine (gcd_is x y a b g w hx hy ha hb hg).mono ?_
  rintro e w' ⟨⟨v, rfl, ⟨s, a', n, c, rfl, hi⟩⟩, he⟩
  have : s = false := by rw [hi.1, hg]; simp
  subst this
  exact ⟨⟨_, _, _, rfl, hi⟩, he⟩
theorem bezout_z (x y : Value) (a b : Int) (w : World) (hx : IntV w x a) (hy : IntV w y b) (ha : Fits a 1073741824) (hb : b = 0) :
    Calls Tryz.prog 35 #[x, y] w fun e w' => (∃ sh ah nh ch su au nu cu av cv, e = .returned (.tuple #[.agg #[.bool sh, .slice ah nh ch], .agg #[.bool su, .slice au nu cu], .agg #[.bool false, .slice av 0 cv]]) ∧ IntW w' sh ah nh ch ((Int.gcd a b : Nat) : Int) ∧ IntW w' su au nu cu (sgn a 0) ∧ IntW w' false av 0 cv 0) ∧ Ext w w' := by
  subst hb
  refine (bezout_zero x y a w hx hy ha).mono ?_
  rintro e w' ⟨⟨g, u, v, rfl, ⟨sh, ah, nh, ch, rfl, hh⟩, ⟨su, au, nu, cu, rfl, hu⟩, ⟨sv, av, nv, cv, rfl, hv⟩⟩, he⟩
  obtain rfl : nv = 0 := intW_len0 hv rfl
  have : sv = false := by rw [hv.1]; simp
  subst this
  refine ⟨⟨_, _, _, _, _, _, _, _, _, _, rfl, ?_, hu, hv⟩, he⟩
  rw [Int.gcd_zero_right]; exact hh
theorem bezout_s (x y : Value) (a b : Int) (w : World) (hx : IntV w x a) (hy : IntV w y b) (ha : Fits a 1000) (hb : Fits b 1000) (hb0 : b ≠ 0) :
    Calls Tryz.prog 35 #[x, y] w fun e w' => (∃ sh ah nh ch au nu cu sv av nv cv u v, e = .returned (.tuple #[.agg #[.bool sh, .slice ah nh ch], .agg #[.bool false, .slice au nu cu], .agg #[.bool sv, .slice av nv cv]]) ∧ IntW w' sh ah nh ch ((Int.gcd a b : Nat) : Int) ∧ IntW w' false au nu cu u ∧ IntW w' sv av nv cv v ∧ BezRes a b ((Int.gcd a b : Nat) : Int) u v) ∧ Ext w w' := by
  refine (bezout_any x y a b w hx hy ha hb hb0).mono ?_
  rintro e w' ⟨⟨g, u, v, gi, ui, vi, rfl, ⟨sh, ah, nh, ch, rfl, hh⟩, ⟨su, au, nu, cu, rfl, hu⟩, ⟨sv, av, nv, cv, rfl, hv⟩, hres⟩, he⟩
  obtain rfl : gi = ((Int.gcd a b : Nat) : Int) := hres.1
  have : su = false := by rw [hu.1]; simp; exact hres.2.2.1
  subst this
  exact ⟨⟨_, _, _, _, _, _, _, _, _, _, _, _, _, rfl, hh, hu, hv, hres⟩, he⟩
theorem bez_fits_u {a b g u v : Int} {k : Nat} (h : BezRes a b g u v) (hb : Fits b k) : Fits u k :=
  fits_le hb (by have h1 := h.2.2.1; have h2 := h.2.2.2; have := Int.natAbs_ediv_le_natAbs b g; omega)
theorem bez_fits_v {a b g g' u v : Int} (h : BezRes a b g u v) (hb0 : b ≠ 0) (ha : Fits a 10) (hg : Fits g' 10) (hb : Fits b 10) : Fits v 20 := by
  have h1 : v * b = g - u * a := by have := h.2.1; omega
  have h4 : g ∣ b := by rw [h.1]; exact Int.gcd_dvd_right ..
  have hg' : g.natAbs ≤ b.natAbs := Nat.le_of_dvd (by omega) (Int.natAbs_dvd_natAbs.2 h4)
  have hu' : u.natAbs ≤ b.natAbs := by
    have h1 := h.2.2.1
    have h2 := h.2.2.2
    have := Int.natAbs_ediv_le_natAbs b g
    omega
  have h3 : v.natAbs * b.natAbs = (g - u * a).natAbs := by rw [← Int.natAbs_mul, h1]
  have h6 : (g - u * a).natAbs ≤ g.natAbs + u.natAbs * a.natAbs := by
    have := Int.natAbs_sub_le g (u * a)
    rwa [Int.natAbs_mul] at this
  have h7 : u.natAbs * a.natAbs ≤ b.natAbs * a.natAbs := Nat.mul_le_mul_right _ hu'
  have h8 : b.natAbs * v.natAbs ≤ b.natAbs * (1 + a.natAbs) := by
    rw [Nat.mul_add, Nat.mul_one, Nat.mul_comm, h3]; omega
  have h9 := Nat.le_of_mul_le_mul_left h8 (by omega)
  have h10 : Fits ((a.natAbs : Int) + 1) 11 := (fits_abs ha).add (fits_small (by decide) (by omega))
  exact (fits_le h10 (by omega)).mono (by omega)
theorem bez_comb0 {a b g : Int} (hg : g = ((Int.gcd a b : Nat) : Int)) (hb : b = 0) : sgn a 0 * a + 0 * b = g := by
  rw [hg, hb, Int.gcd_zero_right, Int.mul_zero, Int.add_zero]
  rcases sgn_cases a 0 with ⟨h, e⟩ | ⟨h, e⟩ | ⟨h, e⟩ <;> rw [e] <;> omega
theorem bez_comb {a b g u v : Int} (hg : g = ((Int.gcd a b : Nat) : Int)) (h : BezRes a b ((Int.gcd a b : Nat) : Int) u v) : u * a + v * b = g := by rw [hg]; exact h.2.1
theorem bez_lt {a b g u v : Int} (hg : g = ((Int.gcd a b : Nat) : Int)) (h : BezRes a b ((Int.gcd a b : Nat) : Int) u v) (hb : b ≠ 0) : sgn u ((b.natAbs : Int) / g) = -1 := by
  have h2 := h.2.2.2
  rw [← hg] at h2
  obtain ⟨k, hk⟩ : g ∣ b := by rw [hg]; exact Int.gcd_dvd_right ..
  have hg0 : g ≠ 0 := by
    intro e
    rw [e, Int.zero_mul] at hk
    exact hb hk
  have hgp : 0 ≤ g := by rw [hg]; omega
  have h3 : (b.natAbs : Int) / g = k.natAbs := by
    rw [hk, Int.natAbs_mul, Int.natCast_mul, Int.natAbs_of_nonneg hgp, Int.mul_ediv_cancel_left _ hg0]
  have h4 : b / g = k := by rw [hk, Int.mul_ediv_cancel_left _ hg0]
  rw [h4] at h2
  rw [h3]
  exact sgn_lt h2
structure divisors_zeroA (w3 : World) (nx : Bool) (ax : Option Addr) (kx : Nat) (cx : Nat) (s3_0 : Bool) (a3_0 : Option Addr) (n3_0 : Nat) (c3_0 : Nat) (z1 : Int) (z3 : Int) (L : Nat → Bool) (y : Nat → Value) (w : World) : Prop where
  e : Ext w3 w
  f0 : L 0 = true → y 23 = .agg #[.bool nx, .slice ax kx cx]
  f1 : L 1 = true → IntV w (y 24) z1
  f2 : L 2 = true → y 25 = .agg #[.bool s3_0, .slice a3_0 n3_0 c3_0]
  f3 : L 3 = true → IntV w (y 26) z3
  f4 : L 4 = true → RoomI w (y 9) w3.heap.size
  f5 : L 5 = true → AtI w (y 9) w3.heap.size z3
  c5 : L 5 = true → L 4 = true
theorem divisors_zeroA.ext {w3 : World} {nx : Bool} {ax : Option Addr} {kx : Nat} {cx : Nat} {s3_0 : Bool} {a3_0 : Option Addr} {n3_0 : Nat} {c3_0 : Nat} {z1 : Int} {z3 : Int} {L : Nat → Bool} {y : Nat → Value} {w w1 : World} (h : divisors_zeroA w3 nx ax kx cx s3_0 a3_0 n3_0 c3_0 z1 z3 L y w) (he : Ext w w1) : divisors_zeroA w3 nx ax kx cx s3_0 a3_0 n3_0 c3_0 z1 z3 L y w1 :=
  ⟨h.e.trans he, h.f0, fun k => (h.f1 k).ext he, h.f2, fun k => (h.f3 k).ext he, fun k => (h.f4 k).ext he, fun k => (h.f5 k).ext he, h.c5⟩
structure divisors_zeroB (w3 : World) (ny : Bool) (ay : Option Addr) (ky : Nat) (cy : Nat) (s3_0 : Bool) (a3_0 : Option Addr) (n3_0 : Nat) (c3_0 : Nat) (z1 : Int) (z3 : Int) (L : Nat → Bool) (y : Nat → Value) (w : World) : Prop where
  e : Ext w3 w
  f0 : L 0 = true → y 27 = .agg #[.bool ny, .slice ay ky cy]
  f1 : L 1 = true → IntV w (y 28) z1
  f2 : L 2 = true → y 29 = .agg #[.bool s3_0, .slice a3_0 n3_0 c3_0]
  f3 : L 3 = true → IntV w (y 30) z3
  f4 : L 4 = true → RoomI w (y 10) w3.heap.size
  f5 : L 5 = true → AtI w (y 10) w3.heap.size z3
  c5 : L 5 = true → L 4 = true
theorem divisors_zeroB.ext {w3 : World} {ny : Bool} {ay : Option Addr} {ky : Nat} {cy : Nat} {s3_0 : Bool} {a3_0 : Option Addr} {n3_0 : Nat} {c3_0 : Nat} {z1 : Int} {z3 : Int} {L : Nat → Bool} {y : Nat → Value} {w w1 : World} (h : divisors_zeroB w3 ny ay ky cy s3_0 a3_0 n3_0 c3_0 z1 z3 L y w) (he : Ext w w1) : divisors_zeroB w3 ny ay ky cy s3_0 a3_0 n3_0 c3_0 z1 z3 L y w1 :=
  ⟨h.e.trans he, h.f0, fun k => (h.f1 k).ext he, h.f2, fun k => (h.f3 k).ext he, fun k => (h.f4 k).ext he, fun k => (h.f5 k).ext he, h.c5⟩
structure divisors_someA (w3 : World) (nx : Bool) (ax : Option Addr) (kx : Nat) (cx : Nat) (s3_0 : Bool) (a3_0 : Option Addr) (n3_0 : Nat) (c3_0 : Nat) (z1 : Int) (z3 : Int) (L : Nat → Bool) (y : Nat → Value) (w : World) : Prop where
  e : Ext w3 w
  f0 : L 0 = true → y 23 = .agg #[.bool nx, .slice ax kx cx]
  f1 : L 1 = true → IntV w (y 24) z1
  f2 : L 2 = true → y 25 = .agg #[.bool s3_0, .slice a3_0 n3_0 c3_0]
  f3 : L 3 = true → IntV w (y 26) z3
  f4 : L 4 = true → RoomI w (y 9) w3.heap.size
  f5 : L 5 = true → AtI w (y 9) w3.heap.size z3
  c5 : L 5 = true → L 4 = true
theorem divisors_someA.ext {w3 : World} {nx : Bool} {ax : Option Addr} {kx : Nat} {cx : Nat} {s3_0 : Bool} {a3_0 : Option Addr} {n3_0 : Nat} {c3_0 : Nat} {z1 : Int} {z3 : Int} {L : Nat → Bool} {y : Nat → Value} {w w1 : World} (h : divisors_someA w3 nx ax kx cx s3_0 a3_0 n3_0 c3_0 z1 z3 L y w) (he : Ext w w1) : divisors_someA w3 nx ax kx cx s3_0 a3_0 n3_0 c3_0 z1 z3 L y w1 :=
  ⟨h.e.trans he, h.f0, fun k => (h.f1 k).ext he, h.f2, fun k => (h.f3 k).ext he, fun k => (h.f4 k).ext he, fun k => (h.f5 k).ext he, h.c5⟩
structure divisors_someB (w3 : World) (ny : Bool) (ay : Option Addr) (ky : Nat) (cy : Nat) (s3_0 : Bool) (a3_0 : Option Addr) (n3_0 : Nat) (c3_0 : Nat) (z1 : Int) (z3 : Int) (L : Nat → Bool) (y : Nat → Value) (w : World) : Prop where
  e : Ext w3 w
  f0 : L 0 = true → y 27 = .agg #[.bool ny, .slice ay ky cy]
  f1 : L 1 = true → IntV w (y 28) z1
  f2 : L 2 = true → y 29 = .agg #[.bool s3_0, .slice a3_0 n3_0 c3_0]
  f3 : L 3 = true → IntV w (y 30) z3
  f4 : L 4 = true → RoomI w (y 10) w3.heap.size
  f5 : L 5 = true → AtI w (y 10) w3.heap.size z3
  c5 : L 5 = true → L 4 = true
theorem divisors_someB.ext {w3 : World} {ny : Bool} {ay : Option Addr} {ky : Nat} {cy : Nat} {s3_0 : Bool} {a3_0 : Option Addr} {n3_0 : Nat} {c3_0 : Nat} {z1 : Int} {z3 : Int} {L : Nat → Bool} {y : Nat → Value} {w w1 : World} (h : divisors_someB w3 ny ay ky cy s3_0 a3_0 n3_0 c3_0 z1 z3 L y w) (he : Ext w w1) : divisors_someB w3 ny ay ky cy s3_0 a3_0 n3_0 c3_0 z1 z3 L y w1 :=
  ⟨h.e.trans he, h.f0, fun k => (h.f1 k).ext he, h.f2, fun k => (h.f3 k).ext he, fun k => (h.f4 k).ext he, fun k => (h.f5 k).ext he, h.c5⟩
set_option maxRecDepth 100000 in
set_option maxHeartbeats 8000000 in
theorem divisors_zero (nx : Bool) (ax : Option Addr) (kx cx : Nat) (lx : List Int) (p : Int) (ep : p = rawZ nx lx 6) (ny : Bool) (ay : Option Addr) (ky cy : Nat) (ly : List Int) (q : Int) (eq : q = rawZ ny ly 6) (nz : Bool) (az : Option Addr) (kz cz : Nat) (lz : List Int) (c : Int) (ec : c = rawZ nz lz 4) (w : World) (hx : Words w ax kx cx lx) (hy : Words w ay ky cy ly) (hz : Words w az kz cz lz) (hb0 : q * c = 0) :
    Calls Tryz.prog 12 #[.agg #[.bool nx, .slice ax kx cx], .agg #[.bool ny, .slice ay ky cy], .agg #[.bool nz, .slice az kz cz]] w fun e w' => e = .returned (.bool true) ∧ Ext w w' := by
  have E_p := Lib.hid ep
  have HWx := Lib.hid hx
  clear ep hx
  have E_q := Lib.hid eq
  have HWy := Lib.hid hy
  clear eq hy
  have E_c := Lib.hid ec
  have HWz := Lib.hid hz
  clear ec hz
  have HB0 : Hid (q * c = 0) := Lib.hid hb0
  clear hb0
  obtain ⟨B0, w0, hB0, hw0, hr0, hr1, hr2, x0⟩ := three w 25 25 25 [.bool nx, .slice ax kx cx] [.bool ny, .slice ay ky cy] [.bool nz, .slice az kz cz]
  have HF2 : Hid (Fits (c) 4) := Lib.hid (by rw [E_c.out]; exact fits_raw (HWz.out.wf) (by omega))
  have HF6 : Hid (Fits (p) 6) := Lib.hid (by rw [E_p.out]; exact fits_raw (HWx.out.wf) (by omega))
  have HF7 : Hid (Fits (p * c) 10) := Lib.hid (Fits.mul HF6.out HF2.out)
  have HF9 : Hid (Fits (q) 6) := Lib.hid (by rw [E_q.out]; exact fits_raw (HWy.out.wf) (by omega))
  have HF10 : Hid (Fits (q * c) 10) := Lib.hid (Fits.mul HF9.out HF2.out)
  have KB3 : Hid (∀ W, Ext w0 W → W.cell? ⟨B0, 0, none⟩ = some (.bool nx) ∧ W.cell? ⟨B0, 1, none⟩ = some (.slice ax kx cx)) := Lib.hid fun W h => ⟨h.cell (hr0.cell (i := 0) rfl), h.cell (hr0.cell (i := 1) rfl)⟩
  have KB4 : Hid (∀ W, Ext w0 W → W.cell? ⟨B0 + 1, 0, none⟩ = some (.bool ny) ∧ W.cell? ⟨B0 + 1, 1, none⟩ = some (.slice ay ky cy)) := Lib.hid fun W h => ⟨h.cell (hr1.cell (i := 0) rfl), h.cell (hr1.cell (i := 1) rfl)⟩
  have KB5 : Hid (∀ W, Ext w0 W → W.cell? ⟨B0 + 1 + 1, 0, none⟩ = some (.bool nz) ∧ W.cell? ⟨B0 + 1 + 1, 1, none⟩ = some (.slice az kz cz)) := Lib.hid fun W h => ⟨h.cell (hr2.cell (i := 0) rfl), h.cell (hr2.cell (i := 1) rfl)⟩
  clear hr0 hr1 hr2
  go_enter Tryz.func12, Tryz.ntmps12
  go_wp2_with fail
  rw [← hw0, ← hB0]
  clear hw0 hB0
  refine (sanity_any _).mono ?_
  rintro e w1 ⟨rfl, x1⟩
  obtain ⟨cc5_0_4, cc5_1_4⟩ := KB5.out w1 x1
  go_wp2_with fail
  clear cc5_0_4 cc5_1_4
  refine (Made_any nz az kz cz lz 4 c _ (HWz.out.ext (x0.trans x1)) (by omega) E_c.out).mono ?_
  rintro e w3 ⟨⟨v3_0, rfl, ⟨s3_0, a3_0, n3_0, c3_0, rfl, hi3_0⟩⟩, x3⟩
  have HV3_0 : Hid (IntV w3 (.agg #[.bool s3_0, .slice a3_0 n3_0 c3_0]) (c)) := Lib.hid ⟨_, _, _, _, rfl, hi3_0⟩
  clear hi3_0
  obtain ⟨D5, wb5, hD5, hw5, hb5_0, xb5⟩ := one w3 24 [.bool s3_0, .slice a3_0 n3_0 c3_0]
  have KB8 : Hid (∀ W, Ext wb5 W → W.cell? ⟨D5, 0, none⟩ = some (.bool s3_0) ∧ W.cell? ⟨D5, 1, none⟩ = some (.slice a3_0 n3_0 c3_0)) := Lib.hid fun W h => ⟨h.cell (hb5_0.cell (i := 0) rfl), h.cell (hb5_0.cell (i := 1) rfl)⟩
  clear hb5_0
  have hq5 := hw5.symm
  have hp5 := hD5.symm
  clear hw5 hD5
  go_wp2_with fail
  clear hq5 hp5
  refine wp_region_facts [23, 24, 25, 26, 9] (divisors_zeroA wb5 nx ax kx cx s3_0 a3_0 n3_0 c3_0 (p) (p * c)) (by kernel_rfl) (by kernel_rfl) ?_ ?_ ?_
  · intro y
    exact ⟨(Ext.refl _).drew, by simp, by simp, by simp, by simp, by simp, by simp, by simp⟩
  · intro Q
    refine AllF.cons rfl ?_ ?_
    · skip
      with_reducible refine StepF.dst (d := 23) (by kernel_rfl) (by kernel_rfl) ?_
      intro L y w hi hp h K hK
      simp only [putAll, List.foldl, Act.put, List.setIfInBounds_toArray, List.set_cons_zero, List.set_cons_succ] at hK ⊢
      have HK := Lib.hid hK
      clear hK
      obtain ⟨cc0, cc1⟩ := KB3.out w (((x1.trans x3).trans xb5).trans h.out.e)
      go_simp
      refine HK.out _ _ ?_
      have k := h.out
      exact ⟨k.e, fun _ => upd_eq, k.f1, k.f2, k.f3, k.f4, k.f5, k.c5⟩
    refine AllF.cons rfl ?_ ?_
    · skip
      with_reducible refine StepF.dst (d := 24) (by kernel_rfl) (by kernel_rfl) ?_
      intro L y w hi hp h K hK
      simp only [putAll, List.foldl, Act.put, List.setIfInBounds_toArray, List.set_cons_zero, List.set_cons_succ] at hK ⊢
      have HK := Lib.hid hK
      clear hK
      have g0 := h.out.f0 (hp.out 0 (by kernel_rfl))
      simp only [g0] at HK
      go_simp
      refine (Made_any nx ax kx cx lx 6 p _ ((HWx.out.ext (((x0.trans x1).trans x3).trans xb5)).ext h.out.e) (by omega) E_p.out).mono ?_
      rintro e w4 ⟨⟨v, rfl, hr⟩, he4⟩
      clear g0
      go_simp
      refine HK.out _ _ ?_
      have k := h.out.ext he4
      exact ⟨k.e, k.f0, fun _ => by rw [upd_eq]; exact hr, k.f2, k.f3, k.f4, k.f5, k.c5⟩
    refine AllF.cons rfl ?_ ?_
    · skip
      with_reducible refine StepF.dst (d := 25) (by kernel_rfl) (by kernel_rfl) ?_
      intro L y w hi hp h K hK
      simp only [putAll, List.foldl, Act.put, List.setIfInBounds_toArray, List.set_cons_zero, List.set_cons_succ] at hK ⊢
      have HK := Lib.hid hK
      clear hK
      obtain ⟨cc0, cc1⟩ := KB8.out w ((Ext.refl _).trans h.out.e)
      go_simp
      refine HK.out _ _ ?_
      have k := h.out
      exact ⟨k.e, k.f0, k.f1, fun _ => upd_eq, k.f3, k.f4, k.f5, k.c5⟩
    refine AllF.cons rfl ?_ ?_
    · skip
      with_reducible refine StepF.dst (d := 26) (by kernel_rfl) (by kernel_rfl) ?_
      intro L y w hi hp h K hK
      simp only [putAll, List.foldl, Act.put, List.setIfInBounds_toArray, List.set_cons_zero, List.set_cons_succ] at hK ⊢
      have HK := Lib.hid hK
      clear hK
      have g2 := h.out.f2 (hp.out 2 (by kernel_rfl))
      simp only [g2] at HK
      have g1 := h.out.f1 (hp.out 1 (by kernel_rfl))
      have G1 := Lib.hid g1
      clear g1
      go_simp
      refine (mul_any _ _ p c _ G1.out ((HV3_0.out.ext xb5).ext h.out.e) (HF6.out.mono (by omega)) (HF2.out.mono (by omega))).mono ?_
      rintro e w4 ⟨⟨v, rfl, hr⟩, he4⟩
      clear g2
      go_simp
      refine HK.out _ _ ?_
      have k := h.out.ext he4
      exact ⟨k.e, k.f0, k.f1, k.f2, fun _ => by rw [upd_eq]; exact hr, k.f4, k.f5, k.c5⟩
    refine AllF.cons rfl ?_ ?_
    · skip
      with_reducible refine StepF.dst (d := 9) (by kernel_rfl) (by kernel_rfl) ?_
      intro L y w hi hp h K hK
      simp only [putAll, List.foldl, Act.put, List.setIfInBounds_toArray, List.set_cons_zero, List.set_cons_succ] at hK ⊢
      have HK := Lib.hid hK
      clear hK
      go_simp
      refine HK.out _ _ ?_
      have k := h.out.ext ((Ext.refl w).alloc (.cells #[.bool false, .slice none 0 0] 24))
      exact ⟨k.e, k.f0, k.f1, k.f2, k.f3, fun _ => by rw [upd_eq]; exact roomI_new h.out.e, fun q => absurd (h.out.c5 q) (by rw [hi.out]; simp), fun _ => rfl⟩
    refine AllF.cons rfl ?_ ?_
    · skip
      with_reducible refine StepF.none ?_
      intro L y w hi hp h K hK
      simp only [putAll, List.foldl, Act.put, List.setIfInBounds_toArray, List.set_cons_zero, List.set_cons_succ] at hK ⊢
      have HK := Lib.hid hK
      clear hK
      obtain ⟨s8, a8, n8, c8, g8, h8⟩ := h.out.f3 (hp.out 3 (by kernel_rfl))
      have H8 := Lib.hid h8
      clear h8
      obtain ⟨P, s6, a6, n6, c6, g6, hb6, hm6⟩ := h.out.f4 (hp.out 4 (by kernel_rfl))
      simp only [g8, g6] at HK
      have HB6 := Lib.hid hb6
      have cc0 := hb6.cell (i := 0) rfl
      have cc1 := hb6.cell (i := 1) rfl
      have ff0 := hb6.free 0
      have ff1 := hb6.free 1
      clear hb6
      go_simp
      refine HK.out _ ?_
      have k := h.out
      have hs := stay_st2 HB6.out (.bool s8) (.slice a8 n8 c8)
      exact ⟨ext_st2 k.e hm6 _ _, k.f0, fun z => (k.f1 z).stay hs, k.f2, fun z => (k.f3 z).stay hs, fun _ => ⟨_, _, _, _, _, g6, Blk.st2 HB6.out _ _, hm6⟩, fun _ => ⟨_, _, _, _, _, g6, Blk.st2 HB6.out _ _, hm6, IntW.stay H8.out hs⟩, fun _ => hp.out 4 (by kernel_rfl)⟩
    exact trivial
  · intro L y wE8 hL h
    have xE8 := h.e
    obtain ⟨U8_5, s8_5, a8_5, n8_5, c8_5, ey8_5, hb8_5, hm8_5, hu8_5⟩ := h.f5 (hL 5 (by decide))
    have HV8_5 : Hid (IntV wE8 (.agg #[.bool s8_5, .slice a8_5 n8_5 c8_5]) (p * c)) := Lib.hid ⟨_, _, _, _, rfl, hu8_5⟩
    simp only [putAll, List.foldl, Act.put, List.setIfInBounds_toArray, List.set_cons_zero, List.set_cons_succ]
    simp only [ey8_5]
    clear hL h ey8_5 hu8_5 hm8_5
    have KB9 : Hid (∀ W, Ext wE8 W → W.cell? ⟨U8_5, 0, none⟩ = some (.bool s8_5) ∧ W.cell? ⟨U8_5, 1, none⟩ = some (.slice a8_5 n8_5 c8_5)) := Lib.hid fun W h => ⟨h.cell (hb8_5.cell (i := 0) rfl), h.cell (hb8_5.cell (i := 1) rfl)⟩
    clear hb8_5
    go_wp2_with fail
    refine wp_region_facts [27, 28, 29, 30, 10] (divisors_zeroB wE8 ny ay ky cy s3_0 a3_0 n3_0 c3_0 (q) (q * c)) (by kernel_rfl) (by kernel_rfl) ?_ ?_ ?_
    · intro y
      exact ⟨(Ext.refl _).drew, by simp, by simp, by simp, by simp, by simp, by simp, by simp⟩
    · intro Q
      refine AllF.cons rfl ?_ ?_
      · skip
        with_reducible refine StepF.dst (d := 27) (by kernel_rfl) (by kernel_rfl) ?_
        intro L y w hi hp h K hK
        simp only [putAll, List.foldl, Act.put, List.setIfInBounds_toArray, List.set_cons_zero, List.set_cons_succ] at hK ⊢
        have HK := Lib.hid hK
        clear hK
        obtain ⟨cc0, cc1⟩ := KB4.out w ((((x1.trans x3).trans xb5).trans xE8).trans h.out.e)
        go_simp
        refine HK.out _ _ ?_
        have k := h.out
        exact ⟨k.e, fun _ => upd_eq, k.f1, k.f2, k.f3, k.f4, k.f5, k.c5⟩
      refine AllF.cons rfl ?_ ?_
      · skip
        with_reducible refine StepF.dst (d := 28) (by kernel_rfl) (by kernel_rfl) ?_
        intro L y w hi hp h K hK
        simp only [putAll, List.foldl, Act.put, List.setIfInBounds_toArray, List.set_cons_zero, List.set_cons_succ] at hK ⊢
        have HK := Lib.hid hK
        clear hK
        have g0 := h.out.f0 (hp.out 0 (by kernel_rfl))
        simp only [g0] at HK
        go_simp
        refine (Made_any ny ay ky cy ly 6 q _ ((HWy.out.ext ((((x0.trans x1).trans x3).trans xb5).trans xE8)).ext h.out.e) (by omega) E_q.out).mono ?_
        rintro e w4 ⟨⟨v, rfl, hr⟩, he4⟩
        clear g0
        go_simp
        refine HK.out _ _ ?_
        have k := h.out.ext he4
        exact ⟨k.e, k.f0, fun _ => by rw [upd_eq]; exact hr, k.f2, k.f3, k.f4, k.f5, k.c5⟩
      refine AllF.cons rfl ?_ ?_
      · skip
        with_reducible refine StepF.dst (d := 29) (by kernel_rfl) (by kernel_rfl) ?_
        intro L y w hi hp h K hK
        simp only [putAll, List.foldl, Act.put, List.setIfInBounds_toArray, List.set_cons_zero, List.set_cons_succ] at hK ⊢
        have HK := Lib.hid hK
        clear hK
        obtain ⟨cc0, cc1⟩ := KB8.out w (xE8.trans h.out.e)
        go_simp
        refine HK.out _ _ ?_
        have k := h.out
        exact ⟨k.e, k.f0, k.f1, fun _ => upd_eq, k.f3, k.f4, k.f5, k.c5⟩
      refine AllF.cons rfl ?_ ?_
      · skip
        with_reducible refine StepF.dst (d := 30) (by kernel_rfl) (by kernel_rfl) ?_
        intro L y w hi hp h K hK
        simp only [putAll, List.foldl, Act.put, List.setIfInBounds_toArray, List.set_cons_zero, List.set_cons_succ] at hK ⊢
        have HK := Lib.hid hK
        clear hK
        have g2 := h.out.f2 (hp.out 2 (by kernel_rfl))
        simp only [g2] at HK
        have g1 := h.out.f1 (hp.out 1 (by kernel_rfl))
        have G1 := Lib.hid g1
        clear g1
        go_simp
        refine (mul_any _ _ q c _ G1.out ((HV3_0.out.ext (xb5.trans xE8)).ext h.out.e) (HF9.out.mono (by omega)) (HF2.out.mono (by omega))).mono ?_
        rintro e w4 ⟨⟨v, rfl, hr⟩, he4⟩
        clear g2
        go_simp
        refine HK.out _ _ ?_
        have k := h.out.ext he4
        exact ⟨k.e, k.f0, k.f1, k.f2, fun _ => by rw [upd_eq]; exact hr, k.f4, k.f5, k.c5⟩
      refine AllF.cons rfl ?_ ?_
      · skip
        with_reducible refine StepF.dst (d := 10) (by kernel_rfl) (by kernel_rfl) ?_
        intro L y w hi hp h K hK
        simp only [putAll, List.foldl, Act.put, List.setIfInBounds_toArray, List.set_cons_zero, List.set_cons_succ] at hK ⊢
        have HK := Lib.hid hK
        clear hK
        go_simp
        refine HK.out _ _ ?_
        have k := h.out.ext ((Ext.refl w).alloc (.cells #[.bool false, .slice none 0 0] 24))
        exact ⟨k.e, k.f0, k.f1, k.f2, k.f3, fun _ => by rw [upd_eq]; exact roomI_new h.out.e, fun q => absurd (h.out.c5 q) (by rw [hi.out]; simp), fun _ => rfl⟩
      refine AllF.cons rfl ?_ ?_
      · skip
        with_reducible refine StepF.none ?_
        intro L y w hi hp h K hK
        simp only [putAll, List.foldl, Act.put, List.setIfInBounds_toArray, List.set_cons_zero, List.set_cons_succ] at hK ⊢
        have HK := Lib.hid hK
        clear hK
        obtain ⟨s8, a8, n8, c8, g8, h8⟩ := h.out.f3 (hp.out 3 (by kernel_rfl))
        have H8 := Lib.hid h8
        clear h8
        obtain ⟨P, s6, a6, n6, c6, g6, hb6, hm6⟩ := h.out.f4 (hp.out 4 (by kernel_rfl))
        simp only [g8, g6] at HK
        have HB6 := Lib.hid hb6
        have cc0 := hb6.cell (i := 0) rfl
        have cc1 := hb6.cell (i := 1) rfl
        have ff0 := hb6.free 0
        have ff1 := hb6.free 1
        clear hb6
        go_simp
        refine HK.out _ ?_
        have k := h.out
        have hs := stay_st2 HB6.out (.bool s8) (.slice a8 n8 c8)
        exact ⟨ext_st2 k.e hm6 _ _, k.f0, fun z => (k.f1 z).stay hs, k.f2, fun z => (k.f3 z).stay hs, fun _ => ⟨_, _, _, _, _, g6, Blk.st2 HB6.out _ _, hm6⟩, fun _ => ⟨_, _, _, _, _, g6, Blk.st2 HB6.out _ _, hm6, IntW.stay H8.out hs⟩, fun _ => hp.out 4 (by kernel_rfl)⟩
      exact trivial
    · intro L y wE11 hL h
      have xE11 := h.e
      obtain ⟨U11_5, s11_5, a11_5, n11_5, c11_5, ey11_5, hb11_5, hm11_5, hu11_5⟩ := h.f5 (hL 5 (by decide))
      have HV11_5 : Hid (IntV wE11 (.agg #[.bool s11_5, .slice a11_5 n11_5 c11_5]) (q * c)) := Lib.hid ⟨_, _, _, _, rfl, hu11_5⟩
      simp only [putAll, List.foldl, Act.put, List.setIfInBounds_toArray, List.set_cons_zero, List.set_cons_succ]
      simp only [ey11_5]
      clear hL h ey11_5 hu11_5 hm11_5
      have KB10 : Hid (∀ W, Ext wE11 W → W.cell? ⟨U11_5, 0, none⟩ = some (.bool s11_5) ∧ W.cell? ⟨U11_5, 1, none⟩ = some (.slice a11_5 n11_5 c11_5)) := Lib.hid fun W h => ⟨h.cell (hb11_5.cell (i := 0) rfl), h.cell (hb11_5.cell (i := 1) rfl)⟩
      clear hb11_5
      have HBW := Lib.hid (intV_W2 HV11_5.out)
      obtain rfl : n11_5 = 0 := intW_len0 HBW.out HB0.out
      obtain ⟨g, hg⟩ : ∃ g, g = ((Int.gcd (p * c) (q * c) : Nat) : Int) := ⟨_, rfl⟩
      have HG := Lib.hid hg
      clear hg
      have HFG : Hid (Fits g 10) := Lib.hid (by rw [HG.out]; exact fits_gcd HF7.out HF10.out)
      obtain ⟨cc9_0_12, cc9_1_12⟩ := KB9.out wE11 xE11
      obtain ⟨cc10_0_13, cc10_1_13⟩ := KB10.out wE11 (Ext.refl _)
      go_wp2_with fail
      clear cc9_0_12 cc9_1_12 cc10_0_13 cc10_1_13
      refine (gcd_nn _ _ (p * c) (q * c) g _ (HV8_5.out.ext xE11) HV11_5.out (HF7.out.mono (by omega)) (HF10.out.mono (by omega)) HG.out).mono ?_
      rintro e w14 ⟨⟨ag, ng, cg, rfl, hi⟩, x14⟩
      have HVG : Hid (IntV w14 (.agg #[.bool false, .slice ag ng cg]) g) := Lib.hid ⟨_, _, _, _, rfl, hi⟩
      clear hi
      obtain ⟨D15, wb15, hD15, hw15, hb15_0, xb15⟩ := one w14 24 [.bool false, .slice ag ng cg]
      have KB11 : Hid (∀ W, Ext wb15 W → W.cell? ⟨D15, 0, none⟩ = some (.bool false) ∧ W.cell? ⟨D15, 1, none⟩ = some (.slice ag ng cg)) := Lib.hid fun W h => ⟨h.cell (hb15_0.cell (i := 0) rfl), h.cell (hb15_0.cell (i := 1) rfl)⟩
      clear hb15_0
      obtain ⟨cc9_0_16, cc9_1_16⟩ := KB9.out wb15 ((xE11.trans x14).trans xb15)
      obtain ⟨cc10_0_17, cc10_1_17⟩ := KB10.out wb15 (x14.trans xb15)
      have hq15 := hw15.symm
      have hp15 := hD15.symm
      clear hw15 hD15
      go_wp2_with fail
      clear hq15 hp15
      clear cc9_0_16 cc9_1_16 cc10_0_17 cc10_1_17
      refine (bezout_z _ _ (p * c) (q * c) _ (HV8_5.out.ext ((xE11.trans x14).trans xb15)) (HV11_5.out.ext (x14.trans xb15)) (HF7.out.mono (by omega)) HB0.out).mono ?_
      rintro e w18 ⟨⟨sh, ah, nh, ch, su, au, nu, cu, av, cv, rfl, hh, hu, hv⟩, x18⟩
      have HVH : Hid (IntV w18 (.agg #[.bool sh, .slice ah nh ch]) g) := Lib.hid (by rw [HG.out]; exact ⟨_, _, _, _, rfl, hh⟩)
      have HVU : Hid (IntV w18 (.agg #[.bool su, .slice au nu cu]) (sgn (p * c) 0)) := Lib.hid ⟨_, _, _, _, rfl, hu⟩
      have HVV : Hid (IntV w18 (.agg #[.bool false, .slice av 0 cv]) (0)) := Lib.hid ⟨_, _, _, _, rfl, hv⟩
      clear hh hu hv
      have HFU : Hid (Fits (sgn (p * c) 0) 1) := Lib.hid (fits_small (by have := sgn_bd (p * c) 0; omega) (by omega))
      have HFV : Hid (Fits 0 1) := Lib.hid (fits_small (by decide) (by omega))
      obtain ⟨D19, wb19, hD19, hw19, hb19_0, hb19_1, hb19_2, xb19⟩ := three w18 24 24 24 [.bool sh, .slice ah nh ch] [.bool su, .slice au nu cu] [.bool false, .slice av 0 cv]
      have KB12 : Hid (∀ W, Ext wb19 W → W.cell? ⟨D19, 0, none⟩ = some (.bool sh) ∧ W.cell? ⟨D19, 1, none⟩ = some (.slice ah nh ch)) := Lib.hid fun W h => ⟨h.cell (hb19_0.cell (i := 0) rfl), h.cell (hb19_0.cell (i := 1) rfl)⟩
      have KB13 : Hid (∀ W, Ext wb19 W → W.cell? ⟨D19 + 1, 0, none⟩ = some (.bool su) ∧ W.cell? ⟨D19 + 1, 1, none⟩ = some (.slice au nu cu)) := Lib.hid fun W h => ⟨h.cell (hb19_1.cell (i := 0) rfl), h.cell (hb19_1.cell (i := 1) rfl)⟩
      have KB14 : Hid (∀ W, Ext wb19 W → W.cell? ⟨D19 + 1 + 1, 0, none⟩ = some (.bool false) ∧ W.cell? ⟨D19 + 1 + 1, 1, none⟩ = some (.slice av 0 cv)) := Lib.hid fun W h => ⟨h.cell (hb19_2.cell (i := 0) rfl), h.cell (hb19_2.cell (i := 1) rfl)⟩
      clear hb19_0 hb19_1 hb19_2
      have HFN : Hid (Fits (-(p * c)) 10) := Lib.hid (Fits.neg HF7.out)
      have HGN : Hid (g = ((Int.gcd (q * c) (-(p * c)) : Nat) : Int)) := Lib.hid (by rw [HG.out, Int.gcd_neg, Int.gcd_comm])
      have HGA : Hid (g ∣ p * c) := Lib.hid (by rw [HG.out]; exact Int.gcd_dvd_left ..)
      have HGB : Hid (g ∣ q * c) := Lib.hid (by rw [HG.out]; exact Int.gcd_dvd_right ..)
      have HCG : Hid (c ∣ g) := Lib.hid (by rw [HG.out]; exact Int.dvd_coe_gcd (Int.dvd_mul_left ..) (Int.dvd_mul_left ..))
      have KX20 : Hid (∀ w', Ext wb19 w' → w'.cell? ⟨D15, 0, none⟩ = some (.bool false) ∧ w'.cell? ⟨D15, 1, none⟩ = some (.slice ag ng cg) ∧ w'.cell? ⟨D19, 0, none⟩ = some (.bool sh) ∧ w'.cell? ⟨D19, 1, none⟩ = some (.slice ah nh ch) ∧ w'.cell? ⟨U11_5, 0, none⟩ = some (.bool s11_5) ∧ w'.cell? ⟨U11_5, 1, none⟩ = some (.slice a11_5 0 c11_5) ∧ w'.cell? ⟨U8_5, 0, none⟩ = some (.bool s8_5) ∧ w'.cell? ⟨U8_5, 1, none⟩ = some (.slice a8_5 n8_5 c8_5) ∧ w'.cell? ⟨D5, 0, none⟩ = some (.bool s3_0) ∧ w'.cell? ⟨D5, 1, none⟩ = some (.slice a3_0 n3_0 c3_0)) := Lib.hid fun w' h => by
        have q11 := KB11.out w' ((x18.trans xb19).trans h)
        have q12 := KB12.out w' ((Ext.refl _).trans h)
        have q10 := KB10.out w' ((((x14.trans xb15).trans x18).trans xb19).trans h)
        have q9 := KB9.out w' (((((xE11.trans x14).trans xb15).trans x18).trans xb19).trans h)
        have q8 := KB8.out w' ((((((xE8.trans xE11).trans x14).trans xb15).trans x18).trans xb19).trans h)
        exact ⟨q11.1, q11.2, q12.1, q12.2, q10.1, q10.2, q9.1, q9.2, q8.1, q8.2⟩
      have hq19 := hw19.symm
      have hp19 := hD19.symm
      clear hw19 hD19
      go_wp2_with fail
      clear hq19 hp19
      have hz20 := Below.drewExt wb19
      go_region_held3
        (fun w' => w'.cell? ⟨D15, 0, none⟩ = some (.bool false) ∧ w'.cell? ⟨D15, 1, none⟩ = some (.slice ag ng cg) ∧ w'.cell? ⟨D19, 0, none⟩ = some (.bool sh) ∧ w'.cell? ⟨D19, 1, none⟩ = some (.slice ah nh ch) ∧ w'.cell? ⟨U11_5, 0, none⟩ = some (.bool s11_5) ∧ w'.cell? ⟨U11_5, 1, none⟩ = some (.slice a11_5 0 c11_5) ∧ w'.cell? ⟨U8_5, 0, none⟩ = some (.bool s8_5) ∧ w'.cell? ⟨U8_5, 1, none⟩ = some (.slice a8_5 n8_5 c8_5) ∧ w'.cell? ⟨D5, 0, none⟩ = some (.bool s3_0) ∧ w'.cell? ⟨D5, 1, none⟩ = some (.slice a3_0 n3_0 c3_0))
        (with_reducible exact KX20.out _ (by assumption))
        (first
        | (go_at_call 20; (with_reducible refine (rvalid_any _ (g) _ (HVG.out.ext (((xb15.trans x18).trans xb19).trans hz20))).mono ?_); rintro e w21 ⟨rfl, x21⟩; have hz21 := hz20.trans x21)
        | (go_at_call 21; (with_reducible refine (same_eq _ _ (g) (g) _ (HVG.out.ext ((((xb15.trans x18).trans xb19).trans hz20).trans x21)) (HVH.out.ext ((xb19.trans hz20).trans x21)) (Eq.refl _)).mono ?_); rintro e w22 ⟨rfl, x22⟩; have hz22 := hz21.trans x22)
        | (go_at_call 22; (with_reducible refine (neg_any _ (p * c) _ (HV8_5.out.ext (((((((xE11.trans x14).trans xb15).trans x18).trans xb19).trans hz20).trans x21).trans x22)) (HF7.out.mono (by omega))).mono ?_); rintro e w23 ⟨⟨v23_0, rfl, hv23_0⟩, x23⟩; have hz23 := hz22.trans x23)
        | (go_at_call 38; (with_reducible refine (gcd_is _ _ (q * c) (-(p * c)) g _ (HV11_5.out.ext (((((((x14.trans xb15).trans x18).trans xb19).trans hz20).trans x21).trans x22).trans x23)) hv23_0 (HF10.out.mono (by omega)) (HFN.out.mono (by omega)) HGN.out).mono ?_); rintro e w24 ⟨⟨v24_0, rfl, hv24_0⟩, x24⟩; have hz24 := hz23.trans x24)
        | (go_at_call 21; (with_reducible refine (same_eq _ _ (g) (g) _ hv24_0 (HVG.out.ext (((((((xb15.trans x18).trans xb19).trans hz20).trans x21).trans x22).trans x23).trans x24)) (Eq.refl _)).mono ?_); rintro e w25 ⟨rfl, x25⟩; have hz25 := hz24.trans x25)
        | (go_at_call 48; (with_reducible refine (divides_true _ _ (g) (p * c) _ (HVG.out.ext ((((((((xb15.trans x18).trans xb19).trans hz20).trans x21).trans x22).trans x23).trans x24).trans x25)) (HV8_5.out.ext ((((((((((xE11.trans x14).trans xb15).trans x18).trans xb19).trans hz20).trans x21).trans x22).trans x23).trans x24).trans x25)) (HF7.out.mono (by omega)) (HFG.out.mono (by omega)) HGA.out).mono ?_); rintro e w26 ⟨rfl, x26⟩; have hz26 := hz25.trans x26)
        | (go_at_call 48; (with_reducible refine (divides_true _ _ (g) (q * c) _ (HVG.out.ext (((((((((xb15.trans x18).trans xb19).trans hz20).trans x21).trans x22).trans x23).trans x24).trans x25).trans x26)) (HV11_5.out.ext ((((((((((x14.trans xb15).trans x18).trans xb19).trans hz20).trans x21).trans x22).trans x23).trans x24).trans x25).trans x26)) (HF10.out.mono (by omega)) (HFG.out.mono (by omega)) HGB.out).mono ?_); rintro e w27 ⟨rfl, x27⟩; have hz27 := hz26.trans x27)
        | (go_at_call 48; (with_reducible refine (divides_true _ _ (c) (g) _ (HV3_0.out.ext ((((((((((((((xb5.trans xE8).trans xE11).trans x14).trans xb15).trans x18).trans xb19).trans hz20).trans x21).trans x22).trans x23).trans x24).trans x25).trans x26).trans x27)) (HVG.out.ext ((((((((((xb15.trans x18).trans xb19).trans hz20).trans x21).trans x22).trans x23).trans x24).trans x25).trans x26).trans x27)) (HFG.out.mono (by omega)) (HF2.out.mono (by omega)) HCG.out).mono ?_); rintro e w28 ⟨rfl, x28⟩; have hz28 := hz27.trans x28)
        )
      clear KX20
      have HCOMB : Hid ((sgn (p * c) 0) * (p * c) + 0 * (q * c) = g) := Lib.hid (bez_comb0 HG.out HB0.out)
      have HM1 : Hid (Fits ((sgn (p * c) 0) * (p * c)) 11) := Lib.hid (Fits.mul HFU.out HF7.out)
      have HM2 : Hid (Fits ((0) * (q * c)) 11) := Lib.hid (Fits.mul HFV.out HF10.out)
      have KX29 : Hid (∀ w', Ext w28 w' → w'.cell? ⟨D19 + 1, 0, none⟩ = some (.bool su) ∧ w'.cell? ⟨D19 + 1, 1, none⟩ = some (.slice au nu cu) ∧ w'.cell? ⟨U8_5, 0, none⟩ = some (.bool s8_5) ∧ w'.cell? ⟨U8_5, 1, none⟩ = some (.slice a8_5 n8_5 c8_5) ∧ w'.cell? ⟨D19 + 1 + 1, 0, none⟩ = some (.bool false) ∧ w'.cell? ⟨D19 + 1 + 1, 1, none⟩ = some (.slice av 0 cv) ∧ w'.cell? ⟨U11_5, 0, none⟩ = some (.bool s11_5) ∧ w'.cell? ⟨U11_5, 1, none⟩ = some (.slice a11_5 0 c11_5) ∧ w'.cell? ⟨D15, 0, none⟩ = some (.bool false) ∧ w'.cell? ⟨D15, 1, none⟩ = some (.slice ag ng cg)) := Lib.hid fun w' h => by
        have q13 := KB13.out w' (((((((((hz20.trans x21).trans x22).trans x23).trans x24).trans x25).trans x26).trans x27).trans x28).trans h)
        have q9 := KB9.out w' ((((((((((((((xE11.trans x14).trans xb15).trans x18).trans xb19).trans hz20).trans x21).trans x22).trans x23).trans x24).trans x25).trans x26).trans x27).trans x28).trans h)
        have q14 := KB14.out w' (((((((((hz20.trans x21).trans x22).trans x23).trans x24).trans x25).trans x26).trans x27).trans x28).trans h)
        have q10 := KB10.out w' (((((((((((((x14.trans xb15).trans x18).trans xb19).trans hz20).trans x21).trans x22).trans x23).trans x24).trans x25).trans x26).trans x27).trans x28).trans h)
        have q11 := KB11.out w' (((((((((((x18.trans xb19).trans hz20).trans x21).trans x22).trans x23).trans x24).trans x25).trans x26).trans x27).trans x28).trans h)
        exact ⟨q13.1, q13.2, q9.1, q9.2, q14.1, q14.2, q10.1, q10.2, q11.1, q11.2⟩
      go_wp2_with fail
      have hz29 := Below.drewExt w28
      go_region_held3
        (fun w' => w'.cell? ⟨D19 + 1, 0, none⟩ = some (.bool su) ∧ w'.cell? ⟨D19 + 1, 1, none⟩ = some (.slice au nu cu) ∧ w'.cell? ⟨U8_5, 0, none⟩ = some (.bool s8_5) ∧ w'.cell? ⟨U8_5, 1, none⟩ = some (.slice a8_5 n8_5 c8_5) ∧ w'.cell? ⟨D19 + 1 + 1, 0, none⟩ = some (.bool false) ∧ w'.cell? ⟨D19 + 1 + 1, 1, none⟩ = some (.slice av 0 cv) ∧ w'.cell? ⟨U11_5, 0, none⟩ = some (.bool s11_5) ∧ w'.cell? ⟨U11_5, 1, none⟩ = some (.slice a11_5 0 c11_5) ∧ w'.cell? ⟨D15, 0, none⟩ = some (.bool false) ∧ w'.cell? ⟨D15, 1, none⟩ = some (.slice ag ng cg))
        (with_reducible exact KX29.out _ (by assumption))
        (first
        | (go_at_call 18; (with_reducible refine (mul_any _ _ (sgn (p * c) 0) (p * c) _ (HVU.out.ext ((((((((((xb19.trans hz20).trans x21).trans x22).trans x23).trans x24).trans x25).trans x26).trans x27).trans x28).trans hz29)) (HV8_5.out.ext ((((((((((((((xE11.trans x14).trans xb15).trans x18).trans xb19).trans hz20).trans x21).trans x22).trans x23).trans x24).trans x25).trans x26).trans x27).trans x28).trans hz29)) (HFU.out.mono (by omega)) (HF7.out.mono (by omega))).mono ?_); rintro e w30 ⟨⟨v30_0, rfl, hv30_0⟩, x30⟩; have hz30 := hz29.trans x30)
        | (go_at_call 18; (with_reducible refine (mul_any _ _ (0) (q * c) _ (HVV.out.ext (((((((((((xb19.trans hz20).trans x21).trans x22).trans x23).trans x24).trans x25).trans x26).trans x27).trans x28).trans hz29).trans x30)) (HV11_5.out.ext ((((((((((((((x14.trans xb15).trans x18).trans xb19).trans hz20).trans x21).trans x22).trans x23).trans x24).trans x25).trans x26).trans x27).trans x28).trans hz29).trans x30)) (HFV.out.mono (by omega)) (HF10.out.mono (by omega))).mono ?_); rintro e w31 ⟨⟨v31_0, rfl, hv31_0⟩, x31⟩; have hz31 := hz30.trans x31)
        | (go_at_call 17; (with_reducible refine (add_any _ _ _ _ _ (hv30_0.ext x31) hv31_0 (HM1.out.mono (by omega)) (HM2.out.mono (by omega))).mono ?_); rintro e w32 ⟨⟨v32_0, rfl, hv32_0⟩, x32⟩; have hz32 := hz31.trans x32)
        | (go_at_call 21; (with_reducible refine (same_eq _ _ _ (g) _ hv32_0 (HVG.out.ext (((((((((((((((xb15.trans x18).trans xb19).trans hz20).trans x21).trans x22).trans x23).trans x24).trans x25).trans x26).trans x27).trans x28).trans hz29).trans x30).trans x31).trans x32)) HCOMB.out).mono ?_); rintro e w33 ⟨rfl, x33⟩; have hz33 := hz32.trans x33)
        )
      clear KX29
      obtain ⟨cc10_0_34, cc10_1_34⟩ := KB10.out w33 (((((((((((((((((x14.trans xb15).trans x18).trans xb19).trans hz20).trans x21).trans x22).trans x23).trans x24).trans x25).trans x26).trans x27).trans x28).trans hz29).trans x30).trans x31).trans x32).trans x33)
      have HS0 : Hid (-9223372036854775808 ≤ sgn (p * c) 0) := Lib.hid (by have := sgn_bd (p * c) 0; omega)
      have HS1 : Hid (sgn (p * c) 0 < 9223372036854775808) := Lib.hid (by have := sgn_bd (p * c) 0; omega)
      have KX35 : Hid (∀ w', Ext w33 w' → w'.cell? ⟨D19 + 1, 0, none⟩ = some (.bool su) ∧ w'.cell? ⟨D19 + 1, 1, none⟩ = some (.slice au nu cu) ∧ w'.cell? ⟨U8_5, 0, none⟩ = some (.bool s8_5) ∧ w'.cell? ⟨U8_5, 1, none⟩ = some (.slice a8_5 n8_5 c8_5) ∧ w'.cell? ⟨D19 + 1 + 1, 0, none⟩ = some (.bool false) ∧ w'.cell? ⟨D19 + 1 + 1, 1, none⟩ = some (.slice av 0 cv)) := Lib.hid fun w' h => by
        have q13 := KB13.out w' ((((((((((((((hz20.trans x21).trans x22).trans x23).trans x24).trans x25).trans x26).trans x27).trans x28).trans hz29).trans x30).trans x31).trans x32).trans x33).trans h)
        have q9 := KB9.out w' (((((((((((((((((((xE11.trans x14).trans xb15).trans x18).trans xb19).trans hz20).trans x21).trans x22).trans x23).trans x24).trans x25).trans x26).trans x27).trans x28).trans hz29).trans x30).trans x31).trans x32).trans x33).trans h)
        have q14 := KB14.out w' ((((((((((((((hz20.trans x21).trans x22).trans x23).trans x24).trans x25).trans x26).trans x27).trans x28).trans hz29).trans x30).trans x31).trans x32).trans x33).trans h)
        exact ⟨q13.1, q13.2, q9.1, q9.2, q14.1, q14.2⟩
      go_wp2_with fail
      clear cc10_0_34 cc10_1_34
      have hz35 := Below.drewExt w33
      go_region_held3
        (fun w' => w'.cell? ⟨D19 + 1, 0, none⟩ = some (.bool su) ∧ w'.cell? ⟨D19 + 1, 1, none⟩ = some (.slice au nu cu) ∧ w'.cell? ⟨U8_5, 0, none⟩ = some (.bool s8_5) ∧ w'.cell? ⟨U8_5, 1, none⟩ = some (.slice a8_5 n8_5 c8_5) ∧ w'.cell? ⟨D19 + 1 + 1, 0, none⟩ = some (.bool false) ∧ w'.cell? ⟨D19 + 1 + 1, 1, none⟩ = some (.slice av 0 cv))
        (with_reducible exact KX35.out _ (by assumption))
        (first
        | (go_at_call 49; (with_reducible refine (rsign_any _ (p * c) _ (HV8_5.out.ext (((((((((((((((((((xE11.trans x14).trans xb15).trans x18).trans xb19).trans hz20).trans x21).trans x22).trans x23).trans x24).trans x25).trans x26).trans x27).trans x28).trans hz29).trans x30).trans x31).trans x32).trans x33).trans hz35))).mono ?_); rintro e w36 ⟨rfl, x36⟩; have hz36 := hz35.trans x36)
        | (go_at_call 23; (with_reducible refine (lof_any (sgn (p * c) 0) _ HS0.out HS1.out).mono ?_); rintro e w37 ⟨⟨v37_0, rfl, hv37_0⟩, x37⟩; have hz37 := hz36.trans x37)
        | (go_at_call 21; (with_reducible refine (same_eq _ _ (sgn (p * c) 0) (sgn (p * c) 0) _ (HVU.out.ext (((((((((((((((((xb19.trans hz20).trans x21).trans x22).trans x23).trans x24).trans x25).trans x26).trans x27).trans x28).trans hz29).trans x30).trans x31).trans x32).trans x33).trans hz35).trans x36).trans x37)) hv37_0 (Eq.refl _)).mono ?_); rintro e w38 ⟨rfl, x38⟩; have hz38 := hz37.trans x38)
        )
      clear KX35
      go_wp2_with fail
      go_ret
      exact ⟨rfl, (((((((((((((((((((((((((((x0.trans x1).trans x3).trans xb5).trans xE8).trans xE11).trans x14).trans xb15).trans x18).trans xb19).trans hz20).trans x21).trans x22).trans x23).trans x24).trans x25).trans x26).trans x27).trans x28).trans hz29).trans x30).trans x31).trans x32).trans x33).trans hz35).trans x36).trans x37).trans x38)⟩
set_option maxRecDepth 100000 in
set_option maxHeartbeats 8000000 in
theorem divisors_some (nx : Bool) (ax : Option Addr) (kx cx : Nat) (lx : List Int) (p : Int) (ep : p = rawZ nx lx 6) (ny : Bool) (ay : Option Addr) (ky cy : Nat) (ly : List Int) (q : Int) (eq : q = rawZ ny ly 6) (nz : Bool) (az : Option Addr) (kz cz : Nat) (lz : List Int) (c : Int) (ec : c = rawZ nz lz 4) (w : World) (hx : Words w ax kx cx lx) (hy : Words w ay ky cy ly) (hz : Words w az kz cz lz) (hb0 : q * c ≠ 0) :
    Calls Tryz.prog 12 #[.agg #[.bool nx, .slice ax kx cx], .agg #[.bool ny, .slice ay ky cy], .agg #[.bool nz, .slice az kz cz]] w fun e w' => e = .returned (.bool true) ∧ Ext w w' := by
  have E_p := Lib.hid ep
  have HWx := Lib.hid hx
  clear ep hx
  have E_q := Lib.hid eq
  have HWy := Lib.hid hy
  clear eq hy
  have E_c := Lib.hid ec
  have HWz := Lib.hid hz
  clear ec hz
  have HB0 : Hid (q * c ≠ 0) := Lib.hid hb0
  clear hb0
  obtain ⟨B0, w0, hB0, hw0, hr0, hr1, hr2, x0⟩ := three w 25 25 25 [.bool nx, .slice ax kx cx] [.bool ny, .slice ay ky cy] [.bool nz, .slice az kz cz]
  have HF2 : Hid (Fits (c) 4) := Lib.hid (by rw [E_c.out]; exact fits_raw (HWz.out.wf) (by omega))
  have HF6 : Hid (Fits (p) 6) := Lib.hid (by rw [E_p.out]; exact fits_raw (HWx.out.wf) (by omega))
  have HF7 : Hid (Fits (p * c) 10) := Lib.hid (Fits.mul HF6.out HF2.out)
  have HF9 : Hid (Fits (q) 6) := Lib.hid (by rw [E_q.out]; exact fits_raw (HWy.out.wf) (by omega))
  have HF10 : Hid (Fits (q * c) 10) := Lib.hid (Fits.mul HF9.out HF2.out)
  have KB3 : Hid (∀ W, Ext w0 W → W.cell? ⟨B0, 0, none⟩ = some (.bool nx) ∧ W.cell? ⟨B0, 1, none⟩ = some (.slice ax kx cx)) := Lib.hid fun W h => ⟨h.cell (hr0.cell (i := 0) rfl), h.cell (hr0.cell (i := 1) rfl)⟩
  have KB4 : Hid (∀ W, Ext w0 W → W.cell? ⟨B0 + 1, 0, none⟩ = some (.bool ny) ∧ W.cell? ⟨B0 + 1, 1, none⟩ = some (.slice ay ky cy)) := Lib.hid fun W h => ⟨h.cell (hr1.cell (i := 0) rfl), h.cell (hr1.cell (i := 1) rfl)⟩
  have KB5 : Hid (∀ W, Ext w0 W → W.cell? ⟨B0 + 1 + 1, 0, none⟩ = some (.bool nz) ∧ W.cell? ⟨B0 + 1 + 1, 1, none⟩ = some (.slice az kz cz)) := Lib.hid fun W h => ⟨h.cell (hr2.cell (i := 0) rfl), h.cell (hr2.cell (i := 1) rfl)⟩
  clear hr0 hr1 hr2
  go_enter Tryz.func12, Tryz.ntmps12
  go_wp2_with fail
  rw [← hw0, ← hB0]
  clear hw0 hB0
  refine (sanity_any _).mono ?_
  rintro e w1 ⟨rfl, x1⟩
  obtain ⟨cc5_0_4, cc5_1_4⟩ := KB5.out w1 x1
  go_wp2_with fail
  clear cc5_0_4 cc5_1_4
  refine (Made_any nz az kz cz lz 4 c _ (HWz.out.ext (x0.trans x1)) (by omega) E_c.out).mono ?_
  rintro e w3 ⟨⟨v3_0, rfl, ⟨s3_0, a3_0, n3_0, c3_0, rfl, hi3_0⟩⟩, x3⟩
  have HV3_0 : Hid (IntV w3 (.agg #[.bool s3_0, .slice a3_0 n3_0 c3_0]) (c)) := Lib.hid ⟨_, _, _, _, rfl, hi3_0⟩
  clear hi3_0
  obtain ⟨D5, wb5, hD5, hw5, hb5_0, xb5⟩ := one w3 24 [.bool s3_0, .slice a3_0 n3_0 c3_0]
  have KB8 : Hid (∀ W, Ext wb5 W → W.cell? ⟨D5, 0, none⟩ = some (.bool s3_0) ∧ W.cell? ⟨D5, 1, none⟩ = some (.slice a3_0 n3_0 c3_0)) := Lib.hid fun W h => ⟨h.cell (hb5_0.cell (i := 0) rfl), h.cell (hb5_0.cell (i := 1) rfl)⟩
  clear hb5_0
  have hq5 := hw5.symm
  have hp5 := hD5.symm
  clear hw5 hD5
  go_wp2_with fail
  clear hq5 hp5
  refine wp_region_facts [23, 24, 25, 26, 9] (divisors_someA wb5 nx ax kx cx s3_0 a3_0 n3_0 c3_0 (p) (p * c)) (by kernel_rfl) (by kernel_rfl) ?_ ?_ ?_
  · intro y
    exact ⟨(Ext.refl _).drew, by simp, by simp, by simp, by simp, by simp, by simp, by simp⟩
  · intro Q
    refine AllF.cons rfl ?_ ?_
    · skip
      with_reducible refine StepF.dst (d := 23) (by kernel_rfl) (by kernel_rfl) ?_
      intro L y w hi hp h K hK
      simp only [putAll, List.foldl, Act.put, List.setIfInBounds_toArray, List.set_cons_zero, List.set_cons_succ] at hK ⊢
      have HK := Lib.hid hK
      clear hK
      obtain ⟨cc0, cc1⟩ := KB3.out w (((x1.trans x3).trans xb5).trans h.out.e)
      go_simp
      refine HK.out _ _ ?_
      have k := h.out
      exact ⟨k.e, fun _ => upd_eq, k.f1, k.f2, k.f3, k.f4, k.f5, k.c5⟩
    refine AllF.cons rfl ?_ ?_
    · skip
      with_reducible refine StepF.dst (d := 24) (by kernel_rfl) (by kernel_rfl) ?_
      intro L y w hi hp h K hK
      simp only [putAll, List.foldl, Act.put, List.setIfInBounds_toArray, List.set_cons_zero, List.set_cons_succ] at hK ⊢
      have HK := Lib.hid hK
      clear hK
      have g0 := h.out.f0 (hp.out 0 (by kernel_rfl))
      simp only [g0] at HK
      go_simp
      refine (Made_any nx ax kx cx lx 6 p _ ((HWx.out.ext (((x0.trans x1).trans x3).trans xb5)).ext h.out.e) (by omega) E_p.out).mono ?_
      rintro e w4 ⟨⟨v, rfl, hr⟩, he4⟩
      clear g0
      go_simp
      refine HK.out _ _ ?_
      have k := h.out.ext he4
      exact ⟨k.e, k.f0, fun _ => by rw [upd_eq]; exact hr, k.f2, k.f3, k.f4, k.f5, k.c5⟩
    refine AllF.cons rfl ?_ ?_
    · skip
      with_reducible refine StepF.dst (d := 25) (by kernel_rfl) (by kernel_rfl) ?_
      intro L y w hi hp h K hK
      simp only [putAll, List.foldl, Act.put, List.setIfInBounds_toArray, List.set_cons_zero, List.set_cons_succ] at hK ⊢
      have HK := Lib.hid hK
      clear hK
      obtain ⟨cc0, cc1⟩ := KB8.out w ((Ext.refl _).trans h.out.e)
      go_simp
      refine HK.out _ _ ?_
      have k := h.out
      exact ⟨k.e, k.f0, k.f1, fun _ => upd_eq, k.f3, k.f4, k.f5, k.c5⟩
    refine AllF.cons rfl ?_ ?_
    · skip
      with_reducible refine StepF.dst (d := 26) (by kernel_rfl) (by kernel_rfl) ?_
      intro L y w hi hp h K hK
      simp only [putAll, List.foldl, Act.put, List.setIfInBounds_toArray, List.set_cons_zero, List.set_cons_succ] at hK ⊢
      have HK := Lib.hid hK
      clear hK
      have g2 := h.out.f2 (hp.out 2 (by kernel_rfl))
      simp only [g2] at HK
      have g1 := h.out.f1 (hp.out 1 (by kernel_rfl))
      have G1 := Lib.hid g1
      clear g1
      go_simp
      refine (mul_any _ _ p c _ G1.out ((HV3_0.out.ext xb5).ext h.out.e) (HF6.out.mono (by omega)) (HF2.out.mono (by omega))).mono ?_
      rintro e w4 ⟨⟨v, rfl, hr⟩, he4⟩
      clear g2
      go_simp
      refine HK.out _ _ ?_
      have k := h.out.ext he4
      exact ⟨k.e, k.f0, k.f1, k.f2, fun _ => by rw [upd_eq]; exact hr, k.f4, k.f5, k.c5⟩
    refine AllF.cons rfl ?_ ?_
    · skip
      with_reducible refine StepF.dst (d := 9) (by kernel_rfl) (by kernel_rfl) ?_
      intro L y w hi hp h K hK
      simp only [putAll, List.foldl, Act.put, List.setIfInBounds_toArray, List.set_cons_zero, List.set_cons_succ] at hK ⊢
      have HK := Lib.hid hK
      clear hK
      go_simp
      refine HK.out _ _ ?_
      have k := h.out.ext ((Ext.refl w).alloc (.cells #[.bool false, .slice none 0 0] 24))
      exact ⟨k.e, k.f0, k.f1, k.f2, k.f3, fun _ => by rw [upd_eq]; exact roomI_new h.out.e, fun q => absurd (h.out.c5 q) (by rw [hi.out]; simp), fun _ => rfl⟩
    refine AllF.cons rfl ?_ ?_
    · skip
      with_reducible refine StepF.none ?_
      intro L y w hi hp h K hK
      simp only [putAll, List.foldl, Act.put, List.setIfInBounds_toArray, List.set_cons_zero, List.set_cons_succ] at hK ⊢
      have HK := Lib.hid hK
      clear hK
      obtain ⟨s8, a8, n8, c8, g8, h8⟩ := h.out.f3 (hp.out 3 (by kernel_rfl))
      have H8 := Lib.hid h8
      clear h8
      obtain ⟨P, s6, a6, n6, c6, g6, hb6, hm6⟩ := h.out.f4 (hp.out 4 (by kernel_rfl))
      simp only [g8, g6] at HK
      have HB6 := Lib.hid hb6
      have cc0 := hb6.cell (i := 0) rfl
      have cc1 := hb6.cell (i := 1) rfl
      have ff0 := hb6.free 0
      have ff1 := hb6.free 1
      clear hb6
      go_simp
      refine HK.out _ ?_
      have k := h.out
      have hs := stay_st2 HB6.out (.bool s8) (.slice a8 n8 c8)
      exact ⟨ext_st2 k.e hm6 _ _, k.f0, fun z => (k.f1 z).stay hs, k.f2, fun z => (k.f3 z).stay hs, fun _ => ⟨_, _, _, _, _, g6, Blk.st2 HB6.out _ _, hm6⟩, fun _ => ⟨_, _, _, _, _, g6, Blk.st2 HB6.out _ _, hm6, IntW.stay H8.out hs⟩, fun _ => hp.out 4 (by kernel_rfl)⟩
    exact trivial
  · intro L y wE8 hL h
    have xE8 := h.e
    obtain ⟨U8_5, s8_5, a8_5, n8_5, c8_5, ey8_5, hb8_5, hm8_5, hu8_5⟩ := h.f5 (hL 5 (by decide))
    have HV8_5 : Hid (IntV wE8 (.agg #[.bool s8_5, .slice a8_5 n8_5 c8_5]) (p * c)) := Lib.hid ⟨_, _, _, _, rfl, hu8_5⟩
    simp only [putAll, List.foldl, Act.put, List.setIfInBounds_toArray, List.set_cons_zero, List.set_cons_succ]
    simp only [ey8_5]
    clear hL h ey8_5 hu8_5 hm8_5
    have KB9 : Hid (∀ W, Ext wE8 W → W.cell? ⟨U8_5, 0, none⟩ = some (.bool s8_5) ∧ W.cell? ⟨U8_5, 1, none⟩ = some (.slice a8_5 n8_5 c8_5)) := Lib.hid fun W h => ⟨h.cell (hb8_5.cell (i := 0) rfl), h.cell (hb8_5.cell (i := 1) rfl)⟩
    clear hb8_5
    go_wp2_with fail
    refine wp_region_facts [27, 28, 29, 30, 10] (divisors_someB wE8 ny ay ky cy s3_0 a3_0 n3_0 c3_0 (q) (q * c)) (by kernel_rfl) (by kernel_rfl) ?_ ?_ ?_
    · intro y
      exact ⟨(Ext.refl _).drew, by simp, by simp, by simp, by simp, by simp, by simp, by simp⟩
    · intro Q
      refine AllF.cons rfl ?_ ?_
      · skip
        with_reducible refine StepF.dst (d := 27) (by kernel_rfl) (by kernel_rfl) ?_
        intro L y w hi hp h K hK
        simp only [putAll, List.foldl, Act.put, List.setIfInBounds_toArray, List.set_cons_zero, List.set_cons_succ] at hK ⊢
        have HK := Lib.hid hK
        clear hK
        obtain ⟨cc0, cc1⟩ := KB4.out w ((((x1.trans x3).trans xb5).trans xE8).trans h.out.e)
        go_simp
        refine HK.out _ _ ?_
        have k := h.out
        exact ⟨k.e, fun _ => upd_eq, k.f1, k.f2, k.f3, k.f4, k.f5, k.c5⟩
      refine AllF.cons rfl ?_ ?_
      · skip
        with_reducible refine StepF.dst (d := 28) (by kernel_rfl) (by kernel_rfl) ?_
        intro L y w hi hp h K hK
        simp only [putAll, List.foldl, Act.put, List.setIfInBounds_toArray, List.set_cons_zero, List.set_cons_succ] at hK ⊢
        have HK := Lib.hid hK
        clear hK
        have g0 := h.out.f0 (hp.out 0 (by kernel_rfl))
        simp only [g0] at HK
        go_simp
        refine (Made_any ny ay ky cy ly 6 q _ ((HWy.out.ext ((((x0.trans x1).trans x3).trans xb5).trans xE8)).ext h.out.e) (by omega) E_q.out).mono ?_
        rintro e w4 ⟨⟨v, rfl, hr⟩, he4⟩
        clear g0
        go_simp
        refine HK.out _ _ ?_
        have k := h.out.ext he4
        exact ⟨k.e, k.f0, fun _ => by rw [upd_eq]; exact hr, k.f2, k.f3, k.f4, k.f5, k.c5⟩
      refine AllF.cons rfl ?_ ?_
      · skip
        with_reducible refine StepF.dst (d := 29) (by kernel_rfl) (by kernel_rfl) ?_
        intro L y w hi hp h K hK
        simp only [putAll, List.foldl, Act.put, List.setIfInBounds_toArray, List.set_cons_zero, List.set_cons_succ] at hK ⊢
        have HK := Lib.hid hK
        clear hK
        obtain ⟨cc0, cc1⟩ := KB8.out w (xE8.trans h.out.e)
        go_simp
        refine HK.out _ _ ?_
        have k := h.out
        exact ⟨k.e, k.f0, k.f1, fun _ => upd_eq, k.f3, k.f4, k.f5, k.c5⟩
      refine AllF.cons rfl ?_ ?_
      · skip
        with_reducible refine StepF.dst (d := 30) (by kernel_rfl) (by kernel_rfl) ?_
        intro L y w hi hp h K hK
        simp only [putAll, List.foldl, Act.put, List.setIfInBounds_toArray, List.set_cons_zero, List.set_cons_succ] at hK ⊢
        have HK := Lib.hid hK
        clear hK
        have g2 := h.out.f2 (hp.out 2 (by kernel_rfl))
        simp only [g2] at HK
        have g1 := h.out.f1 (hp.out 1 (by kernel_rfl))
        have G1 := Lib.hid g1
        clear g1
        go_simp
        refine (mul_any _ _ q c _ G1.out ((HV3_0.out.ext (xb5.trans xE8)).ext h.out.e) (HF9.out.mono (by omega)) (HF2.out.mono (by omega))).mono ?_
        rintro e w4 ⟨⟨v, rfl, hr⟩, he4⟩
        clear g2
        go_simp
        refine HK.out _ _ ?_
        have k := h.out.ext he4
        exact ⟨k.e, k.f0, k.f1, k.f2, fun _ => by rw [upd_eq]; exact hr, k.f4, k.f5, k.c5⟩
      refine AllF.cons rfl ?_ ?_
      · skip
        with_reducible refine StepF.dst (d := 10) (by kernel_rfl) (by kernel_rfl) ?_
        intro L y w hi hp h K hK
        simp only [putAll, List.foldl, Act.put, List.setIfInBounds_toArray, List.set_cons_zero, List.set_cons_succ] at hK ⊢
        have HK := Lib.hid hK
        clear hK
        go_simp
        refine HK.out _ _ ?_
        have k := h.out.ext ((Ext.refl w).alloc (.cells #[.bool false, .slice none 0 0] 24))
        exact ⟨k.e, k.f0, k.f1, k.f2, k.f3, fun _ => by rw [upd_eq]; exact roomI_new h.out.e, fun q => absurd (h.out.c5 q) (by rw [hi.out]; simp), fun _ => rfl⟩
      refine AllF.cons rfl ?_ ?_
      · skip
        with_reducible refine StepF.none ?_
        intro L y w hi hp h K hK
        simp only [putAll, List.foldl, Act.put, List.setIfInBounds_toArray, List.set_cons_zero, List.set_cons_succ] at hK ⊢
        have HK := Lib.hid hK
        clear hK
        obtain ⟨s8, a8, n8, c8, g8, h8⟩ := h.out.f3 (hp.out 3 (by kernel_rfl))
        have H8 := Lib.hid h8
        clear h8
        obtain ⟨P, s6, a6, n6, c6, g6, hb6, hm6⟩ := h.out.f4 (hp.out 4 (by kernel_rfl))
        simp only [g8, g6] at HK
        have HB6 := Lib.hid hb6
        have cc0 := hb6.cell (i := 0) rfl
        have cc1 := hb6.cell (i := 1) rfl
        have ff0 := hb6.free 0
        have ff1 := hb6.free 1
        clear hb6
        go_simp
        refine HK.out _ ?_
        have k := h.out
        have hs := stay_st2 HB6.out (.bool s8) (.slice a8 n8 c8)
        exact ⟨ext_st2 k.e hm6 _ _, k.f0, fun z => (k.f1 z).stay hs, k.f2, fun z => (k.f3 z).stay hs, fun _ => ⟨_, _, _, _, _, g6, Blk.st2 HB6.out _ _, hm6⟩, fun _ => ⟨_, _, _, _, _, g6, Blk.st2 HB6.out _ _, hm6, IntW.stay H8.out hs⟩, fun _ => hp.out 4 (by kernel_rfl)⟩
      exact trivial
    · intro L y wE11 hL h
      have xE11 := h.e
      obtain ⟨U11_5, s11_5, a11_5, n11_5, c11_5, ey11_5, hb11_5, hm11_5, hu11_5⟩ := h.f5 (hL 5 (by decide))
      have HV11_5 : Hid (IntV wE11 (.agg #[.bool s11_5, .slice a11_5 n11_5 c11_5]) (q * c)) := Lib.hid ⟨_, _, _, _, rfl, hu11_5⟩
      simp only [putAll, List.foldl, Act.put, List.setIfInBounds_toArray, List.set_cons_zero, List.set_cons_succ]
      simp only [ey11_5]
      clear hL h ey11_5 hu11_5 hm11_5
      have KB10 : Hid (∀ W, Ext wE11 W → W.cell? ⟨U11_5, 0, none⟩ = some (.bool s11_5) ∧ W.cell? ⟨U11_5, 1, none⟩ = some (.slice a11_5 n11_5 c11_5)) := Lib.hid fun W h => ⟨h.cell (hb11_5.cell (i := 0) rfl), h.cell (hb11_5.cell (i := 1) rfl)⟩
      clear hb11_5
      have HBW := Lib.hid (intV_W2 HV11_5.out)
      have hbn := intW_len HBW.out HB0.out
      obtain ⟨g, hg⟩ : ∃ g, g = ((Int.gcd (p * c) (q * c) : Nat) : Int) := ⟨_, rfl⟩
      have HG := Lib.hid hg
      clear hg
      have HFG : Hid (Fits g 10) := Lib.hid (by rw [HG.out]; exact fits_gcd HF7.out HF10.out)
      obtain ⟨cc9_0_12, cc9_1_12⟩ := KB9.out wE11 xE11
      obtain ⟨cc10_0_13, cc10_1_13⟩ := KB10.out wE11 (Ext.refl _)
      go_wp2_with fail
      clear cc9_0_12 cc9_1_12 cc10_0_13 cc10_1_13
      refine (gcd_nn _ _ (p * c) (q * c) g _ (HV8_5.out.ext xE11) HV11_5.out (HF7.out.mono (by omega)) (HF10.out.mono (by omega)) HG.out).mono ?_
      rintro e w14 ⟨⟨ag, ng, cg, rfl, hi⟩, x14⟩
      have HVG : Hid (IntV w14 (.agg #[.bool false, .slice ag ng cg]) g) := Lib.hid ⟨_, _, _, _, rfl, hi⟩
      clear hi
      obtain ⟨D15, wb15, hD15, hw15, hb15_0, xb15⟩ := one w14 24 [.bool false, .slice ag ng cg]
      have KB11 : Hid (∀ W, Ext wb15 W → W.cell? ⟨D15, 0, none⟩ = some (.bool false) ∧ W.cell? ⟨D15, 1, none⟩ = some (.slice ag ng cg)) := Lib.hid fun W h => ⟨h.cell (hb15_0.cell (i := 0) rfl), h.cell (hb15_0.cell (i := 1) rfl)⟩
      clear hb15_0
      obtain ⟨cc9_0_16, cc9_1_16⟩ := KB9.out wb15 ((xE11.trans x14).trans xb15)
      obtain ⟨cc10_0_17, cc10_1_17⟩ := KB10.out wb15 (x14.trans xb15)
      have hq15 := hw15.symm
      have hp15 := hD15.symm
      clear hw15 hD15
      go_wp2_with fail
      clear hq15 hp15
      clear cc9_0_16 cc9_1_16 cc10_0_17 cc10_1_17
      refine (bezout_s _ _ (p * c) (q * c) _ (HV8_5.out.ext ((xE11.trans x14).trans xb15)) (HV11_5.out.ext (x14.trans xb15)) (HF7.out.mono (by omega)) (HF10.out.mono (by omega)) HB0.out).mono ?_
      rintro e w18 ⟨⟨sh, ah, nh, ch, au, nu, cu, sv, av, nv, cv, u, v, rfl, hh, hu, hv, hres⟩, x18⟩
      have HRES := Lib.hid hres
      clear hres
      have HVH : Hid (IntV w18 (.agg #[.bool sh, .slice ah nh ch]) g) := Lib.hid (by rw [HG.out]; exact ⟨_, _, _, _, rfl, hh⟩)
      have HVU : Hid (IntV w18 (.agg #[.bool false, .slice au nu cu]) (u)) := Lib.hid ⟨_, _, _, _, rfl, hu⟩
      have HVV : Hid (IntV w18 (.agg #[.bool sv, .slice av nv cv]) (v)) := Lib.hid ⟨_, _, _, _, rfl, hv⟩
      clear hh hu hv
      have HFU : Hid (Fits u 10) := Lib.hid (bez_fits_u HRES.out HF10.out)
      have HFV : Hid (Fits v 20) := Lib.hid (bez_fits_v HRES.out HB0.out HF7.out HFG.out HF10.out)
      obtain ⟨D19, wb19, hD19, hw19, hb19_0, hb19_1, hb19_2, xb19⟩ := three w18 24 24 24 [.bool sh, .slice ah nh ch] [.bool false, .slice au nu cu] [.bool sv, .slice av nv cv]
      have KB12 : Hid (∀ W, Ext wb19 W → W.cell? ⟨D19, 0, none⟩ = some (.bool sh) ∧ W.cell? ⟨D19, 1, none⟩ = some (.slice ah nh ch)) := Lib.hid fun W h => ⟨h.cell (hb19_0.cell (i := 0) rfl), h.cell (hb19_0.cell (i := 1) rfl)⟩
      have KB13 : Hid (∀ W, Ext wb19 W → W.cell? ⟨D19 + 1, 0, none⟩ = some (.bool false) ∧ W.cell? ⟨D19 + 1, 1, none⟩ = some (.slice au nu cu)) := Lib.hid fun W h => ⟨h.cell (hb19_1.cell (i := 0) rfl), h.cell (hb19_1.cell (i := 1) rfl)⟩
      have KB14 : Hid (∀ W, Ext wb19 W → W.cell? ⟨D19 + 1 + 1, 0, none⟩ = some (.bool sv) ∧ W.cell? ⟨D19 + 1 + 1, 1, none⟩ = some (.slice av nv cv)) := Lib.hid fun W h => ⟨h.cell (hb19_2.cell (i := 0) rfl), h.cell (hb19_2.cell (i := 1) rfl)⟩
      clear hb19_0 hb19_1 hb19_2
      have HFN : Hid (Fits (-(p * c)) 10) := Lib.hid (Fits.neg HF7.out)
      have HGN : Hid (g = ((Int.gcd (q * c) (-(p * c)) : Nat) : Int)) := Lib.hid (by rw [HG.out, Int.gcd_neg, Int.gcd_comm])
      have HGA : Hid (g ∣ p * c) := Lib.hid (by rw [HG.out]; exact Int.gcd_dvd_left ..)
      have HGB : Hid (g ∣ q * c) := Lib.hid (by rw [HG.out]; exact Int.gcd_dvd_right ..)
      have HCG : Hid (c ∣ g) := Lib.hid (by rw [HG.out]; exact Int.dvd_coe_gcd (Int.dvd_mul_left ..) (Int.dvd_mul_left ..))
      have KX20 : Hid (∀ w', Ext wb19 w' → w'.cell? ⟨D15, 0, none⟩ = some (.bool false) ∧ w'.cell? ⟨D15, 1, none⟩ = some (.slice ag ng cg) ∧ w'.cell? ⟨D19, 0, none⟩ = some (.bool sh) ∧ w'.cell? ⟨D19, 1, none⟩ = some (.slice ah nh ch) ∧ w'.cell? ⟨U11_5, 0, none⟩ = some (.bool s11_5) ∧ w'.cell? ⟨U11_5, 1, none⟩ = some (.slice a11_5 n11_5 c11_5) ∧ w'.cell? ⟨U8_5, 0, none⟩ = some (.bool s8_5) ∧ w'.cell? ⟨U8_5, 1, none⟩ = some (.slice a8_5 n8_5 c8_5) ∧ w'.cell? ⟨D5, 0, none⟩ = some (.bool s3_0) ∧ w'.cell? ⟨D5, 1, none⟩ = some (.slice a3_0 n3_0 c3_0)) := Lib.hid fun w' h => by
        have q11 := KB11.out w' ((x18.trans xb19).trans h)
        have q12 := KB12.out w' ((Ext.refl _).trans h)
        have q10 := KB10.out w' ((((x14.trans xb15).trans x18).trans xb19).trans h)
        have q9 := KB9.out w' (((((xE11.trans x14).trans xb15).trans x18).trans xb19).trans h)
        have q8 := KB8.out w' ((((((xE8.trans xE11).trans x14).trans xb15).trans x18).trans xb19).trans h)
        exact ⟨q11.1, q11.2, q12.1, q12.2, q10.1, q10.2, q9.1, q9.2, q8.1, q8.2⟩
      have hq19 := hw19.symm
      have hp19 := hD19.symm
      clear hw19 hD19
      go_wp2_with fail
      clear hq19 hp19
      have hz20 := Below.drewExt wb19
      go_region_held3
        (fun w' => w'.cell? ⟨D15, 0, none⟩ = some (.bool false) ∧ w'.cell? ⟨D15, 1, none⟩ = some (.slice ag ng cg) ∧ w'.cell? ⟨D19, 0, none⟩ = some (.bool sh) ∧ w'.cell? ⟨D19, 1, none⟩ = some (.slice ah nh ch) ∧ w'.cell? ⟨U11_5, 0, none⟩ = some (.bool s11_5) ∧ w'.cell? ⟨U11_5, 1, none⟩ = some (.slice a11_5 n11_5 c11_5) ∧ w'.cell? ⟨U8_5, 0, none⟩ = some (.bool s8_5) ∧ w'.cell? ⟨U8_5, 1, none⟩ = some (.slice a8_5 n8_5 c8_5) ∧ w'.cell? ⟨D5, 0, none⟩ = some (.bool s3_0) ∧ w'.cell? ⟨D5, 1, none⟩ = some (.slice a3_0 n3_0 c3_0))
        (with_reducible exact KX20.out _ (by assumption))
        (first
        | (go_at_call 20; (with_reducible refine (rvalid_any _ (g) _ (HVG.out.ext (((xb15.trans x18).trans xb19).trans hz20))).mono ?_); rintro e w21 ⟨rfl, x21⟩; have hz21 := hz20.trans x21)
        | (go_at_call 21; (with_reducible refine (same_eq _ _ (g) (g) _ (HVG.out.ext ((((xb15.trans x18).trans xb19).trans hz20).trans x21)) (HVH.out.ext ((xb19.trans hz20).trans x21)) (Eq.refl _)).mono ?_); rintro e w22 ⟨rfl, x22⟩; have hz22 := hz21.trans x22)
        | (go_at_call 22; (with_reducible refine (neg_any _ (p * c) _ (HV8_5.out.ext (((((((xE11.trans x14).trans xb15).trans x18).trans xb19).trans hz20).trans x21).trans x22)) (HF7.out.mono (by omega))).mono ?_); rintro e w23 ⟨⟨v23_0, rfl, hv23_0⟩, x23⟩; have hz23 := hz22.trans x23)
        | (go_at_call 38; (with_reducible refine (gcd_is _ _ (q * c) (-(p * c)) g _ (HV11_5.out.ext (((((((x14.trans xb15).trans x18).trans xb19).trans hz20).trans x21).trans x22).trans x23)) hv23_0 (HF10.out.mono (by omega)) (HFN.out.mono (by omega)) HGN.out).mono ?_); rintro e w24 ⟨⟨v24_0, rfl, hv24_0⟩, x24⟩; have hz24 := hz23.trans x24)
        | (go_at_call 21; (with_reducible refine (same_eq _ _ (g) (g) _ hv24_0 (HVG.out.ext (((((((xb15.trans x18).trans xb19).trans hz20).trans x21).trans x22).trans x23).trans x24)) (Eq.refl _)).mono ?_); rintro e w25 ⟨rfl, x25⟩; have hz25 := hz24.trans x25)
        | (go_at_call 48; (with_reducible refine (divides_true _ _ (g) (p * c) _ (HVG.out.ext ((((((((xb15.trans x18).trans xb19).trans hz20).trans x21).trans x22).trans x23).trans x24).trans x25)) (HV8_5.out.ext ((((((((((xE11.trans x14).trans xb15).trans x18).trans xb19).trans hz20).trans x21).trans x22).trans x23).trans x24).trans x25)) (HF7.out.mono (by omega)) (HFG.out.mono (by omega)) HGA.out).mono ?_); rintro e w26 ⟨rfl, x26⟩; have hz26 := hz25.trans x26)
        | (go_at_call 48; (with_reducible refine (divides_true _ _ (g) (q * c) _ (HVG.out.ext (((((((((xb15.trans x18).trans xb19).trans hz20).trans x21).trans x22).trans x23).trans x24).trans x25).trans x26)) (HV11_5.out.ext ((((((((((x14.trans xb15).trans x18).trans xb19).trans hz20).trans x21).trans x22).trans x23).trans x24).trans x25).trans x26)) (HF10.out.mono (by omega)) (HFG.out.mono (by omega)) HGB.out).mono ?_); rintro e w27 ⟨rfl, x27⟩; have hz27 := hz26.trans x27)
        | (go_at_call 48; (with_reducible refine (divides_true _ _ (c) (g) _ (HV3_0.out.ext ((((((((((((((xb5.trans xE8).trans xE11).trans x14).trans xb15).trans x18).trans xb19).trans hz20).trans x21).trans x22).trans x23).trans x24).trans x25).trans x26).trans x27)) (HVG.out.ext ((((((((((xb15.trans x18).trans xb19).trans hz20).trans x21).trans x22).trans x23).trans x24).trans x25).trans x26).trans x27)) (HFG.out.mono (by omega)) (HF2.out.mono (by omega)) HCG.out).mono ?_); rintro e w28 ⟨rfl, x28⟩; have hz28 := hz27.trans x28)
        )
      clear KX20
      have HCOMB : Hid (u * (p * c) + v * (q * c) = g) := Lib.hid (bez_comb HG.out HRES.out)
      have HM1 : Hid (Fits ((u) * (p * c)) 20) := Lib.hid (Fits.mul HFU.out HF7.out)
      have HM2 : Hid (Fits ((v) * (q * c)) 30) := Lib.hid (Fits.mul HFV.out HF10.out)
      have KX29 : Hid (∀ w', Ext w28 w' → w'.cell? ⟨D19 + 1, 0, none⟩ = some (.bool false) ∧ w'.cell? ⟨D19 + 1, 1, none⟩ = some (.slice au nu cu) ∧ w'.cell? ⟨U8_5, 0, none⟩ = some (.bool s8_5) ∧ w'.cell? ⟨U8_5, 1, none⟩ = some (.slice a8_5 n8_5 c8_5) ∧ w'.cell? ⟨D19 + 1 + 1, 0, none⟩ = some (.bool sv) ∧ w'.cell? ⟨D19 + 1 + 1, 1, none⟩ = some (.slice av nv cv) ∧ w'.cell? ⟨U11_5, 0, none⟩ = some (.bool s11_5) ∧ w'.cell? ⟨U11_5, 1, none⟩ = some (.slice a11_5 n11_5 c11_5) ∧ w'.cell? ⟨D15, 0, none⟩ = some (.bool false) ∧ w'.cell? ⟨D15, 1, none⟩ = some (.slice ag ng cg)) := Lib.hid fun w' h => by
        have q13 := KB13.out w' (((((((((hz20.trans x21).trans x22).trans x23).trans x24).trans x25).trans x26).trans x27).trans x28).trans h)
        have q9 := KB9.out w' ((((((((((((((xE11.trans x14).trans xb15).trans x18).trans xb19).trans hz20).trans x21).trans x22).trans x23).trans x24).trans x25).trans x26).trans x27).trans x28).trans h)
        have q14 := KB14.out w' (((((((((hz20.trans x21).trans x22).trans x23).trans x24).trans x25).trans x26).trans x27).trans x28).trans h)
        have q10 := KB10.out w' (((((((((((((x14.trans xb15).trans x18).trans xb19).trans hz20).trans x21).trans x22).trans x23).trans x24).trans x25).trans x26).trans x27).trans x28).trans h)
        have q11 := KB11.out w' (((((((((((x18.trans xb19).trans hz20).trans x21).trans x22).trans x23).trans x24).trans x25).trans x26).trans x27).trans x28).trans h)
        exact ⟨q13.1, q13.2, q9.1, q9.2, q14.1, q14.2, q10.1, q10.2, q11.1, q11.2⟩
      go_wp2_with fail
      have hz29 := Below.drewExt w28
      go_region_held3
        (fun w' => w'.cell? ⟨D19 + 1, 0, none⟩ = some (.bool false) ∧ w'.cell? ⟨D19 + 1, 1, none⟩ = some (.slice au nu cu) ∧ w'.cell? ⟨U8_5, 0, none⟩ = some (.bool s8_5) ∧ w'.cell? ⟨U8_5, 1, none⟩ = some (.slice a8_5 n8_5 c8_5) ∧ w'.cell? ⟨D19 + 1 + 1, 0, none⟩ = some (.bool sv) ∧ w'.cell? ⟨D19 + 1 + 1, 1, none⟩ = some (.slice av nv cv) ∧ w'.cell? ⟨U11_5, 0, none⟩ = some (.bool s11_5) ∧ w'.cell? ⟨U11_5, 1, none⟩ = some (.slice a11_5 n11_5 c11_5) ∧ w'.cell? ⟨D15, 0, none⟩ = some (.bool false) ∧ w'.cell? ⟨D15, 1, none⟩ = some (.slice ag ng cg))
        (with_reducible exact KX29.out _ (by assumption))
        (first
        | (go_at_call 18; (with_reducible refine (mul_any _ _ (u) (p * c) _ (HVU.out.ext ((((((((((xb19.trans hz20).trans x21).trans x22).trans x23).trans x24).trans x25).trans x26).trans x27).trans x28).trans hz29)) (HV8_5.out.ext ((((((((((((((xE11.trans x14).trans xb15).trans x18).trans xb19).trans hz20).trans x21).trans x22).trans x23).trans x24).trans x25).trans x26).trans x27).trans x28).trans hz29)) (HFU.out.mono (by omega)) (HF7.out.mono (by omega))).mono ?_); rintro e w30 ⟨⟨v30_0, rfl, hv30_0⟩, x30⟩; have hz30 := hz29.trans x30)
        | (go_at_call 18; (with_reducible refine (mul_any _ _ (v) (q * c) _ (HVV.out.ext (((((((((((xb19.trans hz20).trans x21).trans x22).trans x23).trans x24).trans x25).trans x26).trans x27).trans x28).trans hz29).trans x30)) (HV11_5.out.ext ((((((((((((((x14.trans xb15).trans x18).trans xb19).trans hz20).trans x21).trans x22).trans x23).trans x24).trans x25).trans x26).trans x27).trans x28).trans hz29).trans x30)) (HFV.out.mono (by omega)) (HF10.out.mono (by omega))).mono ?_); rintro e w31 ⟨⟨v31_0, rfl, hv31_0⟩, x31⟩; have hz31 := hz30.trans x31)
        | (go_at_call 17; (with_reducible refine (add_any _ _ _ _ _ (hv30_0.ext x31) hv31_0 (HM1.out.mono (by omega)) (HM2.out.mono (by omega))).mono ?_); rintro e w32 ⟨⟨v32_0, rfl, hv32_0⟩, x32⟩; have hz32 := hz31.trans x32)
        | (go_at_call 21; (with_reducible refine (same_eq _ _ _ (g) _ hv32_0 (HVG.out.ext (((((((((((((((xb15.trans x18).trans xb19).trans hz20).trans x21).trans x22).trans x23).trans x24).trans x25).trans x26).trans x27).trans x28).trans hz29).trans x30).trans x31).trans x32)) HCOMB.out).mono ?_); rintro e w33 ⟨rfl, x33⟩; have hz33 := hz32.trans x33)
        )
      clear KX29
      have HGP : Hid (g ≠ 0) := Lib.hid (by rintro rfl; exact HB0.out (Int.zero_dvd.1 HGB.out))
      have HABS : Hid (IntV w33 (.agg #[.bool false, .slice a11_5 n11_5 c11_5]) ((q * c).natAbs : Int)) := Lib.hid (intV_abs (HV11_5.out.ext (((((((((((((((((x14.trans xb15).trans x18).trans xb19).trans hz20).trans x21).trans x22).trans x23).trans x24).trans x25).trans x26).trans x27).trans x28).trans hz29).trans x30).trans x31).trans x32).trans x33)))
      have HFAB : Hid (Fits ((q * c).natAbs : Int) 10) := Lib.hid (fits_abs HF10.out)
      obtain ⟨cc10_0_34, cc10_1_34⟩ := KB10.out w33 (((((((((((((((((x14.trans xb15).trans x18).trans xb19).trans hz20).trans x21).trans x22).trans x23).trans x24).trans x25).trans x26).trans x27).trans x28).trans hz29).trans x30).trans x31).trans x32).trans x33)
      obtain ⟨cc11_0_35, cc11_1_35⟩ := KB11.out w33 (((((((((((((((x18.trans xb19).trans hz20).trans x21).trans x22).trans x23).trans x24).trans x25).trans x26).trans x27).trans x28).trans hz29).trans x30).trans x31).trans x32).trans x33)
      go_wp2_with fail
      clear cc10_0_34 cc10_1_34 cc11_0_35 cc11_1_35
      refine (divmod_any _ _ ((q * c).natAbs : Int) g _ HABS.out (HVG.out.ext ((((((((((((((((xb15.trans x18).trans xb19).trans hz20).trans x21).trans x22).trans x23).trans x24).trans x25).trans x26).trans x27).trans x28).trans hz29).trans x30).trans x31).trans x32).trans x33)) (HFAB.out.mono (by omega)) (HFG.out.mono (by omega)) HGP.out).mono ?_
      rintro e w36 ⟨⟨_, _, rfl, ⟨sm, am, nm, cm, rfl, hm⟩, ⟨sr, ar, nr, cr, rfl, hr⟩⟩, x36⟩
      have HVM : Hid (IntV w36 (.agg #[.bool sm, .slice am nm cm]) (((q * c).natAbs : Int) / g)) := Lib.hid ⟨_, _, _, _, rfl, hm⟩
      clear hm hr
      obtain ⟨D37, wb37, hD37, hw37, hb37_0, hb37_1, xb37⟩ := two w36 24 24 [.bool sm, .slice am nm cm] [.bool sr, .slice ar nr cr]
      have KB15 : Hid (∀ W, Ext wb37 W → W.cell? ⟨D37, 0, none⟩ = some (.bool sm) ∧ W.cell? ⟨D37, 1, none⟩ = some (.slice am nm cm)) := Lib.hid fun W h => ⟨h.cell (hb37_0.cell (i := 0) rfl), h.cell (hb37_0.cell (i := 1) rfl)⟩
      have KB16 : Hid (∀ W, Ext wb37 W → W.cell? ⟨D37 + 1, 0, none⟩ = some (.bool sr) ∧ W.cell? ⟨D37 + 1, 1, none⟩ = some (.slice ar nr cr)) := Lib.hid fun W h => ⟨h.cell (hb37_1.cell (i := 0) rfl), h.cell (hb37_1.cell (i := 1) rfl)⟩
      clear hb37_0 hb37_1
      obtain ⟨cc13_0_39, cc13_1_39⟩ := KB13.out wb37 (((((((((((((((hz20.trans x21).trans x22).trans x23).trans x24).trans x25).trans x26).trans x27).trans x28).trans hz29).trans x30).trans x31).trans x32).trans x33).trans x36).trans xb37)
      have hq37 := hw37.symm
      have hp37 := hD37.symm
      clear hw37 hD37
      go_wp2_with fail
      clear hq37 hp37
      clear cc13_0_39 cc13_1_39
      refine (rvalid_any _ (u) _ (HVU.out.ext ((((((((((((((((xb19.trans hz20).trans x21).trans x22).trans x23).trans x24).trans x25).trans x26).trans x27).trans x28).trans hz29).trans x30).trans x31).trans x32).trans x33).trans x36).trans xb37))).mono ?_
      rintro e w38 ⟨rfl, x38⟩
      obtain ⟨cc14_0_41, cc14_1_41⟩ := KB14.out w38 ((((((((((((((((hz20.trans x21).trans x22).trans x23).trans x24).trans x25).trans x26).trans x27).trans x28).trans hz29).trans x30).trans x31).trans x32).trans x33).trans x36).trans xb37).trans x38)
      go_wp2_with fail
      clear cc14_0_41 cc14_1_41
      refine (rvalid_any _ (v) _ (HVV.out.ext (((((((((((((((((xb19.trans hz20).trans x21).trans x22).trans x23).trans x24).trans x25).trans x26).trans x27).trans x28).trans hz29).trans x30).trans x31).trans x32).trans x33).trans x36).trans xb37).trans x38))).mono ?_
      rintro e w40 ⟨rfl, x40⟩
      have HLT : Hid (sgn u (((q * c).natAbs : Int) / g) = -1) := Lib.hid (bez_lt HG.out HRES.out HB0.out)
      obtain ⟨cc13_0_43, cc13_1_43⟩ := KB13.out w40 (((((((((((((((((hz20.trans x21).trans x22).trans x23).trans x24).trans x25).trans x26).trans x27).trans x28).trans hz29).trans x30).trans x31).trans x32).trans x33).trans x36).trans xb37).trans x38).trans x40)
      obtain ⟨cc15_0_44, cc15_1_44⟩ := KB15.out w40 (x38.trans x40)
      go_wp2_with fail
      clear cc13_0_43 cc13_1_43 cc15_0_44 cc15_1_44
      refine (cmp_is _ _ u (((q * c).natAbs : Int) / g) (-1) _ (HVU.out.ext ((((((((((((((((((xb19.trans hz20).trans x21).trans x22).trans x23).trans x24).trans x25).trans x26).trans x27).trans x28).trans hz29).trans x30).trans x31).trans x32).trans x33).trans x36).trans xb37).trans x38).trans x40)) (HVM.out.ext ((xb37.trans x38).trans x40)) HLT.out).mono ?_
      rintro e w42 ⟨rfl, x42⟩
      go_wp2_with fail
      go_ret
      exact ⟨rfl, ((((((((((((((((((((((((((((x0.trans x1).trans x3).trans xb5).trans xE8).trans xE11).trans x14).trans xb15).trans x18).trans xb19).trans hz20).trans x21).trans x22).trans x23).trans x24).trans x25).trans x26).trans x27).trans x28).trans hz29).trans x30).trans x31).trans x32).trans x33).trans x36).trans xb37).trans x38).trans x40).trans x42)⟩
theorem lawDivisors (nx : Bool) (ax : Option Addr) (kx cx : Nat) (lx : List Int) (p : Int) (ep : p = rawZ nx lx 6) (ny : Bool) (ay : Option Addr) (ky cy : Nat) (ly : List Int) (q : Int) (eq : q = rawZ ny ly 6) (nz : Bool) (az : Option Addr) (kz cz : Nat) (lz : List Int) (c : Int) (ec : c = rawZ nz lz 4) (w : World) (hx : Words w ax kx cx lx) (hy : Words w ay ky cy ly) (hz : Words w az kz cz lz)  :
    Calls Tryz.prog 12 #[.agg #[.bool nx, .slice ax kx cx], .agg #[.bool ny, .slice ay ky cy], .agg #[.bool nz, .slice az kz cz]] w fun e w' => e = .returned (.bool true) ∧ Ext w w' := by
  by_cases h : q * c = 0
  · exact divisors_zero nx ax kx cx lx p ep ny ay ky cy ly q eq nz az kz cz lz c ec w hx hy hz h
  · exact divisors_some nx ax kx cx lx p ep ny ay ky cy ly q eq nz az kz cz lz c ec w hx hy hz h
end Go.Proofs.YtddcgojpgdhefaaGreatDoor
