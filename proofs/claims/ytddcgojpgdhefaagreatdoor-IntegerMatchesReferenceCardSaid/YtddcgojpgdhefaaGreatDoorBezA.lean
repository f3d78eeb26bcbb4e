/- Merged texts: Bez1, BezM, Bez2. -/
import Derived.Test.YtddcgojpgdhefaaGreatDoorPowA
import Derived.Test.YtddcgojpgdhefaaGreatDoorRegA
/- integer.Bezout, divisor 0. -/
namespace Go.El
open Go.RowKit
theorem five (w : World) (E F G I J : TypeId) (a b c d e : List Value) : ∃ B w0, B = w.heap.size ∧ w0 = ((((w.alloc (.cells a.toArray E)).alloc (.cells b.toArray F)).alloc (.cells c.toArray G)).alloc (.cells d.toArray I)).alloc (.cells e.toArray J) ∧ Blk w0 B E a ∧ Blk w0 (B + 1) F b ∧ Blk w0 (B + 1 + 1) G c ∧ Blk w0 (B + 1 + 1 + 1) I d ∧ Blk w0 (B + 1 + 1 + 1 + 1) J e ∧ Ext w w0 := by
  obtain ⟨B, w0, h1, h2, h3, h4, h5, h6, h7⟩ := four w E F G I a b c d
  subst h1
  subst h2
  refine ⟨_, _, rfl, rfl, h3.alloc _, h4.alloc _, h5.alloc _, h6.alloc _, ?_, h7.alloc _⟩
  have := Blk.new ((((w.alloc (.cells a.toArray E)).alloc (.cells b.toArray F)).alloc (.cells c.toArray G)).alloc (.cells d.toArray I)) J e
  rw [World.size_alloc', World.size_alloc', World.size_alloc', World.size_alloc'] at this
  exact this
theorem Blk.other2 {w : World} {b c : Nat} {E : TypeId} {cs : List Value} (h : Blk w b E cs) (hne : c ≠ b) (x y : Value) : Blk ((w.setCell ⟨c, 0, none⟩ x).setCell ⟨c, 1, none⟩ y) b E cs := (h.other (p := ⟨c, 0, none⟩) hne x).other (p := ⟨c, 1, none⟩) hne y
theorem Ext.set2' {a w : World} (h : Ext a w) {B b : Nat} (hB : Hid (B = a.heap.size)) (hle : B ≤ b) (x y : Value) : Ext a ((w.setCell ⟨b, 0, none⟩ x).setCell ⟨b, 1, none⟩ y) := (h.store' hB hle 0 x).store' hB hle 1 y
end Go.El
namespace Go.Proofs.YtddcgojpgdhefaaGreatDoor
open Go.RowKit Go.El
set_option linter.unusedVariables false
set_option maxRecDepth 100000 in
set_option maxHeartbeats 400000 in
theorem bezout_zero (x y : Value) (a : Int) (w : World) (hx : IntV w x a) (hy : IntV w y 0) (ha : Fits a 1073741824) :
    Calls Tryz.prog 35 #[x, y] w fun e w' => (∃ g u v, e = .returned (.tuple #[g, u, v]) ∧ IntV w' g a.natAbs ∧ IntV w' u (sgn a 0) ∧ IntV w' v 0) ∧ Ext w w' := by
  have HXV := Lib.hid hx
  obtain ⟨na, ax, nx, cx, rfl, hna, hwx⟩ := hx
  obtain ⟨nb, ay, ny, cy, rfl, hnb, hwy⟩ := hy
  obtain rfl : ny = 0 := by rw [← hwy.hlen, Int.natAbs_zero, Int.ofNat_zero, digs_zero]; rfl
  have hnx : Hid (nx ≤ 1073741824) := by rw [← hwx.hlen]; exact ha.len
  obtain ⟨B, w0, hB, hw0, hb0, hb1, hb2, hb3, hb4, he0⟩ := five w 24 24 24 24 24 [.bool na, .slice ax nx cx] [.bool nb, .slice ay 0 cy] [.bool false, .slice none 0 0] [.bool false, .slice none 0 0] [.bool false, .slice none 0 0]
  have Hx := Lib.hid hwx
  have HZ : Hid (∀ b, b = false → (a.natAbs : Int) = if b = true then -(val (digs a.natAbs)) else val (digs a.natAbs)) := by
    rintro b rfl
    rw [if_neg (by simp), val_digs (by omega)]
  clear hwx hwy hna hnb ha
  obtain ⟨s, hs, hs0, hs1⟩ : ∃ s : Int, s = sgn a 0 ∧ -1 ≤ s ∧ s ≤ 1 := ⟨_, rfl, by have := sgn_cases a 0; omega, by have := sgn_cases a 0; omega⟩
  have HS := Lib.hid hs
  clear hs
  go_enter Tryz.func35, Tryz.ntmps35
  go_wp2_with fail
  rw [← hw0, ← hB]
  have c0 := hb0.cell (i := 0) rfl
  have c1 := hb0.cell (i := 1) rfl
  have HB := Lib.hid hB
  have hsz := hb4.lt
  have KH : Hid (∀ w', Below (B + 1 + 1) w0 w' → w'.cell? ⟨B, 0, none⟩ = some (.bool na) ∧ w'.cell? ⟨B, 1, none⟩ = some (.slice ax nx cx)) := fun w' h => ⟨(h.cell (p := ⟨B, 0, none⟩) (by show B < B + 1 + 1; omega)).trans c0, (h.cell (p := ⟨B, 1, none⟩) (by show B < B + 1 + 1; omega)).trans c1⟩
  clear hw0 hB hb0 hb1
  go_region_held3
    (fun w' => w'.cell? ⟨B, 0, none⟩ = some (.bool na) ∧ w'.cell? ⟨B, 1, none⟩ = some (.slice ax nx cx))
    ((refine KH.out _ ?_; repeat (first | with_reducible exact hx3 | with_reducible exact hx2 | with_reducible exact hx1 | with_reducible exact (Below.refl _ _).drew | with_reducible refine Below.set2 ?_ (by omega) _ _)))
    (first
    | (go_at_call 55; (with_reducible refine (signed_any _ _ _ _ _ (a.natAbs : Int) _ (Hx.out.ext he0.drew) (by have := hnx.out; omega) (HZ.out _ rfl)).mono ?_); rintro e w1 ⟨⟨sr, ar, nr, cr, rfl, hr⟩, he1⟩; have hx1 := (Below.refl (B + 1 + 1) w0).drew.trans (he1.upto (show B + 1 + 1 ≤ w0.heap.size by omega)))
    | (go_at_call 24; (with_reducible refine (sign_any _ a _ (HXV.out.ext (he0.drew.trans he1))).mono ?_); rintro e w2 ⟨rfl, he2⟩; rw [← HS.out]; have hx2 := hx1.trans (he2.upto (Nat.le_trans (show B + 1 + 1 ≤ w0.heap.size by omega) hx1.size)))
    | (go_at_call 31; (with_reducible refine (of_any s _ (by omega) (by omega)).mono ?_); rintro e w3 ⟨⟨v, rfl, hv⟩, he3⟩; obtain ⟨s2, a2, n2, k2, rfl, hv2⟩ := hv; have hx3 := hx2.trans (he3.upto (Nat.le_trans (show B + 1 + 1 ≤ w0.heap.size by omega) hx2.size)); have hb2' := hb2.drew.ext ((he1.trans he2).trans he3); have hb3' := hb3.drew.ext ((he1.trans he2).trans he3); have hb4' := hb4.drew.ext ((he1.trans he2).trans he3); have e0 := hb2'.cell (i := 0) rfl; have e1 := hb2'.cell (i := 1) rfl; have f0 := hb2'.free 0; have f1 := hb2'.free 1; have g0 := hb3'.cell (i := 0) rfl; have g1 := hb3'.cell (i := 1) rfl; have i0 := hb3'.free 0; have i1 := hb3'.free 1; have j0 := hb4'.cell (i := 0) rfl; have j1 := hb4'.cell (i := 1) rfl; have k0 := hb4'.free 0; have k1 := hb4'.free 1)
    )
  go_wp2_with fail
  have h23 : B + 1 + 1 + 1 ≠ B + 1 + 1 := by omega
  have h24 : B + 1 + 1 + 1 + 1 ≠ B + 1 + 1 := by omega
  have h34 : B + 1 + 1 + 1 + 1 ≠ B + 1 + 1 + 1 := by omega
  have hA := ((hb2'.set2 (.bool sr) (.slice ar nr cr)).other2 h23 (.bool s2) (.slice a2 n2 k2)).other2 h24 (.bool false) (.slice none 0 0)
  have hB2 := hb3'.other2 (Ne.symm h23) (.bool sr) (.slice ar nr cr)
  have hC2 := (hb4'.other2 (Ne.symm h24) (.bool sr) (.slice ar nr cr)).other2 (Ne.symm h34) (.bool s2) (.slice a2 n2 k2)
  have hBB := (hB2.set2 (.bool s2) (.slice a2 n2 k2)).other2 h34 (.bool false) (.slice none 0 0)
  have keep : ∀ {a n c l}, Words w3 a n c l → Words ((((((w3.setCell ⟨B + 1 + 1, 0, none⟩ (.bool sr)).setCell ⟨B + 1 + 1, 1, none⟩ (.slice ar nr cr)).setCell ⟨B + 1 + 1 + 1, 0, none⟩ (.bool s2)).setCell ⟨B + 1 + 1 + 1, 1, none⟩ (.slice a2 n2 k2)).setCell ⟨B + 1 + 1 + 1 + 1, 0, none⟩ (.bool false)).setCell ⟨B + 1 + 1 + 1 + 1, 1, none⟩ (.slice none 0 0)) a n c l := fun h => ((h.keep2 hb2' (by simp) (by simp) _ _).keep2 hB2 (by simp) (by simp) _ _).keep2 hC2 (by simp) (by simp) _ _
  refine bodyPost_ret (results_ccc rfl rfl (load_int hA) rfl (load_int hBB) rfl (load_int (hC2.set2 _ _))) rfl ?_
  refine ⟨⟨_, _, _, rfl, ⟨_, _, _, _, rfl, hr.1, keep (hr.2.ext (he2.trans he3))⟩, ⟨_, _, _, _, rfl, ?_⟩, ⟨_, _, _, _, rfl, by simp, by rw [Int.natAbs_zero, Int.ofNat_zero, digs_zero]; exact Words.nil' _⟩⟩, ?_⟩
  · rw [← HS.out]; exact ⟨hv2.1, keep hv2.2⟩
  · exact (((((((he0.drew).trans he1).trans he2).trans he3).set2' HB (by omega) _ _).set2' HB (by omega) _ _).set2' HB (by omega) _ _)
end Go.Proofs.YtddcgojpgdhefaaGreatDoor
/- Bezout: the plain law. -/
namespace Go.El
/-- What holds in each round. -/
structure BezI (a b r0 r1 f0 f1 : Int) : Prop where
  p0 : 0 < r0
  p1 : 0 ≤ r1
  g : Int.gcd r0 r1 = Int.gcd a b
  d0 : b ∣ f0 * a - r0
  d1 : b ∣ f1 * a - r1
  s : f0 * f1 ≤ 0
  e : r0 * (f1.natAbs : Int) + r1 * (f0.natAbs : Int) = (b.natAbs : Int)
  b0 : (f0.natAbs : Int) ≤ b.natAbs
  b1 : (f1.natAbs : Int) ≤ b.natAbs
  q0 : r0 ≤ b.natAbs
  q1 : r1 ≤ b.natAbs
theorem gcd_natAbs_mod (a b : Int) : Int.gcd (b.natAbs : Int) (a % b) = Int.gcd a b := by
  have h2 : Int.gcd b (a % b) = Int.gcd b a := by
    have h3 := Int.gcd_add_mul_left_right b (a % b) (a / b)
    rw [Int.emod_add_mul_ediv] at h3
    exact h3.symm
  rw [Int.gcd_comm a b, ← h2]
  show Nat.gcd b.natAbs _ = Nat.gcd b.natAbs _
  rfl
theorem mul_nonpos_cases {x y : Int} (h : x * y ≤ 0) : (0 ≤ x ∧ y ≤ 0) ∨ (x ≤ 0 ∧ 0 ≤ y) := by
  by_cases hx : 0 < x
  · refine Or.inl ⟨by omega, ?_⟩
    by_cases hy : 0 < y
    · have := Int.mul_pos hx hy; omega
    · omega
  · by_cases hx0 : x = 0
    · subst hx0; omega
    · refine Or.inr ⟨by omega, ?_⟩
      by_cases hy : y < 0
      · have := Int.mul_pos_of_neg_of_neg (show x < 0 by omega) hy; omega
      · omega
theorem abs_alt {x y q : Int} (h : x * y ≤ 0) (hq : 0 ≤ q) : ((x - q * y).natAbs : Int) = x.natAbs + q * (y.natAbs : Int) := by
  rcases mul_nonpos_cases h with ⟨h1, h2⟩ | ⟨h1, h2⟩
  · rw [show ((y.natAbs : Nat) : Int) = -y by omega, show ((x.natAbs : Nat) : Int) = x by omega, Int.mul_neg]
    have h3 : q * y ≤ 0 := by
      have := Int.mul_nonneg hq (show 0 ≤ -y by omega)
      rw [Int.mul_neg] at this; omega
    omega
  · rw [show ((y.natAbs : Nat) : Int) = y by omega, show ((x.natAbs : Nat) : Int) = -x by omega]
    have h3 : 0 ≤ q * y := Int.mul_nonneg hq h2
    omega
theorem BezI.init {a b : Int} (hb : b ≠ 0) : BezI a b b.natAbs (a % b) 0 1 := by
  have h1 := Int.emod_nonneg a hb
  have h2 := Int.emod_lt a hb
  refine ⟨by omega, h1, gcd_natAbs_mod a b, ?_, ?_, by omega, by simp, by simp, by omega, by omega, by omega⟩
  · rw [Int.zero_mul, Int.zero_sub]
    exact (Int.dvd_neg.2 (Int.dvd_natAbs.2 (Int.dvd_refl b)))
  · rw [Int.one_mul]
    exact ⟨a / b, by have := Int.mul_ediv_add_emod a b; omega⟩
theorem BezI.step {a b r0 r1 f0 f1 : Int} (h : BezI a b r0 r1 f0 f1) (hr : 0 < r1) : BezI a b r1 (r0 % r1) f1 (f0 - r0 / r1 * f1) := by
  have hq : 0 ≤ r0 / r1 := Int.ediv_nonneg (Int.le_of_lt h.p0) (Int.le_of_lt hr)
  have hm := Int.emod_nonneg r0 (show r1 ≠ 0 by omega)
  have hl := Int.emod_lt_of_pos r0 hr
  have hd := Int.mul_ediv_add_emod r0 r1
  have hab := abs_alt h.s hq
  have he : r1 * ((f0 - r0 / r1 * f1).natAbs : Int) + r0 % r1 * (f1.natAbs : Int) = b.natAbs := by
    rw [hab, ← h.e]
    have e1 : r0 * (f1.natAbs : Int) = (r1 * (r0 / r1) + r0 % r1) * (f1.natAbs : Int) := by rw [hd]
    rw [e1, Int.mul_add, Int.add_mul, Int.mul_assoc]
    omega
  have hb1 : ((f0 - r0 / r1 * f1).natAbs : Int) ≤ b.natAbs := by
    have h5 : 0 ≤ r0 % r1 * (f1.natAbs : Int) := Int.mul_nonneg hm (by omega)
    have h6 : 1 * ((f0 - r0 / r1 * f1).natAbs : Int) ≤ r1 * ((f0 - r0 / r1 * f1).natAbs : Int) := Int.mul_le_mul_of_nonneg_right (by omega) (by omega)
    omega
  refine ⟨hr, hm, ?_, h.d1, ?_, ?_, he, h.b1, hb1, h.q1, by have := h.q1; omega⟩
  · rw [gcd_step (Int.le_of_lt h.p0) (Int.le_of_lt hr)]; exact h.g
  · have e2 : (f0 - r0 / r1 * f1) * a - r0 % r1 = (f0 * a - r0) - r0 / r1 * (f1 * a - r1) := by
      rw [Int.sub_mul, Int.mul_sub, Int.mul_assoc, Int.mul_comm (r0 / r1) r1]
      omega
    rw [e2]
    exact Int.dvd_sub h.d0 (Int.dvd_trans h.d1 (Int.dvd_mul_left _ _))
  · rw [Int.mul_sub]
    have h7 : 0 ≤ f1 * (r0 / r1 * f1) := by
      rw [Int.mul_comm (r0 / r1), ← Int.mul_assoc]
      exact Int.mul_nonneg (by rcases Int.le_total 0 f1 with h | h; exact Int.mul_nonneg h h; exact Int.mul_nonneg_of_nonpos_of_nonpos h h) hq
    have := h.s
    rw [Int.mul_comm] at this
    omega
/-- What Bezout gives, for a second number other than 0. -/
def BezRes (a b g u v : Int) : Prop := g = ((Int.gcd a b : Nat) : Int) ∧ u * a + v * b = g ∧ 0 ≤ u ∧ u < ((b / g).natAbs : Int)
theorem BezI.done {a b g f0 f1 : Int} (hb : b ≠ 0) (h : BezI a b g 0 f0 f1) : g = ((Int.gcd a b : Nat) : Int) ∧ b / g ≠ 0 ∧ BezRes a b g (f0 % (b / g)) ((g - f0 % (b / g) * a) / b) := by
  have hg : g = ((Int.gcd a b : Nat) : Int) := by
    rw [← h.g]
    obtain ⟨G, rfl⟩ := Int.eq_ofNat_of_zero_le (Int.le_of_lt h.p0)
    show (G : Int) = ((Nat.gcd G 0 : Nat) : Int)
    rw [Nat.gcd_zero_right]
  have hgb : g ∣ b := by rw [hg]; exact Int.gcd_dvd_right ..
  have hga : g ∣ a := by rw [hg]; exact Int.gcd_dvd_left ..
  have hc : b / g ≠ 0 := by
    intro e
    have := Int.ediv_mul_cancel hgb
    rw [e, Int.zero_mul] at this
    exact hb this.symm
  refine ⟨hg, hc, hg, ?_, Int.emod_nonneg _ hc, Int.emod_lt _ hc⟩
  have h1 : b ∣ g - f0 % (b / g) * a := by
    have e1 : f0 % (b / g) = f0 - (b / g) * (f0 / (b / g)) := by have := Int.mul_ediv_add_emod f0 (b / g); omega
    obtain ⟨k, hk⟩ := hga
    obtain ⟨m, hm⟩ := h.d0
    have hbg := Int.mul_ediv_cancel' hgb
    refine ⟨-m + f0 / (b / g) * k, ?_⟩
    rw [e1, Int.sub_mul]
    generalize f0 / (b / g) = t at *
    generalize b / g = c at *
    have e2 : c * t * a = b * (t * k) := by rw [hk, ← hbg]; grind
    rw [e2, Int.mul_add, Int.mul_neg]
    omega
  rw [Int.ediv_mul_cancel h1]
  omega
end Go.El
/- integer.Bezout, walked. -/
namespace Go.El
open Go.RowKit
theorem size_drew' (w : World) : w.drew.heap.size = w.heap.size := rfl
theorem held_ext {w0 w : World} {C : Prop} (h : Ext w0 w ∧ C) : Ext w0 w := h.1
theorem held_keep {w0 w : World} {C : World → Prop} (K : ∀ w', Ext w0 w' → C w') (h : Ext w0 w) : Ext w0 w ∧ C w := ⟨h, K w h⟩
end Go.El
namespace Go.Proofs.YtddcgojpgdhefaaGreatDoor
open Go.RowKit Go.El
set_option linter.unusedVariables false
/-- A row of two integers. -/
def Pair (w : World) (P : Nat) (x y : Int) : Prop := ∃ s0 a0 n0 c0 s1 a1 n1 c1, Blk w P 91 [.bool s0, .slice a0 n0 c0, .bool s1, .slice a1 n1 c1] ∧ IntW w s0 a0 n0 c0 x ∧ IntW w s1 a1 n1 c1 y
def Two (w : World) (v : Value) (x y : Int) : Prop := ∃ s0 a0 n0 c0 s1 a1 n1 c1, v = .agg #[.bool s0, .slice a0 n0 c0, .bool s1, .slice a1 n1 c1] ∧ IntW w s0 a0 n0 c0 x ∧ IntW w s1 a1 n1 c1 y
def Room4 (w : World) (v : Value) (E : TypeId) (m : Nat) : Prop := ∃ P s0 a0 n0 c0 s1 a1 n1 c1, v = .pointer (some ⟨P, 0, none⟩) ∧ Blk w P E [.bool s0, .slice a0 n0 c0, .bool s1, .slice a1 n1 c1] ∧ m ≤ P
structure BezF (B : Nat) (w0 : World) (na : Bool) (ax : Option Addr) (nx cx : Nat) (nb : Bool) (ay : Option Addr) (ny cy : Nat) (a b : Int) (L : Nat → Bool) (y : Nat → Value) (w : World) : Prop where
  e : Ext w0 w
  f0 : L 0 = true → y 25 = .pointer (some ⟨B + 1, 1, none⟩)
  f1 : L 1 = true → y 26 = .slice ay ny cy
  f2 : L 2 = true → IntV w (y 27) b.natAbs
  f3 : L 3 = true → y 28 = .agg #[.bool na, .slice ax nx cx]
  f4 : L 4 = true → y 29 = .agg #[.bool nb, .slice ay ny cy]
  f5 : L 5 = true → IntV w (y 30) (a % b)
  f6 : L 6 = true → Two w (y 31) b.natAbs (a % b)
  f7 : L 7 = true → y 32 = .agg #[.bool false, .slice none 0 0]
  f8 : L 8 = true → IntV w (y 33) 1
  f9 : L 9 = true → Two w (y 34) 0 1
  f10 : L 10 = true → Room4 w (y 7) 91 w0.heap.size
  f11 : L 11 = true → Room4 w (y 8) 91 w0.heap.size
  d : L 10 = true → L 11 = true → y 7 ≠ y 8
  f12 : L 12 = true → ∃ P, y 7 = .pointer (some ⟨P, 0, none⟩) ∧ Pair w P b.natAbs (a % b)
  f13 : L 13 = true → ∃ P, y 8 = .pointer (some ⟨P, 0, none⟩) ∧ Pair w P 0 1
  c12 : L 12 = true → L 10 = true
  c13 : L 13 = true → L 11 = true
theorem Two.ext {w w' : World} {v : Value} {x y : Int} (h : Two w v x y) (he : Ext w w') : Two w' v x y := by
  obtain ⟨s0, a0, n0, c0, s1, a1, n1, c1, rfl, h0, h1⟩ := h
  exact ⟨s0, a0, n0, c0, s1, a1, n1, c1, rfl, h0.ext he, h1.ext he⟩
theorem Pair.ext {w w' : World} {P : Nat} {x y : Int} (h : Pair w P x y) (he : Ext w w') : Pair w' P x y := by
  obtain ⟨s0, a0, n0, c0, s1, a1, n1, c1, hb, h0, h1⟩ := h
  exact ⟨s0, a0, n0, c0, s1, a1, n1, c1, hb.ext he, h0.ext he, h1.ext he⟩
theorem Room4.ext {w w' : World} {v : Value} {E : TypeId} {m : Nat} (h : Room4 w v E m) (he : Ext w w') : Room4 w' v E m := by
  obtain ⟨P, s0, a0, n0, c0, s1, a1, n1, c1, rfl, hb, hm⟩ := h
  exact ⟨P, s0, a0, n0, c0, s1, a1, n1, c1, rfl, hb.ext he, hm⟩
theorem BezF.ext {B : Nat} {w0 : World} {na : Bool} {ax : Option Addr} {nx cx : Nat} {nb : Bool} {ay : Option Addr} {ny cy : Nat} {a b : Int} {L : Nat → Bool} {y : Nat → Value} {w w' : World}
    (h : BezF B w0 na ax nx cx nb ay ny cy a b L y w) (he : Ext w w') : BezF B w0 na ax nx cx nb ay ny cy a b L y w' :=
  ⟨h.e.trans he, h.f0, h.f1, fun k => (h.f2 k).ext he, h.f3, h.f4, fun k => (h.f5 k).ext he, fun k => (h.f6 k).ext he, h.f7, fun k => (h.f8 k).ext he, fun k => (h.f9 k).ext he, fun k => (h.f10 k).ext he, fun k => (h.f11 k).ext he, h.d,
    fun k => by obtain ⟨P, hp, hq⟩ := h.f12 k; exact ⟨P, hp, hq.ext he⟩, fun k => by obtain ⟨P, hp, hq⟩ := h.f13 k; exact ⟨P, hp, hq.ext he⟩, h.c12, h.c13⟩

theorem room4_new {w0 w : World} (he : Ext w0 w) : Room4 (w.alloc (.cells #[.bool false, .slice none 0 0, .bool false, .slice none 0 0] 91)) (.pointer (some ⟨w.heap.size, 0, none⟩)) 91 w0.heap.size :=
  ⟨_, _, _, _, _, _, _, _, _, rfl, Blk.new w _ [_, _, _, _], he.size⟩
theorem room4_ne {w : World} {v u : Value} {E : TypeId} {m : Nat} (h : Room4 w v E m) (hu : u = .pointer (some ⟨w.heap.size, 0, none⟩)) : u ≠ v := by
  obtain ⟨P, s0, a0, n0, c0, s1, a1, n1, c1, rfl, hb, hm⟩ := h
  rw [hu]
  have := hb.lt
  intro e
  injection e with e
  injection e with e
  injection e with e
  omega
/-- Four cells stored. -/
def st4 (w : World) (P : Nat) (x0 x1 x2 x3 : Value) : World := (((w.setCell ⟨P, 0, none⟩ x0).setCell ⟨P, 1, none⟩ x1).setCell ⟨P, 2, none⟩ x2).setCell ⟨P, 3, none⟩ x3
theorem Blk.st4 {w : World} {P : Nat} {E : TypeId} {p q r s : Value} (h : Blk w P E [p, q, r, s]) (x0 x1 x2 x3 : Value) : Blk (st4 w P x0 x1 x2 x3) P E [x0, x1, x2, x3] := (((h.set 0 x0).set 1 x1).set 2 x2).set 3 x3
theorem Blk.st4_other {w : World} {P Q : Nat} {E : TypeId} {cs : List Value} (h : Blk w Q E cs) (hne : P ≠ Q) (x0 x1 x2 x3 : Value) : Blk (Proofs.YtddcgojpgdhefaaGreatDoor.st4 w P x0 x1 x2 x3) Q E cs := (((h.other (p := ⟨P, 0, none⟩) hne x0).other (p := ⟨P, 1, none⟩) hne x1).other (p := ⟨P, 2, none⟩) hne x2).other (p := ⟨P, 3, none⟩) hne x3
theorem stay_st4 {w : World} {P : Nat} {E : TypeId} {s0 s1 : Bool} {a0 a1 : Option Addr} {n0 c0 n1 c1 : Nat} (h : Blk w P E [.bool s0, .slice a0 n0 c0, .bool s1, .slice a1 n1 c1]) (x0 x1 x2 x3 : Value) : Stay w (st4 w P x0 x1 x2 x3) :=
  (((Stay.store (h.cell (i := 0) rfl) (by simp) x0).trans (Stay.store ((h.set 0 x0).cell (i := 1) rfl) (by simp) x1)).trans (Stay.store (((h.set 0 x0).set 1 x1).cell (i := 2) rfl) (by simp) x2)).trans (Stay.store ((((h.set 0 x0).set 1 x1).set 2 x2).cell (i := 3) rfl) (by simp) x3)
theorem ext_st4 {w0 w : World} {P : Nat} (h : Ext w0 w) (hP : w0.heap.size ≤ P) (x0 x1 x2 x3 : Value) : Ext w0 (st4 w P x0 x1 x2 x3) := (((h.setCell (p := ⟨P, 0, none⟩) hP x0).setCell (p := ⟨P, 1, none⟩) hP x1).setCell (p := ⟨P, 2, none⟩) hP x2).setCell (p := ⟨P, 3, none⟩) hP x3
theorem Two.stay {w w' : World} {v : Value} {x y : Int} (h : Two w v x y) (he : Stay w w') : Two w' v x y := by
  obtain ⟨s0, a0, n0, c0, s1, a1, n1, c1, rfl, h0, h1⟩ := h
  exact ⟨s0, a0, n0, c0, s1, a1, n1, c1, rfl, IntW.stay h0 he, IntW.stay h1 he⟩
theorem Room4.st4 {w : World} {v : Value} {E : TypeId} {m P : Nat} (h : Room4 w v E m) (hv : v ≠ .pointer (some ⟨P, 0, none⟩)) (x0 x1 x2 x3 : Value) : Room4 (st4 w P x0 x1 x2 x3) v E m := by
  obtain ⟨Q, s0, a0, n0, c0, s1, a1, n1, c1, rfl, hb, hm⟩ := h
  exact ⟨Q, s0, a0, n0, c0, s1, a1, n1, c1, rfl, Blk.st4_other hb (by rintro rfl; exact hv rfl) _ _ _ _, hm⟩
theorem Pair.st4 {w : World} {Q P : Nat} {x y : Int} (h : Pair w Q x y) (hv : P ≠ Q) {x0 x1 x2 x3 : Value} (hs : Stay w (st4 w P x0 x1 x2 x3)) : Pair (st4 w P x0 x1 x2 x3) Q x y := by
  obtain ⟨s0, a0, n0, c0, s1, a1, n1, c1, hb, h0, h1⟩ := h
  exact ⟨s0, a0, n0, c0, s1, a1, n1, c1, Blk.st4_other hb hv _ _ _ _, IntW.stay h0 hs, IntW.stay h1 hs⟩
theorem BezF.store {B : Nat} {w0 : World} {na : Bool} {ax : Option Addr} {nx cx : Nat} {nb : Bool} {ay : Option Addr} {ny cy : Nat} {a b : Int} {L : Nat → Bool} {y : Nat → Value} {w : World}
    (h : BezF B w0 na ax nx cx nb ay ny cy a b L y w) {p : Nat} {u v : Int} (i : Nat) (hL : L 10 = true) (hL' : L 11 = true)
    (hi : i = 12 ∧ (∃ P, y 7 = .pointer (some ⟨P, 0, none⟩) ∧ p = P) ∧ u = (b.natAbs : Int) ∧ v = a % b ∨ i = 13 ∧ (∃ P, y 8 = .pointer (some ⟨P, 0, none⟩) ∧ p = P) ∧ u = 0 ∧ v = 1)
    {s0 s1 : Bool} {a0 a1 : Option Addr} {n0 c0 n1 c1 : Nat} (h0 : IntW w s0 a0 n0 c0 u) (h1 : IntW w s1 a1 n1 c1 v) :
    BezF B w0 na ax nx cx nb ay ny cy a b (setL L i) y (st4 w p (.bool s0) (.slice a0 n0 c0) (.bool s1) (.slice a1 n1 c1)) := by
  have k7 := h.f10 hL
  have k8 := h.f11 hL'
  have hd := h.d hL hL'
  obtain ⟨P, t0, b0, m0, d0, t1, b1, m1, d1, e7, hb7, hm7⟩ := id k7
  obtain ⟨Q, t2, b2, m2, d2, t3, b3, m3, d3, e8, hb8, hm8⟩ := id k8
  have hPQ : P ≠ Q := by rintro rfl; exact hd (e7.trans e8.symm)
  have hp : (p = P ∧ i = 12 ∧ u = (b.natAbs : Int) ∧ v = a % b) ∨ (p = Q ∧ i = 13 ∧ u = 0 ∧ v = 1) := by
    rcases hi with ⟨rfl, ⟨P', e', rfl⟩, hu, hv⟩ | ⟨rfl, ⟨P', e', rfl⟩, hu, hv⟩
    · rw [e7] at e'; injection e' with e'; injection e' with e'; injection e' with e'; exact Or.inl ⟨e'.symm, rfl, hu, hv⟩
    · rw [e8] at e'; injection e' with e'; injection e' with e'; injection e' with e'; exact Or.inr ⟨e'.symm, rfl, hu, hv⟩
  clear hi
  rcases hp with ⟨rfl, rfl, rfl, rfl⟩ | ⟨rfl, rfl, rfl, rfl⟩
  · have hs := stay_st4 hb7 (.bool s0) (.slice a0 n0 c0) (.bool s1) (.slice a1 n1 c1)
    refine ⟨ext_st4 h.e hm7 _ _ _ _, h.f0, h.f1, fun k => (h.f2 k).stay hs, h.f3, h.f4, fun k => (h.f5 k).stay hs, fun k => (h.f6 k).stay hs, h.f7, fun k => (h.f8 k).stay hs, fun k => (h.f9 k).stay hs, fun _ => ⟨_, _, _, _, _, _, _, _, _, e7, Blk.st4 hb7 _ _ _ _, hm7⟩, fun _ => k8.st4 (by rw [e8]; intro e; injection e with e; injection e with e; injection e with e; exact hPQ e.symm) _ _ _ _, h.d, fun _ => ⟨_, e7, _, _, _, _, _, _, _, _, Blk.st4 hb7 _ _ _ _, IntW.stay h0 hs, IntW.stay h1 hs⟩, fun k => ?_, fun _ => hL, h.c13⟩
    obtain ⟨P', e', hq⟩ := h.f13 k
    rw [e8] at e'; injection e' with e'; injection e' with e'; injection e' with e'
    subst e'
    exact ⟨_, e8, hq.st4 hPQ hs⟩
  · have hs := stay_st4 hb8 (.bool s0) (.slice a0 n0 c0) (.bool s1) (.slice a1 n1 c1)
    refine ⟨ext_st4 h.e hm8 _ _ _ _, h.f0, h.f1, fun k => (h.f2 k).stay hs, h.f3, h.f4, fun k => (h.f5 k).stay hs, fun k => (h.f6 k).stay hs, h.f7, fun k => (h.f8 k).stay hs, fun k => (h.f9 k).stay hs, fun _ => k7.st4 (by rw [e7]; intro e; injection e with e; injection e with e; injection e with e; exact hPQ e) _ _ _ _, fun _ => ⟨_, _, _, _, _, _, _, _, _, e8, Blk.st4 hb8 _ _ _ _, hm8⟩, h.d, fun k => ?_, fun _ => ⟨_, e8, _, _, _, _, _, _, _, _, Blk.st4 hb8 _ _ _ _, IntW.stay h0 hs, IntW.stay h1 hs⟩, h.c12, fun _ => hL'⟩
    obtain ⟨P', e', hq⟩ := h.f12 k
    rw [e7] at e'; injection e' with e'; injection e' with e'; injection e' with e'
    subst e'
    exact ⟨_, e7, hq.st4 (Ne.symm hPQ) hs⟩
/-- The number that lies in a cell. -/
noncomputable def cval (w : World) (p : Addr) : Nat := match w.cell? p with
  | some v => mval w v
  | none => 0
theorem cval_eq {w : World} {p : Addr} {s : Bool} {a : Option Addr} {n c : Nat} {z : Int} (hc : w.cell? p = some (.slice a n c)) (h : IntW w s a n c z) : cval w p = z.natAbs := by
  unfold cval
  rw [hc]
  show mval w (.slice a n c) = z.natAbs
  rw [mval_eq h.2, val_digs (by omega), Int.toNat_natCast]
theorem Blk.lo {w : World} {P : Nat} {E : TypeId} {p q r s : Value} (h : Blk w P E [p, q, r, s]) (x0 x1 : Value) : Blk (Proofs.YtddcgojpgdhefaaGreatDoor.st2 w P x0 x1) P E [x0, x1, r, s] := (h.set 0 x0).set 1 x1
def st2h (w : World) (P : Nat) (x0 x1 : Value) : World := (w.setCell ⟨P, 2, none⟩ x0).setCell ⟨P, 3, none⟩ x1
theorem Blk.hi {w : World} {P : Nat} {E : TypeId} {p q r s : Value} (h : Blk w P E [p, q, r, s]) (x0 x1 : Value) : Blk (st2h w P x0 x1) P E [p, q, x0, x1] := (h.set 2 x0).set 3 x1
theorem stay_lo {w : World} {P : Nat} {E : TypeId} {s0 s1 : Bool} {a0 a1 : Option Addr} {n0 c0 n1 c1 : Nat} (h : Blk w P E [.bool s0, .slice a0 n0 c0, .bool s1, .slice a1 n1 c1]) (x0 x1 : Value) : Stay w (st2 w P x0 x1) :=
  (Stay.store (h.cell (i := 0) rfl) (by simp) x0).trans (Stay.store ((h.set 0 x0).cell (i := 1) rfl) (by simp) x1)
theorem stay_hi {w : World} {P : Nat} {E : TypeId} {s0 s1 : Bool} {a0 a1 : Option Addr} {n0 c0 n1 c1 : Nat} (h : Blk w P E [.bool s0, .slice a0 n0 c0, .bool s1, .slice a1 n1 c1]) (x0 x1 : Value) : Stay w (st2h w P x0 x1) :=
  (Stay.store (h.cell (i := 2) rfl) (by simp) x0).trans (Stay.store ((h.set 2 x0).cell (i := 3) rfl) (by simp) x1)
theorem ext_st2h {w0 w : World} {P : Nat} (h : Ext w0 w) (hP : w0.heap.size ≤ P) (x0 x1 : Value) : Ext w0 (st2h w P x0 x1) := (h.setCell (p := ⟨P, 2, none⟩) hP x0).setCell (p := ⟨P, 3, none⟩) hP x1
theorem Blk.st2h_other {w : World} {P Q : Nat} {E : TypeId} {cs : List Value} (h : Blk w Q E cs) (hne : P ≠ Q) (x0 x1 : Value) : Blk (st2h w P x0 x1) Q E cs := (h.other (p := ⟨P, 2, none⟩) hne x0).other (p := ⟨P, 3, none⟩) hne x1
--<R6S
structure Bez6 (w0 w5 : World) (P C : Nat) (s0 : Bool) (a0 : Option Addr) (n0 c0 : Nat) (s1 : Bool) (a1 : Option Addr) (n1 c1 : Nat) (sv : Bool) (av : Option Addr) (nv cv : Nat) (L : Nat → Bool) (y : Nat → Value) (w : World) : Prop where
  e : Ext w0 w
  st : Stay w5 w
  sp : ∀ k E cs, k ≠ P → Blk w5 k E cs → Blk w k E cs
  bc : Blk w C 24 [.bool sv, .slice av nv cv]
  o : L 4 = false → Blk w P 91 [.bool s0, .slice a0 n0 c0, .bool s1, .slice a1 n1 c1]
  f4 : L 4 = true → L 6 = false → Blk w P 91 [.bool s1, .slice a1 n1 c1, .bool s1, .slice a1 n1 c1]
  f6 : L 6 = true → Blk w P 91 [.bool s1, .slice a1 n1 c1, .bool sv, .slice av nv cv]
  c6 : L 6 = true → L 4 = true
  c4 : L 4 = true → L 1 = true
  f0 : L 0 = true → y 48 = .pointer (some ⟨P, 2, none⟩)
  f1 : L 1 = true → y 49 = .agg #[.bool s1, .slice a1 n1 c1]
  f2 : L 2 = true → y 50 = .agg #[.bool sv, .slice av nv cv]
  f3 : L 3 = true → y 51 = .pointer (some ⟨P, 0, none⟩)
  f5 : L 5 = true → y 52 = .pointer (some ⟨P, 2, none⟩)
theorem Bez6.ext {w0 w5 : World} {P C : Nat} {s0 : Bool} {a0 : Option Addr} {n0 c0 : Nat} {s1 : Bool} {a1 : Option Addr} {n1 c1 : Nat} {sv : Bool} {av : Option Addr} {nv cv : Nat} {L : Nat → Bool} {y : Nat → Value} {w w1 : World} (h : Bez6 w0 w5 P C s0 a0 n0 c0 s1 a1 n1 c1 sv av nv cv L y w) (he : Ext w w1) : Bez6 w0 w5 P C s0 a0 n0 c0 s1 a1 n1 c1 sv av nv cv L y w1 :=
  ⟨h.e.trans he, h.st.trans he.stay, fun a b c d z => (h.sp a b c d z).ext he, h.bc.ext he, fun z => (h.o z).ext he, fun z z2 => (h.f4 z z2).ext he, fun z => (h.f6 z).ext he, h.c6, h.c4, h.f0, h.f1, h.f2, h.f3, h.f5⟩
structure Bez7 (w0 w6 : World) (R D : Nat) (t0 : Bool) (b0 : Option Addr) (m0 d0 : Nat) (t1 : Bool) (b1 : Option Addr) (m1 d1 : Nat) (sq : Bool) (aq : Option Addr) (nq cq : Nat) (p m : Int) (L : Nat → Bool) (y : Nat → Value) (w : World) : Prop where
  e : Ext w0 w
  st : Stay w6 w
  sp : ∀ k E cs, k ≠ R → Blk w6 k E cs → Blk w k E cs
  bd : Blk w D 24 [.bool sq, .slice aq nq cq]
  o : L 10 = false → Blk w R 91 [.bool t0, .slice b0 m0 d0, .bool t1, .slice b1 m1 d1]
  f10 : L 10 = true → L 12 = false → Blk w R 91 [.bool t1, .slice b1 m1 d1, .bool t1, .slice b1 m1 d1]
  f12 : L 12 = true → ∃ s a n c, Blk w R 91 [.bool t1, .slice b1 m1 d1, .bool s, .slice a n c] ∧ IntW w s a n c m
  c12 : L 12 = true → L 10 = true
  c10 : L 10 = true → L 1 = true ∧ L 3 = true ∧ L 6 = true
  f0 : L 0 = true → y 53 = .pointer (some ⟨R, 2, none⟩)
  f1 : L 1 = true → y 54 = .agg #[.bool t1, .slice b1 m1 d1]
  f2 : L 2 = true → y 55 = .pointer (some ⟨R, 0, none⟩)
  f3 : L 3 = true → y 56 = .agg #[.bool t0, .slice b0 m0 d0]
  f4 : L 4 = true → y 57 = .agg #[.bool sq, .slice aq nq cq]
  f5 : L 5 = true → y 58 = .pointer (some ⟨R, 2, none⟩)
  f6 : L 6 = true → y 59 = .agg #[.bool t1, .slice b1 m1 d1]
  f7 : L 7 = true → IntV w (y 60) p
  f8 : L 8 = true → IntV w (y 61) m
  f9 : L 9 = true → y 62 = .pointer (some ⟨R, 0, none⟩)
  f11 : L 11 = true → y 63 = .pointer (some ⟨R, 2, none⟩)
theorem Bez7.ext {w0 w6 : World} {R D : Nat} {t0 : Bool} {b0 : Option Addr} {m0 d0 : Nat} {t1 : Bool} {b1 : Option Addr} {m1 d1 : Nat} {sq : Bool} {aq : Option Addr} {nq cq : Nat} {p m : Int} {L : Nat → Bool} {y : Nat → Value} {w w1 : World} (h : Bez7 w0 w6 R D t0 b0 m0 d0 t1 b1 m1 d1 sq aq nq cq p m L y w) (he : Ext w w1) : Bez7 w0 w6 R D t0 b0 m0 d0 t1 b1 m1 d1 sq aq nq cq p m L y w1 :=
  ⟨h.e.trans he, h.st.trans he.stay, fun a b c d z => (h.sp a b c d z).ext he, h.bd.ext he, fun z => (h.o z).ext he, fun z z2 => (h.f10 z z2).ext he, fun z => by obtain ⟨s, a, n, c, hb, hi⟩ := h.f12 z; exact ⟨s, a, n, c, hb.ext he, hi.ext he⟩, h.c12, h.c10, h.f0, h.f1, h.f2, h.f3, h.f4, h.f5, h.f6, fun k => (h.f7 k).ext he, fun k => (h.f8 k).ext he, h.f9, h.f11⟩
-->R6S
--<R9S
structure Bez9 (w2 : World) (R : Nat) (t0 : Bool) (b0 : Option Addr) (m0 d0 : Nat) (nb : Bool) (ay : Option Addr) (ny cy : Nat) (s0 : Bool) (a0 : Option Addr) (n0 c0 : Nat) (q u : Int) (L : Nat → Bool) (y : Nat → Value) (w : World) : Prop where
  e : Ext w2 w
  f0 : L 0 = true → y 66 = .pointer (some ⟨R, 0, none⟩)
  f1 : L 1 = true → y 67 = .agg #[.bool t0, .slice b0 m0 d0]
  f2 : L 2 = true → y 68 = .agg #[.bool nb, .slice ay ny cy]
  f3 : L 3 = true → y 69 = .agg #[.bool s0, .slice a0 n0 c0]
  f4 : L 4 = true → IntV w (y 70) q
  f5 : L 5 = true → IntV w (y 71) u
  f6 : L 6 = true → RoomI w (y 13) w2.heap.size
  f7 : L 7 = true → AtI w (y 13) w2.heap.size u
  c7 : L 7 = true → L 6 = true
theorem Bez9.ext {w2 : World} {R : Nat} {t0 : Bool} {b0 : Option Addr} {m0 d0 : Nat} {nb : Bool} {ay : Option Addr} {ny cy : Nat} {s0 : Bool} {a0 : Option Addr} {n0 c0 : Nat} {q u : Int} {L : Nat → Bool} {y : Nat → Value} {w w1 : World} (h : Bez9 w2 R t0 b0 m0 d0 nb ay ny cy s0 a0 n0 c0 q u L y w) (he : Ext w w1) : Bez9 w2 R t0 b0 m0 d0 nb ay ny cy s0 a0 n0 c0 q u L y w1 :=
  ⟨h.e.trans he, h.f0, h.f1, h.f2, h.f3, fun k => (h.f4 k).ext he, fun k => (h.f5 k).ext he, fun k => (h.f6 k).ext he, fun k => (h.f7 k).ext he, h.c7⟩
-->R9S
--<R10S
structure Bez10 (W w3 : World) (B G U : Nat) (na : Bool) (ax : Option Addr) (nx cx : Nat) (nb : Bool) (ay : Option Addr) (ny cy : Nat) (s0 : Bool) (a0 : Option Addr) (n0 c0 : Nat) (s5 : Bool) (a5 : Option Addr) (n5 c5 : Nat) (p m v : Int) (L : Nat → Bool) (y : Nat → Value) (w : World) : Prop where
  e : Ext W w
  st : Stay w3 w
  bg : Blk w (G) 24 [.bool s0, .slice a0 n0 c0]
  bu : Blk w (U) 24 [.bool s5, .slice a5 n5 c5]
  ba : Blk w (B) 24 [.bool na, .slice ax nx cx]
  bb : Blk w (B + 1) 24 [.bool nb, .slice ay ny cy]
  q2 : PlaceI w (B + 1 + 1)
  q3 : PlaceI w (B + 1 + 1 + 1)
  q4 : PlaceI w (B + 1 + 1 + 1 + 1)
  f0 : L 0 = true → y 72 = .agg #[.bool s0, .slice a0 n0 c0]
  f1 : L 1 = true → y 73 = .agg #[.bool s5, .slice a5 n5 c5]
  f2 : L 2 = true → y 74 = .agg #[.bool s0, .slice a0 n0 c0]
  f3 : L 3 = true → y 75 = .agg #[.bool s5, .slice a5 n5 c5]
  f4 : L 4 = true → y 76 = .agg #[.bool na, .slice ax nx cx]
  f5 : L 5 = true → IntV w (y 77) p
  f6 : L 6 = true → IntV w (y 78) m
  f7 : L 7 = true → y 79 = .agg #[.bool nb, .slice ay ny cy]
  f8 : L 8 = true → IntV w (y 80) v
  f9 : L 9 = true → Blk w (B + 1 + 1) 24 [.bool s0, .slice a0 n0 c0]
  f10 : L 10 = true → Blk w (B + 1 + 1 + 1) 24 [.bool s5, .slice a5 n5 c5]
  f11 : L 11 = true → HoldI w (B + 1 + 1 + 1 + 1) v
theorem Bez10.ext {W w3 : World} {B G U : Nat} {na : Bool} {ax : Option Addr} {nx cx : Nat} {nb : Bool} {ay : Option Addr} {ny cy : Nat} {s0 : Bool} {a0 : Option Addr} {n0 c0 : Nat} {s5 : Bool} {a5 : Option Addr} {n5 c5 : Nat} {p m v : Int} {L : Nat → Bool} {y : Nat → Value} {w w1 : World} (h : Bez10 W w3 B G U na ax nx cx nb ay ny cy s0 a0 n0 c0 s5 a5 n5 c5 p m v L y w) (he : Ext w w1) : Bez10 W w3 B G U na ax nx cx nb ay ny cy s0 a0 n0 c0 s5 a5 n5 c5 p m v L y w1 :=
  ⟨h.e.trans he, h.st.trans he.stay, h.bg.ext he, h.bu.ext he, h.ba.ext he, h.bb.ext he, h.q2.ext he, h.q3.ext he, h.q4.ext he, h.f0, h.f1, h.f2, h.f3, h.f4, fun k => (h.f5 k).ext he, fun k => (h.f6 k).ext he, h.f7, fun k => (h.f8 k).ext he, fun k => (h.f9 k).ext he, fun k => (h.f10 k).ext he, fun k => (h.f11 k).ext he⟩
-->R10S
set_option maxRecDepth 100000 in
set_option maxHeartbeats 1000000 in
theorem bezout_any (x y : Value) (a b : Int) (w : World) (hx : IntV w x a) (hy : IntV w y b) (ha : Fits a 1000) (hb : Fits b 1000) (hb0 : b ≠ 0) :
    Calls Tryz.prog 35 #[x, y] w fun e w' => (∃ g u v gi ui vi, e = .returned (.tuple #[g, u, v]) ∧ IntV w' g gi ∧ IntV w' u ui ∧ IntV w' v vi ∧ BezRes a b gi ui vi) ∧ Ext w w' := by
  have HXV := Lib.hid hx
  have HYV := Lib.hid hy
  obtain ⟨na, ax, nx, cx, rfl, hna, hwx⟩ := hx
  obtain ⟨nb, ay, ny, cy, rfl, hnb, hwy⟩ := hy
  have hny : ((ny : Int) == 0) = false := by
    have h1 := digs_pos_len (show 0 < (b.natAbs : Int) by omega)
    rw [hwy.hlen] at h1
    simp; omega
  have HNy : Hid (ny ≤ 1000) := by rw [← hwy.hlen]; exact hb.len
  have HZb : Hid (∀ c, c = false → (b.natAbs : Int) = if c = true then -(val (digs b.natAbs)) else val (digs b.natAbs)) := by
    rintro c rfl
    rw [if_neg (by simp), val_digs (by omega)]
  obtain ⟨B, w0, hB, hw0, hbx, hby, hb2, hb3, hb4, he0⟩ := five w 24 24 24 24 24 [.bool na, .slice ax nx cx] [.bool nb, .slice ay ny cy] [.bool false, .slice none 0 0] [.bool false, .slice none 0 0] [.bool false, .slice none 0 0]
  have Hy := Lib.hid hwy
  have HA := Lib.hid ha
  have HBf := Lib.hid hb
  have HB0 := Lib.hid hb0
  clear hwx hwy hna hnb ha hb hb0
  go_enter Tryz.func35, Tryz.ntmps35
  go_wp2_with fail
  rw [← hw0, ← hB]
  have HB := Lib.hid hB
  have hsz := hb4.lt
  have KH : Hid (∀ w', Ext w0 w' → w'.cell? ⟨B, 0, none⟩ = some (.bool na) ∧ w'.cell? ⟨B, 1, none⟩ = some (.slice ax nx cx) ∧ w'.cell? ⟨B + 1, 0, none⟩ = some (.bool nb) ∧ w'.cell? ⟨B + 1, 1, none⟩ = some (.slice ay ny cy)) := fun w' h => ⟨h.cell (hbx.cell (i := 0) rfl), h.cell (hbx.cell (i := 1) rfl), h.cell (hby.cell (i := 0) rfl), h.cell (hby.cell (i := 1) rfl)⟩
  clear hw0 hB
  go_cut [7, 8] (fun p q wx => ∃ P Q, p = .pointer (some ⟨P, 0, none⟩) ∧ q = .pointer (some ⟨Q, 0, none⟩) ∧ Pair wx P b.natAbs (a % b) ∧ Pair wx Q 0 1 ∧ P ≠ Q ∧ w0.heap.size ≤ P ∧ w0.heap.size ≤ Q ∧ Ext w0 wx)
  case first =>
    rename_i q1 k1 h1 h2 h3
    refine wp_region_facts [25, 26, 27, 28, 29, 30, 31, 32, 33, 34, 7, 8] (BezF B w0 na ax nx cx nb ay ny cy a b) (by kernel_rfl) (by kernel_rfl) ?_ ?_ ?_
    · intro y
      exact ⟨(Ext.refl _).drew, by simp, by simp, by simp, by simp, by simp, by simp, by simp, by simp, by simp, by simp, by simp, by simp, by simp, by simp, by simp, by simp, by simp⟩
    · intro Q
      clear h1 h2 h3 k1 q1
      refine AllF.cons rfl ?_ ?_
      · skip
        with_reducible refine StepF.dst (d := 25) (by kernel_rfl) (by kernel_rfl) ?_
        intro L y w hi hp h K hK
        simp only [putAll, List.foldl, Act.put, List.setIfInBounds_toArray, List.set_cons_zero, List.set_cons_succ] at hK ⊢
        have HK := Lib.hid hK
        clear hK
        go_simp
        refine HK.out _ _ ?_
        have k := h.out
        exact ⟨k.e, fun _ => upd_eq, k.f1, k.f2, k.f3, k.f4, k.f5, k.f6, k.f7, k.f8, k.f9, k.f10, k.f11, k.d, k.f12, k.f13, k.c12, k.c13⟩
      refine AllF.cons rfl ?_ ?_
      · skip
        with_reducible refine StepF.dst (d := 26) (by kernel_rfl) (by kernel_rfl) ?_
        intro L y w hi hp h K hK
        simp only [putAll, List.foldl, Act.put, List.setIfInBounds_toArray, List.set_cons_zero, List.set_cons_succ] at hK ⊢
        have HK := Lib.hid hK
        clear hK
        have g := h.out.f0 (hp.out 0 (by kernel_rfl))
        obtain ⟨c0, c1, d0, d1⟩ := KH.out w h.out.e
        clear KH
        simp only [g] at HK
        go_simp
        refine HK.out _ _ ?_
        have k := h.out
        exact ⟨k.e, k.f0, fun _ => upd_eq, k.f2, k.f3, k.f4, k.f5, k.f6, k.f7, k.f8, k.f9, k.f10, k.f11, k.d, k.f12, k.f13, k.c12, k.c13⟩
      refine AllF.cons rfl ?_ ?_
      · skip
        with_reducible refine StepF.dst (d := 27) (by kernel_rfl) (by kernel_rfl) ?_
        intro L y w hi hp h K hK
        simp only [putAll, List.foldl, Act.put, List.setIfInBounds_toArray, List.set_cons_zero, List.set_cons_succ] at hK ⊢
        have HK := Lib.hid hK
        clear hK
        have g := h.out.f1 (hp.out 1 (by kernel_rfl))
        simp only [g] at HK
        go_simp
        refine (signed_any _ _ _ _ _ (b.natAbs : Int) _ (Hy.out.ext (he0.trans h.out.e)) (by have := HNy.out; omega) (HZb.out _ rfl)).mono ?_
        rintro e w1 ⟨⟨sr, ar, nr, cr, rfl, hr⟩, he1⟩
        clear g
        go_simp
        refine HK.out _ _ ?_
        have k := h.out.ext he1
        exact ⟨k.e, k.f0, k.f1, fun _ => by rw [upd_eq]; exact ⟨_, _, _, _, rfl, hr⟩, k.f3, k.f4, k.f5, k.f6, k.f7, k.f8, k.f9, k.f10, k.f11, k.d, k.f12, k.f13, k.c12, k.c13⟩
      refine AllF.cons rfl ?_ ?_
      · skip
        with_reducible refine StepF.dst (d := 28) (by kernel_rfl) (by kernel_rfl) ?_
        intro L y w hi hp h K hK
        simp only [putAll, List.foldl, Act.put, List.setIfInBounds_toArray, List.set_cons_zero, List.set_cons_succ] at hK ⊢
        have HK := Lib.hid hK
        clear hK
        obtain ⟨c0, c1, d0, d1⟩ := KH.out w h.out.e
        clear KH
        go_simp
        refine HK.out _ _ ?_
        have k := h.out
        exact ⟨k.e, k.f0, k.f1, k.f2, fun _ => upd_eq, k.f4, k.f5, k.f6, k.f7, k.f8, k.f9, k.f10, k.f11, k.d, k.f12, k.f13, k.c12, k.c13⟩
      refine AllF.cons rfl ?_ ?_
      · skip
        with_reducible refine StepF.dst (d := 29) (by kernel_rfl) (by kernel_rfl) ?_
        intro L y w hi hp h K hK
        simp only [putAll, List.foldl, Act.put, List.setIfInBounds_toArray, List.set_cons_zero, List.set_cons_succ] at hK ⊢
        have HK := Lib.hid hK
        clear hK
        obtain ⟨c0, c1, d0, d1⟩ := KH.out w h.out.e
        clear KH
        go_simp
        refine HK.out _ _ ?_
        have k := h.out
        exact ⟨k.e, k.f0, k.f1, k.f2, k.f3, fun _ => upd_eq, k.f5, k.f6, k.f7, k.f8, k.f9, k.f10, k.f11, k.d, k.f12, k.f13, k.c12, k.c13⟩
      refine AllF.cons rfl ?_ ?_
      · skip
        with_reducible refine StepF.dst (d := 30) (by kernel_rfl) (by kernel_rfl) ?_
        intro L y w hi hp h K hK
        simp only [putAll, List.foldl, Act.put, List.setIfInBounds_toArray, List.set_cons_zero, List.set_cons_succ] at hK ⊢
        have HK := Lib.hid hK
        clear hK
        have g := h.out.f3 (hp.out 3 (by kernel_rfl))
        have g2 := h.out.f4 (hp.out 4 (by kernel_rfl))
        simp only [g, g2] at HK
        go_simp
        refine (mod_any _ _ a b _ (HXV.out.ext (he0.trans h.out.e)) (HYV.out.ext (he0.trans h.out.e)) (HA.out.mono (by omega)) (HBf.out.mono (by omega)) HB0.out).mono ?_
        rintro e w1 ⟨⟨v, rfl, hr⟩, he1⟩
        clear g g2
        go_simp
        refine HK.out _ _ ?_
        have k := h.out.ext he1
        exact ⟨k.e, k.f0, k.f1, k.f2, k.f3, k.f4, fun _ => by rw [upd_eq]; exact hr, k.f6, k.f7, k.f8, k.f9, k.f10, k.f11, k.d, k.f12, k.f13, k.c12, k.c13⟩
      refine AllF.cons rfl ?_ ?_
      · skip
        with_reducible refine StepF.dst (d := 31) (by kernel_rfl) (by kernel_rfl) ?_
        intro L y w hi hp h K hK
        simp only [putAll, List.foldl, Act.put, List.setIfInBounds_toArray, List.set_cons_zero, List.set_cons_succ] at hK ⊢
        have HK := Lib.hid hK
        clear hK
        obtain ⟨s0, a0, n0, c0, g, h0⟩ := h.out.f2 (hp.out 2 (by kernel_rfl))
        obtain ⟨s1, a1, n1, c1, g2, h1⟩ := h.out.f5 (hp.out 5 (by kernel_rfl))
        have H0 := Lib.hid h0
        have H1 := Lib.hid h1
        clear h0 h1
        simp only [g, g2] at HK
        go_simp
        refine HK.out _ _ ?_
        have k := h.out
        exact ⟨k.e, k.f0, k.f1, k.f2, k.f3, k.f4, k.f5, fun _ => by rw [upd_eq]; exact ⟨_, _, _, _, _, _, _, _, rfl, H0.out, H1.out⟩, k.f7, k.f8, k.f9, k.f10, k.f11, k.d, k.f12, k.f13, k.c12, k.c13⟩
      refine AllF.cons rfl ?_ ?_
      · skip
        with_reducible refine StepF.dst (d := 32) (by kernel_rfl) (by kernel_rfl) ?_
        intro L y w hi hp h K hK
        simp only [putAll, List.foldl, Act.put, List.setIfInBounds_toArray, List.set_cons_zero, List.set_cons_succ] at hK ⊢
        have HK := Lib.hid hK
        clear hK
        go_simp
        refine HK.out _ _ ?_
        have k := h.out
        exact ⟨k.e, k.f0, k.f1, k.f2, k.f3, k.f4, k.f5, k.f6, fun _ => upd_eq, k.f8, k.f9, k.f10, k.f11, k.d, k.f12, k.f13, k.c12, k.c13⟩
      refine AllF.cons rfl ?_ ?_
      · skip
        with_reducible refine StepF.dst (d := 33) (by kernel_rfl) (by kernel_rfl) ?_
        intro L y w hi hp h K hK
        simp only [putAll, List.foldl, Act.put, List.setIfInBounds_toArray, List.set_cons_zero, List.set_cons_succ] at hK ⊢
        have HK := Lib.hid hK
        clear hK
        go_simp
        refine (of_any 1 _ (by omega) (by omega)).mono ?_
        rintro e w1 ⟨⟨v, rfl, hr⟩, he1⟩
        go_simp
        refine HK.out _ _ ?_
        have k := h.out.ext he1
        exact ⟨k.e, k.f0, k.f1, k.f2, k.f3, k.f4, k.f5, k.f6, k.f7, fun _ => by rw [upd_eq]; exact hr, k.f9, k.f10, k.f11, k.d, k.f12, k.f13, k.c12, k.c13⟩
      refine AllF.cons rfl ?_ ?_
      · skip
        with_reducible refine StepF.dst (d := 34) (by kernel_rfl) (by kernel_rfl) ?_
        intro L y w hi hp h K hK
        simp only [putAll, List.foldl, Act.put, List.setIfInBounds_toArray, List.set_cons_zero, List.set_cons_succ] at hK ⊢
        have HK := Lib.hid hK
        clear hK
        have g := h.out.f7 (hp.out 7 (by kernel_rfl))
        obtain ⟨s1, a1, n1, c1, g2, h1⟩ := h.out.f8 (hp.out 8 (by kernel_rfl))
        have H1 := Lib.hid h1
        clear h1
        simp only [g, g2] at HK
        go_simp
        refine HK.out _ _ ?_
        have k := h.out
        exact ⟨k.e, k.f0, k.f1, k.f2, k.f3, k.f4, k.f5, k.f6, k.f7, k.f8, fun _ => by rw [upd_eq]; exact ⟨_, _, _, _, _, _, _, _, rfl, intW_zero _, H1.out⟩, k.f10, k.f11, k.d, k.f12, k.f13, k.c12, k.c13⟩
      refine AllF.cons rfl ?_ ?_
      · skip
        with_reducible refine StepF.dst (d := 7) (by kernel_rfl) (by kernel_rfl) ?_
        intro L y w hi hp h K hK
        simp only [putAll, List.foldl, Act.put, List.setIfInBounds_toArray, List.set_cons_zero, List.set_cons_succ] at hK ⊢
        have HK := Lib.hid hK
        clear hK
        go_simp
        refine HK.out _ _ ?_
        have k := h.out.ext ((Ext.refl w).alloc (.cells #[.bool false, .slice none 0 0, .bool false, .slice none 0 0] 91))
        exact ⟨k.e, k.f0, k.f1, k.f2, k.f3, k.f4, k.f5, k.f6, k.f7, k.f8, k.f9, fun _ => by rw [upd_eq]; exact room4_new h.out.e, k.f11, fun _ h11 => room4_ne (h.out.f11 h11) upd_eq, fun h12 => absurd (h.out.c12 h12) (by rw [hi.out]; simp), k.f13, fun _ => rfl, k.c13⟩
      refine AllF.cons rfl ?_ ?_
      · skip
        with_reducible refine StepF.dst (d := 8) (by kernel_rfl) (by kernel_rfl) ?_
        intro L y w hi hp h K hK
        simp only [putAll, List.foldl, Act.put, List.setIfInBounds_toArray, List.set_cons_zero, List.set_cons_succ] at hK ⊢
        have HK := Lib.hid hK
        clear hK
        go_simp
        refine HK.out _ _ ?_
        have k := h.out.ext ((Ext.refl w).alloc (.cells #[.bool false, .slice none 0 0, .bool false, .slice none 0 0] 91))
        exact ⟨k.e, k.f0, k.f1, k.f2, k.f3, k.f4, k.f5, k.f6, k.f7, k.f8, k.f9, k.f10, fun _ => by rw [upd_eq]; exact room4_new h.out.e, fun h10 _ => (room4_ne (h.out.f10 h10) upd_eq).symm, k.f12, fun h12 => absurd (h.out.c13 h12) (by rw [hi.out]; simp), k.c12, fun _ => rfl⟩
      refine AllF.cons rfl ?_ ?_
      · skip
        with_reducible refine StepF.none ?_
        intro L y w hi hp h K hK
        simp only [putAll, List.foldl, Act.put, List.setIfInBounds_toArray, List.set_cons_zero, List.set_cons_succ] at hK ⊢
        have HK := Lib.hid hK
        clear hK
        obtain ⟨s0, a0, n0, c0, s1, a1, n1, c1, g, h0, h1⟩ := h.out.f6 (hp.out 6 (by kernel_rfl))
        obtain ⟨P, t0, b0, m0, d0, t1, b1, m1, d1, g2, hb, hm⟩ := h.out.f10 (hp.out 10 (by kernel_rfl))
        have H0 := Lib.hid h0
        have H1 := Lib.hid h1
        have cc0 := hb.cell (i := 0) rfl
        have cc1 := hb.cell (i := 1) rfl
        have cc2 := hb.cell (i := 2) rfl
        have cc3 := hb.cell (i := 3) rfl
        have ff0 := hb.free 0
        have ff1 := hb.free 1
        have ff2 := hb.free 2
        have ff3 := hb.free 3
        clear h0 h1 hb hm
        simp only [g, g2] at HK
        go_simp
        refine HK.out _ ?_
        exact h.out.store 12 (hp.out 10 (by kernel_rfl)) (hp.out 11 (by kernel_rfl)) (Or.inl ⟨rfl, ⟨_, g2, rfl⟩, rfl, rfl⟩) H0.out H1.out
      refine AllF.cons rfl ?_ ?_
      · skip
        with_reducible refine StepF.none ?_
        intro L y w hi hp h K hK
        simp only [putAll, List.foldl, Act.put, List.setIfInBounds_toArray, List.set_cons_zero, List.set_cons_succ] at hK ⊢
        have HK := Lib.hid hK
        clear hK
        obtain ⟨s0, a0, n0, c0, s1, a1, n1, c1, g, h0, h1⟩ := h.out.f9 (hp.out 9 (by kernel_rfl))
        obtain ⟨P, t0, b0, m0, d0, t1, b1, m1, d1, g2, hb, hm⟩ := h.out.f11 (hp.out 11 (by kernel_rfl))
        have H0 := Lib.hid h0
        have H1 := Lib.hid h1
        have cc0 := hb.cell (i := 0) rfl
        have cc1 := hb.cell (i := 1) rfl
        have cc2 := hb.cell (i := 2) rfl
        have cc3 := hb.cell (i := 3) rfl
        have ff0 := hb.free 0
        have ff1 := hb.free 1
        have ff2 := hb.free 2
        have ff3 := hb.free 3
        clear h0 h1 hb hm
        simp only [g, g2] at HK
        go_simp
        refine HK.out _ ?_
        exact h.out.store 13 (hp.out 10 (by kernel_rfl)) (hp.out 11 (by kernel_rfl)) (Or.inr ⟨rfl, ⟨_, g2, rfl⟩, rfl, rfl⟩) H0.out H1.out
      exact trivial
    · intro L y w1 hL h
      obtain ⟨P, e7, hP⟩ := h.f12 (hL 12 (by decide))
      obtain ⟨R, e8, hR⟩ := h.f13 (hL 13 (by decide))
      have hd := h.d (hL 10 (by decide)) (hL 11 (by decide))
      have hwP : w0.heap.size ≤ P := by
        obtain ⟨P', _, _, _, _, _, _, _, _, e', _, hm⟩ := h.f10 (hL 10 (by decide))
        rw [e7] at e'; injection e' with e'; injection e' with e'; injection e' with e'
        rw [e']; exact hm
      have hwR : w0.heap.size ≤ R := by
        obtain ⟨P', _, _, _, _, _, _, _, _, e', _, hm⟩ := h.f11 (hL 11 (by decide))
        rw [e8] at e'; injection e' with e'; injection e' with e'; injection e' with e'
        rw [e']; exact hm
      have hne : P ≠ R := by rintro rfl; exact hd (e7.trans e8.symm)
      have he := h.e
      simp only [putAll, List.foldl, Act.put, List.setIfInBounds_toArray, List.set_cons_zero, List.set_cons_succ]
      have E7 := Lib.hid e7
      have E8 := Lib.hid e8
      have HP := Lib.hid hP
      have HR := Lib.hid hR
      clear h hL hd hP hR e7 e8
      go_wp2_with fail
      go_meet
      exact ⟨P, R, E7.out, E8.out, HP.out, HR.out, hne, hwP, hwR, he⟩
  case rest =>
    obtain ⟨P, R, rfl, rfl, hP, hR, hne, hwP, hwR, he⟩ := hcut
    have HI := Lib.hid (BezI.init (a := a) HB0.out)
    have HP := Lib.hid hP
    have HR := Lib.hid hR
    clear hP hR
    go_wp2_with fail
    obtain ⟨wc0, rfl⟩ : ∃ x : World, x = wc := ⟨_, rfl⟩
    go_loopw [9] (fun _ wr => ∃ r0 r1 f0 f1 : Int, Pair wr P r0 r1 ∧ Pair wr R f0 f1 ∧ BezI a b r0 r1 f0 f1 ∧ Ext w0 wr) (fun _ wr => cval wr ⟨P, 3, none⟩)
    case atStart => exact ⟨_, _, _, _, HP.out, HR.out, HI.out, he⟩
    case round =>
      obtain ⟨r0, r1, f0, f1, hp, hr, hi, hx⟩ := hrel
      have HPr := Lib.hid hp
      have HRr := Lib.hid hr
      have HIr := Lib.hid hi
      obtain ⟨s0, a0, n0, c0, s1, a1, n1, c1, hbP, hp0, hp1⟩ := hp
      obtain ⟨t0, b0, m0, d0, t1, b1, m1, d1, hbR, hq0, hq1⟩ := hr
      have HP0 := Lib.hid hp0
      have HP1 := Lib.hid hp1
      have HQ0 := Lib.hid hq0
      have HQ1 := Lib.hid hq1
      clear hp0 hp1 hq0 hq1 hi HP HR HI
      have pc0 := hbP.cell (i := 0) rfl
      have pc1 := hbP.cell (i := 1) rfl
      have pc2 := hbP.cell (i := 2) rfl
      have pc3 := hbP.cell (i := 3) rfl
      have HbP := Lib.hid hbP
      have HbR := Lib.hid hbR
      clear hbP hbR
      go_wp2_with fail
      refine (sign_any _ r1 _ ⟨_, _, _, _, rfl, HP1.out⟩).mono ?_
      rintro e w1 ⟨rfl, he1⟩
      by_cases hz : r1 = 0
      · subst hz
        rw [show sgn 0 0 = 0 by rfl]
        clear pc0 pc1 pc2 pc3
        have hbP1 := HbP.out.ext he1
        have pc0 := hbP1.cell (i := 0) rfl
        have pc1 := hbP1.cell (i := 1) rfl
        clear hbP1
        obtain ⟨hg, hbg, hres⟩ := HIr.out.done HB0.out
        have hr0p := HIr.out.p0
        have HFr0 : Hid (Fits r0 1000) := Lib.hid (fits_le HBf.out (by have := HIr.out.q0; omega))
        have HFf0 : Hid (Fits f0 1000) := Lib.hid (fits_le HBf.out (by have := HIr.out.b0; omega))
        have HFq : Hid (Fits (b / r0) 1000) := Lib.hid (fits_le HBf.out (by have := Int.natAbs_ediv_le_natAbs b r0; omega))
        have HR0 : Hid (r0 ≠ 0) := Lib.hid (by omega)
        have HQn := Lib.hid hbg
        have HFu : Hid (Fits (f0 % (b / r0)) 1000) := Lib.hid (fits_le HFq.out (by have h1 := Int.emod_nonneg f0 hbg; have h2 := Int.emod_lt f0 hbg; omega))
        have HFp : Hid (Fits (f0 % (b / r0) * a) 2000) := Lib.hid (HFu.out.mul HA.out)
        have HFm : Hid (Fits (r0 - f0 % (b / r0) * a) 2001) := Lib.hid ((HFr0.out.mono (by omega)).sub HFp.out)
        have HRES := Lib.hid hres
        clear hg hbg hres hr0p
        obtain ⟨G, w2, hG, hw2, hbG, heG⟩ := one w1 24 [.bool s0, .slice a0 n0 c0]
        have hx2 : Ext w w2 := ((he0.trans hx).trans he1).trans heG
        have HG0 : Hid (IntV w2 (.agg #[.bool s0, .slice a0 n0 c0]) r0) := Lib.hid ⟨_, _, _, _, rfl, (HP0.out.ext he1).ext heG⟩
        have HQ0' : Hid (IntV w2 (.agg #[.bool t0, .slice b0 m0 d0]) f0) := Lib.hid ⟨_, _, _, _, rfl, (HQ0.out.ext he1).ext heG⟩
        have KW : Hid (∀ w', Ext w2 w' → w'.cell? ⟨R, 0, none⟩ = some (.bool t0) ∧ w'.cell? ⟨R, 1, none⟩ = some (.slice b0 m0 d0) ∧ w'.cell? ⟨B + 1, 0, none⟩ = some (.bool nb) ∧ w'.cell? ⟨B + 1, 1, none⟩ = some (.slice ay ny cy) ∧ w'.cell? ⟨G, 0, none⟩ = some (.bool s0) ∧ w'.cell? ⟨G, 1, none⟩ = some (.slice a0 n0 c0)) := by
          intro w' hw'
          have k1 := ((HbR.out.ext he1).ext heG).ext hw'
          have k2 := KH.out w' (((hx.trans he1).trans heG).trans hw')
          have k3 := hbG.ext hw'
          exact ⟨k1.cell (i := 0) rfl, k1.cell (i := 1) rfl, k2.2.2.1, k2.2.2.2, k3.cell (i := 0) rfl, k3.cell (i := 1) rfl⟩
        go_wp2_with fail
        rw [← hw2, ← hG]
        have hGs : w0.heap.size ≤ G := by rw [hG]; exact (hx.trans he1).size
        clear hw2 hG pc0 pc1
        refine wp_region_facts [66, 67, 68, 69, 70, 71, 13] (Bez9 w2 R t0 b0 m0 d0 nb ay ny cy s0 a0 n0 c0 (b / r0) (f0 % (b / r0))) (by kernel_rfl) (by kernel_rfl) ?_ ?_ ?_
        · intro y
          exact ⟨(Ext.refl _).drew, by simp, by simp, by simp, by simp, by simp, by simp, by simp, by simp, by simp⟩
        · intro Q
          clear KH
          --<R9T
          refine AllF.cons rfl ?_ ?_
          · skip
            with_reducible refine StepF.dst (d := 66) (by kernel_rfl) (by kernel_rfl) ?_
            intro L y w hi hp h K hK
            simp only [putAll, List.foldl, Act.put, List.setIfInBounds_toArray, List.set_cons_zero, List.set_cons_succ] at hK ⊢
            have HK := Lib.hid hK
            clear hK
            go_simp
            refine HK.out _ _ ?_
            have k := h.out
            exact ⟨k.e, fun _ => upd_eq, k.f1, k.f2, k.f3, k.f4, k.f5, k.f6, k.f7, k.c7⟩
          refine AllF.cons rfl ?_ ?_
          · skip
            with_reducible refine StepF.dst (d := 67) (by kernel_rfl) (by kernel_rfl) ?_
            intro L y w hi hp h K hK
            simp only [putAll, List.foldl, Act.put, List.setIfInBounds_toArray, List.set_cons_zero, List.set_cons_succ] at hK ⊢
            have HK := Lib.hid hK
            clear hK
            have g0 := h.out.f0 (hp.out 0 (by kernel_rfl))
            simp only [g0] at HK
            obtain ⟨cr0, cr1, cb0, cb1, cg0, cg1⟩ := KW.out w h.out.e
            go_simp
            refine HK.out _ _ ?_
            have k := h.out
            exact ⟨k.e, k.f0, fun _ => upd_eq, k.f2, k.f3, k.f4, k.f5, k.f6, k.f7, k.c7⟩
          refine AllF.cons rfl ?_ ?_
          · skip
            with_reducible refine StepF.dst (d := 68) (by kernel_rfl) (by kernel_rfl) ?_
            intro L y w hi hp h K hK
            simp only [putAll, List.foldl, Act.put, List.setIfInBounds_toArray, List.set_cons_zero, List.set_cons_succ] at hK ⊢
            have HK := Lib.hid hK
            clear hK
            obtain ⟨cr0, cr1, cb0, cb1, cg0, cg1⟩ := KW.out w h.out.e
            go_simp
            refine HK.out _ _ ?_
            have k := h.out
            exact ⟨k.e, k.f0, k.f1, fun _ => upd_eq, k.f3, k.f4, k.f5, k.f6, k.f7, k.c7⟩
          refine AllF.cons rfl ?_ ?_
          · skip
            with_reducible refine StepF.dst (d := 69) (by kernel_rfl) (by kernel_rfl) ?_
            intro L y w hi hp h K hK
            simp only [putAll, List.foldl, Act.put, List.setIfInBounds_toArray, List.set_cons_zero, List.set_cons_succ] at hK ⊢
            have HK := Lib.hid hK
            clear hK
            obtain ⟨cr0, cr1, cb0, cb1, cg0, cg1⟩ := KW.out w h.out.e
            go_simp
            refine HK.out _ _ ?_
            have k := h.out
            exact ⟨k.e, k.f0, k.f1, k.f2, fun _ => upd_eq, k.f4, k.f5, k.f6, k.f7, k.c7⟩
          refine AllF.cons rfl ?_ ?_
          · skip
            with_reducible refine StepF.dst (d := 70) (by kernel_rfl) (by kernel_rfl) ?_
            intro L y w hi hp h K hK
            simp only [putAll, List.foldl, Act.put, List.setIfInBounds_toArray, List.set_cons_zero, List.set_cons_succ] at hK ⊢
            have HK := Lib.hid hK
            clear hK
            have g2 := h.out.f2 (hp.out 2 (by kernel_rfl))
            have g3 := h.out.f3 (hp.out 3 (by kernel_rfl))
            simp only [g2, g3] at HK
            go_simp
            refine (quo_any _ _ b r0 _ (HYV.out.ext (hx2.trans h.out.e)) (HG0.out.ext h.out.e) (HBf.out.mono (by omega)) (HFr0.out.mono (by omega)) HR0.out).mono ?_
            rintro e w3 ⟨⟨v, rfl, hr⟩, he3⟩
            clear g2 g3
            go_simp
            refine HK.out _ _ ?_
            have k := h.out.ext he3
            exact ⟨k.e, k.f0, k.f1, k.f2, k.f3, fun _ => by rw [upd_eq]; exact hr, k.f5, k.f6, k.f7, k.c7⟩
          refine AllF.cons rfl ?_ ?_
          · skip
            with_reducible refine StepF.dst (d := 71) (by kernel_rfl) (by kernel_rfl) ?_
            intro L y w hi hp h K hK
            simp only [putAll, List.foldl, Act.put, List.setIfInBounds_toArray, List.set_cons_zero, List.set_cons_succ] at hK ⊢
            have HK := Lib.hid hK
            clear hK
            have g1 := h.out.f1 (hp.out 1 (by kernel_rfl))
            simp only [g1] at HK
            have g4 := h.out.f4 (hp.out 4 (by kernel_rfl))
            have G4 := Lib.hid g4
            clear g4
            go_simp
            refine (mod_any _ _ f0 (b / r0) _ (HQ0'.out.ext h.out.e) G4.out (HFf0.out.mono (by omega)) (HFq.out.mono (by omega)) HQn.out).mono ?_
            rintro e w3 ⟨⟨v, rfl, hr⟩, he3⟩
            clear g1
            go_simp
            refine HK.out _ _ ?_
            have k := h.out.ext he3
            exact ⟨k.e, k.f0, k.f1, k.f2, k.f3, k.f4, fun _ => by rw [upd_eq]; exact hr, k.f6, k.f7, k.c7⟩
          refine AllF.cons rfl ?_ ?_
          · skip
            with_reducible refine StepF.dst (d := 13) (by kernel_rfl) (by kernel_rfl) ?_
            intro L y w hi hp h K hK
            simp only [putAll, List.foldl, Act.put, List.setIfInBounds_toArray, List.set_cons_zero, List.set_cons_succ] at hK ⊢
            have HK := Lib.hid hK
            clear hK
            go_simp
            refine HK.out _ _ ?_
            have k := h.out.ext ((Ext.refl w).alloc (.cells #[.bool false, .slice none 0 0] 24))
            exact ⟨k.e, k.f0, k.f1, k.f2, k.f3, k.f4, k.f5, fun _ => by rw [upd_eq]; exact roomI_new h.out.e, fun h7 => absurd (h.out.c7 h7) (by rw [hi.out]; simp), fun _ => rfl⟩
          refine AllF.cons rfl ?_ ?_
          · skip
            with_reducible refine StepF.none ?_
            intro L y w hi hp h K hK
            simp only [putAll, List.foldl, Act.put, List.setIfInBounds_toArray, List.set_cons_zero, List.set_cons_succ] at hK ⊢
            have HK := Lib.hid hK
            clear hK
            obtain ⟨s5, a5, n5, c5, g5, h5⟩ := h.out.f5 (hp.out 5 (by kernel_rfl))
            obtain ⟨G, s6, a6, n6, c6, g6, hb6, hm6⟩ := h.out.f6 (hp.out 6 (by kernel_rfl))
            have H5 := Lib.hid h5
            have HB6 := Lib.hid hb6
            have cc0 := hb6.cell (i := 0) rfl
            have cc1 := hb6.cell (i := 1) rfl
            have ff0 := hb6.free 0
            have ff1 := hb6.free 1
            clear h5 hb6
            simp only [g5, g6] at HK
            go_simp
            refine HK.out _ ?_
            have k := h.out
            have hs := stay_st2 HB6.out (.bool s5) (.slice a5 n5 c5)
            exact ⟨ext_st2 k.e hm6 _ _, k.f0, k.f1, k.f2, k.f3, fun z => (k.f4 z).stay hs, fun z => (k.f5 z).stay hs, fun _ => ⟨G, _, _, _, _, g6, Blk.st2 HB6.out _ _, hm6⟩, fun _ => ⟨G, _, _, _, _, g6, Blk.st2 HB6.out _ _, hm6, IntW.stay H5.out hs⟩, fun _ => hp.out 6 (by kernel_rfl)⟩
          exact trivial
          -->R9T
        · intro L y w3 hL h
          obtain ⟨U, s5, a5, n5, c5, e13, hbU, hmU, hu⟩ := h.f7 (hL 7 (by decide))
          have hx3 := hx2.trans h.e
          have he3 := h.e
          have HU := Lib.hid hu
          simp only [putAll, List.foldl, Act.put, List.setIfInBounds_toArray, List.set_cons_zero, List.set_cons_succ]
          simp only [e13]
          clear h hL e13 hu
          have hGl : B + 1 + 1 + 1 + 1 < G := Nat.lt_of_lt_of_le hsz hGs
          have hUl : B + 1 + 1 + 1 + 1 < U := Nat.lt_of_lt_of_le (Nat.lt_of_lt_of_le hsz hGs) (Nat.le_trans (Nat.le_of_lt hbG.lt) hmU)
          have hB9 : Hid (w.heap.size ≤ B + 1 + 1) := Lib.hid (by rw [← HB.out]; omega)
          have hB10 : Hid (w.heap.size ≤ B + 1 + 1 + 1) := Lib.hid (by rw [← HB.out]; omega)
          have hB11 : Hid (w.heap.size ≤ B + 1 + 1 + 1 + 1) := Lib.hid (by rw [← HB.out]; omega)
          have HG3 : Hid (IntV w3 (.agg #[.bool s0, .slice a0 n0 c0]) r0) := Lib.hid (HG0.out.ext he3)
          have HU3 : Hid (IntV w3 (.agg #[.bool s5, .slice a5 n5 c5]) (f0 % (b / r0))) := Lib.hid ⟨_, _, _, _, rfl, HU.out⟩
          have HA3 : Hid (IntV w3 (.agg #[.bool na, .slice ax nx cx]) a) := Lib.hid (HXV.out.ext hx3)
          have HY3 : Hid (IntV w3 (.agg #[.bool nb, .slice ay ny cy]) b) := Lib.hid (HYV.out.ext hx3)
          have hw03 : Ext w0 w3 := ((hx.trans he1).trans heG).trans he3
          have HZ : Hid (Bez10 w w3 B G U na ax nx cx nb ay ny cy s0 a0 n0 c0 s5 a5 n5 c5 (f0 % (b / r0) * a) (r0 - f0 % (b / r0) * a) ((r0 - f0 % (b / r0) * a) / b) (fun _ => false) (fun _ => undef) w3) :=
            Lib.hid ⟨hx3, Stay.refl _, hbG.ext he3, hbU, hbx.ext hw03, hby.ext hw03, ⟨_, _, _, _, hb2.ext hw03⟩, ⟨_, _, _, _, hb3.ext hw03⟩, ⟨_, _, _, _, hb4.ext hw03⟩, by simp, by simp, by simp, by simp, by simp, by simp, by simp, by simp, by simp, by simp, by simp, by simp⟩
          go_wp2_with fail
          refine wp_region_facts [72, 73, 74, 75, 76, 77, 78, 79, 80] (Bez10 w w3 B G U na ax nx cx nb ay ny cy s0 a0 n0 c0 s5 a5 n5 c5 (f0 % (b / r0) * a) (r0 - f0 % (b / r0) * a) ((r0 - f0 % (b / r0) * a) / b)) (by kernel_rfl) (by kernel_rfl) ?_ ?_ ?_
          · intro y
            have z := HZ.out.ext (Ext.refl w3).drew
            exact ⟨z.e, z.st, z.bg, z.bu, z.ba, z.bb, z.q2, z.q3, z.q4, by simp, by simp, by simp, by simp, by simp, by simp, by simp, by simp, by simp, by simp, by simp, by simp⟩
          · intro Q
            clear KH KW
            --<R10T
            refine AllF.cons rfl ?_ ?_
            · skip
              with_reducible refine StepF.dst (d := 72) (by kernel_rfl) (by kernel_rfl) ?_
              intro L y w hi hp h K hK
              simp only [putAll, List.foldl, Act.put, List.setIfInBounds_toArray, List.set_cons_zero, List.set_cons_succ] at hK ⊢
              have HK := Lib.hid hK
              clear hK
              have cc0 := h.out.bg.cell (i := 0) rfl
              have cc1 := h.out.bg.cell (i := 1) rfl
              go_simp
              refine HK.out _ _ ?_
              have k := h.out
              exact ⟨k.e, k.st, k.bg, k.bu, k.ba, k.bb, k.q2, k.q3, k.q4, fun _ => upd_eq, k.f1, k.f2, k.f3, k.f4, k.f5, k.f6, k.f7, k.f8, k.f9, k.f10, k.f11⟩
            refine AllF.cons rfl ?_ ?_
            · skip
              with_reducible refine StepF.dst (d := 73) (by kernel_rfl) (by kernel_rfl) ?_
              intro L y w hi hp h K hK
              simp only [putAll, List.foldl, Act.put, List.setIfInBounds_toArray, List.set_cons_zero, List.set_cons_succ] at hK ⊢
              have HK := Lib.hid hK
              clear hK
              have cc0 := h.out.bu.cell (i := 0) rfl
              have cc1 := h.out.bu.cell (i := 1) rfl
              go_simp
              refine HK.out _ _ ?_
              have k := h.out
              exact ⟨k.e, k.st, k.bg, k.bu, k.ba, k.bb, k.q2, k.q3, k.q4, k.f0, fun _ => upd_eq, k.f2, k.f3, k.f4, k.f5, k.f6, k.f7, k.f8, k.f9, k.f10, k.f11⟩
            refine AllF.cons rfl ?_ ?_
            · skip
              with_reducible refine StepF.dst (d := 74) (by kernel_rfl) (by kernel_rfl) ?_
              intro L y w hi hp h K hK
              simp only [putAll, List.foldl, Act.put, List.setIfInBounds_toArray, List.set_cons_zero, List.set_cons_succ] at hK ⊢
              have HK := Lib.hid hK
              clear hK
              have cc0 := h.out.bg.cell (i := 0) rfl
              have cc1 := h.out.bg.cell (i := 1) rfl
              go_simp
              refine HK.out _ _ ?_
              have k := h.out
              exact ⟨k.e, k.st, k.bg, k.bu, k.ba, k.bb, k.q2, k.q3, k.q4, k.f0, k.f1, fun _ => upd_eq, k.f3, k.f4, k.f5, k.f6, k.f7, k.f8, k.f9, k.f10, k.f11⟩
            refine AllF.cons rfl ?_ ?_
            · skip
              with_reducible refine StepF.dst (d := 75) (by kernel_rfl) (by kernel_rfl) ?_
              intro L y w hi hp h K hK
              simp only [putAll, List.foldl, Act.put, List.setIfInBounds_toArray, List.set_cons_zero, List.set_cons_succ] at hK ⊢
              have HK := Lib.hid hK
              clear hK
              have cc0 := h.out.bu.cell (i := 0) rfl
              have cc1 := h.out.bu.cell (i := 1) rfl
              go_simp
              refine HK.out _ _ ?_
              have k := h.out
              exact ⟨k.e, k.st, k.bg, k.bu, k.ba, k.bb, k.q2, k.q3, k.q4, k.f0, k.f1, k.f2, fun _ => upd_eq, k.f4, k.f5, k.f6, k.f7, k.f8, k.f9, k.f10, k.f11⟩
            refine AllF.cons rfl ?_ ?_
            · skip
              with_reducible refine StepF.dst (d := 76) (by kernel_rfl) (by kernel_rfl) ?_
              intro L y w hi hp h K hK
              simp only [putAll, List.foldl, Act.put, List.setIfInBounds_toArray, List.set_cons_zero, List.set_cons_succ] at hK ⊢
              have HK := Lib.hid hK
              clear hK
              have cc0 := h.out.ba.cell (i := 0) rfl
              have cc1 := h.out.ba.cell (i := 1) rfl
              go_simp
              refine HK.out _ _ ?_
              have k := h.out
              exact ⟨k.e, k.st, k.bg, k.bu, k.ba, k.bb, k.q2, k.q3, k.q4, k.f0, k.f1, k.f2, k.f3, fun _ => upd_eq, k.f5, k.f6, k.f7, k.f8, k.f9, k.f10, k.f11⟩
            refine AllF.cons rfl ?_ ?_
            · skip
              with_reducible refine StepF.dst (d := 77) (by kernel_rfl) (by kernel_rfl) ?_
              intro L y w hi hp h K hK
              simp only [putAll, List.foldl, Act.put, List.setIfInBounds_toArray, List.set_cons_zero, List.set_cons_succ] at hK ⊢
              have HK := Lib.hid hK
              clear hK
              have g3 := h.out.f3 (hp.out 3 (by kernel_rfl))
              have g4 := h.out.f4 (hp.out 4 (by kernel_rfl))
              simp only [g3, g4] at HK
              go_simp
              refine (mul_any _ _ (f0 % (b / r0)) a _ (IntV.stay HU3.out h.out.st) (IntV.stay HA3.out h.out.st) (HFu.out.mono (by omega)) (HA.out.mono (by omega))).mono ?_
              rintro e w4 ⟨⟨v, rfl, hr⟩, he4⟩
              clear g3 g4
              go_simp
              refine HK.out _ _ ?_
              have k := h.out.ext he4
              exact ⟨k.e, k.st, k.bg, k.bu, k.ba, k.bb, k.q2, k.q3, k.q4, k.f0, k.f1, k.f2, k.f3, k.f4, fun _ => by rw [upd_eq]; exact hr, k.f6, k.f7, k.f8, k.f9, k.f10, k.f11⟩
            refine AllF.cons rfl ?_ ?_
            · skip
              with_reducible refine StepF.dst (d := 78) (by kernel_rfl) (by kernel_rfl) ?_
              intro L y w hi hp h K hK
              simp only [putAll, List.foldl, Act.put, List.setIfInBounds_toArray, List.set_cons_zero, List.set_cons_succ] at hK ⊢
              have HK := Lib.hid hK
              clear hK
              have g2 := h.out.f2 (hp.out 2 (by kernel_rfl))
              simp only [g2] at HK
              have g5 := h.out.f5 (hp.out 5 (by kernel_rfl))
              have G5 := Lib.hid g5
              clear g5
              go_simp
              refine (sub_any _ _ r0 (f0 % (b / r0) * a) _ (IntV.stay HG3.out h.out.st) G5.out (HFr0.out.mono (by omega)) (HFp.out.mono (by omega))).mono ?_
              rintro e w4 ⟨⟨v, rfl, hr⟩, he4⟩
              clear g2
              go_simp
              refine HK.out _ _ ?_
              have k := h.out.ext he4
              exact ⟨k.e, k.st, k.bg, k.bu, k.ba, k.bb, k.q2, k.q3, k.q4, k.f0, k.f1, k.f2, k.f3, k.f4, k.f5, fun _ => by rw [upd_eq]; exact hr, k.f7, k.f8, k.f9, k.f10, k.f11⟩
            refine AllF.cons rfl ?_ ?_
            · skip
              with_reducible refine StepF.dst (d := 79) (by kernel_rfl) (by kernel_rfl) ?_
              intro L y w hi hp h K hK
              simp only [putAll, List.foldl, Act.put, List.setIfInBounds_toArray, List.set_cons_zero, List.set_cons_succ] at hK ⊢
              have HK := Lib.hid hK
              clear hK
              have cc0 := h.out.bb.cell (i := 0) rfl
              have cc1 := h.out.bb.cell (i := 1) rfl
              go_simp
              refine HK.out _ _ ?_
              have k := h.out
              exact ⟨k.e, k.st, k.bg, k.bu, k.ba, k.bb, k.q2, k.q3, k.q4, k.f0, k.f1, k.f2, k.f3, k.f4, k.f5, k.f6, fun _ => upd_eq, k.f8, k.f9, k.f10, k.f11⟩
            refine AllF.cons rfl ?_ ?_
            · skip
              with_reducible refine StepF.dst (d := 80) (by kernel_rfl) (by kernel_rfl) ?_
              intro L y w hi hp h K hK
              simp only [putAll, List.foldl, Act.put, List.setIfInBounds_toArray, List.set_cons_zero, List.set_cons_succ] at hK ⊢
              have HK := Lib.hid hK
              clear hK
              have g7 := h.out.f7 (hp.out 7 (by kernel_rfl))
              simp only [g7] at HK
              have g6 := h.out.f6 (hp.out 6 (by kernel_rfl))
              have G6 := Lib.hid g6
              clear g6
              go_simp
              refine (quo_any _ _ (r0 - f0 % (b / r0) * a) b _ G6.out (IntV.stay HY3.out h.out.st) (HFm.out.mono (by omega)) (HBf.out.mono (by omega)) HB0.out).mono ?_
              rintro e w4 ⟨⟨v, rfl, hr⟩, he4⟩
              clear g7
              go_simp
              refine HK.out _ _ ?_
              have k := h.out.ext he4
              exact ⟨k.e, k.st, k.bg, k.bu, k.ba, k.bb, k.q2, k.q3, k.q4, k.f0, k.f1, k.f2, k.f3, k.f4, k.f5, k.f6, k.f7, fun _ => by rw [upd_eq]; exact hr, k.f9, k.f10, k.f11⟩
            refine AllF.cons rfl ?_ ?_
            · skip
              with_reducible refine StepF.none ?_
              intro L y w hi hp h K hK
              simp only [putAll, List.foldl, Act.put, List.setIfInBounds_toArray, List.set_cons_zero, List.set_cons_succ] at hK ⊢
              have HK := Lib.hid hK
              clear hK
              have g0 := h.out.f0 (hp.out 0 (by kernel_rfl))
              simp only [g0] at HK
              obtain ⟨s6, a6, n6, c6, hb6⟩ := h.out.q2
              have HB6 := Lib.hid hb6
              have cc0 := hb6.cell (i := 0) rfl
              have cc1 := hb6.cell (i := 1) rfl
              have ff0 := hb6.free 0
              have ff1 := hb6.free 1
              clear hb6
              go_simp
              refine HK.out _ ?_
              have k := h.out
              have hs := stay_st2 HB6.out (.bool s0) (.slice a0 n0 c0)
              exact ⟨ext_st2 k.e hB9.out _ _, k.st.trans hs, Blk.st2_other k.bg (by omega) _ _, Blk.st2_other k.bu (by omega) _ _, Blk.st2_other k.ba (by omega) _ _, Blk.st2_other k.bb (by omega) _ _, ⟨_, _, _, _, Blk.st2 HB6.out _ _⟩, k.q3.st2_other (by omega) _ _, k.q4.st2_other (by omega) _ _, k.f0, k.f1, k.f2, k.f3, k.f4, fun z => (k.f5 z).stay hs, fun z => (k.f6 z).stay hs, k.f7, fun z => (k.f8 z).stay hs, fun _ => Blk.st2 HB6.out _ _, fun z => Blk.st2_other (k.f10 z) (by omega) _ _, fun z => (k.f11 z).st2_other (by omega) hs⟩
            refine AllF.cons rfl ?_ ?_
            · skip
              with_reducible refine StepF.none ?_
              intro L y w hi hp h K hK
              simp only [putAll, List.foldl, Act.put, List.setIfInBounds_toArray, List.set_cons_zero, List.set_cons_succ] at hK ⊢
              have HK := Lib.hid hK
              clear hK
              have g1 := h.out.f1 (hp.out 1 (by kernel_rfl))
              simp only [g1] at HK
              obtain ⟨s6, a6, n6, c6, hb6⟩ := h.out.q3
              have HB6 := Lib.hid hb6
              have cc0 := hb6.cell (i := 0) rfl
              have cc1 := hb6.cell (i := 1) rfl
              have ff0 := hb6.free 0
              have ff1 := hb6.free 1
              clear hb6
              go_simp
              refine HK.out _ ?_
              have k := h.out
              have hs := stay_st2 HB6.out (.bool s5) (.slice a5 n5 c5)
              exact ⟨ext_st2 k.e hB10.out _ _, k.st.trans hs, Blk.st2_other k.bg (by omega) _ _, Blk.st2_other k.bu (by omega) _ _, Blk.st2_other k.ba (by omega) _ _, Blk.st2_other k.bb (by omega) _ _, k.q2.st2_other (by omega) _ _, ⟨_, _, _, _, Blk.st2 HB6.out _ _⟩, k.q4.st2_other (by omega) _ _, k.f0, k.f1, k.f2, k.f3, k.f4, fun z => (k.f5 z).stay hs, fun z => (k.f6 z).stay hs, k.f7, fun z => (k.f8 z).stay hs, fun z => Blk.st2_other (k.f9 z) (by omega) _ _, fun _ => Blk.st2 HB6.out _ _, fun z => (k.f11 z).st2_other (by omega) hs⟩
            refine AllF.cons rfl ?_ ?_
            · skip
              with_reducible refine StepF.none ?_
              intro L y w hi hp h K hK
              simp only [putAll, List.foldl, Act.put, List.setIfInBounds_toArray, List.set_cons_zero, List.set_cons_succ] at hK ⊢
              have HK := Lib.hid hK
              clear hK
              obtain ⟨s8, a8, n8, c8, g8, h8⟩ := h.out.f8 (hp.out 8 (by kernel_rfl))
              have H8 := Lib.hid h8
              clear h8
              simp only [g8] at HK
              obtain ⟨s6, a6, n6, c6, hb6⟩ := h.out.q4
              have HB6 := Lib.hid hb6
              have cc0 := hb6.cell (i := 0) rfl
              have cc1 := hb6.cell (i := 1) rfl
              have ff0 := hb6.free 0
              have ff1 := hb6.free 1
              clear hb6
              go_simp
              refine HK.out _ ?_
              have k := h.out
              have hs := stay_st2 HB6.out (.bool s8) (.slice a8 n8 c8)
              exact ⟨ext_st2 k.e hB11.out _ _, k.st.trans hs, Blk.st2_other k.bg (by omega) _ _, Blk.st2_other k.bu (by omega) _ _, Blk.st2_other k.ba (by omega) _ _, Blk.st2_other k.bb (by omega) _ _, k.q2.st2_other (by omega) _ _, k.q3.st2_other (by omega) _ _, ⟨_, _, _, _, Blk.st2 HB6.out _ _⟩, k.f0, k.f1, k.f2, k.f3, k.f4, fun z => (k.f5 z).stay hs, fun z => (k.f6 z).stay hs, k.f7, fun z => (k.f8 z).stay hs, fun z => Blk.st2_other (k.f9 z) (by omega) _ _, fun z => Blk.st2_other (k.f10 z) (by omega) _ _, fun _ => ⟨_, _, _, _, Blk.st2 HB6.out _ _, IntW.stay H8.out hs⟩⟩
            exact trivial
            -->R10T
          · intro L y w4 hL h
            have r2 := h.f9 (hL 9 (by decide))
            have r3 := h.f10 (hL 10 (by decide))
            obtain ⟨s8, a8, n8, c8, r4, h8⟩ := h.f11 (hL 11 (by decide))
            have H8 := Lib.hid h8
            have H6 : Hid (IntW w4 s0 a0 n0 c0 r0) := Lib.hid (IntW.stay ((HP0.out.ext he1).ext heG) (he3.stay.trans h.st))
            have H7 : Hid (IntW w4 s5 a5 n5 c5 (f0 % (b / r0))) := Lib.hid (IntW.stay HU.out h.st)
            have he4 := h.e
            clear h hL h8
            simp only [putAll, List.foldl, Act.put, List.setIfInBounds_toArray, List.set_cons_zero, List.set_cons_succ]
            go_wp2_with fail
            refine bodyPost_ret (results_ccc rfl rfl (load_int r2) rfl (load_int r3) rfl (load_int r4)) rfl ?_
            exact ⟨⟨_, _, _, _, _, _, rfl, ⟨_, _, _, _, rfl, H6.out⟩, ⟨_, _, _, _, rfl, H7.out⟩, ⟨_, _, _, _, rfl, H8.out⟩, HRES.out⟩, he4⟩
      · have hr1p : 0 < r1 := by have := HIr.out.p1; omega
        rw [show sgn r1 0 = 1 by have := sgn_cases r1 0; omega]
        have HFr0 : Hid (Fits r0 1000) := Lib.hid (fits_le HBf.out (by have := HIr.out.q0; have := HIr.out.p0; omega))
        have HFr1 : Hid (Fits r1 1000) := Lib.hid (fits_le HBf.out (by have := HIr.out.q1; omega))
        have HFf0 : Hid (Fits f0 1000) := Lib.hid (fits_le HBf.out (by have := HIr.out.b0; omega))
        have HFf1 : Hid (Fits f1 1000) := Lib.hid (fits_le HBf.out (by have := HIr.out.b1; omega))
        have HFq : Hid (Fits (r0 / r1) 1000) := Lib.hid (fits_le HFr0.out (Int.natAbs_ediv_le_natAbs r0 r1))
        have HFp : Hid (Fits (r0 / r1 * f1) 2000) := Lib.hid (HFq.out.mul HFf1.out)
        have HNEW := Lib.hid (HIr.out.step hr1p)
        have hmod0 := Int.emod_nonneg r0 (show r1 ≠ 0 by omega)
        have hmodl := Int.emod_lt_of_pos r0 hr1p
        have HMS : Hid ((r0 % r1).natAbs < r1.natAbs) := Lib.hid (by omega)
        have HR1 : Hid (r1 ≠ 0) := Lib.hid hz
        clear pc0 pc1 pc2 pc3 hz hr1p hmod0 hmodl
        have hbP1 := HbP.out.ext he1
        have pc0 := hbP1.cell (i := 0) rfl
        have pc1 := hbP1.cell (i := 1) rfl
        have pc2 := hbP1.cell (i := 2) rfl
        have pc3 := hbP1.cell (i := 3) rfl
        clear hbP1
        go_wp2_with fail
        refine (divmod_any _ _ r0 r1 _ ⟨_, _, _, _, rfl, HP0.out.ext he1⟩ ⟨_, _, _, _, rfl, HP1.out.ext he1⟩ (HFr0.out.mono (by omega)) (HFr1.out.mono (by omega)) HR1.out).mono ?_
        rintro e w4 ⟨⟨qv, rv, rfl, ⟨sq, aq, nq, cq, rfl, hqw⟩, ⟨sv, av, nv, cv, rfl, hrw⟩⟩, he4⟩
        have HQW := Lib.hid hqw
        have HRW := Lib.hid hrw
        clear hqw hrw pc0 pc1 pc2 pc3
        obtain ⟨D, w5, hD, hw5, hbD, hbC, he5⟩ := two w4 24 24 [.bool sq, .slice aq nq cq] [.bool sv, .slice av nv cv]
        have hx5 := ((hx.trans he1).trans he4).trans he5
        have hw45 := (he1.trans he4).trans he5
        have HPw := Lib.hid hwP
        have hPw : Hid (w0.heap.size ≤ P) := Lib.hid hwP
        have hRw : Hid (w0.heap.size ≤ R) := Lib.hid hwR
        have hPl := (HbP.out.ext (he1.trans he4)).lt
        have hRl := (HbR.out.ext (he1.trans he4)).lt
        have hPC : P ≠ D + 1 := by rw [hD]; omega
        have hPD : P ≠ D := by rw [hD]; omega
        have hRD : R ≠ D := by rw [hD]; omega
        clear hPl hRl
        go_wp2_with fail
        rw [← hw5, ← hD]
        clear hw5 hD
        refine wp_region_facts [48, 49, 50, 51, 52] (Bez6 w0 w5 P (D + 1) s0 a0 n0 c0 s1 a1 n1 c1 sv av nv cv) (by kernel_rfl) (by kernel_rfl) ?_ ?_ ?_
        · intro y
          have zz := (Ext.refl w5).drew
          exact ⟨hx5.trans zz, zz.stay, fun _ _ _ _ z => z.ext zz, hbC.ext zz, fun _ => (HbP.out.ext hw45).ext zz, by simp, by simp, by simp, by simp, by simp, by simp, by simp, by simp, by simp⟩
        · intro Q
          clear KH
          --<R6T
          refine AllF.cons rfl ?_ ?_
          · skip
            with_reducible refine StepF.dst (d := 48) (by kernel_rfl) (by kernel_rfl) ?_
            intro L y w hi hp h K hK
            simp only [putAll, List.foldl, Act.put, List.setIfInBounds_toArray, List.set_cons_zero, List.set_cons_succ] at hK ⊢
            have HK := Lib.hid hK
            clear hK
            go_simp
            refine HK.out _ _ ?_
            have k := h.out
            exact ⟨k.e, k.st, k.sp, k.bc, k.o, k.f4, k.f6, k.c6, k.c4, fun _ => upd_eq, k.f1, k.f2, k.f3, k.f5⟩
          refine AllF.cons rfl ?_ ?_
          · skip
            with_reducible refine StepF.dst (d := 49) (by kernel_rfl) (by kernel_rfl) ?_
            intro L y w hi hp h K hK
            simp only [putAll, List.foldl, Act.put, List.setIfInBounds_toArray, List.set_cons_zero, List.set_cons_succ] at hK ⊢
            have HK := Lib.hid hK
            clear hK
            have g0 := h.out.f0 (hp.out 0 (by kernel_rfl))
            simp only [g0] at HK
            have hold := h.out.o (by cases hz : L 4 with | false => rfl | true => exact absurd (h.out.c4 hz) (by rw [hi.out]; simp))
            have cc0 := hold.cell (i := 0) rfl
            have ff0 := hold.free 0
            have cc1 := hold.cell (i := 1) rfl
            have ff1 := hold.free 1
            have cc2 := hold.cell (i := 2) rfl
            have ff2 := hold.free 2
            have cc3 := hold.cell (i := 3) rfl
            have ff3 := hold.free 3
            have HOLD := Lib.hid hold
            clear hold
            go_simp
            refine HK.out _ _ ?_
            have k := h.out
            exact ⟨k.e, k.st, k.sp, k.bc, k.o, k.f4, k.f6, k.c6, fun _ => rfl, k.f0, fun _ => upd_eq, k.f2, k.f3, k.f5⟩
          refine AllF.cons rfl ?_ ?_
          · skip
            with_reducible refine StepF.dst (d := 50) (by kernel_rfl) (by kernel_rfl) ?_
            intro L y w hi hp h K hK
            simp only [putAll, List.foldl, Act.put, List.setIfInBounds_toArray, List.set_cons_zero, List.set_cons_succ] at hK ⊢
            have HK := Lib.hid hK
            clear hK
            have cc0 := h.out.bc.cell (i := 0) rfl
            have cc1 := h.out.bc.cell (i := 1) rfl
            go_simp
            refine HK.out _ _ ?_
            have k := h.out
            exact ⟨k.e, k.st, k.sp, k.bc, k.o, k.f4, k.f6, k.c6, k.c4, k.f0, k.f1, fun _ => upd_eq, k.f3, k.f5⟩
          refine AllF.cons rfl ?_ ?_
          · skip
            with_reducible refine StepF.dst (d := 51) (by kernel_rfl) (by kernel_rfl) ?_
            intro L y w hi hp h K hK
            simp only [putAll, List.foldl, Act.put, List.setIfInBounds_toArray, List.set_cons_zero, List.set_cons_succ] at hK ⊢
            have HK := Lib.hid hK
            clear hK
            go_simp
            refine HK.out _ _ ?_
            have k := h.out
            exact ⟨k.e, k.st, k.sp, k.bc, k.o, k.f4, k.f6, k.c6, k.c4, k.f0, k.f1, k.f2, fun _ => upd_eq, k.f5⟩
          refine AllF.cons rfl ?_ ?_
          · skip
            with_reducible refine StepF.none ?_
            intro L y w hi hp h K hK
            simp only [putAll, List.foldl, Act.put, List.setIfInBounds_toArray, List.set_cons_zero, List.set_cons_succ] at hK ⊢
            have HK := Lib.hid hK
            clear hK
            have g1 := h.out.f1 (hp.out 1 (by kernel_rfl))
            have g3 := h.out.f3 (hp.out 3 (by kernel_rfl))
            simp only [g1, g3] at HK
            have hold := h.out.o hi.out
            have cc0 := hold.cell (i := 0) rfl
            have ff0 := hold.free 0
            have cc1 := hold.cell (i := 1) rfl
            have ff1 := hold.free 1
            have cc2 := hold.cell (i := 2) rfl
            have ff2 := hold.free 2
            have cc3 := hold.cell (i := 3) rfl
            have ff3 := hold.free 3
            have HOLD := Lib.hid hold
            clear hold
            go_simp
            refine HK.out _ ?_
            have k := h.out
            have hs := stay_lo HOLD.out (.bool s1) (.slice a1 n1 c1)
            exact ⟨ext_st2 k.e hPw.out _ _, k.st.trans hs, fun a b c d z => Blk.st2_other (k.sp a b c d z) (Ne.symm d) _ _, Blk.st2_other k.bc hPC _ _, fun z => Bool.noConfusion (show true = false from z), fun _ _ => Blk.lo HOLD.out _ _, fun z => absurd (h.out.c6 z) (by rw [hi.out]; simp), fun _ => rfl, fun _ => hp.out 1 (by kernel_rfl), k.f0, k.f1, k.f2, k.f3, k.f5⟩
          refine AllF.cons rfl ?_ ?_
          · skip
            with_reducible refine StepF.dst (d := 52) (by kernel_rfl) (by kernel_rfl) ?_
            intro L y w hi hp h K hK
            simp only [putAll, List.foldl, Act.put, List.setIfInBounds_toArray, List.set_cons_zero, List.set_cons_succ] at hK ⊢
            have HK := Lib.hid hK
            clear hK
            go_simp
            refine HK.out _ _ ?_
            have k := h.out
            exact ⟨k.e, k.st, k.sp, k.bc, k.o, k.f4, k.f6, k.c6, k.c4, k.f0, k.f1, k.f2, k.f3, fun _ => upd_eq⟩
          refine AllF.cons rfl ?_ ?_
          · skip
            with_reducible refine StepF.none ?_
            intro L y w hi hp h K hK
            simp only [putAll, List.foldl, Act.put, List.setIfInBounds_toArray, List.set_cons_zero, List.set_cons_succ] at hK ⊢
            have HK := Lib.hid hK
            clear hK
            have g2 := h.out.f2 (hp.out 2 (by kernel_rfl))
            have g5 := h.out.f5 (hp.out 5 (by kernel_rfl))
            simp only [g2, g5] at HK
            have hold := h.out.f4 (hp.out 4 (by kernel_rfl)) hi.out
            have cc0 := hold.cell (i := 0) rfl
            have ff0 := hold.free 0
            have cc1 := hold.cell (i := 1) rfl
            have ff1 := hold.free 1
            have cc2 := hold.cell (i := 2) rfl
            have ff2 := hold.free 2
            have cc3 := hold.cell (i := 3) rfl
            have ff3 := hold.free 3
            have HOLD := Lib.hid hold
            clear hold
            go_simp
            refine HK.out _ ?_
            have k := h.out
            have hs := stay_hi HOLD.out (.bool sv) (.slice av nv cv)
            exact ⟨ext_st2h k.e hPw.out _ _, k.st.trans hs, fun a b c d z => Blk.st2h_other (k.sp a b c d z) (Ne.symm d) _ _, Blk.st2h_other k.bc hPC _ _, fun z => absurd (hp.out 4 (by kernel_rfl)) (by rw [show L 4 = false from z]; simp), fun _ z => Bool.noConfusion (show true = false from z), fun _ => Blk.hi HOLD.out _ _, fun _ => hp.out 4 (by kernel_rfl), k.c4, k.f0, k.f1, k.f2, k.f3, k.f5⟩
          exact trivial
          -->R6T
        · intro L y w6 hL h
          have hbP6 := h.f6 (hL 6 (by decide))
          have hbR6 := h.sp _ _ _ (Ne.symm hne) (HbR.out.ext hw45)
          have hbD6 := h.sp _ _ _ (Ne.symm hPD) hbD
          have hst6 := h.st
          have hx6 := h.e
          simp only [putAll, List.foldl, Act.put, List.setIfInBounds_toArray, List.set_cons_zero, List.set_cons_succ]
          clear h hL
          have HQ6 : Hid (IntV w6 (.agg #[.bool sq, .slice aq nq cq]) (r0 / r1)) := Lib.hid ⟨_, _, _, _, rfl, IntW.stay (HQW.out.ext he5) hst6⟩
          have HF6 : Hid (IntV w6 (.agg #[.bool t1, .slice b1 m1 d1]) f1) := Lib.hid ⟨_, _, _, _, rfl, IntW.stay (HQ1.out.ext hw45) hst6⟩
          have HE6 : Hid (IntV w6 (.agg #[.bool t0, .slice b0 m0 d0]) f0) := Lib.hid ⟨_, _, _, _, rfl, IntW.stay (HQ0.out.ext hw45) hst6⟩
          go_wp2_with fail
          refine wp_region_facts [53, 54, 55, 56, 57, 58, 59, 60, 61, 62, 63] (Bez7 w0 w6 R D t0 b0 m0 d0 t1 b1 m1 d1 sq aq nq cq (r0 / r1 * f1) (f0 - r0 / r1 * f1)) (by kernel_rfl) (by kernel_rfl) ?_ ?_ ?_
          · intro y
            have zz := (Ext.refl w6).drew
            exact ⟨hx6.trans zz, zz.stay, fun _ _ _ _ z => z.ext zz, hbD6.ext zz, fun _ => hbR6.ext zz, by simp, by simp, by simp, by simp, by simp, by simp, by simp, by simp, by simp, by simp, by simp, by simp, by simp, by simp, by simp⟩
          · intro Q
            clear KH
            --<R7T
            refine AllF.cons rfl ?_ ?_
            · skip
              with_reducible refine StepF.dst (d := 53) (by kernel_rfl) (by kernel_rfl) ?_
              intro L y w hi hp h K hK
              simp only [putAll, List.foldl, Act.put, List.setIfInBounds_toArray, List.set_cons_zero, List.set_cons_succ] at hK ⊢
              have HK := Lib.hid hK
              clear hK
              go_simp
              refine HK.out _ _ ?_
              have k := h.out
              exact ⟨k.e, k.st, k.sp, k.bd, k.o, k.f10, k.f12, k.c12, k.c10, fun _ => upd_eq, k.f1, k.f2, k.f3, k.f4, k.f5, k.f6, k.f7, k.f8, k.f9, k.f11⟩
            refine AllF.cons rfl ?_ ?_
            · skip
              with_reducible refine StepF.dst (d := 54) (by kernel_rfl) (by kernel_rfl) ?_
              intro L y w hi hp h K hK
              simp only [putAll, List.foldl, Act.put, List.setIfInBounds_toArray, List.set_cons_zero, List.set_cons_succ] at hK ⊢
              have HK := Lib.hid hK
              clear hK
              have g0 := h.out.f0 (hp.out 0 (by kernel_rfl))
              simp only [g0] at HK
              have hold := h.out.o (by cases hz : L 10 with | false => rfl | true => exact absurd (h.out.c10 hz).1 (by rw [hi.out]; simp))
              have cc0 := hold.cell (i := 0) rfl
              have ff0 := hold.free 0
              have cc1 := hold.cell (i := 1) rfl
              have ff1 := hold.free 1
              have cc2 := hold.cell (i := 2) rfl
              have ff2 := hold.free 2
              have cc3 := hold.cell (i := 3) rfl
              have ff3 := hold.free 3
              have HOLD := Lib.hid hold
              clear hold
              go_simp
              refine HK.out _ _ ?_
              have k := h.out
              exact ⟨k.e, k.st, k.sp, k.bd, k.o, k.f10, k.f12, k.c12, fun z => ⟨rfl, (k.c10 z).2.1, (k.c10 z).2.2⟩, k.f0, fun _ => upd_eq, k.f2, k.f3, k.f4, k.f5, k.f6, k.f7, k.f8, k.f9, k.f11⟩
            refine AllF.cons rfl ?_ ?_
            · skip
              with_reducible refine StepF.dst (d := 55) (by kernel_rfl) (by kernel_rfl) ?_
              intro L y w hi hp h K hK
              simp only [putAll, List.foldl, Act.put, List.setIfInBounds_toArray, List.set_cons_zero, List.set_cons_succ] at hK ⊢
              have HK := Lib.hid hK
              clear hK
              go_simp
              refine HK.out _ _ ?_
              have k := h.out
              exact ⟨k.e, k.st, k.sp, k.bd, k.o, k.f10, k.f12, k.c12, k.c10, k.f0, k.f1, fun _ => upd_eq, k.f3, k.f4, k.f5, k.f6, k.f7, k.f8, k.f9, k.f11⟩
            refine AllF.cons rfl ?_ ?_
            · skip
              with_reducible refine StepF.dst (d := 56) (by kernel_rfl) (by kernel_rfl) ?_
              intro L y w hi hp h K hK
              simp only [putAll, List.foldl, Act.put, List.setIfInBounds_toArray, List.set_cons_zero, List.set_cons_succ] at hK ⊢
              have HK := Lib.hid hK
              clear hK
              have g2 := h.out.f2 (hp.out 2 (by kernel_rfl))
              simp only [g2] at HK
              have hold := h.out.o (by cases hz : L 10 with | false => rfl | true => exact absurd (h.out.c10 hz).2.1 (by rw [hi.out]; simp))
              have cc0 := hold.cell (i := 0) rfl
              have ff0 := hold.free 0
              have cc1 := hold.cell (i := 1) rfl
              have ff1 := hold.free 1
              have cc2 := hold.cell (i := 2) rfl
              have ff2 := hold.free 2
              have cc3 := hold.cell (i := 3) rfl
              have ff3 := hold.free 3
              have HOLD := Lib.hid hold
              clear hold
              go_simp
              refine HK.out _ _ ?_
              have k := h.out
              exact ⟨k.e, k.st, k.sp, k.bd, k.o, k.f10, k.f12, k.c12, fun z => ⟨(k.c10 z).1, rfl, (k.c10 z).2.2⟩, k.f0, k.f1, k.f2, fun _ => upd_eq, k.f4, k.f5, k.f6, k.f7, k.f8, k.f9, k.f11⟩
            refine AllF.cons rfl ?_ ?_
            · skip
              with_reducible refine StepF.dst (d := 57) (by kernel_rfl) (by kernel_rfl) ?_
              intro L y w hi hp h K hK
              simp only [putAll, List.foldl, Act.put, List.setIfInBounds_toArray, List.set_cons_zero, List.set_cons_succ] at hK ⊢
              have HK := Lib.hid hK
              clear hK
              have cc0 := h.out.bd.cell (i := 0) rfl
              have cc1 := h.out.bd.cell (i := 1) rfl
              go_simp
              refine HK.out _ _ ?_
              have k := h.out
              exact ⟨k.e, k.st, k.sp, k.bd, k.o, k.f10, k.f12, k.c12, k.c10, k.f0, k.f1, k.f2, k.f3, fun _ => upd_eq, k.f5, k.f6, k.f7, k.f8, k.f9, k.f11⟩
            refine AllF.cons rfl ?_ ?_
            · skip
              with_reducible refine StepF.dst (d := 58) (by kernel_rfl) (by kernel_rfl) ?_
              intro L y w hi hp h K hK
              simp only [putAll, List.foldl, Act.put, List.setIfInBounds_toArray, List.set_cons_zero, List.set_cons_succ] at hK ⊢
              have HK := Lib.hid hK
              clear hK
              go_simp
              refine HK.out _ _ ?_
              have k := h.out
              exact ⟨k.e, k.st, k.sp, k.bd, k.o, k.f10, k.f12, k.c12, k.c10, k.f0, k.f1, k.f2, k.f3, k.f4, fun _ => upd_eq, k.f6, k.f7, k.f8, k.f9, k.f11⟩
            refine AllF.cons rfl ?_ ?_
            · skip
              with_reducible refine StepF.dst (d := 59) (by kernel_rfl) (by kernel_rfl) ?_
              intro L y w hi hp h K hK
              simp only [putAll, List.foldl, Act.put, List.setIfInBounds_toArray, List.set_cons_zero, List.set_cons_succ] at hK ⊢
              have HK := Lib.hid hK
              clear hK
              have g5 := h.out.f5 (hp.out 5 (by kernel_rfl))
              simp only [g5] at HK
              have hold := h.out.o (by cases hz : L 10 with | false => rfl | true => exact absurd (h.out.c10 hz).2.2 (by rw [hi.out]; simp))
              have cc0 := hold.cell (i := 0) rfl
              have ff0 := hold.free 0
              have cc1 := hold.cell (i := 1) rfl
              have ff1 := hold.free 1
              have cc2 := hold.cell (i := 2) rfl
              have ff2 := hold.free 2
              have cc3 := hold.cell (i := 3) rfl
              have ff3 := hold.free 3
              have HOLD := Lib.hid hold
              clear hold
              go_simp
              refine HK.out _ _ ?_
              have k := h.out
              exact ⟨k.e, k.st, k.sp, k.bd, k.o, k.f10, k.f12, k.c12, fun z => ⟨(k.c10 z).1, (k.c10 z).2.1, rfl⟩, k.f0, k.f1, k.f2, k.f3, k.f4, k.f5, fun _ => upd_eq, k.f7, k.f8, k.f9, k.f11⟩
            refine AllF.cons rfl ?_ ?_
            · skip
              with_reducible refine StepF.dst (d := 60) (by kernel_rfl) (by kernel_rfl) ?_
              intro L y w hi hp h K hK
              simp only [putAll, List.foldl, Act.put, List.setIfInBounds_toArray, List.set_cons_zero, List.set_cons_succ] at hK ⊢
              have HK := Lib.hid hK
              clear hK
              have g4 := h.out.f4 (hp.out 4 (by kernel_rfl))
              have g6 := h.out.f6 (hp.out 6 (by kernel_rfl))
              simp only [g4, g6] at HK
              go_simp
              refine (mul_any _ _ (r0 / r1) f1 _ (IntV.stay HQ6.out h.out.st) (IntV.stay HF6.out h.out.st) (HFq.out.mono (by omega)) (HFf1.out.mono (by omega))).mono ?_
              rintro e w7 ⟨⟨v, rfl, hr⟩, he7⟩
              clear g4 g6
              go_simp
              refine HK.out _ _ ?_
              have k := h.out.ext he7
              exact ⟨k.e, k.st, k.sp, k.bd, k.o, k.f10, k.f12, k.c12, k.c10, k.f0, k.f1, k.f2, k.f3, k.f4, k.f5, k.f6, fun _ => by rw [upd_eq]; exact hr, k.f8, k.f9, k.f11⟩
            refine AllF.cons rfl ?_ ?_
            · skip
              with_reducible refine StepF.dst (d := 61) (by kernel_rfl) (by kernel_rfl) ?_
              intro L y w hi hp h K hK
              simp only [putAll, List.foldl, Act.put, List.setIfInBounds_toArray, List.set_cons_zero, List.set_cons_succ] at hK ⊢
              have HK := Lib.hid hK
              clear hK
              have g3 := h.out.f3 (hp.out 3 (by kernel_rfl))
              simp only [g3] at HK
              have g7 := h.out.f7 (hp.out 7 (by kernel_rfl))
              have G7 := Lib.hid g7
              clear g7
              go_simp
              refine (sub_any _ _ f0 (r0 / r1 * f1) _ (IntV.stay HE6.out h.out.st) G7.out (HFf0.out.mono (by omega)) (HFp.out.mono (by omega))).mono ?_
              rintro e w7 ⟨⟨v, rfl, hr⟩, he7⟩
              clear g3
              go_simp
              refine HK.out _ _ ?_
              have k := h.out.ext he7
              exact ⟨k.e, k.st, k.sp, k.bd, k.o, k.f10, k.f12, k.c12, k.c10, k.f0, k.f1, k.f2, k.f3, k.f4, k.f5, k.f6, k.f7, fun _ => by rw [upd_eq]; exact hr, k.f9, k.f11⟩
            refine AllF.cons rfl ?_ ?_
            · skip
              with_reducible refine StepF.dst (d := 62) (by kernel_rfl) (by kernel_rfl) ?_
              intro L y w hi hp h K hK
              simp only [putAll, List.foldl, Act.put, List.setIfInBounds_toArray, List.set_cons_zero, List.set_cons_succ] at hK ⊢
              have HK := Lib.hid hK
              clear hK
              go_simp
              refine HK.out _ _ ?_
              have k := h.out
              exact ⟨k.e, k.st, k.sp, k.bd, k.o, k.f10, k.f12, k.c12, k.c10, k.f0, k.f1, k.f2, k.f3, k.f4, k.f5, k.f6, k.f7, k.f8, fun _ => upd_eq, k.f11⟩
            refine AllF.cons rfl ?_ ?_
            · skip
              with_reducible refine StepF.none ?_
              intro L y w hi hp h K hK
              simp only [putAll, List.foldl, Act.put, List.setIfInBounds_toArray, List.set_cons_zero, List.set_cons_succ] at hK ⊢
              have HK := Lib.hid hK
              clear hK
              have g1 := h.out.f1 (hp.out 1 (by kernel_rfl))
              have g9 := h.out.f9 (hp.out 9 (by kernel_rfl))
              simp only [g1, g9] at HK
              have hold := h.out.o hi.out
              have cc0 := hold.cell (i := 0) rfl
              have ff0 := hold.free 0
              have cc1 := hold.cell (i := 1) rfl
              have ff1 := hold.free 1
              have cc2 := hold.cell (i := 2) rfl
              have ff2 := hold.free 2
              have cc3 := hold.cell (i := 3) rfl
              have ff3 := hold.free 3
              have HOLD := Lib.hid hold
              clear hold
              go_simp
              refine HK.out _ ?_
              have k := h.out
              have hs := stay_lo HOLD.out (.bool t1) (.slice b1 m1 d1)
              exact ⟨ext_st2 k.e hRw.out _ _, k.st.trans hs, fun a b c d z => Blk.st2_other (k.sp a b c d z) (Ne.symm d) _ _, Blk.st2_other k.bd hRD _ _, fun z => Bool.noConfusion (show true = false from z), fun _ _ => Blk.lo HOLD.out _ _, fun z => absurd (h.out.c12 z) (by rw [hi.out]; simp), fun _ => rfl, fun _ => ⟨hp.out 1 (by kernel_rfl), hp.out 3 (by kernel_rfl), hp.out 6 (by kernel_rfl)⟩, k.f0, k.f1, k.f2, k.f3, k.f4, k.f5, k.f6, fun z => (k.f7 z).stay hs, fun z => (k.f8 z).stay hs, k.f9, k.f11⟩
            refine AllF.cons rfl ?_ ?_
            · skip
              with_reducible refine StepF.dst (d := 63) (by kernel_rfl) (by kernel_rfl) ?_
              intro L y w hi hp h K hK
              simp only [putAll, List.foldl, Act.put, List.setIfInBounds_toArray, List.set_cons_zero, List.set_cons_succ] at hK ⊢
              have HK := Lib.hid hK
              clear hK
              go_simp
              refine HK.out _ _ ?_
              have k := h.out
              exact ⟨k.e, k.st, k.sp, k.bd, k.o, k.f10, k.f12, k.c12, k.c10, k.f0, k.f1, k.f2, k.f3, k.f4, k.f5, k.f6, k.f7, k.f8, k.f9, fun _ => upd_eq⟩
            refine AllF.cons rfl ?_ ?_
            · skip
              with_reducible refine StepF.none ?_
              intro L y w hi hp h K hK
              simp only [putAll, List.foldl, Act.put, List.setIfInBounds_toArray, List.set_cons_zero, List.set_cons_succ] at hK ⊢
              have HK := Lib.hid hK
              clear hK
              obtain ⟨s8, a8, n8, c8, g8, h8⟩ := h.out.f8 (hp.out 8 (by kernel_rfl))
              have H8 := Lib.hid h8
              clear h8
              have g11 := h.out.f11 (hp.out 11 (by kernel_rfl))
              simp only [g8, g11] at HK
              have hold := h.out.f10 (hp.out 10 (by kernel_rfl)) hi.out
              have cc0 := hold.cell (i := 0) rfl
              have ff0 := hold.free 0
              have cc1 := hold.cell (i := 1) rfl
              have ff1 := hold.free 1
              have cc2 := hold.cell (i := 2) rfl
              have ff2 := hold.free 2
              have cc3 := hold.cell (i := 3) rfl
              have ff3 := hold.free 3
              have HOLD := Lib.hid hold
              clear hold
              go_simp
              refine HK.out _ ?_
              have k := h.out
              have hs := stay_hi HOLD.out (.bool s8) (.slice a8 n8 c8)
              exact ⟨ext_st2h k.e hRw.out _ _, k.st.trans hs, fun a b c d z => Blk.st2h_other (k.sp a b c d z) (Ne.symm d) _ _, Blk.st2h_other k.bd hRD _ _, fun z => absurd (hp.out 10 (by kernel_rfl)) (by rw [show L 10 = false from z]; simp), fun _ z => Bool.noConfusion (show true = false from z), fun _ => ⟨_, _, _, _, Blk.hi HOLD.out _ _, IntW.stay H8.out hs⟩, fun _ => hp.out 10 (by kernel_rfl), k.c10, k.f0, k.f1, k.f2, k.f3, k.f4, k.f5, k.f6, fun z => (k.f7 z).stay hs, fun z => (k.f8 z).stay hs, k.f9, k.f11⟩
            exact trivial
            -->R7T
          · intro L y w7 hL h
            obtain ⟨s8, a8, n8, c8, hbR7, h8⟩ := h.f12 (hL 12 (by decide))
            have hbP7 := h.sp _ _ _ hne hbP6
            have hst7 := (hw45.stay.trans hst6).trans h.st
            have hx7 := h.e
            have HPP : Hid (Pair w7 P r1 (r0 % r1)) := Lib.hid ⟨_, _, _, _, _, _, _, _, hbP7, IntW.stay HP1.out hst7, IntW.stay ((HRW.out.ext he5)) (hst6.trans h.st)⟩
            have HRR : Hid (Pair w7 R f1 (f0 - r0 / r1 * f1)) := Lib.hid ⟨_, _, _, _, _, _, _, _, hbR7, IntW.stay HQ1.out hst7, h8⟩
            have HMM : Hid (cval w7 ⟨P, 3, none⟩ < cval wr ⟨P, 3, none⟩) := Lib.hid (by
              rw [cval_eq (hbP7.cell (i := 3) rfl) (IntW.stay (HRW.out.ext he5) (hst6.trans h.st)), cval_eq (HbP.out.cell (i := 3) rfl) HP1.out]
              exact HMS.out)
            simp only [putAll, List.foldl, Act.put, List.setIfInBounds_toArray, List.set_cons_zero, List.set_cons_succ]
            clear h hL h8 hbP7 hbR7 hst7 hst6 hbP6 hbR6 hbD6
            go_wp2_with fail
            go_roundw
            case rel => exact ⟨_, _, _, _, HPP.out, HRR.out, HNEW.out, hx7⟩
            case measure => exact HMM.out
end Go.Proofs.YtddcgojpgdhefaaGreatDoor
