/- Integers: readings and worlds for the walks. -/
import Derived.Test.YtddcgojpgdhefaaGreatDoorClone
import Derived.Deep.RegionHeld3
namespace Go.El
open Go.RowKit
set_option linter.unusedVariables false
/-- At most k words. -/
def Fits (z : Int) (k : Nat) : Prop := (z.natAbs : Int) < pw k
theorem Fits.mono {z : Int} {k m : Nat} (h : Fits z k) (hk : k ≤ m) : Fits z m := Int.lt_of_lt_of_le h (pw_le hk)
theorem Fits.len {z : Int} {k : Nat} (h : Fits z k) : (digs (z.natAbs : Int)).length ≤ k := digs_len_le (by omega) h
theorem Fits.neg {z : Int} {k : Nat} (h : Fits z k) : Fits (-z) k := by unfold Fits at *; rwa [Int.natAbs_neg]
theorem Fits.add {a b : Int} {k : Nat} (ha : Fits a k) (hb : Fits b k) : Fits (a + b) (k + 1) := by
  unfold Fits at *
  have := Int.natAbs_add_le a b
  have := pw_pos k
  simp only [pw]
  omega
theorem Fits.sub {a b : Int} {k : Nat} (ha : Fits a k) (hb : Fits b k) : Fits (a - b) (k + 1) := by
  rw [Int.sub_eq_add_neg]; exact ha.add hb.neg
theorem Fits.mul {a b : Int} {k m : Nat} (ha : Fits a k) (hb : Fits b m) : Fits (a * b) (k + m) := by
  unfold Fits at *
  rw [Int.natAbs_mul, Int.natCast_mul, pw_add]
  have h0 := pw_pos k
  have h1 : (a.natAbs : Int) * b.natAbs ≤ a.natAbs * pw m := Int.mul_le_mul_of_nonneg_left (by omega) (by omega)
  have h2 : (a.natAbs : Int) * pw m < pw k * pw m := Int.mul_lt_mul_of_pos_right ha (pw_pos m)
  omega
theorem Ext.upto {w w' : World} (h : Ext w w') {B : Nat} (hB : B ≤ w.heap.size) : Below B w w' := Below.mono h hB
theorem _root_.Go.RowKit.Below.drewN {B : Nat} {a w : World} (h : Below B a w) (n : Nat) : Below B a (w.drewN n) := by
  obtain ⟨h1, h2, h3, h4, h5⟩ := h
  exact ⟨h1, h2, h3, h4, h5⟩
theorem _root_.Go.RowKit.Below.set2 {B : Nat} {a w : World} (h : Below B a w) {b : Nat} (hb : B ≤ b) (x y : Value) : Below B a ((w.setCell ⟨b, 0, none⟩ x).setCell ⟨b, 1, none⟩ y) := (h.setCell hb x).setCell hb y
theorem _root_.Go.RowKit.Below.toExt {w w0 w' : World} {B B' : Nat} (h : Below B' w0 w') (he : Ext w w0) (hB : Hid (B = w.heap.size)) (hle : B ≤ B') : Ext w w' := by
  have := h.mono hle
  rw [hB.out] at this
  exact RowKit.Below.trans he this
theorem Blk.drewN' {w : World} {b : Nat} {E : TypeId} {cs : List Value} (h : Blk w b E cs) (n : Nat) : Blk (w.drewN n) b E cs := h
theorem World.size_alloc' (w : World) (o : Obj) : (w.alloc o).heap.size = w.heap.size + 1 := by simp
theorem mul_sign {a b : Int} {na nb : Bool} (ha : na = decide (a < 0)) (hb : nb = decide (b < 0)) : a * b = if (!(na == nb)) then -((a.natAbs : Int) * b.natAbs) else (a.natAbs : Int) * b.natAbs := by
  subst ha
  subst hb
  by_cases h1 : a < 0 <;> by_cases h2 : b < 0 <;> simp [h1, h2]
  · rw [Int.ofNat_natAbs_of_nonpos (by omega), Int.ofNat_natAbs_of_nonpos (by omega), Int.neg_mul_neg]
  · rw [Int.ofNat_natAbs_of_nonpos (by omega), Int.natAbs_of_nonneg (by omega), Int.neg_mul, Int.neg_neg]
  · rw [Int.natAbs_of_nonneg (by omega), Int.ofNat_natAbs_of_nonpos (by omega), Int.mul_neg, Int.neg_neg]
  · rw [Int.natAbs_of_nonneg (by omega), Int.natAbs_of_nonneg (by omega)]
theorem add_sign {a b : Int} {na nb : Bool} (ha : na = decide (a < 0)) (hb : nb = decide (b < 0)) (h : na = nb) : a + b = if na then -((a.natAbs : Int) + b.natAbs) else (a.natAbs : Int) + b.natAbs := by
  subst hb
  subst ha
  by_cases h1 : a < 0
  · have h2 : b < 0 := by simpa [h1] using h
    simp [h1]; omega
  · have h2 : ¬ b < 0 := by simpa [h1] using h
    simp [h1]; omega
theorem sub_sign {a b : Int} {na nb : Bool} (ha : na = decide (a < 0)) (hb : nb = decide (b < 0)) (h : na ≠ nb) : a + b = if na then -((a.natAbs : Int) - b.natAbs) else (a.natAbs : Int) - b.natAbs := by
  subst hb
  subst ha
  by_cases h1 : a < 0
  · have h2 : ¬ b < 0 := by simpa [h1] using h
    simp [h1]; omega
  · have h2 : b < 0 := by simpa [h1] using h
    simp [h1]; omega
theorem Fits.sum {a b : Int} {k : Nat} (ha : Fits a k) (hb : Fits b k) : (digs ((a.natAbs : Int) + b.natAbs)).length ≤ k + 1 :=
  digs_len_le (by omega) (by have := pw_pos k; unfold Fits at *; simp only [pw]; omega)
/-- Two boxes and a place for the result. -/
theorem three (w : World) (E F G : TypeId) (a b c : List Value) : ∃ B w0, B = w.heap.size ∧ w0 = ((w.alloc (.cells a.toArray E)).alloc (.cells b.toArray F)).alloc (.cells c.toArray G) ∧ Blk w0 B E a ∧ Blk w0 (B + 1) F b ∧ Blk w0 (B + 1 + 1) G c ∧ Ext w w0 := by
  refine ⟨_, _, rfl, rfl, ((Blk.new w E a).alloc _).alloc _, ?_, ?_, (((Ext.refl w).alloc _).alloc _).alloc _⟩
  · have := Blk.new (w.alloc (.cells a.toArray E)) F b
    rw [World.size_alloc'] at this
    exact this.alloc _
  · have := Blk.new ((w.alloc (.cells a.toArray E)).alloc (.cells b.toArray F)) G c
    rw [World.size_alloc', World.size_alloc'] at this
    exact this
theorem two (w : World) (E F : TypeId) (a b : List Value) : ∃ B w0, B = w.heap.size ∧ w0 = (w.alloc (.cells a.toArray E)).alloc (.cells b.toArray F) ∧ Blk w0 B E a ∧ Blk w0 (B + 1) F b ∧ Ext w w0 := by
  refine ⟨_, _, rfl, rfl, (Blk.new w E a).alloc _, ?_, ((Ext.refl w).alloc _).alloc _⟩
  have := Blk.new (w.alloc (.cells a.toArray E)) F b
  rw [World.size_alloc'] at this
  exact this
theorem one (w : World) (E : TypeId) (a : List Value) : ∃ B w0, B = w.heap.size ∧ w0 = w.alloc (.cells a.toArray E) ∧ Blk w0 B E a ∧ Ext w w0 :=
  ⟨_, _, rfl, rfl, Blk.new w E a, (Ext.refl w).alloc _⟩
theorem four (w : World) (E F G I : TypeId) (a b c d : List Value) : ∃ B w0, B = w.heap.size ∧ w0 = (((w.alloc (.cells a.toArray E)).alloc (.cells b.toArray F)).alloc (.cells c.toArray G)).alloc (.cells d.toArray I) ∧ Blk w0 B E a ∧ Blk w0 (B + 1) F b ∧ Blk w0 (B + 1 + 1) G c ∧ Blk w0 (B + 1 + 1 + 1) I d ∧ Ext w w0 := by
  obtain ⟨B, w0, h1, h2, h3, h4, h5, h6⟩ := three w E F G a b c
  subst h1
  subst h2
  refine ⟨_, _, rfl, rfl, h3.alloc _, h4.alloc _, h5.alloc _, ?_, h6.alloc _⟩
  have := Blk.new (((w.alloc (.cells a.toArray E)).alloc (.cells b.toArray F)).alloc (.cells c.toArray G)) I d
  rw [World.size_alloc', World.size_alloc', World.size_alloc'] at this
  exact this
theorem digs_len_mono {x y : Int} (hx : 0 ≤ x) (h : x ≤ y) : (digs x).length ≤ (digs y).length :=
  digs_len_le hx (Int.lt_of_le_of_lt h (digs_len_lt (Int.le_trans hx h)))
theorem Ext.store' {a w : World} (h : Ext a w) {B b : Nat} (hB : Hid (B = a.heap.size)) (hle : B ≤ b) (i : Nat) (u : Value) : Ext a (w.setCell ⟨b, i, none⟩ u) := Below.setCell h (by rw [← hB.out]; exact hle) u
theorem neg_sign {a : Int} {na : Bool} (ha : na = decide (a < 0)) : -a = if (!na) then -(a.natAbs : Int) else a.natAbs := by
  subst ha
  by_cases h : a < 0
  · rw [if_neg (by simp [h])]; omega
  · rw [if_pos (by simp [h])]; omega
end Go.El

