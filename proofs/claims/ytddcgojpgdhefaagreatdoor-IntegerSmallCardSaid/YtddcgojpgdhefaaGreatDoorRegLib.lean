/- Places of integers in memory: what the walks of drawn regions share. -/
import Derived.Test.YtddcgojpgdhefaaGreatDoorRegion
import Derived.Test.YtddcgojpgdhefaaGreatDoorInt0
namespace Go.Proofs.YtddcgojpgdhefaaGreatDoor
open Go.RowKit Go.El
set_option linter.unusedVariables false
theorem IntW.stay {w w' : World} {s : Bool} {a : Option Addr} {n c : Nat} {z : Int} (h : IntW w s a n c z) (he : Stay w w') : IntW w' s a n c z := ⟨h.1, h.2.stay he⟩
theorem IntV.stay {w w' : World} {v : Value} {z : Int} (h : IntV w v z) (he : Stay w w') : IntV w' v z := by
  obtain ⟨s, a, n, c, rfl, hw⟩ := h
  exact ⟨s, a, n, c, rfl, IntW.stay hw he⟩
theorem intW_zero (w : World) : IntW w false none 0 0 0 := ⟨by simp, by rw [Int.natAbs_zero, Int.ofNat_zero, digs_zero]; exact Words.nil' _⟩
theorem fits_le {z b : Int} {k : Nat} (h : Fits b k) (hz : z.natAbs ≤ b.natAbs) : Fits z k := by unfold Fits at *; omega
/-- Two cells stored. -/
def st2 (w : World) (P : Nat) (x0 x1 : Value) : World := (w.setCell ⟨P, 0, none⟩ x0).setCell ⟨P, 1, none⟩ x1
theorem Blk.st2 {w : World} {P : Nat} {E : TypeId} {p q : Value} (h : Blk w P E [p, q]) (x0 x1 : Value) : Blk (st2 w P x0 x1) P E [x0, x1] := (h.set 0 x0).set 1 x1
theorem stay_st2 {w : World} {P : Nat} {E : TypeId} {s0 : Bool} {a0 : Option Addr} {n0 c0 : Nat} (h : Blk w P E [.bool s0, .slice a0 n0 c0]) (x0 x1 : Value) : Stay w (st2 w P x0 x1) :=
  (Stay.store (h.cell (i := 0) rfl) (by simp) x0).trans (Stay.store ((h.set 0 x0).cell (i := 1) rfl) (by simp) x1)
theorem ext_st2 {w0 w : World} {P : Nat} (h : Ext w0 w) (hP : w0.heap.size ≤ P) (x0 x1 : Value) : Ext w0 (st2 w P x0 x1) := (h.setCell (p := ⟨P, 0, none⟩) hP x0).setCell (p := ⟨P, 1, none⟩) hP x1
/-- A place for an integer. -/
def RoomI (w : World) (v : Value) (m : Nat) : Prop := ∃ G s a n c, v = .pointer (some ⟨G, 0, none⟩) ∧ Blk w G 24 [.bool s, .slice a n c] ∧ m ≤ G
theorem RoomI.ext {w w' : World} {v : Value} {m : Nat} (h : RoomI w v m) (he : Ext w w') : RoomI w' v m := by
  obtain ⟨G, s, a, n, c, rfl, hb, hm⟩ := h
  exact ⟨G, s, a, n, c, rfl, hb.ext he, hm⟩
theorem roomI_new {w0 w : World} (he : Ext w0 w) : RoomI (w.alloc (.cells #[.bool false, .slice none 0 0] 24)) (.pointer (some ⟨w.heap.size, 0, none⟩)) w0.heap.size :=
  ⟨_, _, _, _, _, rfl, Blk.new w _ [_, _], he.size⟩
/-- A place where an integer lies. -/
def AtI (w : World) (v : Value) (m : Nat) (z : Int) : Prop := ∃ G s a n c, v = .pointer (some ⟨G, 0, none⟩) ∧ Blk w G 24 [.bool s, .slice a n c] ∧ m ≤ G ∧ IntW w s a n c z
theorem AtI.ext {w w' : World} {v : Value} {m : Nat} {z : Int} (h : AtI w v m z) (he : Ext w w') : AtI w' v m z := by
  obtain ⟨G, s, a, n, c, rfl, hb, hm, hi⟩ := h
  exact ⟨G, s, a, n, c, rfl, hb.ext he, hm, hi.ext he⟩
theorem Blk.st2_other {w : World} {P Q : Nat} {E : TypeId} {cs : List Value} (h : Blk w Q E cs) (hne : P ≠ Q) (x0 x1 : Value) : Blk (Proofs.YtddcgojpgdhefaaGreatDoor.st2 w P x0 x1) Q E cs := (h.other (p := ⟨P, 0, none⟩) hne x0).other (p := ⟨P, 1, none⟩) hne x1
def PlaceI (w : World) (P : Nat) : Prop := ∃ s a n c, Blk w P 24 [.bool s, .slice a n c]
theorem PlaceI.ext {w w' : World} {P : Nat} (h : PlaceI w P) (he : Ext w w') : PlaceI w' P := by
  obtain ⟨s, a, n, c, hb⟩ := h
  exact ⟨s, a, n, c, hb.ext he⟩
theorem PlaceI.st2_other {w : World} {P Q : Nat} (h : PlaceI w Q) (hne : P ≠ Q) (x0 x1 : Value) : PlaceI (st2 w P x0 x1) Q := by
  obtain ⟨s, a, n, c, hb⟩ := h
  exact ⟨s, a, n, c, Blk.st2_other hb hne x0 x1⟩
def HoldI (w : World) (P : Nat) (z : Int) : Prop := ∃ s a n c, Blk w P 24 [.bool s, .slice a n c] ∧ IntW w s a n c z
theorem HoldI.ext {w w' : World} {P : Nat} {z : Int} (h : HoldI w P z) (he : Ext w w') : HoldI w' P z := by
  obtain ⟨s, a, n, c, hb, hi⟩ := h
  exact ⟨s, a, n, c, hb.ext he, hi.ext he⟩
theorem HoldI.st2_other {w : World} {P Q : Nat} {z : Int} (h : HoldI w Q z) (hne : P ≠ Q) {x0 x1 : Value} (hs : Stay w (st2 w P x0 x1)) : HoldI (st2 w P x0 x1) Q z := by
  obtain ⟨s, a, n, c, hb, hi⟩ := h
  exact ⟨s, a, n, c, Blk.st2_other hb hne x0 x1, IntW.stay hi hs⟩
end Go.Proofs.YtddcgojpgdhefaaGreatDoor
