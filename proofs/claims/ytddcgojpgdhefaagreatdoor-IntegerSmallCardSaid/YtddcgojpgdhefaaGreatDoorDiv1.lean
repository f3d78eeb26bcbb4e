/- Division of absolute values, the short ways: walked. -/
import Derived.Test.YtddcgojpgdhefaaGreatDoorNat5
import Derived.Test.YtddcgojpgdhefaaGreatDoorClone
namespace Go.El
set_option linter.unusedVariables false
theorem Words.cellAt {w : World} {a : Option Addr} {len cap : Nat} {l : List Int} (h : Words w a len cap l) {i : Nat} (hi : i < len) : ∃ b off, a = some ⟨b, off, none⟩ ∧ w.cell? ⟨b, off + i, none⟩ = some (.int .u32 (l.getD i 0)) :=
  h.cells i (l.getD i 0) (by rw [List.getD, List.getElem?_eq_getElem (by rw [h.hlen]; exact hi)]; simp)
theorem digs_one {z : Int} (hz : 0 ≤ z) (hz' : z < 4294967296) : digs z = if z = 0 then [] else [z] := by
  split
  · next h => subst h; exact digs_zero
  · rw [digs_pos (by omega), Int.emod_eq_of_lt hz hz', Int.ediv_eq_zero_of_lt hz hz', digs_zero]
end Go.El
namespace Go.Proofs.YtddcgojpgdhefaaGreatDoor
open Go.RowKit Go.El
set_option linter.unusedVariables false

/-- The result of a division: quotient and remainder. -/
def DivRes (w w' : World) (e : Ending) (a b : Int) : Prop :=
  (∃ qa qn qc ra rn rc, e = .returned (.tuple #[.slice qa qn qc, .slice ra rn rc]) ∧ Words w' qa qn qc (digs (a / b)) ∧ Words w' ra rn rc (digs (a % b))) ∧ Ext w w'

set_option maxRecDepth 100000 in
theorem ndiv_lt (ax ay : Option Addr) (nx cx ny cy : Nat) (a b : Int) (w : World) (ha : 0 ≤ a) (hb : 0 ≤ b) (hx : Words w ax nx cx (digs a)) (hy : Words w ay ny cy (digs b)) (hlt : a < b) :
    Calls Tryz.prog 59 #[.slice ax nx cx, .slice ay ny cy] w fun e w' => DivRes w w' e a b := by
  have H := Lib.hid (fun W hx hy => ncmp_any ax ay nx cx ny cy a b W ha hb hx hy)
  rw [sgn_lt hlt] at H
  have hmx := hx.max
  have hmy := hy.max
  have Hx := Lib.hid hx
  have Hy := Lib.hid hy
  clear hx hy
  go_enter Tryz.func59, Tryz.ntmps59
  go_wp2_with (go_at_call 53; (with_reducible refine (H.out _ Hx.out Hy.out).mono ?_); rintro e w' ⟨rfl, ⟨k, rfl⟩⟩)
  go_ret2
  refine ⟨⟨_, _, _, _, _, _, rfl, ?_, ?_⟩, (Ext.refl w).drewN _⟩
  · rw [Int.ediv_eq_zero_of_lt ha hlt, digs_zero]; exact Words.nil' _
  · rw [Int.emod_eq_of_lt ha hlt]; exact Hx.out.ext ((Ext.refl w).drewN _)

set_option maxRecDepth 100000 in
theorem ndiv_one (ax ay : Option Addr) (nx cx cy : Nat) (a b : Int) (w : World) (ha : 0 ≤ a) (hb : 0 < b) (hx : Words w ax nx cx (digs a)) (hy : Words w ay 1 cy (digs b)) (hle : b ≤ a) (hs : nx ≤ 1099511627776) :
    Calls Tryz.prog 59 #[.slice ax nx cx, .slice ay 1 cy] w fun e w' => DivRes w w' e a b := by
  have hb' : b < 4294967296 := by
    have := digs_len_lt (show 0 ≤ b by omega)
    rw [hy.hlen, pw_one] at this
    exact this
  have hd : (digs b).getD 0 0 = b := by rw [digs_one (by omega) hb', if_neg (by omega)]; rfl
  have H := Lib.hid (fun W hx hy => ncmp_any ax ay nx cx 1 cy a b W ha (by omega) hx hy)
  have hsg : Hid (decide (sgn a b < 0) = false) := by
    rcases Int.lt_or_eq_of_le hle with h | h
    · rw [sgn_gt h]; rfl
    · rw [h, sgn_eq]; rfl
  obtain ⟨sg, hsgv⟩ : ∃ sg, sg = sgn a b := ⟨_, rfl⟩
  rw [← hsgv] at H hsg
  have hsg2 : decide (sg < 0) = false := hsg
  have hsg3 : ¬ sg < 0 := by simpa using hsg2
  obtain ⟨by_, oy, hay, hcy⟩ := hy.cellAt (i := 0) (by omega)
  rw [hd, Nat.add_zero] at hcy
  subst hay
  have hmx := hx.max
  have hmy := hy.max
  have hv : val (digs a) = a := val_digs ha
  have HWd := Lib.hid (fun W hx => nword_any ax nx cx (digs a) b W hx hs hb hb')
  rw [hv] at HWd
  have Hx := Lib.hid hx
  have Hy := Lib.hid hy
  clear hx hy hd hsgv hv
  have hrb : 0 ≤ a % b ∧ a % b < b := ⟨Int.emod_nonneg _ (by omega), Int.emod_lt_of_pos _ hb⟩
  obtain ⟨r, hr⟩ : ∃ r, r = a % b := ⟨_, rfl⟩
  rw [← hr] at hrb HWd
  have HR := Lib.hid hr
  clear hr
  go_enter Tryz.func59, Tryz.ntmps59
  go_wp2_with (first
    | (go_at_call 53; (with_reducible refine (H.out _ Hx.out Hy.out).mono ?_); rintro e w' ⟨rfl, ⟨k, rfl⟩⟩)
    | (go_at_call 62; (with_reducible refine (HWd.out _ (Hx.out.ext ((Ext.refl w).drewN _))).mono ?_); rintro e w1 ⟨⟨qa, qn, qc, rfl, hq⟩, he⟩))
  have hW := Words.of_blk (Blk.new w1 27 (u32s [r])) (Wf.nil.cons hrb.1 (by omega)) (by simp)
  refine (norm_any _ _ _ _ _ hW).mono ?_
  rintro e w' ⟨⟨m, rfl, hm, hW'⟩, rfl⟩
  rw [val_one] at hW'
  go_wp2_with fail
  go_ret2
  refine ⟨⟨_, _, _, _, _, _, rfl, hq.ext ((Ext.refl _).alloc _), ?_⟩, ((((Ext.refl w).drewN _).trans he).alloc _)⟩
  rw [← HR.out]
  exact hW'
end Go.Proofs.YtddcgojpgdhefaaGreatDoor
