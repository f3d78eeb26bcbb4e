/- integer.Gcd. -/
import Derived.Test.YtddcgojpgdhefaaGreatDoorPow2
namespace Go.El
open Go.RowKit
theorem Words.uniq {w : World} {a : Option Addr} {n c : Nat} {l l' : List Int} (h : Words w a n c l) (h' : Words w a n c l') : l = l' := by
  apply List.ext_getElem (by rw [h.hlen, h'.hlen])
  intro i h1 h2
  obtain ⟨b, off, e, hc⟩ := h.cells i l[i] (by simp)
  obtain ⟨b', off', e', hc'⟩ := h'.cells i l'[i] (by simp)
  rw [e] at e'
  cases e'
  rw [hc] at hc'
  have e2 := Option.some.inj hc'
  injection e2
open Classical in
/-- The number that a slice's words make. -/
noncomputable def mval (w : World) (v : Value) : Nat :=
  if h : ∃ l : List Int, ∃ a n c, v = .slice a n c ∧ Words w a n c l then (val h.choose).toNat else 0
theorem mval_eq {w : World} {a : Option Addr} {n c : Nat} {l : List Int} (h : Words w a n c l) : mval w (.slice a n c) = (val l).toNat := by
  have hx : ∃ l : List Int, ∃ a' n' c', (Value.slice a n c) = .slice a' n' c' ∧ Words w a' n' c' l := ⟨l, a, n, c, rfl, h⟩
  unfold mval
  rw [dif_pos hx]
  obtain ⟨a', n', c', e, h'⟩ := hx.choose_spec
  cases e
  rw [h'.uniq h]
theorem gcd_step {p q : Int} (hp : 0 ≤ p) (hq : 0 ≤ q) : Int.gcd q (p % q) = Int.gcd p q := by
  obtain ⟨P, rfl⟩ := Int.eq_ofNat_of_zero_le hp
  obtain ⟨Q, rfl⟩ := Int.eq_ofNat_of_zero_le hq
  rw [← Int.natCast_emod, Int.gcd_natCast_natCast, Int.gcd_natCast_natCast, Nat.gcd_comm P Q, Nat.gcd_rec Q P, Nat.gcd_comm]
theorem Fits.mod {p q : Int} {k : Nat} (hp : 0 ≤ p) (hq : 0 < q) (h : Fits p k) : Fits (p % q) k := by
  have h1 := Int.emod_nonneg p (show q ≠ 0 by omega)
  have h2 := emod_le' hp hq
  unfold Fits at *
  omega
theorem fits_abs {a : Int} {k : Nat} (h : Fits a k) : Fits (a.natAbs : Int) k := by unfold Fits at *; rwa [Int.natAbs_natCast]
end Go.El
namespace Go.Proofs.YtddcgojpgdhefaaGreatDoor
open Go.RowKit Go.El
set_option linter.unusedVariables false
set_option maxRecDepth 100000 in
set_option maxHeartbeats 1000000 in
theorem gcd_any (x y : Value) (a b : Int) (w : World) (hx : IntV w x a) (hy : IntV w y b) (ha : Fits a 1073741824) (hb : Fits b 1073741824) :
    Calls Tryz.prog 38 #[x, y] w fun e w' => (∃ v, e = .returned v ∧ IntV w' v ((Int.gcd a b : Nat) : Int)) ∧ Ext w w' := by
  obtain ⟨na, ax, nx, cx, rfl, hna, hwx⟩ := hx
  obtain ⟨nb, ay, ny, cy, rfl, hnb, hwy⟩ := hy
  have hnx := ha.len
  have hny := hb.len
  rw [hwx.hlen] at hnx
  rw [hwy.hlen] at hny
  have Hx := Lib.hid hwx
  have Hy := Lib.hid hwy
  have HNa := Lib.hid hna
  have HNb := Lib.hid hnb
  clear hwx hwy hna hnb
  have HB1 := Lib.hid hb
  have HA1 := Lib.hid ha
  clear ha hb
  obtain ⟨B, w0, hB, hw0, hb0, hb1, hb2, he0⟩ := three w 24 24 24 [.bool na, .slice ax nx cx] [.bool nb, .slice ay ny cy] [.bool false, .slice none 0 0]
  go_enter Tryz.func38, Tryz.ntmps38
  go_wp2_with fail
  rw [← hw0, ← hB]
  have c0 := hb0.cell (i := 0) rfl
  have c1 := hb0.cell (i := 1) rfl
  have d0 := hb1.cell (i := 0) rfl
  have d1 := hb1.cell (i := 1) rfl
  have HB := Lib.hid hB
  clear hw0 hB hb0 hb1
  have KH : Hid (∀ w', Below (B + 1 + 1) w0 w' → w'.cell? ⟨B, 0, none⟩ = some (.bool na) ∧ w'.cell? ⟨B, 1, none⟩ = some (.slice ax nx cx) ∧ w'.cell? ⟨B + 1, 0, none⟩ = some (.bool nb) ∧ w'.cell? ⟨B + 1, 1, none⟩ = some (.slice ay ny cy)) :=
    fun w' h => ⟨(h.cell (p := ⟨B, 0, none⟩) (by show B < B + 1 + 1; omega)).trans c0, (h.cell (p := ⟨B, 1, none⟩) (by show B < B + 1 + 1; omega)).trans c1, (h.cell (p := ⟨B + 1, 0, none⟩) (by show B + 1 < B + 1 + 1; omega)).trans d0, (h.cell (p := ⟨B + 1, 1, none⟩) (by show B + 1 < B + 1 + 1; omega)).trans d1⟩
  have hsz := hb2.lt
  go_quiet (fail)
  go_wp2_with fail
  generalize hwq : w0.drewN nq = wq
  have he0q : Ext w wq := by rw [← hwq]; exact he0.drewN nq
  have hb2q : Blk wq (B + 1 + 1) 24 [.bool false, .slice none 0 0] := by rw [← hwq]; exact hb2
  clear hwq he0 hb2 hsz KH c0 c1 d0 d1
  go_loopw [5, 6] (fun u v wr => ∃ p q : Int, 0 ≤ p ∧ 0 ≤ q ∧ Fits p 1073741824 ∧ Fits q 1073741824 ∧ Int.gcd p q = Int.gcd a b ∧ Ext wq wr ∧ (∃ ua un uc, u = .slice ua un uc ∧ Words wr ua un uc (digs p)) ∧ (∃ va vn vc, v = .slice va vn vc ∧ Words wr va vn vc (digs q))) (fun _ v wr => mval wr v)
  case atStart => exact ⟨(a.natAbs : Int), (b.natAbs : Int), by omega, by omega, fits_abs HA1.out, fits_abs HB1.out, by rw [Int.gcd_natCast_natCast]; rfl, Ext.refl _, ⟨_, _, _, rfl, Hx.out.ext he0q⟩, ⟨_, _, _, rfl, Hy.out.ext he0q⟩⟩
  case round =>
    obtain ⟨p, q, hp, hq, hpf, hqf, hg, he, ⟨ua, un, uc, rfl, hu⟩, ⟨va, vn, vc, rfl, hv⟩⟩ := hrel
    have HU := Lib.hid hu
    have HV := Lib.hid hv
    have HG := Lib.hid hg
    have HPF := Lib.hid hpf
    have HQF := Lib.hid hqf
    have hun : Hid (un ≤ 1073741824) := by
      rw [← hu.hlen]; exact digs_len_le hp (by unfold Fits at hpf; omega)
    clear hu hv hg hpf hqf
    by_cases h0 : q = 0
    · subst h0
      obtain rfl : vn = 0 := by have := HV.out.hlen; rw [digs_zero] at this; exact this.symm
      have hz : Hid (∀ b', b' = false → ((Int.gcd a b : Nat) : Int) = if b' = true then -(val (digs p)) else val (digs p)) := by
        rintro b' rfl
        rw [if_neg (by simp), val_digs hp, ← HG.out]
        obtain ⟨P, rfl⟩ := Int.eq_ofNat_of_zero_le hp
        show ((Nat.gcd P 0 : Nat) : Int) = P
        rw [Nat.gcd_zero_right]
      clear hp hq
      go_wp2_with fail
      refine (signed_any _ _ _ _ _ _ _ HU.out (by have := hun.out; omega) (hz.out _ rfl)).mono ?_
      rintro e w1 ⟨⟨sr, ar, nr, cr, rfl, hr⟩, he1⟩
      have hb2' := ((hb2q.ext he).ext he1)
      have e0 := hb2'.cell (i := 0) rfl
      have e1 := hb2'.cell (i := 1) rfl
      have f0 := hb2'.free 0
      have f1 := hb2'.free 1
      go_wp2_with fail
      refine bodyPost_ret (results_c rfl rfl (load_int (hb2'.set2 _ _))) rfl ?_
      exact ⟨⟨_, rfl, _, _, _, _, rfl, hr.1, hr.2.keep2 hb2' (by simp) (by simp) _ _⟩, (Ext.store' ((he0q.trans he).trans he1) HB (by omega) 0 _).store' HB (by omega) 1 _⟩
    · have hqp : 0 < q := by omega
      have hlen := digs_pos_len hqp
      rw [HV.out.hlen] at hlen
      obtain ⟨m, rfl⟩ : ∃ m, vn = m + 1 := ⟨vn - 1, by omega⟩
      have HQP := Lib.hid hqp
      have HP := Lib.hid hp
      clear hlen hqp hp hq h0
      go_wp2_with fail
      refine (ndiv_any ua va un uc (m + 1) vc p q _ HP.out HQP.out HU.out HV.out (by have := hun.out; omega)).mono ?_
      rintro e w1 ⟨⟨qa, qn, qc, ra, rn, rc, rfl, hqw, hrw⟩, he1⟩
      have HR := Lib.hid hrw
      clear hqw hrw
      have hms : Hid (mval w1 (.slice ra rn rc) < mval wr (.slice va (m + 1) vc)) := by
        have h1 := Int.emod_nonneg p (show q ≠ 0 by have := HQP.out; omega)
        have h2 := Int.emod_lt_of_pos p HQP.out
        show mval w1 (.slice ra rn rc) < mval wr (.slice va (m + 1) vc)
        rw [mval_eq HR.out, mval_eq HV.out, val_digs h1, val_digs (Int.le_of_lt HQP.out)]
        omega
      go_wp2_with fail
      go_roundw
      case rel => exact ⟨q, p % q, Int.le_of_lt HQP.out, Int.emod_nonneg p (by have := HQP.out; omega), HQF.out, Fits.mod HP.out HQP.out HPF.out, by rw [gcd_step HP.out (Int.le_of_lt HQP.out)]; exact HG.out, he.trans he1, ⟨_, _, _, rfl, HV.out.ext he1⟩, ⟨_, _, _, rfl, HR.out⟩⟩
      case measure => exact hms.out
end Go.Proofs.YtddcgojpgdhefaaGreatDoor
