/- The reference's Root: bit by bit: walked. Written by refroot.py. -/
import Derived.Test.YtddcgojpgdhefaaGreatDoorRefH
namespace Go.El
theorem sgn_dec_le {x y : Int} (h : x ≤ y) : decide (sgn x y ≤ 0) = true := by
  rcases sgn_cases x y with ⟨_, e⟩ | ⟨_, e⟩ | ⟨_, e⟩ <;> rw [e] <;> first | rfl | omega
theorem sgn_dec_gt {x y : Int} (h : y < x) : decide (sgn x y ≤ 0) = false := by
  rcases sgn_cases x y with ⟨_, e⟩ | ⟨_, e⟩ | ⟨_, e⟩ <;> rw [e] <;> first | rfl | omega
theorem pow2_fits {i K : Nat} (h : i < 32 * K) : Fits (2 ^ i) K := by
  unfold Fits
  rw [pw_pow, Int.natAbs_pow]
  exact Int.ofNat_lt.2 (Nat.pow_lt_pow_right (by decide) h)
theorem isRoot_one {a : Int} (h : 0 ≤ a) : IsRoot a 1 a := ⟨h, by rw [Int.pow_succ, Int.pow_zero]; omega, by rw [Int.pow_succ, Int.pow_zero]; omega⟩
theorem isRoot_zero {k : Nat} (h : 1 ≤ k) : IsRoot 0 k 0 := ⟨Int.le_refl _, by rw [Int.zero_pow (by omega)]; omega, by rw [show (0 : Int) + 1 = 1 from rfl, Int.one_pow]; omega⟩
theorem root_first {a : Int} {n k : Nat} (ha : a < 2 ^ n) (hk : 1 ≤ k) : a < ((0 : Int) + 2 ^ (n / k + 1)) ^ k := by
  rw [Int.zero_add, ← Int.pow_mul]
  have h1 : n ≤ (n / k + 1) * k := by
    have h2 := Nat.div_add_mod n k
    have h3 := Nat.mod_lt n (show 0 < k by omega)
    rw [Nat.add_mul, Nat.one_mul, Nat.mul_comm]
    omega
  have h2 : (2 : Int) ^ n ≤ 2 ^ ((n / k + 1) * k) := by
    have := Nat.pow_le_pow_right (show 0 < 2 by omega) h1
    exact_mod_cast this
  omega
end Go.El
namespace Go.Proofs.YtddcgojpgdhefaaGreatDoor
open Go.RowKit Go.El
set_option linter.unusedVariables false
theorem rcmp_is (x y : Value) (a b o : Int) (w : World) (hx : IntV w x a) (hy : IntV w y b) (h : sgn a b = o) :
    Calls Tryz.prog 41 #[x, y] w fun e w' => e = .returned (.int .i64 o) ∧ Ext w w' := by
  subst h; exact rcmp_any x y a b w hx hy
set_option maxRecDepth 100000 in
theorem rRoot_err (x : Value) (a k : Int) (w : World) (hx : IntV w x a) (hk : a < 0 ∨ k < 1) :
    Calls Tryz.prog 47 #[x, .int .i64 k] w fun e w' => e = .returned (.tuple #[.agg #[.bool false, .slice none 0 0], .int .i64 1]) ∧ Ext w w' := by
  obtain ⟨na, ax, nx, cx, rfl, hna, hwx⟩ := hx
  obtain ⟨B, w0, hB, hw0, hb0, hb1, he0⟩ := two w 24 24 [.bool na, .slice ax nx cx] [.bool false, .slice none 0 0]
  cases na with
  | true =>
    clear hna hwx hk
    go_enter Tryz.func47, Tryz.ntmps47
    go_wp2_with fail
    rw [← hw0, ← hB]
    exact bodyPost_ret (results_ct rfl rfl (intv_zero hb1)) rfl ⟨rfl, he0⟩
  | false =>
    have h0 := of_decide_eq_false hna.symm
    have h2 : k < 1 := by omega
    clear hna hwx hk h0
    go_enter Tryz.func47, Tryz.ntmps47
    go_wp2_with fail
    rw [← hw0, ← hB]
    exact bodyPost_ret (results_ct rfl rfl (intv_zero hb1)) rfl ⟨rfl, he0⟩
set_option maxRecDepth 100000 in
theorem rRoot_same (x : Value) (a : Int) (k : Nat) (w : World) (hx : IntV w x a) (h0 : 0 ≤ a) (hk : k = 1 ∨ (a = 0 ∧ 2 ≤ k)) :
    Calls Tryz.prog 47 #[x, .int .i64 k] w fun e w' => (∃ v r, e = .returned (.tuple #[v, .int .i64 0]) ∧ IntV w' v r ∧ IsRoot a k r) ∧ Ext w w' := by
  obtain ⟨na, ax, nx, cx, rfl, hna, hwx⟩ := hx
  obtain rfl : na = false := by rw [hna]; simp [h0]
  have hroot : IsRoot a k a := by
    rcases hk with rfl | ⟨rfl, h2⟩
    · exact isRoot_one h0
    · exact isRoot_zero (by omega)
  have hn0 : k = 1 ∨ (nx = 0 ∧ 2 ≤ k) := by
    rcases hk with h | ⟨rfl, h2⟩
    · exact Or.inl h
    · refine Or.inr ⟨?_, h2⟩
      have := hwx.hlen
      rw [Int.natAbs_zero, show ((0 : Nat) : Int) = 0 from rfl, digs_zero] at this; exact this.symm
  have HI := Lib.hid (show IntW w false ax nx cx a from ⟨hna, hwx⟩)
  have HR := Lib.hid hroot
  obtain ⟨B, w0, hB, hw0, hb0, hb1, he0⟩ := two w 24 24 [.bool false, .slice ax nx cx] [.bool false, .slice none 0 0]
  have HB := Lib.hid hB
  have c0 := hb0.cell (i := 0) rfl
  have c1 := hb0.cell (i := 1) rfl
  have d0 := hb1.cell (i := 0) rfl
  have d1 := hb1.cell (i := 1) rfl
  have f0 := hb1.free 0
  have f1 := hb1.free 1
  have hq0 := hw0.symm
  have hp0 := hB.symm
  have hi := HI.out.ext he0
  have HI0 := Lib.hid hi
  clear hna hwx h0 hroot hk hw0 hB hb0 hi
  rcases hn0 with rfl | ⟨rfl, h2⟩
  · go_enter Tryz.func47, Tryz.ntmps47
    go_wp2_with fail
    refine bodyPost_ret (results_ct rfl rfl (load_int (hb1.set2 _ _))) rfl ?_
    exact ⟨⟨_, a, rfl, ⟨_, _, _, _, rfl, HI0.out.1, HI0.out.2.keep2 hb1 (by simp) (by simp) _ _⟩, HR.out⟩, (he0.store' HB (by omega) 0 _).store' HB (by omega) 1 _⟩
  · have h3 : ((k : Int) == 1) = false := by simp; omega
    go_enter Tryz.func47, Tryz.ntmps47
    go_wp2_with fail
    refine bodyPost_ret (results_ct rfl rfl (load_int (hb1.set2 _ _))) rfl ?_
    exact ⟨⟨_, a, rfl, ⟨_, _, _, _, rfl, HI0.out.1, HI0.out.2.keep2 hb1 (by simp) (by simp) _ _⟩, HR.out⟩, (he0.store' HB (by omega) 0 _).store' HB (by omega) 1 _⟩
set_option maxRecDepth 100000 in
theorem rRoot_big (x : Value) (a : Int) (k : Nat) (w : World) (hx : IntV w x a) (ha : Fits a 1000) (h0 : 0 < a) (hk : 2 ≤ k) (hbig : blen a.natAbs ≤ k) :
    Calls Tryz.prog 47 #[x, .int .i64 k] w fun e w' => (∃ v r, e = .returned (.tuple #[v, .int .i64 0]) ∧ IntV w' v r ∧ IsRoot a k r) ∧ Ext w w' := by
  have HX := Lib.hid hx
  obtain ⟨na, ax, nx, cx, rfl, hna, hwx⟩ := hx
  obtain rfl : na = false := by rw [hna]; simp; omega
  have HR : Hid (IsRoot a k 1) := by
    have := isRoot_big (a := a) (b := blen a.natAbs) (k := k) (by omega) (by have := blen_lt a.natAbs; rwa [show a.natAbs = a.toNat by omega] at this ⊢) (by omega) hbig
    rwa [sgn_gt h0] at this
  have hn0 : ((nx : Int) == 0) = false := by
    have h1 := digs_pos_len (show 0 < (a.natAbs : Int) by omega)
    rw [hwx.hlen] at h1
    simp; omega
  have hk1 : ((k : Int) == 1) = false := by simp; omega
  have hk3 : decide ((k : Int) < 1) = false := by simp; omega
  have HA := Lib.hid ha
  obtain ⟨bl, hbl⟩ : ∃ bl, bl = blen a.natAbs := ⟨_, rfl⟩
  rw [← hbl] at hbig
  have hkb : decide ((bl : Int) ≤ (k : Int)) = true := by simp; omega
  have HBl := Lib.hid hbl
  obtain ⟨B, w0, hB, hw0, hb0, hb1, he0⟩ := two w 24 24 [.bool false, .slice ax nx cx] [.bool false, .slice none 0 0]
  have HB := Lib.hid hB
  have c0 := hb0.cell (i := 0) rfl
  have c1 := hb0.cell (i := 1) rfl
  have hq0 := hw0.symm
  have hp0 := hB.symm
  clear hna hwx h0 ha hbl hw0 hB hb0
  go_enter Tryz.func47, Tryz.ntmps47
  go_wp2_with fail
  clear hq0 hp0 c0 c1
  refine (rbits_any _ a _ (HX.out.ext he0) (HA.out.mono (by omega))).mono ?_
  rintro e w1 ⟨rfl, he1⟩
  rw [← HBl.out]
  go_wp2_with fail
  refine (rof_any 1 _ (by omega) (by omega)).mono ?_
  rintro e w2 ⟨⟨v, rfl, sr, ar, nr, cr, rfl, hr⟩, he2⟩
  have hb2' := ((hb1.ext he1).ext he2)
  have e0 := hb2'.cell (i := 0) rfl
  have e1 := hb2'.cell (i := 1) rfl
  have f0 := hb2'.free 0
  have f1 := hb2'.free 1
  go_wp2_with fail
  refine bodyPost_ret (results_ct rfl rfl (load_int (hb2'.set2 _ _))) rfl ?_
  exact ⟨⟨_, 1, rfl, ⟨_, _, _, _, rfl, hr.1, hr.2.keep2 hb2' (by simp) (by simp) _ _⟩, HR.out⟩, (((he0.trans he1).trans he2).store' HB (by omega) 0 _).store' HB (by omega) 1 _⟩
/-- What holds at the head of the loop: the bits below j are still to come. -/
def RootI (a : Int) (k : Nat) (o : Int) (j : Nat) : Prop := 0 ≤ o ∧ o ^ k ≤ a ∧ a < (o + 2 ^ j) ^ k
theorem RootI.up {a o : Int} {k i : Nat} (h : RootI a k o (i + 1)) (hle : (o + 2 ^ i) ^ k ≤ a) : RootI a k (o + 2 ^ i) i := by
  have hp : (0 : Int) < 2 ^ i := Int.pow_pos (by omega)
  refine ⟨by have := h.1; omega, hle, ?_⟩
  have := h.2.2
  rwa [Int.pow_succ, show o + 2 ^ i * 2 = o + 2 ^ i + 2 ^ i by omega] at this
theorem RootI.down {a o : Int} {k i : Nat} (h : RootI a k o (i + 1)) (hle : a < (o + 2 ^ i) ^ k) : RootI a k o i := ⟨h.1, h.2.1, hle⟩
structure RootF (w3 : World) (so : Bool) (ao : Option Addr) (no : Nat) (co : Nat) (i : Nat) (z1 : Int) (z3 : Int) (z4 : Int) (L : Nat → Bool) (y : Nat → Value) (w : World) : Prop where
  e : Ext w3 w
  f0 : L 0 = true → y 40 = .agg #[.bool so, .slice ao no co]
  f1 : L 1 = true → IntV w (y 41) z1
  f2 : L 2 = true → y 42 = .int .i64 i
  f3 : L 3 = true → IntV w (y 43) z3
  f4 : L 4 = true → IntV w (y 44) z4
  f5 : L 5 = true → RoomI w (y 9) w3.heap.size
  f6 : L 6 = true → AtI w (y 9) w3.heap.size z4
  c6 : L 6 = true → L 5 = true
theorem RootF.ext {w3 : World} {so : Bool} {ao : Option Addr} {no : Nat} {co : Nat} {i : Nat} {z1 : Int} {z3 : Int} {z4 : Int} {L : Nat → Bool} {y : Nat → Value} {w w1 : World} (h : RootF w3 so ao no co i z1 z3 z4 L y w) (he : Ext w w1) : RootF w3 so ao no co i z1 z3 z4 L y w1 :=
  ⟨h.e.trans he, h.f0, fun k => (h.f1 k).ext he, h.f2, fun k => (h.f3 k).ext he, fun k => (h.f4 k).ext he, fun k => (h.f5 k).ext he, fun k => (h.f6 k).ext he, h.c6⟩
set_option maxRecDepth 100000 in
set_option maxHeartbeats 8000000 in
theorem rRoot_loop (x : Value) (a : Int) (k : Nat) (w : World) (hx : IntV w x a) (ha : Fits a 12) (h0 : 0 < a) (hk : 2 ≤ k) (hbig : k < blen a.natAbs) :
    Calls Tryz.prog 47 #[x, .int .i64 k] w fun e w' => (∃ v r, e = .returned (.tuple #[v, .int .i64 0]) ∧ IntV w' v r ∧ IsRoot a k r) ∧ Ext w w' := by
  have HX := Lib.hid hx
  obtain ⟨na, ax, nx, cx, rfl, hna, hwx⟩ := hx
  obtain rfl : na = false := by rw [hna]; simp; omega
  have hn0 : ((nx : Int) == 0) = false := by
    have h1 := digs_pos_len (show 0 < (a.natAbs : Int) by omega)
    rw [hwx.hlen] at h1
    simp; omega
  have hk1 : ((k : Int) == 1) = false := by simp; omega
  have hk3 : decide ((k : Int) < 1) = false := by simp; omega
  have HFa := Lib.hid ha
  have HA0 := Lib.hid h0
  obtain ⟨bl, hbl⟩ : ∃ bl, bl = blen a.natAbs := ⟨_, rfl⟩
  rw [← hbl] at hbig
  have hbl2 : bl ≤ 384 := by rw [hbl]; exact Nat.le_trans (fits_blen ha) (by omega)
  have hkb : decide ((bl : Int) ≤ (k : Int)) = false := by simp; omega
  have hkb2 : decide (bl ≤ k) = false := by simp; omega
  have hkb3 : k < bl := hbig
  have HBl := Lib.hid hbl
  have HI0 : Hid (RootI a k 0 (bl / k + 1)) := by
    refine ⟨Int.le_refl _, by rw [Int.zero_pow (by omega)]; omega, root_first ?_ (by omega)⟩
    have h1 := blen_lt a.natAbs
    rw [← hbl] at h1
    have h2 : ((a.natAbs : Nat) : Int) < ((2 ^ bl : Nat) : Int) := Int.ofNat_lt.2 h1
    rw [Int.natCast_pow] at h2
    have h3 : ((a.natAbs : Nat) : Int) = a := by omega
    rw [h3] at h2
    exact h2
  obtain ⟨q, hq, hq2, HQ⟩ : ∃ q : Nat, (bl : Int) / (k : Int) = q ∧ q ≤ 384 ∧ Hid (q = bl / k) := ⟨bl / k, by omega, Nat.le_trans (Nat.div_le_self _ _) hbl2, rfl⟩
  have hqt : (bl : Int).tdiv (k : Int) = q := by rw [Int.tdiv_eq_ediv_of_nonneg (by omega)]; exact hq
  obtain ⟨B, w0, hB, hw0, hb0, hb1, he0⟩ := two w 24 24 [.bool false, .slice ax nx cx] [.bool false, .slice none 0 0]
  have HB := Lib.hid hB
  have c0 := hb0.cell (i := 0) rfl
  have c1 := hb0.cell (i := 1) rfl
  have hq0 := hw0.symm
  have hp0 := hB.symm
  have HBR := Lib.hid hb1
  have HBA := Lib.hid hb0
  clear hna hwx h0 ha hbl hw0 hB hb0 hb1
  go_enter Tryz.func47, Tryz.ntmps47
  go_wp2_with fail
  clear hq0 hp0 c0 c1
  refine (rbits_any _ a _ (HX.out.ext he0) (HFa.out.mono (by omega))).mono ?_
  rintro e w1 ⟨rfl, he1⟩
  rw [← HBl.out]
  have HA : Hid (IntV w1 (.agg #[.bool false, .slice ax nx cx]) a) := HX.out.ext (he0.trans he1)
  have KB2 : Hid (∀ W, Ext w1 W → W.cell? ⟨B, 0, none⟩ = some (.bool false) ∧ W.cell? ⟨B, 1, none⟩ = some (.slice ax nx cx)) := Lib.hid fun W h => ⟨h.cell ((HBA.out.ext he1).cell (i := 0) rfl), h.cell ((HBA.out.ext he1).cell (i := 1) rfl)⟩
  have HR1 := Lib.hid (HBR.out.ext he1)
  have hE1 := he0.trans he1
  obtain ⟨P, wp, hP, hwp, hbP, hep⟩ := one w1 24 [.bool false, .slice none 0 0]
  have ze0 := setCell_same hbP (i := 0) rfl
  have zf0 := hbP.free 0
  have ze1 := setCell_same hbP (i := 1) rfl
  have zf1 := hbP.free 1
  have hq0 := hwp.symm
  have hp0 := hP.symm
  have HP1 : Hid (w1.heap.size ≤ P) := Nat.le_of_eq hP.symm
  have hz0 := hbP.cell (i := 0) rfl
  have hz1 := hbP.cell (i := 1) rfl
  have HBP := Lib.hid hbP
  have HF2 : Hid (Fits 2 1) := by show Fits 2 1; unfold Fits; rw [pw_one]; decide
  clear hwp hP hbP he0 he1 HBA HBR hbig
  go_wp2_with fail
  clear ze0 zf0 ze1 zf1 hq0 hp0 hz0 hz1
  go_loopw [8] (fun u wr => ∃ (j : Nat) (o : Int) (so : Bool) (ao : Option Addr) (no co : Nat), u = .int .i64 ((j : Int) - 1) ∧ Blk wr P 24 [.bool so, .slice ao no co] ∧ IntW wr so ao no co o ∧ RootI a k o j ∧ j ≤ 385 ∧ Ext w1 wr) (fun u _ => (intOf u + 1).toNat)
  case atStart => exact ⟨q + 1, 0, _, _, _, _, by go_num, HBP.out, intW_zero _, by rw [HQ.out]; exact HI0.out, by omega, hep⟩
  case round =>
    obtain ⟨j, o, so, ao, no, co, rfl, hbP, hio, hri, hj, hx⟩ := hrel
    have hbP0 := Lib.hid hbP
    have HIo := Lib.hid hio
    have HRi := Lib.hid hri
    have hio := HIo
    have HO : Hid (IntV wr (.agg #[.bool so, .slice ao no co]) o) := ⟨_, _, _, _, rfl, HIo.out⟩
    have HFo : Hid (Fits o 12) := by
      refine fits_le HFa.out ?_
      have h1 := HRi.out.1
      have h2 := HRi.out.2.1
      have h3 : o ≤ a := by
        by_cases hz : o = 0
        · have := HA0.out; omega
        · obtain ⟨m, hm⟩ : ∃ m, k = m + 1 := ⟨k - 1, by omega⟩
          rw [hm, Int.pow_succ] at h2
          have h4 : 0 < o ^ m := Int.pow_pos (by omega)
          have h5 : 1 * o ≤ o ^ m * o := Int.mul_le_mul_of_nonneg_right (by omega) h1
          omega
      have := HA0.out
      omega
    clear hri
    rcases Nat.eq_zero_or_pos j with rfl | hjp
    · have HRoot : Hid (IsRoot a k o) := ⟨HRi.out.1, HRi.out.2.1, by have := HRi.out.2.2; rwa [Int.pow_zero] at this⟩
      have d0 := hbP.cell (i := 0) rfl
      have d1 := hbP.cell (i := 1) rfl
      have hR2 := HR1.out.ext hx
      have ec0 := hR2.cell (i := 0) rfl
      have ec1 := hR2.cell (i := 1) rfl
      have ef0 := hR2.free 0
      have ef1 := hR2.free 1
      clear hbP
      go_wp2_with fail
      refine bodyPost_ret (results_ct rfl rfl (load_int (hR2.set2 _ _))) rfl ?_
      exact ⟨⟨_, o, rfl, ⟨_, _, _, _, rfl, HIo.out.1, HIo.out.2.keep2 hR2 (by simp) (by simp) _ _⟩, HRoot.out⟩, ((hE1.trans hx).store' HB (by omega) 0 _).store' HB (by omega) 1 _⟩
    · obtain ⟨i, hi, HJ⟩ : ∃ i : Nat, (j : Int) - 1 = i ∧ Hid (j = i + 1) := ⟨j - 1, by omega, show j = j - 1 + 1 by omega⟩
      have hi2 : i ≤ 384 := by have := HJ.out; omega
      have HR : Hid (RootI a k o (i + 1)) := by have := HRi.out; rwa [HJ.out] at this
      rw [hi]
      clear hi hj hjp HJ HRi
      have HFp : Hid (Fits (2 ^ i) 13) := pow2_fits (by omega)
      have HFn : Hid (Fits (o + 2 ^ i) 14) := (HFo.out.mono (by omega)).add HFp.out
      by_cases hle : (o + 2 ^ i) ^ k ≤ a
      · have HLE := Lib.hid hle
        have KB7 : Hid (∀ W, Ext wr W → W.cell? ⟨P, 0, none⟩ = some (.bool so) ∧ W.cell? ⟨P, 1, none⟩ = some (.slice ao no co)) := Lib.hid fun W h => ⟨h.cell (hbP.cell (i := 0) rfl), h.cell (hbP.cell (i := 1) rfl)⟩
        go_wp2_with fail
        refine wp_region_facts [40, 41, 42, 43, 44, 9] (RootF wr so ao no co i (2) (2 ^ i) (o + 2 ^ i)) (by kernel_rfl) (by kernel_rfl) ?_ ?_ ?_
        · intro y
          exact ⟨(Ext.refl _).drew, by simp, by simp, by simp, by simp, by simp, by simp, by simp, by simp⟩
        · intro Q
          refine AllF.cons rfl ?_ ?_
          · skip
            with_reducible refine StepF.dst (d := 40) (by kernel_rfl) (by kernel_rfl) ?_
            intro L y w hi hp h K hK
            simp only [putAll, List.foldl, Act.put, List.setIfInBounds_toArray, List.set_cons_zero, List.set_cons_succ] at hK ⊢
            have HK := Lib.hid hK
            clear hK
            obtain ⟨cc0, cc1⟩ := KB7.out w ((Ext.refl _).trans h.out.e)
            go_simp
            refine HK.out _ _ ?_
            have k := h.out
            exact ⟨k.e, fun _ => upd_eq, k.f1, k.f2, k.f3, k.f4, k.f5, k.f6, k.c6⟩
          refine AllF.cons rfl ?_ ?_
          · skip
            with_reducible refine StepF.dst (d := 41) (by kernel_rfl) (by kernel_rfl) ?_
            intro L y w hi hp h K hK
            simp only [putAll, List.foldl, Act.put, List.setIfInBounds_toArray, List.set_cons_zero, List.set_cons_succ] at hK ⊢
            have HK := Lib.hid hK
            clear hK
            go_simp
            refine (rof_any 2 _ (by omega) (by omega)).mono ?_
            rintro e w4 ⟨⟨v, rfl, hr⟩, he4⟩
            go_simp
            refine HK.out _ _ ?_
            have k := h.out.ext he4
            exact ⟨k.e, k.f0, fun _ => by rw [upd_eq]; exact hr, k.f2, k.f3, k.f4, k.f5, k.f6, k.c6⟩
          refine AllF.cons rfl ?_ ?_
          · skip
            with_reducible refine StepF.dst (d := 42) (by kernel_rfl) (by kernel_rfl) ?_
            intro L y w hi hp h K hK
            simp only [putAll, List.foldl, Act.put, List.setIfInBounds_toArray, List.set_cons_zero, List.set_cons_succ] at hK ⊢
            have HK := Lib.hid hK
            clear hK
            go_simp
            refine HK.out _ _ ?_
            have k := h.out
            exact ⟨k.e, k.f0, k.f1, fun _ => upd_eq, k.f3, k.f4, k.f5, k.f6, k.c6⟩
          refine AllF.cons rfl ?_ ?_
          · skip
            with_reducible refine StepF.dst (d := 43) (by kernel_rfl) (by kernel_rfl) ?_
            intro L y w hi hp h K hK
            simp only [putAll, List.foldl, Act.put, List.setIfInBounds_toArray, List.set_cons_zero, List.set_cons_succ] at hK ⊢
            have HK := Lib.hid hK
            clear hK
            have g2 := h.out.f2 (hp.out 2 (by kernel_rfl))
            simp only [g2] at HK
            have g1 := h.out.f1 (hp.out 1 (by kernel_rfl))
            have G1 := Lib.hid g1
            clear g1
            go_simp
            refine (rpower_any 2 1 i HF2.out (by omega) (by omega) i i (Nat.le_refl _) (Nat.le_refl _) _ _ G1.out).mono ?_
            rintro e w4 ⟨⟨v, rfl, hr⟩, he4⟩
            clear g2
            go_simp
            refine HK.out _ _ ?_
            have k := h.out.ext he4
            exact ⟨k.e, k.f0, k.f1, k.f2, fun _ => by rw [upd_eq]; exact hr, k.f4, k.f5, k.f6, k.c6⟩
          refine AllF.cons rfl ?_ ?_
          · skip
            with_reducible refine StepF.dst (d := 44) (by kernel_rfl) (by kernel_rfl) ?_
            intro L y w hi hp h K hK
            simp only [putAll, List.foldl, Act.put, List.setIfInBounds_toArray, List.set_cons_zero, List.set_cons_succ] at hK ⊢
            have HK := Lib.hid hK
            clear hK
            have g0 := h.out.f0 (hp.out 0 (by kernel_rfl))
            simp only [g0] at HK
            have g3 := h.out.f3 (hp.out 3 (by kernel_rfl))
            have G3 := Lib.hid g3
            clear g3
            go_simp
            refine (radd_any _ _ o (2 ^ i) _ (HO.out.ext h.out.e) G3.out (HFo.out.mono (by omega)) (HFp.out.mono (by omega))).mono ?_
            rintro e w4 ⟨⟨v, rfl, hr⟩, he4⟩
            clear g0
            go_simp
            refine HK.out _ _ ?_
            have k := h.out.ext he4
            exact ⟨k.e, k.f0, k.f1, k.f2, k.f3, fun _ => by rw [upd_eq]; exact hr, k.f5, k.f6, k.c6⟩
          refine AllF.cons rfl ?_ ?_
          · skip
            with_reducible refine StepF.dst (d := 9) (by kernel_rfl) (by kernel_rfl) ?_
            intro L y w hi hp h K hK
            simp only [putAll, List.foldl, Act.put, List.setIfInBounds_toArray, List.set_cons_zero, List.set_cons_succ] at hK ⊢
            have HK := Lib.hid hK
            clear hK
            go_simp
            refine HK.out _ _ ?_
            have k := h.out.ext ((Ext.refl w).alloc (.cells #[.bool false, .slice none 0 0] 24))
            exact ⟨k.e, k.f0, k.f1, k.f2, k.f3, k.f4, fun _ => by rw [upd_eq]; exact roomI_new h.out.e, fun q => absurd (h.out.c6 q) (by rw [hi.out]; simp), fun _ => rfl⟩
          refine AllF.cons rfl ?_ ?_
          · skip
            with_reducible refine StepF.none ?_
            intro L y w hi hp h K hK
            simp only [putAll, List.foldl, Act.put, List.setIfInBounds_toArray, List.set_cons_zero, List.set_cons_succ] at hK ⊢
            have HK := Lib.hid hK
            clear hK
            obtain ⟨s8, a8, n8, c8, g8, h8⟩ := h.out.f4 (hp.out 4 (by kernel_rfl))
            have H8 := Lib.hid h8
            clear h8
            obtain ⟨P, s6, a6, n6, c6, g6, hb6, hm6⟩ := h.out.f5 (hp.out 5 (by kernel_rfl))
            simp only [g8, g6] at HK
            have HB6 := Lib.hid hb6
            have cc0 := hb6.cell (i := 0) rfl
            have cc1 := hb6.cell (i := 1) rfl
            have ff0 := hb6.free 0
            have ff1 := hb6.free 1
            clear hb6
            go_simp
            refine HK.out _ ?_
            have k := h.out
            have hs := stay_st2 HB6.out (.bool s8) (.slice a8 n8 c8)
            exact ⟨ext_st2 k.e hm6 _ _, k.f0, fun z => (k.f1 z).stay hs, k.f2, fun z => (k.f3 z).stay hs, fun z => (k.f4 z).stay hs, fun _ => ⟨_, _, _, _, _, g6, Blk.st2 HB6.out _ _, hm6⟩, fun _ => ⟨_, _, _, _, _, g6, Blk.st2 HB6.out _ _, hm6, IntW.stay H8.out hs⟩, fun _ => hp.out 5 (by kernel_rfl)⟩
          exact trivial
        · intro L y wE1 hL h
          have xE1 := h.e
          obtain ⟨U1_6, s1_6, a1_6, n1_6, c1_6, ey1_6, hb1_6, hm1_6, hu1_6⟩ := h.f6 (hL 6 (by decide))
          have HV1_6 : Hid (IntV wE1 (.agg #[.bool s1_6, .slice a1_6 n1_6 c1_6]) (o + 2 ^ i)) := Lib.hid ⟨_, _, _, _, rfl, hu1_6⟩
          simp only [putAll, List.foldl, Act.put, List.setIfInBounds_toArray, List.set_cons_zero, List.set_cons_succ]
          simp only [ey1_6]
          clear hL h ey1_6 hu1_6 hm1_6
          have KB9 : Hid (∀ W, Ext wE1 W → W.cell? ⟨U1_6, 0, none⟩ = some (.bool s1_6) ∧ W.cell? ⟨U1_6, 1, none⟩ = some (.slice a1_6 n1_6 c1_6)) := Lib.hid fun W h => ⟨h.cell (hb1_6.cell (i := 0) rfl), h.cell (hb1_6.cell (i := 1) rfl)⟩
          clear hb1_6
          obtain ⟨s, hs⟩ : ∃ s, s = sgn ((o + 2 ^ i) ^ k) a := ⟨_, rfl⟩
          have hsd : decide (s ≤ 0) = true := by rw [hs]; exact sgn_dec_le HLE.out
          clear hle
          have HS := Lib.hid hs.symm
          clear hs
          have KX2 : Hid (∀ w', Ext wE1 w' → w'.cell? ⟨U1_6, 0, none⟩ = some (.bool s1_6) ∧ w'.cell? ⟨U1_6, 1, none⟩ = some (.slice a1_6 n1_6 c1_6) ∧ w'.cell? ⟨B, 0, none⟩ = some (.bool false) ∧ w'.cell? ⟨B, 1, none⟩ = some (.slice ax nx cx)) := Lib.hid fun w' h => by
            have q9 := KB9.out w' ((Ext.refl _).trans h)
            have q2 := KB2.out w' ((hx.trans xE1).trans h)
            exact ⟨q9.1, q9.2, q2.1, q2.2⟩
          go_wp2_with fail
          have hz2 := Below.drewExt wE1
          go_region_held3
            (fun w' => w'.cell? ⟨U1_6, 0, none⟩ = some (.bool s1_6) ∧ w'.cell? ⟨U1_6, 1, none⟩ = some (.slice a1_6 n1_6 c1_6) ∧ w'.cell? ⟨B, 0, none⟩ = some (.bool false) ∧ w'.cell? ⟨B, 1, none⟩ = some (.slice ax nx cx))
            (with_reducible exact KX2.out _ (by assumption))
            (first
            | (go_at_call 84; (with_reducible refine (rpower_any (o + 2 ^ i) 14 k HFn.out (by omega) (by omega) k k (Nat.le_refl _) (Nat.le_refl _) _ _ (HV1_6.out.ext hz2)).mono ?_); rintro e w3 ⟨⟨v3_0, rfl, hv3_0⟩, x3⟩; have hz3 := hz2.trans x3)
            | (go_at_call 41; (with_reducible refine (rcmp_is _ _ ((o + 2 ^ i) ^ k) a s _ hv3_0 (HA.out.ext (((hx.trans xE1).trans hz2).trans x3)) HS.out).mono ?_); rintro e w4 ⟨rfl, x4⟩; have hz4 := hz3.trans x4)
            )
          clear KX2
          have hbP2 := hbP0.out.ext (((xE1.trans hz2).trans x3).trans x4)
          have d0 := hbP2.cell (i := 0) rfl
          have d1 := hbP2.cell (i := 1) rfl
          have f0 := hbP2.free 0
          have f1 := hbP2.free 1
          have hi2 := (intV_W2 (HV1_6.out.ext ((hz2.trans x3).trans x4)))
          have HI2 := Lib.hid hi2
          clear hi2
          obtain ⟨cc9_0_5, cc9_1_5⟩ := KB9.out w4 ((hz2.trans x3).trans x4)
          go_wp2_with fail
          clear cc9_0_5 cc9_1_5 d0 d1 f0 f1
          go_roundw
          case rel => exact ⟨i, o + 2 ^ i, _, _, _, _, by go_num, hbP2.set2 _ _, ⟨HI2.out.1, HI2.out.2.keep2 hbP2 (by simp) (by simp) _ _⟩, RootI.up HR.out HLE.out, by omega, ((hx.trans (((xE1.trans hz2).trans x3).trans x4)).setCell (p := ⟨P, 0, none⟩) HP1.out _).setCell (p := ⟨P, 1, none⟩) HP1.out _⟩
          case measure => simp [intOf]
      · have HLE : Hid (a < (o + 2 ^ i) ^ k) := Lib.hid (by omega)
        have KB7 : Hid (∀ W, Ext wr W → W.cell? ⟨P, 0, none⟩ = some (.bool so) ∧ W.cell? ⟨P, 1, none⟩ = some (.slice ao no co)) := Lib.hid fun W h => ⟨h.cell (hbP.cell (i := 0) rfl), h.cell (hbP.cell (i := 1) rfl)⟩
        go_wp2_with fail
        refine wp_region_facts [40, 41, 42, 43, 44, 9] (RootF wr so ao no co i (2) (2 ^ i) (o + 2 ^ i)) (by kernel_rfl) (by kernel_rfl) ?_ ?_ ?_
        · intro y
          exact ⟨(Ext.refl _).drew, by simp, by simp, by simp, by simp, by simp, by simp, by simp, by simp⟩
        · intro Q
          refine AllF.cons rfl ?_ ?_
          · skip
            with_reducible refine StepF.dst (d := 40) (by kernel_rfl) (by kernel_rfl) ?_
            intro L y w hi hp h K hK
            simp only [putAll, List.foldl, Act.put, List.setIfInBounds_toArray, List.set_cons_zero, List.set_cons_succ] at hK ⊢
            have HK := Lib.hid hK
            clear hK
            obtain ⟨cc0, cc1⟩ := KB7.out w ((Ext.refl _).trans h.out.e)
            go_simp
            refine HK.out _ _ ?_
            have k := h.out
            exact ⟨k.e, fun _ => upd_eq, k.f1, k.f2, k.f3, k.f4, k.f5, k.f6, k.c6⟩
          refine AllF.cons rfl ?_ ?_
          · skip
            with_reducible refine StepF.dst (d := 41) (by kernel_rfl) (by kernel_rfl) ?_
            intro L y w hi hp h K hK
            simp only [putAll, List.foldl, Act.put, List.setIfInBounds_toArray, List.set_cons_zero, List.set_cons_succ] at hK ⊢
            have HK := Lib.hid hK
            clear hK
            go_simp
            refine (rof_any 2 _ (by omega) (by omega)).mono ?_
            rintro e w4 ⟨⟨v, rfl, hr⟩, he4⟩
            go_simp
            refine HK.out _ _ ?_
            have k := h.out.ext he4
            exact ⟨k.e, k.f0, fun _ => by rw [upd_eq]; exact hr, k.f2, k.f3, k.f4, k.f5, k.f6, k.c6⟩
          refine AllF.cons rfl ?_ ?_
          · skip
            with_reducible refine StepF.dst (d := 42) (by kernel_rfl) (by kernel_rfl) ?_
            intro L y w hi hp h K hK
            simp only [putAll, List.foldl, Act.put, List.setIfInBounds_toArray, List.set_cons_zero, List.set_cons_succ] at hK ⊢
            have HK := Lib.hid hK
            clear hK
            go_simp
            refine HK.out _ _ ?_
            have k := h.out
            exact ⟨k.e, k.f0, k.f1, fun _ => upd_eq, k.f3, k.f4, k.f5, k.f6, k.c6⟩
          refine AllF.cons rfl ?_ ?_
          · skip
            with_reducible refine StepF.dst (d := 43) (by kernel_rfl) (by kernel_rfl) ?_
            intro L y w hi hp h K hK
            simp only [putAll, List.foldl, Act.put, List.setIfInBounds_toArray, List.set_cons_zero, List.set_cons_succ] at hK ⊢
            have HK := Lib.hid hK
            clear hK
            have g2 := h.out.f2 (hp.out 2 (by kernel_rfl))
            simp only [g2] at HK
            have g1 := h.out.f1 (hp.out 1 (by kernel_rfl))
            have G1 := Lib.hid g1
            clear g1
            go_simp
            refine (rpower_any 2 1 i HF2.out (by omega) (by omega) i i (Nat.le_refl _) (Nat.le_refl _) _ _ G1.out).mono ?_
            rintro e w4 ⟨⟨v, rfl, hr⟩, he4⟩
            clear g2
            go_simp
            refine HK.out _ _ ?_
            have k := h.out.ext he4
            exact ⟨k.e, k.f0, k.f1, k.f2, fun _ => by rw [upd_eq]; exact hr, k.f4, k.f5, k.f6, k.c6⟩
          refine AllF.cons rfl ?_ ?_
          · skip
            with_reducible refine StepF.dst (d := 44) (by kernel_rfl) (by kernel_rfl) ?_
            intro L y w hi hp h K hK
            simp only [putAll, List.foldl, Act.put, List.setIfInBounds_toArray, List.set_cons_zero, List.set_cons_succ] at hK ⊢
            have HK := Lib.hid hK
            clear hK
            have g0 := h.out.f0 (hp.out 0 (by kernel_rfl))
            simp only [g0] at HK
            have g3 := h.out.f3 (hp.out 3 (by kernel_rfl))
            have G3 := Lib.hid g3
            clear g3
            go_simp
            refine (radd_any _ _ o (2 ^ i) _ (HO.out.ext h.out.e) G3.out (HFo.out.mono (by omega)) (HFp.out.mono (by omega))).mono ?_
            rintro e w4 ⟨⟨v, rfl, hr⟩, he4⟩
            clear g0
            go_simp
            refine HK.out _ _ ?_
            have k := h.out.ext he4
            exact ⟨k.e, k.f0, k.f1, k.f2, k.f3, fun _ => by rw [upd_eq]; exact hr, k.f5, k.f6, k.c6⟩
          refine AllF.cons rfl ?_ ?_
          · skip
            with_reducible refine StepF.dst (d := 9) (by kernel_rfl) (by kernel_rfl) ?_
            intro L y w hi hp h K hK
            simp only [putAll, List.foldl, Act.put, List.setIfInBounds_toArray, List.set_cons_zero, List.set_cons_succ] at hK ⊢
            have HK := Lib.hid hK
            clear hK
            go_simp
            refine HK.out _ _ ?_
            have k := h.out.ext ((Ext.refl w).alloc (.cells #[.bool false, .slice none 0 0] 24))
            exact ⟨k.e, k.f0, k.f1, k.f2, k.f3, k.f4, fun _ => by rw [upd_eq]; exact roomI_new h.out.e, fun q => absurd (h.out.c6 q) (by rw [hi.out]; simp), fun _ => rfl⟩
          refine AllF.cons rfl ?_ ?_
          · skip
            with_reducible refine StepF.none ?_
            intro L y w hi hp h K hK
            simp only [putAll, List.foldl, Act.put, List.setIfInBounds_toArray, List.set_cons_zero, List.set_cons_succ] at hK ⊢
            have HK := Lib.hid hK
            clear hK
            obtain ⟨s8, a8, n8, c8, g8, h8⟩ := h.out.f4 (hp.out 4 (by kernel_rfl))
            have H8 := Lib.hid h8
            clear h8
            obtain ⟨P, s6, a6, n6, c6, g6, hb6, hm6⟩ := h.out.f5 (hp.out 5 (by kernel_rfl))
            simp only [g8, g6] at HK
            have HB6 := Lib.hid hb6
            have cc0 := hb6.cell (i := 0) rfl
            have cc1 := hb6.cell (i := 1) rfl
            have ff0 := hb6.free 0
            have ff1 := hb6.free 1
            clear hb6
            go_simp
            refine HK.out _ ?_
            have k := h.out
            have hs := stay_st2 HB6.out (.bool s8) (.slice a8 n8 c8)
            exact ⟨ext_st2 k.e hm6 _ _, k.f0, fun z => (k.f1 z).stay hs, k.f2, fun z => (k.f3 z).stay hs, fun z => (k.f4 z).stay hs, fun _ => ⟨_, _, _, _, _, g6, Blk.st2 HB6.out _ _, hm6⟩, fun _ => ⟨_, _, _, _, _, g6, Blk.st2 HB6.out _ _, hm6, IntW.stay H8.out hs⟩, fun _ => hp.out 5 (by kernel_rfl)⟩
          exact trivial
        · intro L y wE1 hL h
          have xE1 := h.e
          obtain ⟨U1_6, s1_6, a1_6, n1_6, c1_6, ey1_6, hb1_6, hm1_6, hu1_6⟩ := h.f6 (hL 6 (by decide))
          have HV1_6 : Hid (IntV wE1 (.agg #[.bool s1_6, .slice a1_6 n1_6 c1_6]) (o + 2 ^ i)) := Lib.hid ⟨_, _, _, _, rfl, hu1_6⟩
          simp only [putAll, List.foldl, Act.put, List.setIfInBounds_toArray, List.set_cons_zero, List.set_cons_succ]
          simp only [ey1_6]
          clear hL h ey1_6 hu1_6 hm1_6
          have KB9 : Hid (∀ W, Ext wE1 W → W.cell? ⟨U1_6, 0, none⟩ = some (.bool s1_6) ∧ W.cell? ⟨U1_6, 1, none⟩ = some (.slice a1_6 n1_6 c1_6)) := Lib.hid fun W h => ⟨h.cell (hb1_6.cell (i := 0) rfl), h.cell (hb1_6.cell (i := 1) rfl)⟩
          clear hb1_6
          obtain ⟨s, hs⟩ : ∃ s, s = sgn ((o + 2 ^ i) ^ k) a := ⟨_, rfl⟩
          have hsd : decide (s ≤ 0) = false := by rw [hs]; exact sgn_dec_gt HLE.out
          clear hle
          have HS := Lib.hid hs.symm
          clear hs
          have KX2 : Hid (∀ w', Ext wE1 w' → w'.cell? ⟨U1_6, 0, none⟩ = some (.bool s1_6) ∧ w'.cell? ⟨U1_6, 1, none⟩ = some (.slice a1_6 n1_6 c1_6) ∧ w'.cell? ⟨B, 0, none⟩ = some (.bool false) ∧ w'.cell? ⟨B, 1, none⟩ = some (.slice ax nx cx)) := Lib.hid fun w' h => by
            have q9 := KB9.out w' ((Ext.refl _).trans h)
            have q2 := KB2.out w' ((hx.trans xE1).trans h)
            exact ⟨q9.1, q9.2, q2.1, q2.2⟩
          go_wp2_with fail
          have hz2 := Below.drewExt wE1
          go_region_held3
            (fun w' => w'.cell? ⟨U1_6, 0, none⟩ = some (.bool s1_6) ∧ w'.cell? ⟨U1_6, 1, none⟩ = some (.slice a1_6 n1_6 c1_6) ∧ w'.cell? ⟨B, 0, none⟩ = some (.bool false) ∧ w'.cell? ⟨B, 1, none⟩ = some (.slice ax nx cx))
            (with_reducible exact KX2.out _ (by assumption))
            (first
            | (go_at_call 84; (with_reducible refine (rpower_any (o + 2 ^ i) 14 k HFn.out (by omega) (by omega) k k (Nat.le_refl _) (Nat.le_refl _) _ _ (HV1_6.out.ext hz2)).mono ?_); rintro e w3 ⟨⟨v3_0, rfl, hv3_0⟩, x3⟩; have hz3 := hz2.trans x3)
            | (go_at_call 41; (with_reducible refine (rcmp_is _ _ ((o + 2 ^ i) ^ k) a s _ hv3_0 (HA.out.ext (((hx.trans xE1).trans hz2).trans x3)) HS.out).mono ?_); rintro e w4 ⟨rfl, x4⟩; have hz4 := hz3.trans x4)
            )
          clear KX2
          go_wp2_with fail
          go_roundw
          case rel => exact ⟨i, o, _, _, _, _, by go_num, hbP0.out.ext (((xE1.trans hz2).trans x3).trans x4), IntW.ext hio.out (((xE1.trans hz2).trans x3).trans x4), RootI.down HR.out HLE.out, by omega, hx.trans (((xE1.trans hz2).trans x3).trans x4)⟩
          case measure => simp [intOf]
/-- ref.Root -/
theorem rRoot_any (x : Value) (a : Int) (k : Nat) (w : World) (hx : IntV w x a) (ha : Fits a 12) (h0 : 0 ≤ a) (hk : 1 ≤ k) :
    Calls Tryz.prog 47 #[x, .int .i64 k] w fun e w' => (∃ v r, e = .returned (.tuple #[v, .int .i64 0]) ∧ IntV w' v r ∧ IsRoot a k r) ∧ Ext w w' := by
  by_cases h1 : k = 1 ∨ (a = 0 ∧ 2 ≤ k)
  · exact rRoot_same x a k w hx h0 h1
  · by_cases h2 : blen a.natAbs ≤ k
    · exact rRoot_big x a k w hx (ha.mono (by omega)) (by omega) (by omega) h2
    · exact rRoot_loop x a k w hx ha (by omega) (by omega) (by omega)
end Go.Proofs.YtddcgojpgdhefaaGreatDoor
