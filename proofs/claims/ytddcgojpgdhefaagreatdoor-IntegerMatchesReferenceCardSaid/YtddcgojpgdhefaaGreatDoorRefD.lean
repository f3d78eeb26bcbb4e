/- The reference's division of absolute values: divided. -/
import Derived.Test.YtddcgojpgdhefaaGreatDoorRefC
import Derived.Laws.CopyOwn
import Derived.Outline
namespace Go.El
set_option linter.unusedVariables false
theorem fillTo_wf {d : List Int} (h : Wf d) (n : Nat) : Wf (fillTo d n) := h.append (Wf.zeros _)
theorem fillTo_val (d : List Int) (n : Nat) : val (fillTo d n) = val d := by
  unfold fillTo; rw [val_append, val_zeros, Int.mul_zero, Int.add_zero]
theorem u32s_zeros (n : Nat) : (List.replicate n (0 : Int)).map (Value.int .u32) = u32s (List.replicate n 0) := rfl
theorem splice_zeros (d : List Int) (n : Nat) (h : d.length ≤ n) : splice (u32s (List.replicate n 0)) 0 (u32s d) = u32s (fillTo d n) := by
  unfold splice fillTo
  rw [List.take_zero, List.nil_append, Nat.zero_add, u32s_length]
  unfold u32s
  rw [List.map_append, ← List.map_drop, List.drop_replicate]
/-- The factor of the reference: the divisor keeps its words, and its last one is not 0. -/
theorem scale_len {b p t : Int} {n : Nat} (hb : 0 ≤ b) (hn : (digs b).length = n) (hn1 : 1 ≤ n) (ht : t = (digs b).getD (n - 1) 0) (hp : p = 4294967296 / (t + 1)) :
    1 ≤ p ∧ p ≤ 2147483648 ∧ (digs (b * p)).length = n ∧ (digs (b * p)).getD (n - 1) 0 ≠ 0 := by
  have hw := digs_wf hb
  have htb := hw.getD (n - 1)
  rw [← ht] at htb
  have htop : t ≠ 0 := by
    have h1 := digs_last hb
    rw [List.getLast?_eq_getElem?, hn] at h1
    intro h0
    apply h1
    rw [← h0, ht]
    simp only [List.getD]
    rw [List.getElem?_eq_getElem (by omega)]; rfl
  have hp1 : 1 ≤ p := by rw [hp]; exact Int.le_ediv_of_mul_le (by omega) (by omega)
  have hp2 : p * (t + 1) ≤ 4294967296 := by rw [hp]; exact Int.ediv_mul_le _ (by omega)
  have hp3 : p ≤ 2147483648 := by
    have : p * 2 ≤ p * (t + 1) := Int.mul_le_mul_of_nonneg_left (by omega) (by omega)
    omega
  have h2 := val_top2 hw (m := n - 1) (by omega)
  rw [val_digs hb, ← ht] at h2
  have hpw := pw_pos (n - 1)
  have hbp0 : 0 ≤ b * p := Int.mul_nonneg hb (by omega)
  have hlt : b * p < pw n := by
    have h4 : b * p < (t + 1) * pw (n - 1) * p := Int.mul_lt_mul_of_pos_right h2.2 (by omega)
    have h5 : (t + 1) * pw (n - 1) * p = pw (n - 1) * (p * (t + 1)) := by
      rw [Int.mul_comm (t + 1), Int.mul_assoc, Int.mul_comm (t + 1)]
    have h6 : pw (n - 1) * (p * (t + 1)) ≤ pw (n - 1) * 4294967296 := Int.mul_le_mul_of_nonneg_left hp2 (by omega)
    have h7 : pw n = 4294967296 * pw (n - 1) := by
      obtain ⟨k, rfl⟩ : ∃ k, n = k + 1 := ⟨n - 1, by omega⟩
      rw [Nat.add_sub_cancel, pw]
    omega
  have hge : pw (n - 1) ≤ b * p := by
    have h8 : 1 * pw (n - 1) ≤ t * pw (n - 1) := Int.mul_le_mul_of_nonneg_right (by omega) (by omega)
    have h9 : b * 1 ≤ b * p := Int.mul_le_mul_of_nonneg_left (by omega) hb
    omega
  have hlen : (digs (b * p)).length = n := by
    have l1 := digs_len_le hbp0 hlt
    have l2 := digs_len_ge hbp0 hge
    omega
  refine ⟨hp1, hp3, hlen, ?_⟩
  have h1 := digs_last hbp0
  rw [List.getLast?_eq_getElem?, hlen] at h1
  intro h0
  apply h1
  rw [← h0]
  simp only [List.getD]
  rw [List.getElem?_eq_getElem (by omega)]; rfl
/-- What the digit and the rest are, borrowed or not. -/
theorem digit_keep {X V q : Int} {M : List Int} {m : Nat} (hV : 0 < V) (hw : Wf M) (hl : M.length = m) (hVm : V ≤ pw m) (h1 : X / V ≤ q) (h2 : q ≤ X / V + 1) (hv : val M = X - q * V + (if false = true then pw m else 0)) : q = X / V ∧ val M = X % V := by
  have h0 := val_nonneg hw
  have e := Int.mul_ediv_add_emod X V
  have hr := Int.emod_lt_of_pos X hV
  simp at hv
  have hq : q = X / V := by
    apply Decidable.byContradiction
    intro hne
    have : q = X / V + 1 := by omega
    rw [this, Int.add_mul, Int.one_mul, Int.mul_comm (X / V)] at hv
    omega
  refine ⟨hq, ?_⟩
  rw [hv, hq, Int.mul_comm]
  omega
theorem digit_back {X V q c : Int} {M M' : List Int} {m : Nat} (hV : 0 < V) (hw : Wf M) (hw' : Wf M') (hl : M.length = m) (hl' : M'.length = m) (hVm : V ≤ pw m) (h1 : X / V ≤ q) (h2 : q ≤ X / V + 1) (hv : val M = X - q * V + (if true = true then pw m else 0)) (hc0 : 0 ≤ c) (hc1 : c ≤ 1) (hb : val M' + pw m * c = val M + V) : q - 1 = X / V ∧ val M' = X % V := by
  have e := Int.mul_ediv_add_emod X V
  have hr := Int.emod_lt_of_pos X hV
  have hr0 := Int.emod_nonneg X (show V ≠ 0 by omega)
  have hlt := val_lt hw
  have hlt' := val_lt hw'
  have h0 := val_nonneg hw
  have h0' := val_nonneg hw'
  rw [hl] at hlt
  rw [hl'] at hlt'
  simp at hv
  have hq : q = X / V + 1 := by
    apply Decidable.byContradiction
    intro hne
    have : q = X / V := by omega
    rw [this, Int.mul_comm] at hv
    omega
  refine ⟨by omega, ?_⟩
  rw [hq, Int.add_mul, Int.one_mul, Int.mul_comm (X / V)] at hv
  rcases (show c = 0 ∨ c = 1 by omega) with rfl | rfl
  · simp at hb; omega
  · simp at hb; omega
end Go.El
namespace Go.Proofs.YtddcgojpgdhefaaGreatDoor
open Go.RowKit Go.El
set_option linter.unusedVariables false
set_option maxRecDepth 100000 in
theorem rdiv_lt (ax ay : Option Addr) (nx cx ny cy : Nat) (a b : Int) (w : World) (ha : 0 ≤ a) (hb : 0 ≤ b) (hx : Words w ax nx cx (digs a)) (hy : Words w ay ny cy (digs b)) (hlt : a < b) :
    Calls Tryz.prog 74 #[.slice ax nx cx, .slice ay ny cy] w fun e w' => DivRes w w' e a b := by
  have H := Lib.hid (fun W hx hy => rcompared ax ay nx cx ny cy a b W ha hb hx hy)
  rw [sgn_lt hlt] at H
  have hmx := hx.max
  have hmy := hy.max
  have Hx := Lib.hid hx
  have Hy := Lib.hid hy
  clear hx hy
  go_enter Tryz.func74, Tryz.ntmps74
  go_wp2_with (go_at_call 83; (with_reducible refine (H.out _ Hx.out Hy.out).mono ?_); rintro e w' ⟨rfl, ⟨k, rfl⟩⟩)
  go_ret2
  refine ⟨⟨_, _, _, _, _, _, rfl, ?_, ?_⟩, (Ext.refl w).drewN _⟩
  · rw [Int.ediv_eq_zero_of_lt ha hlt, digs_zero]; exact Words.nil' _
  · rw [Int.emod_eq_of_lt ha hlt]; exact Hx.out.ext ((Ext.refl w).drewN _)
set_option maxRecDepth 100000 in
theorem rdiv_one (ax ay : Option Addr) (nx cx cy : Nat) (a b : Int) (w : World) (ha : 0 ≤ a) (hb : 0 < b) (hx : Words w ax nx cx (digs a)) (hy : Words w ay 1 cy (digs b)) (hle : b ≤ a) (hs : nx ≤ 1099511627776) :
    Calls Tryz.prog 74 #[.slice ax nx cx, .slice ay 1 cy] w fun e w' => DivRes w w' e a b := by
  have hb' : b < 4294967296 := by
    have := digs_len_lt (show 0 ≤ b by omega)
    rw [hy.hlen, pw_one] at this
    exact this
  have hd : (digs b).getD 0 0 = b := by rw [digs_one (by omega) hb', if_neg (by omega)]; rfl
  have H := Lib.hid (fun W hx hy => rcompared ax ay nx cx 1 cy a b W ha (by omega) hx hy)
  have hsg : Hid (decide (sgn a b < 0) = false) := by
    rcases Int.lt_or_eq_of_le hle with h | h
    · rw [sgn_gt h]; rfl
    · rw [h, sgn_eq]; rfl
  obtain ⟨sg, hsgv⟩ : ∃ sg, sg = sgn a b := ⟨_, rfl⟩
  rw [← hsgv] at H hsg
  have hsg2 : decide (sg < 0) = false := hsg
  have hsg3 : ¬ sg < 0 := by simpa using hsg2
  obtain ⟨by_, oy, hay, hcy⟩ := hy.cellAt (i := 0) (by omega)
  rw [hd, Nat.add_zero] at hcy
  subst hay
  have hmx := hx.max
  have hmy := hy.max
  have hv : val (digs a) = a := val_digs ha
  have HWd := Lib.hid (fun W hx => rshortly ax nx cx (digs a) b W hx hs hb hb')
  rw [hv] at HWd
  have Hx := Lib.hid hx
  have Hy := Lib.hid hy
  clear hx hy hd hsgv hv
  have hrb : 0 ≤ a % b ∧ a % b < b := ⟨Int.emod_nonneg _ (by omega), Int.emod_lt_of_pos _ hb⟩
  obtain ⟨r, hr⟩ : ∃ r, r = a % b := ⟨_, rfl⟩
  rw [← hr] at hrb HWd
  have HR := Lib.hid hr
  clear hr
  go_enter Tryz.func74, Tryz.ntmps74
  go_wp2_with (first
    | (go_at_call 83; (with_reducible refine (H.out _ Hx.out Hy.out).mono ?_); rintro e w' ⟨rfl, ⟨k, rfl⟩⟩)
    | (go_at_call 112; (with_reducible refine (HWd.out _ (Hx.out.ext ((Ext.refl w).drewN _))).mono ?_); rintro e w1 ⟨⟨qb, qn, qc, rfl, hq, -⟩, he⟩))
  refine (words_any r _ (by omega) (by omega)).mono ?_
  rintro e w2 ⟨⟨ra, rn, rc, rfl, hw2, -⟩, he2⟩
  have HW2 := Lib.hid hw2
  clear hw2
  go_wp2_with fail
  go_ret2
  refine ⟨⟨_, _, _, _, _, _, rfl, hq.ext he2, ?_⟩, (((Ext.refl w).drewN _).trans he).trans he2⟩
  rw [← HR.out]
  exact HW2.out
set_option maxRecDepth 100000 in
set_option maxHeartbeats 8000000 in
theorem rdiv_many (ax ay : Option Addr) (nx cx ny cy : Nat) (a b : Int) (w : World) (ha : 0 ≤ a) (hb : 0 < b) (hx : Words w ax nx cx (digs a)) (hy : Words w ay ny cy (digs b)) (hle : b ≤ a) (hn2 : 2 ≤ ny) (hs : nx ≤ 549755813888) :
    Calls Tryz.prog 74 #[.slice ax nx cx, .slice ay ny cy] w fun e w' => DivRes w w' e a b := by
  have hnn : ny ≤ nx := by
    have h1 := digs_len_lt (show 0 ≤ a by omega)
    rw [hx.hlen] at h1
    have := digs_len_le (show 0 ≤ b by omega) (show b < pw nx by omega)
    rw [hy.hlen] at this
    exact this
  obtain ⟨m1, hm1, hm1n, HM1⟩ : ∃ m : Nat, (ny : Int) - 1 = m ∧ m < ny ∧ Hid (ny - 1 = m) := ⟨ny - 1, by omega, by omega, rfl⟩
  obtain ⟨t, ht⟩ : ∃ t, t = (digs b).getD (ny - 1) 0 := ⟨_, rfl⟩
  obtain ⟨p, hpv⟩ : ∃ p, p = 4294967296 / (t + 1) := ⟨_, rfl⟩
  obtain ⟨hp1, hp2, hlen, htop⟩ := scale_len (by omega) hy.hlen (by omega) ht hpv
  have htb := (digs_wf (show 0 ≤ b by omega)).getD (ny - 1)
  rw [← ht] at htb
  have H := Lib.hid (fun W hx hy => rcompared ax ay nx cx ny cy a b W ha (by omega) hx hy)
  have hsg : Hid (decide (sgn a b < 0) = false) := by
    rcases Int.lt_or_eq_of_le hle with h | h
    · rw [sgn_gt h]; rfl
    · rw [h, sgn_eq]; rfl
  obtain ⟨sg, hsgv⟩ : ∃ sg, sg = sgn a b := ⟨_, rfl⟩
  rw [← hsgv] at H hsg
  have hsg2 : decide (sg < 0) = false := hsg
  have hsg3 : ¬ sg < 0 := by simpa using hsg2
  obtain ⟨by_, oy, hay, hcy⟩ := hy.cellAt (i := m1) (by omega)
  rw [← HM1.out, ← ht, HM1.out] at hcy
  subst hay
  have hmx := hx.max
  have hmy := hy.max
  have hn1 : ((ny : Int) == 1) = false := by simp; omega
  have ht1 : (t + 1 == 0) = false := by simp; omega
  have Hx := Lib.hid hx
  have Hy := Lib.hid hy
  have HLen := Lib.hid hlen
  have HTop := Lib.hid htop
  have hap : a * p < pw (nx + 1) := by
    have h1 := digs_len_lt ha
    rw [hx.hlen] at h1
    have h2 : a * p ≤ a * 4294967296 := Int.mul_le_mul_of_nonneg_left (by omega) ha
    have h3 : pw (nx + 1) = 4294967296 * pw nx := by rw [pw]
    omega
  have hap0 : 0 ≤ a * p := Int.mul_nonneg ha (by omega)
  have HApl := Lib.hid (digs_len_le hap0 hap)
  have HAp0 := Lib.hid hap0
  have hpe := hpv.symm
  have ht1u : t + 1 ≤ 4294967296 := by omega
  have hbp0 : 0 ≤ b * p := Int.mul_nonneg (by omega) (by omega)
  have HBp0 := Lib.hid hbp0
  clear hx hy hsgv hlen htop ht hpv hap hap0 hbp0
  go_enter Tryz.func74, Tryz.ntmps74
  go_wp2_with (go_at_call 83; (with_reducible refine (H.out _ Hx.out Hy.out).mono ?_); rintro e w' ⟨rfl, ⟨k, rfl⟩⟩)
  refine (words_any p _ (by omega) (by omega)).mono ?_
  rintro e w1 ⟨⟨pa, pn, pc, rfl, hpw, hpn⟩, he1⟩
  have hE1 : Ext w w1 := ((Ext.refl w).drewN _).trans he1
  have HPw := Lib.hid hpw
  clear hpw he1
  go_wp2_with fail
  refine (rtimes _ _ _ _ _ _ _ _ _ (Hy.out.ext hE1) HPw.out (by omega) (by omega)).mono ?_
  rintro e w2 ⟨⟨va, vn, vc, rfl, hvw⟩, he2⟩
  rw [val_digs (show 0 ≤ b by omega), val_digs (show 0 ≤ p by omega)] at hvw
  obtain rfl : ny = vn := by rw [← hvw.hlen, HLen.out]
  have hE2 : Ext w w2 := hE1.trans he2
  obtain ⟨bv, ov, rfl, -⟩ := hvw.cellAt (i := 0) (by omega)
  have hvcap := hvw.max
  have HVw := Lib.hid hvw
  obtain ⟨i0, hi, hz0, hz1, hz2⟩ := info_parts info_u32
  clear hvw he2
  go_wp2_with (at_make; refine wpList_make_ints _ rfl _ _ _ rfl 27 i0 .u32 Tryz.underlying22 hi hz0 hz1 .i64 .i64 _ _ (nx + 1) rfl rfl (by omega) (by omega) (by rw [hz2]; omega) (by omega) ?_; intro w3 bu HBu he3 hblk)
  rw [u32s_zeros] at hblk
  have HBlk := Lib.hid hblk
  have HE3 := Lib.hid he3
  clear hblk he3
  refine (words_any p _ (by omega) (by omega)).mono ?_
  rintro e w4 ⟨⟨pa2, pn2, pc2, rfl, hpw2, hpn2⟩, he4⟩
  have HPw2 := Lib.hid hpw2
  clear hpw2
  go_wp2_with fail
  refine (rtimes _ _ _ _ _ _ _ _ _ (Hx.out.ext ((hE2.trans HE3.out).trans he4)) HPw2.out (by omega) (by omega)).mono ?_
  rintro e w5 ⟨⟨ua, un, uc, rfl, huw⟩, he5⟩
  rw [val_digs ha, val_digs (show 0 ≤ p by omega)] at huw
  have hE35 : Ext w3 w5 := he4.trans he5
  have HUw := Lib.hid huw
  have hunl : un ≤ nx + 1 := by rw [← huw.hlen]; exact HApl.out
  have HBlk5 := Lib.hid (HBlk.out.ext hE35)
  have HCs := Lib.hid (show ∀ j v, (u32s (digs (a * p)))[j]? = some v → ∃ b off, ua = some ⟨b, off, none⟩ ∧ w5.cell? ⟨b, off + j, none⟩ = some v from by
    intro j v hv
    simp only [u32s, List.getElem?_map, Option.map_eq_some_iff] at hv
    obtain ⟨z, hz, rfl⟩ := hv
    exact HUw.out.cells j z hz)
  have HCl := Lib.hid (show (u32s (digs (a * p))).length = Nat.min un (nx + 1) by rw [u32s_length, HUw.out.hlen]; exact (Nat.min_eq_left hunl).symm)
  have HCo := Lib.hid (show ∀ v ∈ u32s (digs (a * p)), v.oneCell' = true from fun v hv => by
    simp only [u32s, List.mem_map] at hv
    obtain ⟨z, _, rfl⟩ := hv
    rfl)
  have HPos := Lib.hid (show 0 < (u32s (digs (a * p))).length → ∃ ad, ua = some ad ∧ ∀ j v, (u32s (digs (a * p)))[j]? = some v → w5.cell? (ad.add j) = some v from by
    intro hpos
    obtain ⟨b0, o0, h0, -⟩ := HCs.out 0 ((u32s (digs (a * p)))[0]'hpos) (List.getElem?_eq_getElem hpos)
    refine ⟨_, h0, fun j v hv => ?_⟩
    obtain ⟨b1, o1, h1, hc1⟩ := HCs.out j v hv
    rw [h0] at h1
    cases h1
    have e : (⟨b0, o0, none⟩ : Addr).add j = ⟨b0, o0 + j, none⟩ := by unfold Addr.add; split <;> simp_all
    rw [e]; exact hc1)
  have HFit := Lib.hid (show 0 + (u32s (digs (a * p))).length ≤ (u32s (List.replicate (nx + 1) 0)).length by rw [u32s_length, u32s_length, List.length_replicate, HUw.out.hlen]; omega)
  have hsz : (Tryz.prog.info? 27).map (·.size) = some 1 := by kernel_rfl
  have HB25 := Lib.hid (HE3.out.trans hE35)
  have HBu2 : Hid (w2.heap.size ≤ bu) := Nat.le_of_eq HBu.out.symm
  clear huw hE35 he4 he5
  obtain ⟨j0, hj0, hj1, HJ0⟩ : ∃ j0 : Nat, (nx : Int) - (ny : Int) + 1 = j0 ∧ 1 ≤ j0 ∧ Hid (nx + 1 = j0 + ny) := ⟨nx + 1 - ny, by omega, by omega, show nx + 1 = nx + 1 - ny + ny by omega⟩
  have hjn : j0 ≤ nx := by omega
  have hj0' : (nx : Int) - (ny : Int) = (j0 : Int) - 1 := by omega
  go_wp2_with (first
    | (refine wpList_copy_splice (o := ⟨some 61, _, _, _, _, _⟩) rfl (.tmp 56) (.tmp 60) 22 22 rfl 27 Tryz.underlying22 hsz (some ⟨bu, 0, none⟩) ua (nx + 1) (nx + 1) un uc rfl rfl bu 0 (u32s (List.replicate (nx + 1) 0)) 27 HBlk5.out (u32s (digs (a * p))) HCl.out (fun h => ⟨rfl, HPos.out h⟩) HFit.out HCo.out w2.heap.size w2 HB25.out HBu2.out ?_; intro w6 HU6 hb6)
    | (at_make; refine wpList_make_ints _ rfl _ _ _ rfl 27 i0 .u32 Tryz.underlying22 hi hz0 hz1 .i64 .i64 _ _ j0 rfl rfl (by omega) (by omega) (by rw [hz2]; omega) (by omega) ?_; intro w7 bq HB he7 hblk))
  have hU6 : Blk w6 bu 27 (u32s (fillTo (digs (a * p)) (nx + 1))) := by
    have := HU6.out
    rw [splice_zeros _ _ HApl.out] at this
    exact this
  have hE26 : Ext w2 w6 := hb6
  have hv0 : 0 < b * p := Int.mul_pos hb (by omega)
  have hvn : b * p < pw ny := by
    have := digs_len_lt (z := b * p) (by omega)
    rwa [HLen.out] at this
  have hfv : val (fillTo (digs (a * p)) (nx + 1)) = a * p := by rw [fillTo_val, val_digs HAp0.out]
  have hstart : Dv (a * p) (b * p) ny (fillTo (digs (a * p)) (nx + 1)) [] j0 := by
    refine Dv.start (fillTo_wf (digs_wf HAp0.out) _) hfv (by omega) ?_ ?_ (by omega) hj1 (by rw [fillTo_length _ _ HApl.out, HJ0.out])
    · have := digs_len_lt ha
      rw [Hx.out.hlen] at this
      have e := HJ0.out
      rwa [show j0 + ny - 1 = nx by omega]
    · apply Decidable.byContradiction
      intro hn
      have := digs_len_le (show 0 ≤ b by omega) (k := ny - 1) (by omega)
      rw [Hy.out.hlen] at this
      omega
  obtain ⟨v, hvv⟩ : ∃ v, v = b * p := ⟨_, rfl⟩
  rw [← hvv] at hv0 hvn hstart HVw HTop
  have HV := Lib.hid hvv
  have HVn := Lib.hid hvn
  have HStart := Lib.hid hstart
  have hE7 := (hE2.trans hE26).trans he7
  have HWv7 := Lib.hid (HVw.out.ext (hE26.trans he7))
  have hrowU7 := hU6.ext he7
  have hbu0 : w.heap.size ≤ bu := by have := HBu2.out; have := hE2.size; omega
  have hbq0 : w.heap.size ≤ bq := by rw [HB.out]; exact (hE2.trans hE26).size
  have hbuq : bu ≠ bq := by have := hU6.lt; have := HB.out; omega
  have hbvlt : bv < w2.heap.size := by
    obtain ⟨b', o', he', hc'⟩ := HVw.out.cellAt (i := 0) (by omega)
    cases he'
    have := World.block_lt_of_cell? _ _ hc'
    simpa using this
  have hbne : bv ≠ bu := by have := HBu2.out; omega
  have hbvq : bv ≠ bq := by have := HB.out; have := hE26.size; omega
  have HUl0 := Lib.hid (fillTo_length (digs (a * p)) (nx + 1) HApl.out)
  generalize fillTo (digs (a * p)) (nx + 1) = U0 at hrowU7 HStart HUl0
  clear hvv hvn hstart hE26 he7 hU6 hE2 hb6 HU6 hfv HBlk5 HCs HCl HPos HCo HFit HB25 HUw HPw HPw2 HVw HBlk HE3
  go_loopw [13] (fun i wr => ∃ (k : Nat) (U d : List Int), k ≤ j0 ∧ i = .int .i64 ((j0 : Int) - 1 - k) ∧ Hid (Dv (a * p) v ny U d (j0 - k)) ∧ Hid (d.length = k) ∧ Hid (U.length = nx + 1) ∧ Ext w wr ∧ Blk wr bu 27 (u32s U) ∧ Blk wr bq 27 (u32s (topTo d j0)) ∧ Hid (Words wr (some ⟨bv, ov, none⟩) ny vc (digs v))) (fun i _ => (intOf i + 1).toNat)
  case atStart => exact ⟨0, U0, [], Nat.zero_le _, by go_num, HStart.out, rfl, HUl0.out, hE7, hrowU7, by rw [topTo_nil]; exact hblk, HWv7.out⟩
  case round =>
    clear hrowU7 hblk HWv7 hE7 HStart HUl0
    obtain ⟨i, U, d, hij, rfl, HD, Hdl, HUl, hext, hrU, hrq, HWr⟩ := hrel
    by_cases hlt : i < j0
    · obtain ⟨k, hk, hkj, HK⟩ : ∃ k : Nat, (j0 : Int) - 1 - (i : Int) = k ∧ k < j0 ∧ Hid (j0 - i = k + 1) := ⟨j0 - 1 - i, by omega, by omega, show j0 - i = j0 - 1 - i + 1 by omega⟩
      have eJ := HJ0.out
      have hkl : k + (ny + 1) ≤ U.length := by rw [HUl.out]; omega
      have hD : Dv (a * p) v ny U d (k + 1) := by have := HD.out; rwa [HK.out] at this
      obtain ⟨hbf, hC⟩ := hD.before HVn.out hkl
      have hkn : k + ny + 1 ≤ nx + 1 := by omega
      have hkx : ¬ (nx + 1 = k) := by omega
      have hrm : Blk wr bu 27 (u32s (mid (U.take k) ((U.drop k).take (ny + 1)) ((U.drop k).drop (ny + 1)))) := by rw [split_mid _ _ _ hkl]; exact hrU
      have hvV : val (digs v) = v := val_digs (by omega)
      obtain ⟨L, hLv⟩ : ∃ L, L = (U.drop k).take (ny + 1) := ⟨_, rfl⟩
      obtain ⟨A0, hAv⟩ : ∃ A0, A0 = U.take k := ⟨_, rfl⟩
      obtain ⟨C0, hCv⟩ : ∃ C0, C0 = (U.drop k).drop (ny + 1) := ⟨_, rfl⟩
      have hLl : L.length = ny + 1 := by rw [hLv]; simp; omega
      have hLw : Wf L := by rw [hLv]; exact (hD.wf.drop _).take _
      have hAl : A0.length = k := by rw [hAv]; simp; omega
      rw [← hLv] at hbf hrm
      rw [← hAv, ← hCv] at hrm
      have hcell : ∀ i z, L[i]? = some z → ∃ b off, (some ⟨bu, k, none⟩ : Option Addr) = some ⟨b, off, none⟩ ∧ wr.cell? ⟨b, off + i, none⟩ = some (.int .u32 z) := by
        intro i z hz
        have hi' : i < L.length := (List.getElem?_eq_some_iff.1 hz).1
        have h1 := mid_get A0 L C0 i hi'
        rw [hAl] at h1
        refine ⟨bu, k, rfl, hrm.cell (u32s_get ?_)⟩
        rw [h1, getD_lt hi', ← hz, List.getElem?_eq_getElem hi']
      have HG := Lib.hid (fun cap (hc1 : ny + 1 ≤ cap) (hc2 : cap ≤ 9223372036854775807) => rguess (some ⟨bu, k, none⟩) (some ⟨bv, ov, none⟩) ny cap vc L (digs v) wr ⟨hLl, hc1, hc2, (fun e => by cases e), hLw, hcell⟩ HWr.out hn2 (by omega) HTop.out (by rw [hvV]; exact hbf))
      rw [hvV] at HG
      have HDD := Lib.hid hD
      have HKL := Lib.hid hkl
      have HRm := Lib.hid hrm
      have HLl := Lib.hid hLl
      have HLw := Lib.hid hLw
      have HAl := Lib.hid hAl
      have HVV := Lib.hid hvV
      have HLv := Lib.hid hLv
      have HAv := Lib.hid hAv
      have HCv := Lib.hid hCv
      have hcq := hrq.cell (i := k) (v := .int .u32 0) (u32s_get (topTo_get _ _ _ (by rw [Hdl.out]; omega)))
      have hfq := hrq.free k
      clear eJ hkl hD hbf hC hrm hvV hLv hAv hCv hLl hLw hAl hcell
      go_wp2_with fail
      rw [show k + ny + 1 - k = ny + 1 by omega]
      refine (HG.out _ (by omega) (by omega)).mono ?_
      rintro e wg ⟨⟨q, rfl, hq1, hq2, hq3, hq4⟩, ⟨ng, rfl⟩⟩
      have hext2 := hext.drewN ng
      have HRm2 := Lib.hid (Blk.drewN' HRm.out ng)
      have hrq2 := Blk.drewN' hrq ng
      have HWr2 := Lib.hid (HWr.out.ext ((Ext.refl wr).drewN ng))
      generalize wr.drewN ng = wg at hext2 HRm2 hrq2 HWr2 ⊢
      clear hext hrq hrU HRm HWr HG hcq hfq
      go_wp2_with fail
      refine (rlessen bu k ny _ bv ov vc A0 L C0 (digs v) q _ HRm2.out HAl.out HLl.out HLw.out HWr2.out hbne (by omega) (by omega) hq3 hq4).mono ?_
      rintro e w8 ⟨c, M, rfl, hMl, hMw, hMv, hMr, hMg⟩
      have hext3 := hext2.grown hMg (fun k' hk' => by cases hk'; exact hbu0)
      have hrq3 := hrq2.grown hMg (Ne.symm hbuq)
      have HWr3 := Lib.hid (HWr2.out.grown hMg hbne)
      rw [HVV.out] at hMv
      have HMl := Lib.hid hMl
      have HMw := Lib.hid hMw
      have HMr := Lib.hid hMr
      have HMv := Lib.hid hMv
      have HQ1 := Lib.hid hq1
      have HQ2 := Lib.hid hq2
      clear hMl hMw hMr hMv hMg hext2 hrq2 HWr2 HRm2 hq1 hq2
      have hVm : v ≤ pw (ny + 1) := by
        have := HVn.out
        have h1 := pw_le (show ny ≤ ny + 1 by omega)
        omega
      have HVm := Lib.hid hVm
      clear hVm
      cases c with
      | false =>
        obtain ⟨hqe, hMe⟩ := digit_keep hv0 HMw.out HMl.out HVm.out HQ1.out HQ2.out HMv.out
        have HD' := Lib.hid (HDD.out.step hv0 HVn.out HKL.out HMw.out HMl.out (by rw [← HLv.out]; exact hMe))
        rw [← HLv.out, ← HAv.out, ← HCv.out, ← hqe] at HD'
        have HML : Hid ((mid A0 M C0).length = nx + 1) := by
          have := HKL.out
          have := HUl.out
          have := HAl.out
          have := HMl.out
          show (mid A0 M C0).length = nx + 1
          unfold mid; rw [HCv.out]; simp; omega
        have hcq := hrq3.cell (i := k) (v := .int .u32 0) (u32s_get (topTo_get _ _ _ (by rw [Hdl.out]; omega)))
        have hfq := hrq3.free k
        clear hqe hMe
        go_wp2_with fail
        go_roundw
        case rel =>
          have e : j0 - (i + 1) = k := by have := HK.out; omega
          have hq3 := hrq3.set k (.int .u32 q)
          rw [u32s_set, topTo_set _ _ _ _ (by rw [Hdl.out]; omega)] at hq3
          have hW3 : Words (w8.setCell ⟨bq, k, none⟩ (.int .u32 q)) (some ⟨bv, ov, none⟩) ny vc (digs v) := HWr3.out.grown (grownBy.store (grownBy.refl w8 bq) k _) hbvq
          exact ⟨i + 1, _, q :: d, by omega, by go_num, by rw [e]; exact HD'.out, (show (q :: d).length = i + 1 by rw [List.length_cons, Hdl.out]), HML.out, hext3.storeLe hbq0 _ _, HMr.out.other (Ne.symm hbuq) _, hq3, hW3⟩
        case measure => simp [intOf]; omega
      | true =>
        have hq0 : 1 ≤ q := by
          apply Decidable.byContradiction
          intro hn
          have hq0 : q = 0 := by omega
          have h1 := HMv.out
          rw [hq0, Int.zero_mul, if_pos rfl] at h1
          have h2 := val_lt HMw.out
          have h3 := val_nonneg HLw.out
          rw [HMl.out] at h2
          omega
        go_wp2_with fail
        refine (rrestore bu k ny _ bv ov vc A0 M C0 (digs v) _ HMr.out HAl.out HMl.out HMw.out HWr3.out hbne (by omega) (by omega)).mono ?_
        rintro e w9 ⟨rfl, M', hM'l, hM'w, ⟨cc, hc0, hc1, hM'v⟩, hM'r, hM'g⟩
        rw [HVV.out] at hM'v
        obtain ⟨hqe, hMe⟩ := digit_back hv0 HMw.out hM'w HMl.out hM'l HVm.out HQ1.out HQ2.out HMv.out hc0 hc1 hM'v
        have hext4 := hext3.grown hM'g (fun k' hk' => by cases hk'; exact hbu0)
        have hrq4 := hrq3.grown hM'g (Ne.symm hbuq)
        have HWr4 := Lib.hid (HWr3.out.grown hM'g hbne)
        have HD' := Lib.hid (HDD.out.step hv0 HVn.out HKL.out hM'w hM'l (by rw [← HLv.out]; exact hMe))
        rw [← HLv.out, ← HAv.out, ← HCv.out, ← hqe] at HD'
        have HML : Hid ((mid A0 M' C0).length = nx + 1) := by
          have := HKL.out
          have := HUl.out
          have := HAl.out
          show (mid A0 M' C0).length = nx + 1
          unfold mid; rw [HCv.out]; simp; omega
        have hcq := hrq4.cell (i := k) (v := .int .u32 0) (u32s_get (topTo_get _ _ _ (by rw [Hdl.out]; omega)))
        have hfq := hrq4.free k
        have HM'r := Lib.hid hM'r
        clear hqe hMe hext3 hrq3 HWr3 hM'r hM'v hM'l hM'w hM'g
        go_wp2_with fail
        go_roundw
        case rel =>
          have e : j0 - (i + 1) = k := by have := HK.out; omega
          have hq3 := hrq4.set k (.int .u32 (q - 1))
          rw [u32s_set, topTo_set _ _ _ _ (by rw [Hdl.out]; omega)] at hq3
          have hW3 : Words (w9.setCell ⟨bq, k, none⟩ (.int .u32 (q - 1))) (some ⟨bv, ov, none⟩) ny vc (digs v) := HWr4.out.grown (grownBy.store (grownBy.refl w9 bq) k _) hbvq
          exact ⟨i + 1, _, (q - 1) :: d, by omega, by go_num, by rw [e]; exact HD'.out, (show ((q - 1) :: d).length = i + 1 by rw [List.length_cons, Hdl.out]), HML.out, hext4.storeLe hbq0 _ _, HM'r.out.other (Ne.symm hbuq) _, hq3, hW3⟩
        case measure => simp [intOf]; omega
    · obtain rfl : i = j0 := by omega
      have hD : Dv (a * p) v ny U d 0 := by have := HD.out; rwa [Nat.sub_self] at this
      obtain ⟨hq, hr⟩ := hD.done hv0
      rw [HV.out] at hq hr
      have hs := scaled_div (a := a) hb (show 0 < p by omega)
      rw [hs.1] at hq
      rw [hs.2] at hr
      rw [topTo_full _ _ Hdl.out] at hrq
      have hWq := Words.of_blk hrq hD.wd (by rw [Hdl.out]; omega)
      rw [Hdl.out] at hWq
      have hWu := Words.of_blk hrU hD.wf (by rw [HUl.out]; omega)
      rw [HUl.out] at hWu
      have HWq := Lib.hid hWq
      have HWu := Lib.hid hWu
      have Hq := Lib.hid hq
      have Hr := Lib.hid hr
      have hrp : 0 ≤ a % b * p := Int.mul_nonneg (Int.emod_nonneg _ (by omega)) (by omega)
      have HRp := Lib.hid hrp
      clear hD hq hr hs hWq hWu hrq hrU hrp
      go_wp2_with fail
      refine (trim_any _ _ _ _ _ HWu.out).mono ?_
      rintro e w' ⟨⟨nu, rfl, hnu, hU⟩, rfl⟩
      rw [Hr.out] at hU
      have HU := Lib.hid hU
      clear hU
      go_wp2_with fail
      refine (rshortly _ _ _ _ p _ HU.out (by omega) (by omega) (by omega)).mono ?_
      rintro e wz ⟨⟨rb, rn, rc, rfl, hR, hrb⟩, hez⟩
      rw [val_digs HRp.out, Int.mul_ediv_cancel _ (by omega)] at hR
      have HR := Lib.hid hR
      have HWq2 := Lib.hid (HWq.out.ext hez)
      have hext5 := hext.trans hez
      clear hR
      go_wp2_with fail
      refine (trim_any _ _ _ _ _ HWq2.out).mono ?_
      rintro e w'' ⟨⟨nq, rfl, hnq, hQ⟩, rfl⟩
      rw [Hq.out] at hQ
      have HQ := Lib.hid hQ
      clear hQ
      go_wp2_with fail
      go_ret2
      exact ⟨⟨_, _, _, _, _, _, rfl, HQ.out, HR.out⟩, hext5⟩
theorem rdivided (ax ay : Option Addr) (nx cx ny cy : Nat) (a b : Int) (w : World) (ha : 0 ≤ a) (hb : 0 < b) (hx : Words w ax nx cx (digs a)) (hy : Words w ay ny cy (digs b)) (hs : nx ≤ 549755813888) :
    Calls Tryz.prog 74 #[.slice ax nx cx, .slice ay ny cy] w fun e w' => DivRes w w' e a b := by
  by_cases hlt : a < b
  · exact rdiv_lt ax ay nx cx ny cy a b w ha (by omega) hx hy hlt
  · have hn := digs_pos_len hb
    rw [hy.hlen] at hn
    by_cases h1 : ny = 1
    · subst h1
      exact rdiv_one ax ay nx cx cy a b w ha hb hx hy (by omega) (by omega)
    · exact rdiv_many ax ay nx cx ny cy a b w ha hb hx hy (by omega) (by omega) hs
end Go.Proofs.YtddcgojpgdhefaaGreatDoor
