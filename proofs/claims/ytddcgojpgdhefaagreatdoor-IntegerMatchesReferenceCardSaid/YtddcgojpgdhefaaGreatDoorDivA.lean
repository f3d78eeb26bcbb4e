/- Merged texts: Div1, Div2. -/
import Derived.Test.YtddcgojpgdhefaaGreatDoorNatA
import Derived.Test.YtddcgojpgdhefaaGreatDoorReduce
import Derived.Test.YtddcgojpgdhefaaGreatDoorMathA
import Derived.Test.YtddcgojpgdhefaaGreatDoorShelfBits
import Derived.Lib.ItoaNum
/- Division of absolute values, the short ways: walked. -/
namespace Go.El
set_option linter.unusedVariables false
theorem Words.cellAt {w : World} {a : Option Addr} {len cap : Nat} {l : List Int} (h : Words w a len cap l) {i : Nat} (hi : i < len) : ∃ b off, a = some ⟨b, off, none⟩ ∧ w.cell? ⟨b, off + i, none⟩ = some (.int .u32 (l.getD i 0)) :=
  h.cells i (l.getD i 0) (by rw [List.getD, List.getElem?_eq_getElem (by rw [h.hlen]; exact hi)]; simp)
theorem digs_one {z : Int} (hz : 0 ≤ z) (hz' : z < 4294967296) : digs z = if z = 0 then [] else [z] := by
  split
  · next h => subst h; exact digs_zero
  · rw [digs_pos (by omega), Int.emod_eq_of_lt hz hz', Int.ediv_eq_zero_of_lt hz hz', digs_zero]
end Go.El
namespace Go.Proofs.YtddcgojpgdhefaaGreatDoor
open Go.RowKit Go.El
set_option linter.unusedVariables false

/-- The result of a division: quotient and remainder. -/
def DivRes (w w' : World) (e : Ending) (a b : Int) : Prop :=
  (∃ qa qn qc ra rn rc, e = .returned (.tuple #[.slice qa qn qc, .slice ra rn rc]) ∧ Words w' qa qn qc (digs (a / b)) ∧ Words w' ra rn rc (digs (a % b))) ∧ Ext w w'

set_option maxRecDepth 100000 in
theorem ndiv_lt (ax ay : Option Addr) (nx cx ny cy : Nat) (a b : Int) (w : World) (ha : 0 ≤ a) (hb : 0 ≤ b) (hx : Words w ax nx cx (digs a)) (hy : Words w ay ny cy (digs b)) (hlt : a < b) :
    Calls Tryz.prog 59 #[.slice ax nx cx, .slice ay ny cy] w fun e w' => DivRes w w' e a b := by
  have H := Lib.hid (fun W hx hy => ncmp_any ax ay nx cx ny cy a b W ha hb hx hy)
  rw [sgn_lt hlt] at H
  have hmx := hx.max
  have hmy := hy.max
  have Hx := Lib.hid hx
  have Hy := Lib.hid hy
  clear hx hy
  go_enter Tryz.func59, Tryz.ntmps59
  go_wp2_with (go_at_call 53; (with_reducible refine (H.out _ Hx.out Hy.out).mono ?_); rintro e w' ⟨rfl, ⟨k, rfl⟩⟩)
  go_ret2
  refine ⟨⟨_, _, _, _, _, _, rfl, ?_, ?_⟩, (Ext.refl w).drewN _⟩
  · rw [Int.ediv_eq_zero_of_lt ha hlt, digs_zero]; exact Words.nil' _
  · rw [Int.emod_eq_of_lt ha hlt]; exact Hx.out.ext ((Ext.refl w).drewN _)

set_option maxRecDepth 100000 in
theorem ndiv_one (ax ay : Option Addr) (nx cx cy : Nat) (a b : Int) (w : World) (ha : 0 ≤ a) (hb : 0 < b) (hx : Words w ax nx cx (digs a)) (hy : Words w ay 1 cy (digs b)) (hle : b ≤ a) (hs : nx ≤ 1099511627776) :
    Calls Tryz.prog 59 #[.slice ax nx cx, .slice ay 1 cy] w fun e w' => DivRes w w' e a b := by
  have hb' : b < 4294967296 := by
    have := digs_len_lt (show 0 ≤ b by omega)
    rw [hy.hlen, pw_one] at this
    exact this
  have hd : (digs b).getD 0 0 = b := by rw [digs_one (by omega) hb', if_neg (by omega)]; rfl
  have H := Lib.hid (fun W hx hy => ncmp_any ax ay nx cx 1 cy a b W ha (by omega) hx hy)
  have hsg : Hid (decide (sgn a b < 0) = false) := by
    rcases Int.lt_or_eq_of_le hle with h | h
    · rw [sgn_gt h]; rfl
    · rw [h, sgn_eq]; rfl
  obtain ⟨sg, hsgv⟩ : ∃ sg, sg = sgn a b := ⟨_, rfl⟩
  rw [← hsgv] at H hsg
  have hsg2 : decide (sg < 0) = false := hsg
  have hsg3 : ¬ sg < 0 := by simpa using hsg2
  obtain ⟨by_, oy, hay, hcy⟩ := hy.cellAt (i := 0) (by omega)
  rw [hd, Nat.add_zero] at hcy
  subst hay
  have hmx := hx.max
  have hmy := hy.max
  have hv : val (digs a) = a := val_digs ha
  have HWd := Lib.hid (fun W hx => nword_any ax nx cx (digs a) b W hx hs hb hb')
  rw [hv] at HWd
  have Hx := Lib.hid hx
  have Hy := Lib.hid hy
  clear hx hy hd hsgv hv
  have hrb : 0 ≤ a % b ∧ a % b < b := ⟨Int.emod_nonneg _ (by omega), Int.emod_lt_of_pos _ hb⟩
  obtain ⟨r, hr⟩ : ∃ r, r = a % b := ⟨_, rfl⟩
  rw [← hr] at hrb HWd
  have HR := Lib.hid hr
  clear hr
  go_enter Tryz.func59, Tryz.ntmps59
  go_wp2_with (first
    | (go_at_call 53; (with_reducible refine (H.out _ Hx.out Hy.out).mono ?_); rintro e w' ⟨rfl, ⟨k, rfl⟩⟩)
    | (go_at_call 62; (with_reducible refine (HWd.out _ (Hx.out.ext ((Ext.refl w).drewN _))).mono ?_); rintro e w1 ⟨⟨qa, qn, qc, rfl, hq⟩, he⟩))
  have hW := Words.of_blk (Blk.new w1 27 (u32s [r])) (Wf.nil.cons hrb.1 (by omega)) (by simp)
  refine (norm_any _ _ _ _ _ hW).mono ?_
  rintro e w' ⟨⟨m, rfl, hm, hW'⟩, rfl⟩
  rw [val_one] at hW'
  go_wp2_with fail
  go_ret2
  refine ⟨⟨_, _, _, _, _, _, rfl, hq.ext ((Ext.refl _).alloc _), ?_⟩, ((((Ext.refl w).drewN _).trans he).alloc _)⟩
  rw [← HR.out]
  exact hW'
end Go.Proofs.YtddcgojpgdhefaaGreatDoor
/- Division of absolute values, the long way: walked. -/
namespace Go.El
set_option linter.unusedVariables false
theorem Ext.storeLe {a w : World} (h : Ext a w) {b : Nat} (hb : a.heap.size ≤ b) (i : Nat) (u : Value) : Ext a (w.setCell ⟨b, i, none⟩ u) := RowKit.Below.setCell h hb u
theorem bitLen_pos {x : Nat} (h : x ≠ 0) (hx : x < 4294967296) : 1 ≤ Lib.bitLen x ∧ 2 ^ (Lib.bitLen x - 1) ≤ x ∧ x < 2 ^ Lib.bitLen x ∧ Lib.bitLen x ≤ 32 := by
  have h1 := Lib.bitLenAux_bounds 64 x (by omega) h
  exact ⟨h1.1, h1.2.1, h1.2.2, Lib.bitLen_le x 32 (by omega) (by omega)⟩
/-- What the shift of the divisor leaves: as many words. -/
theorem shl_len {b : Int} {n s : Nat} {t : Int} (hb : 0 ≤ b) (hn : (digs b).length = n) (hn1 : 1 ≤ n) (ht : t = (digs b).getD (n - 1) 0) (hs : s = 32 - Lib.bitLen t.toNat) :
    Pow2 ((2 ^ s : Nat) : Int) s ∧ (digs (b * ((2 ^ s : Nat) : Int))).length = n ∧ (digs (b * ((2 ^ s : Nat) : Int))).getD (n - 1) 0 ≠ 0 := by
  have hw := digs_wf hb
  have htb := hw.getD (n - 1)
  rw [← ht] at htb
  have htop : t ≠ 0 := by
    have h1 := digs_last hb
    rw [List.getLast?_eq_getElem?, hn] at h1
    intro h0
    apply h1
    rw [← h0, ht]
    simp only [List.getD]
    rw [List.getElem?_eq_getElem (by omega)]; rfl
  have hbl := bitLen_pos (x := t.toNat) (by omega) (by omega)
  have hp : Pow2 ((2 ^ s : Nat) : Int) s := ⟨rfl, by omega⟩
  have h2 := val_top2 hw (m := n - 1) (by omega)
  rw [val_digs hb, ← ht] at h2
  have hpw := pw_pos (n - 1)
  have hup : (t + 1) * ((2 ^ s : Nat) : Int) ≤ 4294967296 := by
    have e : 2 ^ Lib.bitLen t.toNat * 2 ^ s = 4294967296 := by rw [← Nat.pow_add, hs, show Lib.bitLen t.toNat + (32 - Lib.bitLen t.toNat) = 32 by omega]
    have h3 : (t.toNat + 1) * 2 ^ s ≤ 2 ^ Lib.bitLen t.toNat * 2 ^ s := Nat.mul_le_mul_right _ (by omega)
    rw [e] at h3
    have : ((((t.toNat + 1) * 2 ^ s : Nat)) : Int) ≤ 4294967296 := by omega
    rw [Int.natCast_mul] at this
    have e2 : (((t.toNat + 1 : Nat)) : Int) = t + 1 := by omega
    rwa [e2] at this
  have hpb := hp.bd
  have hbp0 : 0 ≤ b * ((2 ^ s : Nat) : Int) := Int.mul_nonneg hb (by omega)
  have hlt : b * ((2 ^ s : Nat) : Int) < pw n := by
    have h4 : b * ((2 ^ s : Nat) : Int) < (t + 1) * pw (n - 1) * ((2 ^ s : Nat) : Int) := Int.mul_lt_mul_of_pos_right h2.2 (by omega)
    have h5 : (t + 1) * pw (n - 1) * ((2 ^ s : Nat) : Int) = pw (n - 1) * ((t + 1) * ((2 ^ s : Nat) : Int)) := by
      rw [Int.mul_comm (t + 1), Int.mul_assoc]
    have h6 : pw (n - 1) * ((t + 1) * ((2 ^ s : Nat) : Int)) ≤ pw (n - 1) * 4294967296 := Int.mul_le_mul_of_nonneg_left hup (by omega)
    have h7 : pw n = 4294967296 * pw (n - 1) := by
      obtain ⟨k, rfl⟩ : ∃ k, n = k + 1 := ⟨n - 1, by omega⟩
      rw [Nat.add_sub_cancel, pw]
    omega
  have hge : pw (n - 1) ≤ b * ((2 ^ s : Nat) : Int) := by
    have h8 : 1 * pw (n - 1) ≤ t * pw (n - 1) := Int.mul_le_mul_of_nonneg_right (by omega) (by omega)
    have h9 : b * 1 ≤ b * ((2 ^ s : Nat) : Int) := Int.mul_le_mul_of_nonneg_left (by omega) hb
    omega
  have hlen : (digs (b * ((2 ^ s : Nat) : Int))).length = n := by
    have l1 := digs_len_le hbp0 hlt
    have l2 := digs_len_ge hbp0 hge
    omega
  refine ⟨hp, hlen, ?_⟩
  have h1 := digs_last hbp0
  rw [List.getLast?_eq_getElem?, hlen] at h1
  intro h0
  apply h1
  rw [← h0]
  simp only [List.getD]
  rw [List.getElem?_eq_getElem (by omega)]; rfl
end Go.El
namespace Go.Proofs.YtddcgojpgdhefaaGreatDoor
open Go.RowKit Go.El
set_option linter.unusedVariables false

set_option maxRecDepth 100000 in
set_option maxHeartbeats 4000000 in
theorem ndiv_many (ax ay : Option Addr) (nx cx ny cy : Nat) (a b : Int) (w : World) (ha : 0 ≤ a) (hb : 0 < b) (hx : Words w ax nx cx (digs a)) (hy : Words w ay ny cy (digs b)) (hle : b ≤ a) (hn2 : 2 ≤ ny) (hs : nx ≤ 549755813888) :
    Calls Tryz.prog 59 #[.slice ax nx cx, .slice ay ny cy] w fun e w' => DivRes w w' e a b := by
  have hnn : ny ≤ nx := by
    have h1 := digs_len_lt (show 0 ≤ a by omega)
    rw [hx.hlen] at h1
    have := digs_len_le (show 0 ≤ b by omega) (show b < pw nx by omega)
    rw [hy.hlen] at this
    exact this
  obtain ⟨m1, hm1, hm1n, HM1⟩ : ∃ m : Nat, (ny : Int) - 1 = m ∧ m < ny ∧ Hid (ny - 1 = m) := ⟨ny - 1, by omega, by omega, rfl⟩
  obtain ⟨t, ht⟩ : ∃ t, t = (digs b).getD (ny - 1) 0 := ⟨_, rfl⟩
  obtain ⟨s, hsv⟩ : ∃ s, s = 32 - Lib.bitLen t.toNat := ⟨_, rfl⟩
  obtain ⟨hp, hlen, htop⟩ := shl_len (by omega) hy.hlen (by omega) ht hsv
  obtain ⟨p, hpv⟩ : ∃ p, p = ((2 ^ s : Nat) : Int) := ⟨_, rfl⟩
  rw [← hpv] at hp hlen htop
  have hpb := hp.bd
  have htb := (digs_wf (show 0 ≤ b by omega)).getD (ny - 1)
  rw [← ht] at htb
  have hblen := Lib.bitLen_le t.toNat 32 (by omega) (by omega)
  have Hlz := Lib.hid (fun W => Tryz.bits_LeadingZeros32 t W htb.1 (by omega))
  rw [show (32 - (Lib.bitLen t.toNat : Int)) = (s : Int) by omega] at Hlz
  have H := Lib.hid (fun W hx hy => ncmp_any ax ay nx cx ny cy a b W ha (by omega) hx hy)
  have hsg : Hid (decide (sgn a b < 0) = false) := by
    rcases Int.lt_or_eq_of_le hle with h | h
    · rw [sgn_gt h]; rfl
    · rw [h, sgn_eq]; rfl
  obtain ⟨sg, hsgv⟩ : ∃ sg, sg = sgn a b := ⟨_, rfl⟩
  rw [← hsgv] at H hsg
  have hsg2 : decide (sg < 0) = false := hsg
  have hsg3 : ¬ sg < 0 := by simpa using hsg2
  obtain ⟨by_, oy, hay, hcy⟩ := hy.cellAt (i := m1) (by omega)
  rw [← HM1.out, ← ht, HM1.out] at hcy
  subst hay
  have hmx := hx.max
  have hmy := hy.max
  have hn1 : ((ny : Int) == 1) = false := by simp; omega
  have hs31 := hp.2
  have Hx := Lib.hid hx
  have Hy := Lib.hid hy
  have HP := Lib.hid hp
  have HLen := Lib.hid hlen
  have HTop := Lib.hid htop
  clear hx hy hsgv hp hlen htop ht hsv hpv
  go_enter Tryz.func59, Tryz.ntmps59
  go_wp2_with (first
    | (go_at_call 53; (with_reducible refine (H.out _ Hx.out Hy.out).mono ?_); rintro e w' ⟨rfl, ⟨k, rfl⟩⟩)
    | (go_at_call 92; (with_reducible refine (Hlz.out _).mono ?_); rintro e w' ⟨rfl, rfl⟩))
  refine (nshl_any ax nx cx (digs a) s p _ (Hx.out.ext ((Ext.refl w).drewN _)) (by omega) HP.out).mono ?_
  rintro e w1 ⟨bu, U, rfl, hbu, hrowU, hUl, hUw, hUv, he1⟩
  have he1 : Ext w w1 := ((Ext.refl w).drewN _).trans he1
  have hbu : w.heap.size ≤ bu := hbu
  rw [val_digs ha] at hUv
  have HUv := Lib.hid hUv
  have HUl := Lib.hid hUl
  clear hUv hUl
  go_wp2_with fail
  refine (nshl_any _ ny cy (digs b) s p _ (Hy.out.ext he1) (by omega) HP.out).mono ?_
  rintro e w2 ⟨bv, V, rfl, hbv, hrowV, hVl, hVw, hVv, he2⟩
  have hbne : bv ≠ bu := by have := hrowU.lt; omega
  have hrowU2 := hrowU.ext he2
  have hWV := Words.of_blk hrowV hVw (by rw [hVl]; omega)
  rw [hVl] at hWV
  rw [val_digs (show 0 ≤ b by omega)] at hVv
  have he2 : Ext w w2 := he1.trans he2
  have HWV := Lib.hid hWV
  have HVv := Lib.hid hVv
  clear hVl hVv hWV hrowV hrowU he1
  go_wp2_with fail
  refine (norm_any _ _ _ _ _ HWV.out).mono ?_
  rintro e w' ⟨⟨n', rfl, hn', hW'⟩, rfl⟩
  rw [HVv.out] at hW'
  obtain rfl : ny = n' := by rw [← hW'.hlen, HLen.out]
  obtain ⟨j0, hj0, hj1, HJ0⟩ : ∃ j0 : Nat, (nx : Int) + 1 - (ny : Int) = j0 ∧ 1 ≤ j0 ∧ Hid (nx + 1 = j0 + ny) := ⟨nx + 1 - ny, by omega, by omega, show nx + 1 = nx + 1 - ny + ny by omega⟩
  have hjn : j0 ≤ nx := by omega
  obtain ⟨i0, hi, hz0, hz1, hz2⟩ := info_parts info_u32
  have HWv := Lib.hid hW'
  clear hW'
  go_wp2_with (at_make; refine wpList_make_ints _ rfl _ _ _ rfl 27 i0 .u32 Tryz.underlying62 hi hz0 hz1 .i64 .i64 _ _ j0 rfl rfl (by omega) (by omega) (by rw [hz2]; omega) (by omega) ?_; intro w3 bq HB he3 hblk)
  have hbq0 : w.heap.size ≤ bq := by rw [HB.out]; exact he2.size
  have hbuq : bu ≠ bq := by have := hrowU2.lt; have := HB.out; omega
  have hbvq : bv ≠ bq := by
    obtain ⟨b', o', he', hc'⟩ := HWv.out.cellAt (i := 0) (by omega)
    cases he'
    have := World.block_lt_of_cell? _ _ hc'
    have := HB.out
    simp at *
    omega
  have hv0 : 0 < b * p := Int.mul_pos hb (by omega)
  have hvn : b * p < pw ny := by
    have := digs_len_lt (z := b * p) (by omega)
    rwa [HLen.out] at this
  have hstart : Dv (a * p) (b * p) ny U [] j0 := by
    refine Dv.start hUw HUv.out (by omega) ?_ ?_ (by omega) hj1 (by rw [HUl.out, HJ0.out])
    · have := digs_len_lt ha
      rw [Hx.out.hlen] at this
      have e := HJ0.out
      rwa [show j0 + ny - 1 = nx by omega]
    · apply Decidable.byContradiction
      intro hn
      have := digs_len_le (show 0 ≤ b by omega) (k := ny - 1) (by omega)
      rw [Hy.out.hlen] at this
      omega
  obtain ⟨v, hvv⟩ : ∃ v, v = b * p := ⟨_, rfl⟩
  rw [← hvv] at hv0 hvn hstart HWv HTop
  have HV := Lib.hid hvv
  have HVn := Lib.hid hvn
  have HStart := Lib.hid hstart
  have Hext3 := Lib.hid (he2.trans he3)
  have HWv3 := Lib.hid (HWv.out.ext he3)
  have hrowU3 := hrowU2.ext he3
  clear hvv hvn hstart he2 he3 hrowU2 hn' HWv
  go_loopw [56] (fun i wr => ∃ (k : Nat) (U d : List Int), k ≤ j0 ∧ i = .int .i64 k ∧ Hid (Dv (a * p) v ny U d (j0 - k)) ∧ Hid (d.length = k) ∧ Hid (U.length = nx + 1) ∧ Ext w wr ∧ Blk wr bu 27 (u32s U) ∧ Blk wr bq 27 (u32s (topTo d j0)) ∧ Hid (Words wr (some ⟨bv, 0, none⟩) ny ny (digs v))) (fun i _ => j0 - (intOf i).toNat)
  case atStart => exact ⟨0, U, [], Nat.zero_le _, rfl, HStart.out, rfl, HUl.out, Hext3.out, hrowU3, by rw [topTo_nil]; exact hblk, HWv3.out⟩
  case round =>
    clear hrowU3 hblk
    obtain ⟨i, U, d, hij, rfl, HD, Hdl, HUl, hext, hrU, hrq, HWr⟩ := hrel
    by_cases hlt : i < j0
    · obtain ⟨k, hk, hkj, HK⟩ : ∃ k : Nat, (j0 : Int) - 1 - (i : Int) = k ∧ k < j0 ∧ Hid (j0 - i = k + 1) := ⟨j0 - 1 - i, by omega, by omega, show j0 - i = j0 - 1 - i + 1 by omega⟩
      have eJ := HJ0.out
      have hkl : k + (ny + 1) ≤ U.length := by rw [HUl.out]; omega
      have hD : Dv (a * p) v ny U d (k + 1) := by have := HD.out; rwa [HK.out] at this
      obtain ⟨hbf, hC⟩ := hD.before HVn.out hkl
      have hkn : k + ny + 1 ≤ nx + 1 := by omega
      have hkx : ¬ (nx + 1 = k) := by omega
      have hrm : Blk wr bu 27 (u32s (mid (U.take k) ((U.drop k).take (ny + 1)) ((U.drop k).drop (ny + 1)))) := by rw [split_mid _ _ _ hkl]; exact hrU
      have hvV : val (digs v) = v := val_digs (by omega)
      have HR := Lib.hid (fun cap => reduce_any bu k ny cap bv 0 ny (U.take k) ((U.drop k).take (ny + 1)) ((U.drop k).drop (ny + 1)) (digs v) wr hrm (by simp; omega) (by simp; omega) ((hD.wf.drop _).take _) HWr.out hbne hn2 (by omega) (by omega) HTop.out (by rw [hvV]; exact hbf))
      rw [hvV] at HR
      have HDD := Lib.hid hD
      have HKL := Lib.hid hkl
      have hcq := hrq.cell (i := k) (v := .int .u32 0) (u32s_get (topTo_get _ _ _ (by rw [Hdl.out]; omega)))
      have hfq := hrq.free k
      clear eJ hkl hD hbf hC hrm hvV
      go_wp2_with fail
      rw [show k + ny + 1 - k = ny + 1 by omega]
      refine (HR.out _).mono ?_
      rintro e w' ⟨rfl, L', hL1, hL2, hL3, hL4, hg⟩
      have hrq2 := hrq.grown hg (Ne.symm hbuq)
      have hWr2 := Lib.hid (HWr.out.grown hg hbne)
      have hext2 := hext.grown hg (fun k' hk' => by cases hk'; omega)
      have hcq := hrq2.cell (i := k) (v := .int .u32 0) (u32s_get (topTo_get _ _ _ (by rw [Hdl.out]; omega)))
      have hfq := hrq2.free k
      have HD' := Lib.hid (HDD.out.step hv0 HVn.out HKL.out hL3 hL2 hL1)
      obtain ⟨dg, hdg⟩ : ∃ dg, dg = val (List.take (ny + 1) (List.drop k U)) / v := ⟨_, rfl⟩
      rw [← hdg] at HD' ⊢
      have HL4 := Lib.hid hL4
      have HML : Hid ((mid (U.take k) L' ((U.drop k).drop (ny + 1))).length = nx + 1) := by
        have := HKL.out
        have := HUl.out
        show (mid (U.take k) L' ((U.drop k).drop (ny + 1))).length = nx + 1
        unfold mid; simp [hL2]; omega
      clear hdg hL1 hL2 hL3 hL4 hg HR
      go_wp2
      go_roundw
      case rel =>
        have e : j0 - (i + 1) = k := by have := HK.out; omega
        have hq3 := hrq2.set k (.int .u32 dg)
        rw [u32s_set, topTo_set _ _ _ _ (by rw [Hdl.out]; omega)] at hq3
        have hW3 : Words (w'.setCell ⟨bq, k, none⟩ (.int .u32 dg)) (some ⟨bv, 0, none⟩) ny ny (digs v) := hWr2.out.grown (grownBy.store (grownBy.refl w' bq) k _) hbvq
        refine ⟨i + 1, _, dg :: d, by omega, by go_num, by rw [e]; exact HD'.out, ?_, HML.out, hext2.storeLe hbq0 _ _, HL4.out.other (Ne.symm hbuq) _, hq3, hW3⟩
        · show (dg :: d).length = i + 1
          rw [List.length_cons, Hdl.out]
      case measure => simp [intOf]; omega
    · obtain rfl : i = j0 := by omega
      have hD : Dv (a * p) v ny U d 0 := by have := HD.out; rwa [Nat.sub_self] at this
      obtain ⟨hq, hr⟩ := hD.done hv0
      rw [HV.out] at hq hr
      have hs := scaled_div (a := a) hb (show 0 < p by omega)
      rw [hs.1] at hq
      rw [hs.2] at hr
      rw [topTo_full _ _ Hdl.out] at hrq
      have hWq := Words.of_blk hrq hD.wd (by rw [Hdl.out]; omega)
      rw [Hdl.out] at hWq
      have hWu := Words.of_blk hrU hD.wf (by rw [HUl.out]; omega)
      rw [HUl.out] at hWu
      have HWq := Lib.hid hWq
      have HWu := Lib.hid hWu
      have Hq := Lib.hid hq
      have Hr := Lib.hid hr
      clear hD hq hr hs hWq hWu hrq hrU
      go_wp2_with fail
      refine (norm_any _ _ _ _ _ HWq.out).mono ?_
      rintro e w' ⟨⟨nq, rfl, hnq, hQ⟩, rfl⟩
      rw [Hq.out] at hQ
      go_wp2_with fail
      refine (norm_any _ _ _ _ _ HWu.out).mono ?_
      rintro e w' ⟨⟨nr, rfl, hnr, hR⟩, rfl⟩
      rw [Hr.out] at hR
      have hrv : val (digs (a % b * p)) = a % b * p := val_digs (Int.mul_nonneg (Int.emod_nonneg _ (by omega)) (by omega))
      have HRv := Lib.hid hrv
      clear hrv
      go_wp2_with fail
      refine (nshr_any _ _ _ _ s p _ hR (by omega) HP.out).mono ?_
      rintro e w4 ⟨⟨ra, rn, rc, rfl, hR2⟩, he4⟩
      rw [HRv.out, Int.mul_ediv_cancel _ (by omega)] at hR2
      go_wp2_with fail
      go_ret2
      exact ⟨⟨_, _, _, _, _, _, rfl, hQ.ext he4, hR2⟩, hext.trans he4⟩

theorem ndiv_any (ax ay : Option Addr) (nx cx ny cy : Nat) (a b : Int) (w : World) (ha : 0 ≤ a) (hb : 0 < b) (hx : Words w ax nx cx (digs a)) (hy : Words w ay ny cy (digs b)) (hs : nx ≤ 549755813888) :
    Calls Tryz.prog 59 #[.slice ax nx cx, .slice ay ny cy] w fun e w' => DivRes w w' e a b := by
  by_cases hlt : a < b
  · exact ndiv_lt ax ay nx cx ny cy a b w ha (by omega) hx hy hlt
  · have hn := digs_pos_len hb
    rw [hy.hlen] at hn
    by_cases h1 : ny = 1
    · subst h1
      exact ndiv_one ax ay nx cx cy a b w ha hb hx hy (by omega) (by omega)
    · exact ndiv_many ax ay nx cx ny cy a b w ha hb hx hy (by omega) (by omega) hs
end Go.Proofs.YtddcgojpgdhefaaGreatDoor
