/- Merged texts: Pow, Pow2, Gcd, RootM, Root, Root2. -/
import Derived.Test.YtddcgojpgdhefaaGreatDoorRefA
import Derived.Test.YtddcgojpgdhefaaGreatDoorRegA
/- Powers of absolute values. -/
namespace Go.El
theorem pow_lt {a : Int} {K : Nat} (ha : 0 ≤ a) (hK : a < pw K) (e : Nat) : a ^ e ≤ pw (K * e) := by
  induction e with
  | zero => rw [Int.pow_zero, Nat.mul_zero, pw]; omega
  | succ e ih =>
    rw [Int.pow_succ, Nat.mul_succ, pw_add]
    have h0 : 0 ≤ a ^ e := Int.pow_nonneg ha
    exact Int.mul_le_mul ih (by omega) ha (Int.le_of_lt (pw_pos _))
theorem pow_len {a : Int} {K : Nat} (ha : 0 ≤ a) (hK : a < pw K) (e : Nat) : (digs (a ^ e)).length ≤ K * e + 1 := by
  refine digs_len_le (Int.pow_nonneg ha) (Int.lt_of_le_of_lt (pow_lt ha hK e) ?_)
  have := pw_pos (K * e)
  rw [pw]; omega
theorem pow_bit1 {n k q : Nat} (a : Int) (hq : n / 2 ^ k = q) (hb : q % 2 = 1) : a ^ (n % 2 ^ (k + 1)) = a ^ (n % 2 ^ k) * a ^ (2 ^ k) := by
  rw [Nat.mod_pow_succ, hq, hb, Nat.mul_one, Int.pow_add]
theorem pow_bit0 {n k q : Nat} (a : Int) (hq : n / 2 ^ k = q) (hb : q % 2 = 0) : a ^ (n % 2 ^ (k + 1)) = a ^ (n % 2 ^ k) := by
  rw [Nat.mod_pow_succ, hq, hb, Nat.mul_zero, Nat.add_zero]
theorem pow_sq (a : Int) (k : Nat) : a ^ (2 ^ (k + 1)) = a ^ (2 ^ k) * a ^ (2 ^ k) := by
  rw [Nat.pow_succ, Nat.mul_two, Int.pow_add]
theorem and_one (n : Int) : bits .and .i64 n 1 = n % 2 := by
  have h1 : (BitVec.ofInt 64 1).toNat = 2 ^ 1 - 1 := by decide
  have key : (BitVec.ofInt 64 n &&& BitVec.ofInt 64 1).toNat = (n % ((2 ^ 64 : Nat) : Int)).toNat % 2 ^ 1 := by
    rw [BitVec.toNat_and, BitVec.toNat_ofInt, h1, Nat.and_two_pow_sub_one_eq_mod]
  show IntKind.i64.wrap ((BitVec.ofInt 64 n &&& BitVec.ofInt 64 1).toNat : Nat) = n % 2
  rw [key, IntKind.wrap_i64]
  omega
theorem bitLen_facts {n L : Nat} (h : L = Lib.bitLen n) (hn : n ≤ 1000000) : L ≤ 20 ∧ n < 2 ^ L ∧ ∀ k, k < L → 2 ^ k ≤ n := by
  by_cases h0 : n = 0
  · subst h0
    obtain rfl : L = 0 := h
    exact ⟨by omega, by decide, fun k hk => by omega⟩
  · have h1 := Lib.bitLenAux_bounds 64 n (by omega) h0
    have h2 := Lib.bitLen_le n 20 (by omega) (by omega)
    rw [show Lib.bitLenAux 64 n = L from h.symm] at h1
    rw [← h] at h2
    exact ⟨h2, h1.2.2, fun k hk => Nat.le_trans (Nat.pow_le_pow_right (by omega) (by omega)) h1.2.1⟩
end Go.El
namespace Go.Proofs.YtddcgojpgdhefaaGreatDoor
open Go.RowKit Go.El
set_option linter.unusedVariables false
set_option maxRecDepth 100000 in
set_option maxHeartbeats 1000000 in
theorem npow_any (ax : Option Addr) (nx cx : Nat) (a : Int) (n K : Nat) (w : World) (ha : 0 ≤ a) (hx : Words w ax nx cx (digs a)) (hK : a < pw K) (hn : n ≤ 1000000) (hb : K * n ≤ 1073741824) :
    Calls Tryz.prog 61 #[.slice ax nx cx, .int .i64 n] w fun e w' => (∃ a' k c, e = .returned (.slice a' k c) ∧ Words w' a' k c (digs (a ^ n))) ∧ Ext w w' := by
  have HX := Lib.hid hx
  have HK := Lib.hid hK
  clear hx hK
  go_enter Tryz.func61, Tryz.ntmps61
  go_wp2_with fail
  refine (natural_any 1 _ (by omega) (by omega)).mono ?_
  rintro e w1 ⟨⟨oa, on, oc, rfl, ho, hon⟩, he1⟩
  have HO := Lib.hid ho
  clear ho
  go_wp2_with fail
  refine (Tryz.bits_Len n _ (by omega) (by omega)).mono ?_
  rintro e w2 ⟨rfl, rfl⟩
  obtain ⟨L, hL⟩ : ∃ L, L = Lib.bitLen (n : Int).toNat := ⟨_, rfl⟩
  rw [← hL]
  rw [Int.toNat_natCast] at hL
  have HL := Lib.hid (bitLen_facts hL hn)
  have hL20 : L ≤ 20 := HL.out.1
  clear hL
  go_wp2_with fail
  go_loopw [0, 5, 11] (fun x o i wr => ∃ k : Nat, k ≤ L ∧ i = .int .i64 k ∧ Ext w wr ∧ (∃ oa on oc, o = .slice oa on oc ∧ Words wr oa on oc (digs (a ^ (n % 2 ^ k)))) ∧ (∃ xa xn xc, x = .slice xa xn xc ∧ (k < L → Words wr xa xn xc (digs (a ^ (2 ^ k)))))) (fun _ _ i _ => L - (intOf i).toNat)
  case atStart =>
    refine ⟨0, Nat.zero_le _, rfl, he1, ⟨_, _, _, rfl, ?_⟩, ⟨_, _, _, rfl, fun _ => ?_⟩⟩
    · rw [Nat.pow_zero, Nat.mod_one, Int.pow_zero]; exact HO.out
    · rw [Nat.pow_zero, Int.pow_one]; exact HX.out.ext he1
  case round =>
    obtain ⟨k, hk, rfl, he, ⟨oa, on, oc, rfl, ho⟩, ⟨xa, xn, xc, rfl, hx⟩⟩ := hrel
    have HO' := Lib.hid ho
    have HX' := Lib.hid hx
    clear ho hx
    by_cases hkL : k < L
    · obtain ⟨q, hq⟩ : ∃ q, n / 2 ^ k = q := ⟨_, rfl⟩
      have hq1 : (n : Int) / 2 ^ k = (q : Int) := by
        rw [← hq, Int.natCast_ediv, Int.natCast_pow]; rfl
      have hqn : q ≤ n := by rw [← hq]; exact Nat.div_le_self _ _
      have hband := and_one q
      have hxl : Hid (xn ≤ 1073741825) := by
        rw [← (HX'.out hkL).hlen]
        refine Nat.le_trans (pow_len ha HK.out _) ?_
        have := Nat.mul_le_mul_left K (HL.out.2.2 k hkL)
        omega
      have hol : Hid (on ≤ 1073741825) := by
        rw [← HO'.out.hlen]
        refine Nat.le_trans (pow_len ha HK.out _) ?_
        have := Nat.mul_le_mul_left K (Nat.mod_le n (2 ^ k))
        omega
      have HXk := Lib.hid (HX'.out hkL)
      have HQ := Lib.hid hq
      clear hq HX'
      have hvx : val (digs (a ^ 2 ^ k)) = a ^ 2 ^ k := val_digs (Int.pow_nonneg ha)
      have hvo : val (digs (a ^ (n % 2 ^ k))) = a ^ (n % 2 ^ k) := val_digs (Int.pow_nonneg ha)
      have HVX := Lib.hid hvx
      have HVO := Lib.hid hvo
      clear hvx hvo
      rcases Nat.mod_two_eq_zero_or_one q with hm | hm
      · rw [show (q : Int) % 2 = 0 by omega] at hband
        have HM := Lib.hid hm
        clear hm
        by_cases hmore : k + 1 < L
        · have h1q : (1 : Int) < q := by
            have h1 := HL.out.2.2 (k + 1) hmore
            have : 2 ≤ q := by
              rw [← HQ.out, Nat.le_div_iff_mul_le (Nat.two_pow_pos _)]
              rw [Nat.pow_succ] at h1; omega
            omega
          go_wp2_with fail
          refine (nmul_any _ _ _ _ _ _ _ _ _ HXk.out HXk.out (by have := hxl.out; omega) (by have := hxl.out; omega)).mono ?_
          rintro e w3 ⟨⟨sa, sn, sc, rfl, hs⟩, he3⟩
          rw [HVX.out, ← pow_sq] at hs
          have HS := Lib.hid hs
          clear hs
          go_wp2_with fail
          go_roundw
          case rel => exact ⟨k + 1, by omega, by go_num, he.trans he3, ⟨_, _, _, rfl, by rw [pow_bit0 a HQ.out HM.out]; exact HO'.out.ext he3⟩, ⟨_, _, _, rfl, fun _ => HS.out⟩⟩
          case measure => simp [intOf]; omega
        · have h1q : (q : Int) ≤ 1 := by
            have h1 := HL.out.2.1
            have : q < 2 := by
              rw [← HQ.out, Nat.div_lt_iff_lt_mul (Nat.two_pow_pos _)]
              rw [show L = k + 1 by omega, Nat.pow_succ] at h1; omega
            omega
          go_wp2_with fail
          go_roundw
          case rel => exact ⟨k + 1, by omega, by go_num, he, ⟨_, _, _, rfl, by rw [pow_bit0 a HQ.out HM.out]; exact HO'.out⟩, ⟨_, _, _, rfl, fun h => absurd h hmore⟩⟩
          case measure => simp [intOf]; omega
      · rw [show (q : Int) % 2 = 1 by omega] at hband
        have HM := Lib.hid hm
        clear hm
        by_cases hmore : k + 1 < L
        · have h1q : (1 : Int) < q := by
            have h1 := HL.out.2.2 (k + 1) hmore
            have : 2 ≤ q := by
              rw [← HQ.out, Nat.le_div_iff_mul_le (Nat.two_pow_pos _)]
              rw [Nat.pow_succ] at h1; omega
            omega
          go_wp2_with fail
          refine (nmul_any _ _ _ _ _ _ _ _ _ HO'.out HXk.out (by have := hol.out; omega) (by have := hxl.out; omega)).mono ?_
          rintro e w4 ⟨⟨pa, pn, pc, rfl, hp⟩, he4⟩
          rw [HVX.out, HVO.out, ← pow_bit1 a HQ.out HM.out] at hp
          have HP := Lib.hid hp
          have HXk := Lib.hid (HXk.out.ext he4)
          clear hp
          go_wp2_with fail
          refine (nmul_any _ _ _ _ _ _ _ _ _ HXk.out HXk.out (by have := hxl.out; omega) (by have := hxl.out; omega)).mono ?_
          rintro e w3 ⟨⟨sa, sn, sc, rfl, hs⟩, he3⟩
          rw [HVX.out, ← pow_sq] at hs
          have HS := Lib.hid hs
          clear hs
          go_wp2_with fail
          go_roundw
          case rel => exact ⟨k + 1, by omega, by go_num, (he.trans he4).trans he3, ⟨_, _, _, rfl, HP.out.ext he3⟩, ⟨_, _, _, rfl, fun _ => HS.out⟩⟩
          case measure => simp [intOf]; omega
        · have h1q : (q : Int) ≤ 1 := by
            have h1 := HL.out.2.1
            have : q < 2 := by
              rw [← HQ.out, Nat.div_lt_iff_lt_mul (Nat.two_pow_pos _)]
              rw [show L = k + 1 by omega, Nat.pow_succ] at h1; omega
            omega
          go_wp2_with fail
          refine (nmul_any _ _ _ _ _ _ _ _ _ HO'.out HXk.out (by have := hol.out; omega) (by have := hxl.out; omega)).mono ?_
          rintro e w4 ⟨⟨pa, pn, pc, rfl, hp⟩, he4⟩
          rw [HVX.out, HVO.out, ← pow_bit1 a HQ.out HM.out] at hp
          have HP := Lib.hid hp
          have HXk := Lib.hid (HXk.out.ext he4)
          clear hp
          go_wp2_with fail
          go_roundw
          case rel => exact ⟨k + 1, by omega, by go_num, he.trans he4, ⟨_, _, _, rfl, HP.out⟩, ⟨_, _, _, rfl, fun h => absurd h hmore⟩⟩
          case measure => simp [intOf]; omega
    · obtain rfl : k = L := by omega
      have hfin : n % 2 ^ k = n := Nat.mod_eq_of_lt HL.out.2.1
      rw [hfin] at HO'
      clear hfin
      go_wp2_with fail
      go_ret
      exact ⟨⟨_, _, _, rfl, HO'.out⟩, he⟩
end Go.Proofs.YtddcgojpgdhefaaGreatDoor
/- integer.Pow. -/
namespace Go.El
theorem Fits.abs_lt {a : Int} {K : Nat} (h : Fits a K) : (a.natAbs : Int) < pw K := h
theorem neg_sq' (a : Int) : (-a) ^ 2 = a ^ 2 := by
  rw [show (2 : Nat) = 1 + 1 from rfl, Int.pow_succ, Int.pow_succ, Int.pow_succ, Int.pow_succ, Int.pow_zero, Int.pow_zero, Int.one_mul, Int.one_mul, Int.neg_mul_neg]
theorem pow_sign {a : Int} {na : Bool} (n : Nat) (h : na = decide (a < 0)) : a ^ n = if (na && (n % 2 == 1)) then -((a.natAbs : Int) ^ n) else (a.natAbs : Int) ^ n := by
  subst h
  by_cases h1 : a < 0
  · rw [show ((a.natAbs : Nat) : Int) = -a by omega]
    rcases Nat.mod_two_eq_zero_or_one n with h2 | h2
    · rw [if_neg (by simp [h2])]
      obtain ⟨m, rfl⟩ : ∃ m, n = 2 * m := ⟨n / 2, by omega⟩
      rw [Int.pow_mul (a := a) (n := 2) (m := m), Int.pow_mul (a := -a) (n := 2) (m := m), neg_sq']
    · rw [if_pos (by simp [h1, h2])]
      obtain ⟨m, rfl⟩ : ∃ m, n = 2 * m + 1 := ⟨n / 2, by omega⟩
      rw [Int.pow_succ a (2 * m), Int.pow_succ (-a) (2 * m), Int.pow_mul (a := a) (n := 2) (m := m), Int.pow_mul (a := -a) (n := 2) (m := m), neg_sq', Int.mul_neg, Int.neg_neg]
  · rw [if_neg (by simp [h1]), show ((a.natAbs : Nat) : Int) = a by omega]
end Go.El
namespace Go.Proofs.YtddcgojpgdhefaaGreatDoor
open Go.RowKit Go.El
set_option linter.unusedVariables false
set_option maxRecDepth 100000 in
theorem Pow_err (x : Value) (a n : Int) (w : World) (hx : IntV w x a) (hn : n < 0 ∨ 4096 < n) :
    Calls Tryz.prog 26 #[x, .int .i64 n] w fun e w' => e = .returned (.tuple #[.agg #[.bool false, .slice none 0 0], .int .i64 1]) ∧ Ext w w' := by
  obtain ⟨na, ax, nx, cx, rfl, hna, hwx⟩ := hx
  clear hna hwx
  obtain ⟨B, w0, hB, hw0, hb0, hb1, he0⟩ := two w 24 24 [.bool na, .slice ax nx cx] [.bool false, .slice none 0 0]
  by_cases h : n < 0
  · go_enter Tryz.func26, Tryz.ntmps26
    go_wp2_with fail
    rw [← hw0, ← hB]
    exact bodyPost_ret (results_ct rfl rfl (intv_zero hb1)) rfl ⟨rfl, he0⟩
  · have h4 : 4096 < n := by omega
    go_enter Tryz.func26, Tryz.ntmps26
    go_wp2_with fail
    rw [← hw0, ← hB]
    exact bodyPost_ret (results_ct rfl rfl (intv_zero hb1)) rfl ⟨rfl, he0⟩
--<RS
structure PowF (W : World) (B : Nat) (ax : Option Addr) (nx cx n : Nat) (m z : Int) (L : Nat → Bool) (y : Nat → Value) (w : World) : Prop where
  e : Ext W w
  bb : Blk w B 24 [.bool false, .slice ax nx cx]
  rm : PlaceI w (B + 1)
  f0 : L 0 = true → y 13 = .pointer (some ⟨B, 1, none⟩)
  f1 : L 1 = true → y 14 = .slice ax nx cx
  f2 : L 2 = true → y 15 = .int .i64 n
  f3 : L 3 = true → ∃ a k c, y 16 = .slice a k c ∧ Words w a k c (digs m)
  f4 : L 4 = true → y 17 = .pointer (some ⟨B, 0, none⟩)
  f5 : L 5 = true → y 18 = .bool false
  f6 : L 6 = true → y 19 = .bool false
  f10 : L 10 = true → y 23 = .bool false
  f11 : L 11 = true → IntV w (y 24) z
  f12 : L 12 = true → HoldI w (B + 1) z
  f13 : L 13 = true → y 5 = .int .i64 0
theorem PowF.ext {W : World} {B : Nat} {ax : Option Addr} {nx cx n : Nat} {m z : Int} {L : Nat → Bool} {y : Nat → Value} {w w1 : World} (h : PowF W B ax nx cx n m z L y w) (he : Ext w w1) : PowF W B ax nx cx n m z L y w1 :=
  ⟨h.e.trans he, h.bb.ext he, h.rm.ext he, h.f0, h.f1, h.f2, fun z => by obtain ⟨a, k, c, e, hw⟩ := h.f3 z; exact ⟨a, k, c, e, hw.ext he⟩, h.f4, h.f5, h.f6, h.f10, fun k => (h.f11 k).ext he, fun k => (h.f12 k).ext he, h.f13⟩
-->RS
set_option maxRecDepth 100000 in
set_option maxHeartbeats 4000000 in
theorem Pow_any (x : Value) (a : Int) (n K : Nat) (w : World) (hx : IntV w x a) (hK : Fits a K) (hn : n ≤ 4096) (hb : K * n ≤ 1073741824) :
    Calls Tryz.prog 26 #[x, .int .i64 n] w fun e w' => (∃ v, e = .returned (.tuple #[v, .int .i64 0]) ∧ IntV w' v (a ^ n)) ∧ Ext w w' := by
  obtain ⟨na, ax, nx, cx, rfl, hna, hwx⟩ := hx
  have HPS : Hid (∀ b, b = (na && (n % 2 == 1)) → a ^ n = if b = true then -(val (digs ((a.natAbs : Int) ^ n))) else val (digs ((a.natAbs : Int) ^ n))) := by
    rintro b rfl
    rw [val_digs (Int.pow_nonneg (by omega))]
    exact pow_sign n hna
  have HPL : Hid (∀ (W : World) a' n' c', Words W a' n' c' (digs ((a.natAbs : Int) ^ n)) → n' ≤ 4398046511104) := by
    intro W a' n' c' h
    rw [← h.hlen]
    have := pow_len (show 0 ≤ (a.natAbs : Int) by omega) hK.abs_lt n
    omega
  have Hx := Lib.hid hwx
  have HK := Lib.hid hK
  clear hna hwx hK
  obtain ⟨B, w0, hB, hw0, hb0, hb1, he0⟩ := two w 24 24 [.bool na, .slice ax nx cx] [.bool false, .slice none 0 0]
  have h5 : (n : Int) ≤ 4096 := by omega
  go_enter Tryz.func26, Tryz.ntmps26
  go_wp2_with fail
  have HBX := Lib.hid hb0
  rw [← hw0, ← hB]
  have c0 := hb0.cell (i := 0) rfl
  have c1 := hb0.cell (i := 1) rfl
  have HB := Lib.hid hB
  clear hw0 hB hb0
  have hsz := hb1.lt
  cases na with
  | false =>
    have hz : ∀ b, b = false → a ^ n = if b = true then -(val (digs ((a.natAbs : Int) ^ n))) else val (digs ((a.natAbs : Int) ^ n)) := fun b e => HPS.out b (by rw [e]; rfl)
    have HZ := Lib.hid hz
    have HFK := HK
    have hBW : Hid (w.heap.size ≤ B + 1) := Lib.hid (by rw [← HB.out]; omega)
    clear hz
    have hb0' : Blk w0 B 24 [.bool false, .slice ax nx cx] := HBX.out
    refine wp_region_facts [13, 14, 15, 16, 17, 18, 19, 20, 21, 22, 23, 24, 5] (PowF w B ax nx cx n ((a.natAbs : Int) ^ n) (a ^ n)) (by kernel_rfl) (by kernel_rfl) ?_ ?_ ?_
    · intro y
      exact ⟨he0.drew, hb0'.drew, ⟨_, _, _, _, hb1.drew⟩, by simp, by simp, by simp, by simp, by simp, by simp, by simp, by simp, by simp, by simp, by simp⟩
    · intro Q
      clear hb0' HBX
      --<RT
      refine AllF.cons rfl ?_ ?_
      · skip
        with_reducible refine StepF.dst (d := 13) (by kernel_rfl) (by kernel_rfl) ?_
        intro L y w hi hp h K hK
        simp only [putAll, List.foldl, Act.put, List.setIfInBounds_toArray, List.set_cons_zero, List.set_cons_succ] at hK ⊢
        have HK := Lib.hid hK
        clear hK
        go_simp
        refine HK.out _ _ ?_
        have k := h.out
        exact ⟨k.e, k.bb, k.rm, fun _ => upd_eq, k.f1, k.f2, k.f3, k.f4, k.f5, k.f6, k.f10, k.f11, k.f12, k.f13⟩
      refine AllF.cons rfl ?_ ?_
      · skip
        with_reducible refine StepF.dst (d := 14) (by kernel_rfl) (by kernel_rfl) ?_
        intro L y w hi hp h K hK
        simp only [putAll, List.foldl, Act.put, List.setIfInBounds_toArray, List.set_cons_zero, List.set_cons_succ] at hK ⊢
        have HK := Lib.hid hK
        clear hK
        have g0 := h.out.f0 (hp.out 0 (by kernel_rfl))
        simp only [g0] at HK
        have cc0 := h.out.bb.cell (i := 0) rfl
        have cc1 := h.out.bb.cell (i := 1) rfl
        go_simp
        refine HK.out _ _ ?_
        have k := h.out
        exact ⟨k.e, k.bb, k.rm, k.f0, fun _ => upd_eq, k.f2, k.f3, k.f4, k.f5, k.f6, k.f10, k.f11, k.f12, k.f13⟩
      refine AllF.cons rfl ?_ ?_
      · skip
        with_reducible refine StepF.dst (d := 15) (by kernel_rfl) (by kernel_rfl) ?_
        intro L y w hi hp h K hK
        simp only [putAll, List.foldl, Act.put, List.setIfInBounds_toArray, List.set_cons_zero, List.set_cons_succ] at hK ⊢
        have HK := Lib.hid hK
        clear hK
        go_simp
        refine HK.out _ _ ?_
        have k := h.out
        exact ⟨k.e, k.bb, k.rm, k.f0, k.f1, fun _ => upd_eq, k.f3, k.f4, k.f5, k.f6, k.f10, k.f11, k.f12, k.f13⟩
      refine AllF.cons rfl ?_ ?_
      · skip
        with_reducible refine StepF.dst (d := 16) (by kernel_rfl) (by kernel_rfl) ?_
        intro L y w hi hp h K hK
        simp only [putAll, List.foldl, Act.put, List.setIfInBounds_toArray, List.set_cons_zero, List.set_cons_succ] at hK ⊢
        have HK := Lib.hid hK
        clear hK
        have g1 := h.out.f1 (hp.out 1 (by kernel_rfl))
        have g2 := h.out.f2 (hp.out 2 (by kernel_rfl))
        simp only [g1, g2] at HK
        go_simp
        refine (npow_any _ _ _ (a.natAbs : Int) n _ _ (by omega) (Hx.out.ext h.out.e) HFK.out.abs_lt (by omega) hb).mono ?_
        rintro e w1 ⟨⟨am, nm, cm, rfl, hm⟩, he1⟩
        clear g1 g2
        go_simp
        refine HK.out _ _ ?_
        have k := h.out.ext he1
        exact ⟨k.e, k.bb, k.rm, k.f0, k.f1, k.f2, fun _ => by rw [upd_eq]; exact ⟨_, _, _, rfl, hm⟩, k.f4, k.f5, k.f6, k.f10, k.f11, k.f12, k.f13⟩
      refine AllF.cons rfl ?_ ?_
      · skip
        with_reducible refine StepF.dst (d := 17) (by kernel_rfl) (by kernel_rfl) ?_
        intro L y w hi hp h K hK
        simp only [putAll, List.foldl, Act.put, List.setIfInBounds_toArray, List.set_cons_zero, List.set_cons_succ] at hK ⊢
        have HK := Lib.hid hK
        clear hK
        go_simp
        refine HK.out _ _ ?_
        have k := h.out
        exact ⟨k.e, k.bb, k.rm, k.f0, k.f1, k.f2, k.f3, fun _ => upd_eq, k.f5, k.f6, k.f10, k.f11, k.f12, k.f13⟩
      refine AllF.cons rfl ?_ ?_
      · skip
        with_reducible refine StepF.dst (d := 18) (by kernel_rfl) (by kernel_rfl) ?_
        intro L y w hi hp h K hK
        simp only [putAll, List.foldl, Act.put, List.setIfInBounds_toArray, List.set_cons_zero, List.set_cons_succ] at hK ⊢
        have HK := Lib.hid hK
        clear hK
        have g4 := h.out.f4 (hp.out 4 (by kernel_rfl))
        simp only [g4] at HK
        have cc0 := h.out.bb.cell (i := 0) rfl
        have cc1 := h.out.bb.cell (i := 1) rfl
        go_simp
        refine HK.out _ _ ?_
        have k := h.out
        exact ⟨k.e, k.bb, k.rm, k.f0, k.f1, k.f2, k.f3, k.f4, fun _ => upd_eq, k.f6, k.f10, k.f11, k.f12, k.f13⟩
      refine AllF.cons rfl ?_ ?_
      · skip
        with_reducible refine StepF.dst (d := 19) (by kernel_rfl) (by kernel_rfl) ?_
        intro L y w hi hp h K hK
        simp only [putAll, List.foldl, Act.put, List.setIfInBounds_toArray, List.set_cons_zero, List.set_cons_succ] at hK ⊢
        have HK := Lib.hid hK
        clear hK
        have g5 := h.out.f5 (hp.out 5 (by kernel_rfl))
        simp only [g5] at HK
        go_simp
        refine HK.out _ _ ?_
        have k := h.out
        exact ⟨k.e, k.bb, k.rm, k.f0, k.f1, k.f2, k.f3, k.f4, k.f5, fun _ => upd_eq, k.f10, k.f11, k.f12, k.f13⟩
      refine AllF.skip (d := 20) (dg := 19) rfl rfl rfl (by kernel_rfl) (by kernel_rfl) (by kernel_rfl) (by kernel_rfl) ?_ ?_
      · intro L y w hi hp h
        have k := h.out
        exact ⟨k.f6 (hp.out 6 (by kernel_rfl)), ⟨k.e, k.bb, k.rm, k.f0, k.f1, k.f2, k.f3, k.f4, k.f5, k.f6, k.f10, k.f11, k.f12, k.f13⟩⟩
      refine AllF.skip (d := 21) (dg := 19) rfl rfl rfl (by kernel_rfl) (by kernel_rfl) (by kernel_rfl) (by kernel_rfl) ?_ ?_
      · intro L y w hi hp h
        have k := h.out
        exact ⟨k.f6 (hp.out 6 (by kernel_rfl)), ⟨k.e, k.bb, k.rm, k.f0, k.f1, k.f2, k.f3, k.f4, k.f5, k.f6, k.f10, k.f11, k.f12, k.f13⟩⟩
      refine AllF.skip (d := 22) (dg := 19) rfl rfl rfl (by kernel_rfl) (by kernel_rfl) (by kernel_rfl) (by kernel_rfl) ?_ ?_
      · intro L y w hi hp h
        have k := h.out
        exact ⟨k.f6 (hp.out 6 (by kernel_rfl)), ⟨k.e, k.bb, k.rm, k.f0, k.f1, k.f2, k.f3, k.f4, k.f5, k.f6, k.f10, k.f11, k.f12, k.f13⟩⟩
      refine AllF.cons rfl ?_ ?_
      · skip
        with_reducible refine StepF.dst (d := 23) (by kernel_rfl) (by kernel_rfl) ?_
        intro L y w hi hp h K hK
        simp only [putAll, List.foldl, Act.put, List.setIfInBounds_toArray, List.set_cons_zero, List.set_cons_succ] at hK ⊢
        have HK := Lib.hid hK
        clear hK
        have g6 := h.out.f6 (hp.out 6 (by kernel_rfl))
        simp only [g6] at HK
        go_simp
        refine HK.out _ _ ?_
        have k := h.out
        exact ⟨k.e, k.bb, k.rm, k.f0, k.f1, k.f2, k.f3, k.f4, k.f5, k.f6, fun _ => upd_eq, k.f11, k.f12, k.f13⟩
      refine AllF.cons rfl ?_ ?_
      · skip
        with_reducible refine StepF.dst (d := 24) (by kernel_rfl) (by kernel_rfl) ?_
        intro L y w hi hp h K hK
        simp only [putAll, List.foldl, Act.put, List.setIfInBounds_toArray, List.set_cons_zero, List.set_cons_succ] at hK ⊢
        have HK := Lib.hid hK
        clear hK
        obtain ⟨am, nm, cm, g3, hm⟩ := h.out.f3 (hp.out 3 (by kernel_rfl))
        have HM := Lib.hid hm
        clear hm
        have g10 := h.out.f10 (hp.out 10 (by kernel_rfl))
        simp only [g3, g10] at HK
        go_simp
        refine (signed_any _ _ _ _ _ (a ^ n) _ HM.out (HPL.out _ _ _ _ HM.out) (HZ.out _ rfl)).mono ?_
        rintro e w1 ⟨⟨sr, ar, nr, cr, rfl, hr⟩, he1⟩
        clear g3 g10
        go_simp
        refine HK.out _ _ ?_
        have k := h.out.ext he1
        exact ⟨k.e, k.bb, k.rm, k.f0, k.f1, k.f2, k.f3, k.f4, k.f5, k.f6, k.f10, fun _ => by rw [upd_eq]; exact ⟨_, _, _, _, rfl, hr⟩, k.f12, k.f13⟩
      refine AllF.cons rfl ?_ ?_
      · skip
        with_reducible refine StepF.none ?_
        intro L y w hi hp h K hK
        simp only [putAll, List.foldl, Act.put, List.setIfInBounds_toArray, List.set_cons_zero, List.set_cons_succ] at hK ⊢
        have HK := Lib.hid hK
        clear hK
        obtain ⟨s8, a8, n8, c8, g8, h8⟩ := h.out.f11 (hp.out 11 (by kernel_rfl))
        have H8 := Lib.hid h8
        clear h8
        simp only [g8] at HK
        obtain ⟨s6, a6, n6, c6, hb6⟩ := h.out.rm
        have HB6 := Lib.hid hb6
        have cc0 := hb6.cell (i := 0) rfl
        have cc1 := hb6.cell (i := 1) rfl
        have ff0 := hb6.free 0
        have ff1 := hb6.free 1
        clear hb6
        go_simp
        refine HK.out _ ?_
        have k := h.out
        have hs := stay_st2 HB6.out (.bool s8) (.slice a8 n8 c8)
        exact ⟨ext_st2 k.e hBW.out _ _, Blk.st2_other k.bb (by omega) _ _, ⟨_, _, _, _, Blk.st2 HB6.out _ _⟩, k.f0, k.f1, k.f2, fun q => (by obtain ⟨a, k2, c, e, hw⟩ := k.f3 q; exact ⟨a, k2, c, e, hw.stay hs⟩), k.f4, k.f5, k.f6, k.f10, fun q => (k.f11 q).stay hs, fun _ => ⟨_, _, _, _, Blk.st2 HB6.out _ _, IntW.stay H8.out hs⟩, k.f13⟩
      refine AllF.cons rfl ?_ ?_
      · skip
        with_reducible refine StepF.dst (d := 5) (by kernel_rfl) (by kernel_rfl) ?_
        intro L y w hi hp h K hK
        simp only [putAll, List.foldl, Act.put, List.setIfInBounds_toArray, List.set_cons_zero, List.set_cons_succ] at hK ⊢
        have HK := Lib.hid hK
        clear hK
        go_simp
        refine HK.out _ _ ?_
        have k := h.out
        exact ⟨k.e, k.bb, k.rm, k.f0, k.f1, k.f2, k.f3, k.f4, k.f5, k.f6, k.f10, k.f11, k.f12, fun _ => upd_eq⟩
      exact trivial
      -->RT
    · intro L y w2 hL h
      obtain ⟨s8, a8, n8, c8, r4, h8⟩ := h.f12 (hL 12 (by decide))
      have e5 := h.f13 (hL 13 (by decide))
      have H8 := Lib.hid h8
      have he2 := h.e
      simp only [putAll, List.foldl, Act.put, List.setIfInBounds_toArray, List.set_cons_zero, List.set_cons_succ]
      simp only [e5]
      clear h hL h8 e5
      go_wp2_with fail
      refine bodyPost_ret (results_ct rfl rfl (load_int r4)) rfl ?_
      exact ⟨⟨_, rfl, ⟨_, _, _, _, rfl, H8.out⟩⟩, he2⟩
  | true =>
    rcases Nat.mod_two_eq_zero_or_one n with hm | hm
    · have hmi : ((n : Int).tmod 2 == 1) = false := by rw [Int.tmod_eq_emod_of_nonneg (by omega)]; simp; omega
      have hz : ∀ b, b = false → a ^ n = if b = true then -(val (digs ((a.natAbs : Int) ^ n))) else val (digs ((a.natAbs : Int) ^ n)) := fun b e => HPS.out b (by rw [e]; simp [hm])
      have KH : Hid (∀ w', Below (B + 1) w0 w' → w'.cell? ⟨B, 0, none⟩ = some (.bool true) ∧ w'.cell? ⟨B, 1, none⟩ = some (.slice ax nx cx)) := fun w' h => ⟨(h.cell (p := ⟨B, 0, none⟩) (by show B < B + 1; omega)).trans c0, (h.cell (p := ⟨B, 1, none⟩) (by show B < B + 1; omega)).trans c1⟩
      have HZ := Lib.hid hz
      clear hz
      first
      | go_region_held3
        (fun w' => w'.cell? ⟨B, 0, none⟩ = some (.bool true) ∧ w'.cell? ⟨B, 1, none⟩ = some (.slice ax nx cx))
        (first | exact KH.out _ (Below.refl _ _).drew | exact KH.out _ hx1 | exact KH.out _ hx2 | exact KH.out _ (Below.set2 hx2 (Nat.le_refl _) _ _))
        (first
        | (go_at_call 61; (with_reducible refine (npow_any _ _ _ (a.natAbs : Int) n K _ (by omega) (Hx.out.ext he0.drew) HK.out.abs_lt (by omega) hb).mono ?_); rintro e w1 ⟨⟨am, nm, cm, rfl, hm'⟩, he1⟩; have hx1 := (Below.refl (B + 1) w0).drew.trans (he1.upto (Nat.le_of_lt hsz)))
        | (go_at_call 55; (with_reducible refine (signed_any _ _ _ _ _ (a ^ n) _ hm' (HPL.out _ _ _ _ hm') (HZ.out _ rfl)).mono ?_); rintro e w2 ⟨⟨sr, ar, nr, cr, rfl, hr⟩, he2⟩; have hx2 := hx1.trans (he2.upto (Nat.le_trans (Nat.le_of_lt hsz) hx1.size)); have hb2' := hb1.drew.ext (he1.trans he2); have e0 := hb2'.cell (i := 0) rfl; have e1 := hb2'.cell (i := 1) rfl; have f0 := hb2'.free 0; have f1 := hb2'.free 1)
        )
      | fail
      go_wp2_with fail
      refine bodyPost_ret (results_ct rfl rfl (load_int (hb2'.set2 _ _))) rfl ?_
      exact ⟨⟨_, rfl, _, _, _, _, rfl, hr.1, hr.2.keep2 hb2' (by simp) (by simp) _ _⟩, Below.toExt (Below.set2 hx2 (Nat.le_refl _) _ _) he0 HB (by omega)⟩
    · have hmi : ((n : Int).tmod 2 == 1) = true := by rw [Int.tmod_eq_emod_of_nonneg (by omega)]; simp; omega
      have hz : ∀ b, b = true → a ^ n = if b = true then -(val (digs ((a.natAbs : Int) ^ n))) else val (digs ((a.natAbs : Int) ^ n)) := fun b e => HPS.out b (by rw [e]; simp [hm])
      have KH : Hid (∀ w', Below (B + 1) w0 w' → w'.cell? ⟨B, 0, none⟩ = some (.bool true) ∧ w'.cell? ⟨B, 1, none⟩ = some (.slice ax nx cx)) := fun w' h => ⟨(h.cell (p := ⟨B, 0, none⟩) (by show B < B + 1; omega)).trans c0, (h.cell (p := ⟨B, 1, none⟩) (by show B < B + 1; omega)).trans c1⟩
      have HZ := Lib.hid hz
      clear hz
      first
      | go_region_held3
        (fun w' => w'.cell? ⟨B, 0, none⟩ = some (.bool true) ∧ w'.cell? ⟨B, 1, none⟩ = some (.slice ax nx cx))
        (first | exact KH.out _ (Below.refl _ _).drew | exact KH.out _ hx1 | exact KH.out _ hx2 | exact KH.out _ (Below.set2 hx2 (Nat.le_refl _) _ _))
        (first
        | (go_at_call 61; (with_reducible refine (npow_any _ _ _ (a.natAbs : Int) n K _ (by omega) (Hx.out.ext he0.drew) HK.out.abs_lt (by omega) hb).mono ?_); rintro e w1 ⟨⟨am, nm, cm, rfl, hm'⟩, he1⟩; have hx1 := (Below.refl (B + 1) w0).drew.trans (he1.upto (Nat.le_of_lt hsz)))
        | (go_at_call 55; (with_reducible refine (signed_any _ _ _ _ _ (a ^ n) _ hm' (HPL.out _ _ _ _ hm') (HZ.out _ rfl)).mono ?_); rintro e w2 ⟨⟨sr, ar, nr, cr, rfl, hr⟩, he2⟩; have hx2 := hx1.trans (he2.upto (Nat.le_trans (Nat.le_of_lt hsz) hx1.size)); have hb2' := hb1.drew.ext (he1.trans he2); have e0 := hb2'.cell (i := 0) rfl; have e1 := hb2'.cell (i := 1) rfl; have f0 := hb2'.free 0; have f1 := hb2'.free 1)
        )
      | fail
      go_wp2_with fail
      refine bodyPost_ret (results_ct rfl rfl (load_int (hb2'.set2 _ _))) rfl ?_
      exact ⟨⟨_, rfl, _, _, _, _, rfl, hr.1, hr.2.keep2 hb2' (by simp) (by simp) _ _⟩, Below.toExt (Below.set2 hx2 (Nat.le_refl _) _ _) he0 HB (by omega)⟩
end Go.Proofs.YtddcgojpgdhefaaGreatDoor
/- integer.Gcd. -/
namespace Go.El
open Go.RowKit
theorem Words.uniq {w : World} {a : Option Addr} {n c : Nat} {l l' : List Int} (h : Words w a n c l) (h' : Words w a n c l') : l = l' := by
  apply List.ext_getElem (by rw [h.hlen, h'.hlen])
  intro i h1 h2
  obtain ⟨b, off, e, hc⟩ := h.cells i l[i] (by simp)
  obtain ⟨b', off', e', hc'⟩ := h'.cells i l'[i] (by simp)
  rw [e] at e'
  cases e'
  rw [hc] at hc'
  have e2 := Option.some.inj hc'
  injection e2
open Classical in
/-- The number that a slice's words make. -/
noncomputable def mval (w : World) (v : Value) : Nat :=
  if h : ∃ l : List Int, ∃ a n c, v = .slice a n c ∧ Words w a n c l then (val h.choose).toNat else 0
theorem mval_eq {w : World} {a : Option Addr} {n c : Nat} {l : List Int} (h : Words w a n c l) : mval w (.slice a n c) = (val l).toNat := by
  have hx : ∃ l : List Int, ∃ a' n' c', (Value.slice a n c) = .slice a' n' c' ∧ Words w a' n' c' l := ⟨l, a, n, c, rfl, h⟩
  unfold mval
  rw [dif_pos hx]
  obtain ⟨a', n', c', e, h'⟩ := hx.choose_spec
  cases e
  rw [h'.uniq h]
theorem gcd_step {p q : Int} (hp : 0 ≤ p) (hq : 0 ≤ q) : Int.gcd q (p % q) = Int.gcd p q := by
  obtain ⟨P, rfl⟩ := Int.eq_ofNat_of_zero_le hp
  obtain ⟨Q, rfl⟩ := Int.eq_ofNat_of_zero_le hq
  rw [← Int.natCast_emod, Int.gcd_natCast_natCast, Int.gcd_natCast_natCast, Nat.gcd_comm P Q, Nat.gcd_rec Q P, Nat.gcd_comm]
theorem Fits.mod {p q : Int} {k : Nat} (hp : 0 ≤ p) (hq : 0 < q) (h : Fits p k) : Fits (p % q) k := by
  have h1 := Int.emod_nonneg p (show q ≠ 0 by omega)
  have h2 := emod_le' hp hq
  unfold Fits at *
  omega
theorem fits_abs {a : Int} {k : Nat} (h : Fits a k) : Fits (a.natAbs : Int) k := by unfold Fits at *; rwa [Int.natAbs_natCast]
end Go.El
namespace Go.Proofs.YtddcgojpgdhefaaGreatDoor
open Go.RowKit Go.El
set_option linter.unusedVariables false
set_option maxRecDepth 100000 in
set_option maxHeartbeats 1000000 in
theorem gcd_any (x y : Value) (a b : Int) (w : World) (hx : IntV w x a) (hy : IntV w y b) (ha : Fits a 1073741824) (hb : Fits b 1073741824) :
    Calls Tryz.prog 38 #[x, y] w fun e w' => (∃ v, e = .returned v ∧ IntV w' v ((Int.gcd a b : Nat) : Int)) ∧ Ext w w' := by
  obtain ⟨na, ax, nx, cx, rfl, hna, hwx⟩ := hx
  obtain ⟨nb, ay, ny, cy, rfl, hnb, hwy⟩ := hy
  have hnx := ha.len
  have hny := hb.len
  rw [hwx.hlen] at hnx
  rw [hwy.hlen] at hny
  have Hx := Lib.hid hwx
  have Hy := Lib.hid hwy
  have HNa := Lib.hid hna
  have HNb := Lib.hid hnb
  clear hwx hwy hna hnb
  have HB1 := Lib.hid hb
  have HA1 := Lib.hid ha
  clear ha hb
  obtain ⟨B, w0, hB, hw0, hb0, hb1, hb2, he0⟩ := three w 24 24 24 [.bool na, .slice ax nx cx] [.bool nb, .slice ay ny cy] [.bool false, .slice none 0 0]
  go_enter Tryz.func38, Tryz.ntmps38
  go_wp2_with fail
  rw [← hw0, ← hB]
  have c0 := hb0.cell (i := 0) rfl
  have c1 := hb0.cell (i := 1) rfl
  have d0 := hb1.cell (i := 0) rfl
  have d1 := hb1.cell (i := 1) rfl
  have HB := Lib.hid hB
  clear hw0 hB hb0 hb1
  have KH : Hid (∀ w', Below (B + 1 + 1) w0 w' → w'.cell? ⟨B, 0, none⟩ = some (.bool na) ∧ w'.cell? ⟨B, 1, none⟩ = some (.slice ax nx cx) ∧ w'.cell? ⟨B + 1, 0, none⟩ = some (.bool nb) ∧ w'.cell? ⟨B + 1, 1, none⟩ = some (.slice ay ny cy)) :=
    fun w' h => ⟨(h.cell (p := ⟨B, 0, none⟩) (by show B < B + 1 + 1; omega)).trans c0, (h.cell (p := ⟨B, 1, none⟩) (by show B < B + 1 + 1; omega)).trans c1, (h.cell (p := ⟨B + 1, 0, none⟩) (by show B + 1 < B + 1 + 1; omega)).trans d0, (h.cell (p := ⟨B + 1, 1, none⟩) (by show B + 1 < B + 1 + 1; omega)).trans d1⟩
  have hsz := hb2.lt
  go_quiet (fail)
  go_wp2_with fail
  generalize hwq : w0.drewN nq = wq
  have he0q : Ext w wq := by rw [← hwq]; exact he0.drewN nq
  have hb2q : Blk wq (B + 1 + 1) 24 [.bool false, .slice none 0 0] := by rw [← hwq]; exact hb2
  clear hwq he0 hb2 hsz KH c0 c1 d0 d1
  go_loopw [5, 6] (fun u v wr => ∃ p q : Int, 0 ≤ p ∧ 0 ≤ q ∧ Fits p 1073741824 ∧ Fits q 1073741824 ∧ Int.gcd p q = Int.gcd a b ∧ Ext wq wr ∧ (∃ ua un uc, u = .slice ua un uc ∧ Words wr ua un uc (digs p)) ∧ (∃ va vn vc, v = .slice va vn vc ∧ Words wr va vn vc (digs q))) (fun _ v wr => mval wr v)
  case atStart => exact ⟨(a.natAbs : Int), (b.natAbs : Int), by omega, by omega, fits_abs HA1.out, fits_abs HB1.out, by rw [Int.gcd_natCast_natCast]; rfl, Ext.refl _, ⟨_, _, _, rfl, Hx.out.ext he0q⟩, ⟨_, _, _, rfl, Hy.out.ext he0q⟩⟩
  case round =>
    obtain ⟨p, q, hp, hq, hpf, hqf, hg, he, ⟨ua, un, uc, rfl, hu⟩, ⟨va, vn, vc, rfl, hv⟩⟩ := hrel
    have HU := Lib.hid hu
    have HV := Lib.hid hv
    have HG := Lib.hid hg
    have HPF := Lib.hid hpf
    have HQF := Lib.hid hqf
    have hun : Hid (un ≤ 1073741824) := by
      rw [← hu.hlen]; exact digs_len_le hp (by unfold Fits at hpf; omega)
    clear hu hv hg hpf hqf
    by_cases h0 : q = 0
    · subst h0
      obtain rfl : vn = 0 := by have := HV.out.hlen; rw [digs_zero] at this; exact this.symm
      have hz : Hid (∀ b', b' = false → ((Int.gcd a b : Nat) : Int) = if b' = true then -(val (digs p)) else val (digs p)) := by
        rintro b' rfl
        rw [if_neg (by simp), val_digs hp, ← HG.out]
        obtain ⟨P, rfl⟩ := Int.eq_ofNat_of_zero_le hp
        show ((Nat.gcd P 0 : Nat) : Int) = P
        rw [Nat.gcd_zero_right]
      clear hp hq
      go_wp2_with fail
      refine (signed_any _ _ _ _ _ _ _ HU.out (by have := hun.out; omega) (hz.out _ rfl)).mono ?_
      rintro e w1 ⟨⟨sr, ar, nr, cr, rfl, hr⟩, he1⟩
      have hb2' := ((hb2q.ext he).ext he1)
      have e0 := hb2'.cell (i := 0) rfl
      have e1 := hb2'.cell (i := 1) rfl
      have f0 := hb2'.free 0
      have f1 := hb2'.free 1
      go_wp2_with fail
      refine bodyPost_ret (results_c rfl rfl (load_int (hb2'.set2 _ _))) rfl ?_
      exact ⟨⟨_, rfl, _, _, _, _, rfl, hr.1, hr.2.keep2 hb2' (by simp) (by simp) _ _⟩, (Ext.store' ((he0q.trans he).trans he1) HB (by omega) 0 _).store' HB (by omega) 1 _⟩
    · have hqp : 0 < q := by omega
      have hlen := digs_pos_len hqp
      rw [HV.out.hlen] at hlen
      obtain ⟨m, rfl⟩ : ∃ m, vn = m + 1 := ⟨vn - 1, by omega⟩
      have HQP := Lib.hid hqp
      have HP := Lib.hid hp
      clear hlen hqp hp hq h0
      go_wp2_with fail
      refine (ndiv_any ua va un uc (m + 1) vc p q _ HP.out HQP.out HU.out HV.out (by have := hun.out; omega)).mono ?_
      rintro e w1 ⟨⟨qa, qn, qc, ra, rn, rc, rfl, hqw, hrw⟩, he1⟩
      have HR := Lib.hid hrw
      clear hqw hrw
      have hms : Hid (mval w1 (.slice ra rn rc) < mval wr (.slice va (m + 1) vc)) := by
        have h1 := Int.emod_nonneg p (show q ≠ 0 by have := HQP.out; omega)
        have h2 := Int.emod_lt_of_pos p HQP.out
        show mval w1 (.slice ra rn rc) < mval wr (.slice va (m + 1) vc)
        rw [mval_eq HR.out, mval_eq HV.out, val_digs h1, val_digs (Int.le_of_lt HQP.out)]
        omega
      go_wp2_with fail
      go_roundw
      case rel => exact ⟨q, p % q, Int.le_of_lt HQP.out, Int.emod_nonneg p (by have := HQP.out; omega), HQF.out, Fits.mod HP.out HQP.out HPF.out, by rw [gcd_step HP.out (Int.le_of_lt HQP.out)]; exact HG.out, he.trans he1, ⟨_, _, _, rfl, HV.out.ext he1⟩, ⟨_, _, _, rfl, HR.out⟩⟩
      case measure => exact hms.out
end Go.Proofs.YtddcgojpgdhefaaGreatDoor
/- Newton's roots: the plain law. -/
namespace Go.El
/-- r is the k-th root of a, rounded down. -/
def IsRoot (a : Int) (k : Nat) (r : Int) : Prop := 0 ≤ r ∧ r ^ k ≤ a ∧ a < (r + 1) ^ k
theorem ipow_le {x y : Int} (hx : 0 ≤ x) (h : x ≤ y) (k : Nat) : x ^ k ≤ y ^ k := by
  induction k with
  | zero => rw [Int.pow_zero, Int.pow_zero]; exact Int.le_refl _
  | succ k ih =>
    rw [Int.pow_succ, Int.pow_succ]
    exact Int.mul_le_mul ih h hx (Int.pow_nonneg (Int.le_trans hx h))
theorem IsRoot.uniq {a : Int} {k : Nat} {r s : Int} (hr : IsRoot a k r) (hs : IsRoot a k s) : r = s := by
  have h1 : ¬ r + 1 ≤ s := fun h => by
    have := ipow_le (show 0 ≤ r + 1 by have := hr.1; omega) h k
    have := hr.2.2; have := hs.2.1; omega
  have h2 : ¬ s + 1 ≤ r := fun h => by
    have := ipow_le (show 0 ≤ s + 1 by have := hs.1; omega) h k
    have := hs.2.2; have := hr.2.1; omega
  omega
theorem sq_nonneg' (y : Int) : 0 ≤ y * y := by
  rcases Int.le_total 0 y with h | h
  · exact Int.mul_nonneg h h
  · exact Int.mul_nonneg_of_nonpos_of_nonpos h h
/-- The line under the power. -/
theorem tangent {m x : Int} (hm : 0 ≤ m) (hx : 0 ≤ x) (k : Nat) : ((k : Int) + 1) * m * x ^ k ≤ m ^ (k + 1) + (k : Int) * x ^ (k + 1) := by
  induction k with
  | zero => simp [Int.pow_succ]
  | succ k ih =>
    have h1 := Int.mul_le_mul_of_nonneg_left ih hm
    have h2 : 0 ≤ ((k : Int) + 1) * x ^ k * ((x - m) * (x - m)) := Int.mul_nonneg (Int.mul_nonneg (by omega) (Int.pow_nonneg hx)) (sq_nonneg' _)
    have e : m ^ (k + 1 + 1) + ((k + 1 : Nat) : Int) * x ^ (k + 1 + 1) - (((k + 1 : Nat) : Int) + 1) * m * x ^ (k + 1) = (m * (m ^ (k + 1) + (k : Int) * x ^ (k + 1)) - m * (((k : Int) + 1) * m * x ^ k)) + ((k : Int) + 1) * x ^ k * ((x - m) * (x - m)) := by
      simp only [Int.pow_succ]
      generalize x ^ k = X
      generalize m ^ k = M
      rw [show ((k + 1 : Nat) : Int) = (k : Int) + 1 by omega]
      grind
    omega
/-- Newton's step stays above. -/
theorem newton_up {a x q n : Int} {k : Nat} (hx : 1 ≤ x) (ha : 0 ≤ a) (hq : q = a / x ^ k) (hn : n = (x * (k : Int) + q) / ((k : Int) + 1)) : a < (n + 1) ^ (k + 1) ∧ 0 ≤ n := by
  have hxk : 0 < x ^ k := Int.pow_pos (by omega)
  have hq0 : 0 ≤ q := by rw [hq]; exact Int.ediv_nonneg ha (by omega)
  have hxk0 : 0 ≤ x * (k : Int) := Int.mul_nonneg (by omega) (by omega)
  have hn0 : 0 ≤ n := by rw [hn]; exact Int.ediv_nonneg (by omega) (by omega)
  refine ⟨?_, hn0⟩
  have h1 : a < (q + 1) * x ^ k := by
    rw [hq]
    have := Int.lt_mul_of_ediv_lt hxk (show a / x ^ k < a / x ^ k + 1 by omega)
    exact this
  have h2 : x * (k : Int) + q < (n + 1) * ((k : Int) + 1) := by
    rw [hn]
    have := Int.lt_mul_of_ediv_lt (show 0 < (k : Int) + 1 by omega) (show (x * (k : Int) + q) / ((k : Int) + 1) < (x * (k : Int) + q) / ((k : Int) + 1) + 1 by omega)
    exact this
  have h3 := tangent (m := n + 1) (x := x) (by omega) (by omega) k
  have h4 : (q + 1) * x ^ k ≤ ((n + 1) * ((k : Int) + 1) - x * (k : Int)) * x ^ k := Int.mul_le_mul_of_nonneg_right (by omega) (by omega)
  have e : ((n + 1) * ((k : Int) + 1) - x * (k : Int)) * x ^ k = ((k : Int) + 1) * (n + 1) * x ^ k - (k : Int) * x ^ (k + 1) := by
    rw [Int.pow_succ]
    generalize x ^ k = X
    grind
  omega
/-- Where Newton's step does not go down, the root is found. -/
theorem newton_stop {a x q n : Int} {k : Nat} (hx : 1 ≤ x) (_ha : 0 ≤ a) (hq : q = a / x ^ k) (hn : n = (x * (k : Int) + q) / ((k : Int) + 1)) (hge : x ≤ n) : x ^ (k + 1) ≤ a := by
  have hxk : 0 < x ^ k := Int.pow_pos (by omega)
  have h1 : x * ((k : Int) + 1) ≤ x * (k : Int) + q := by
    have h2 : n * ((k : Int) + 1) ≤ x * (k : Int) + q := by
      rw [hn]; exact Int.ediv_mul_le _ (by omega)
    have h3 : x * ((k : Int) + 1) ≤ n * ((k : Int) + 1) := Int.mul_le_mul_of_nonneg_right hge (by omega)
    omega
  have h4 : x ≤ q := by rw [Int.mul_add, Int.mul_one] at h1; omega
  have h5 : q * x ^ k ≤ a := by rw [hq]; exact Int.ediv_mul_le _ (by omega)
  have h6 : x * x ^ k ≤ q * x ^ k := Int.mul_le_mul_of_nonneg_right h4 (by omega)
  rw [Int.pow_succ, Int.mul_comm]
  omega
theorem fits_blen {a : Int} {K : Nat} (h : Fits a K) : blen a.natAbs ≤ 32 * K := by
  refine blen_le ?_
  unfold Fits at h
  rw [pw_pow] at h
  exact_mod_cast h
theorem ceil_le {b k : Nat} (hb : 1 ≤ b) (hk : 1 ≤ k) : (b + k - 1) / k ≤ b := by
  refine Nat.div_le_of_le_mul ?_
  obtain ⟨b, rfl⟩ : ∃ b', b = b' + 1 := ⟨b - 1, by omega⟩
  obtain ⟨k, rfl⟩ : ∃ k', k = k' + 1 := ⟨k - 1, by omega⟩
  rw [Nat.mul_add, Nat.add_mul, Nat.mul_one, Nat.one_mul]
  generalize k * b = q
  omega
theorem ceil_int {b k : Nat} (hk : 1 ≤ k) : ((b : Int) + k - 1) / k = (((b + k - 1) / k : Nat) : Int) := by
  rw [Int.natCast_ediv, show ((b + k - 1 : Nat) : Int) = (b : Int) + k - 1 by omega]
theorem root_start {a : Int} {b k c : Nat} (ha : 0 ≤ a) (hb : a.toNat < 2 ^ b) (hk : 1 ≤ k) (hc : c = (b + k - 1) / k) : a < ((2 : Int) ^ c + 1) ^ k := by
  have h1 : b ≤ c * k := by
    rw [hc]
    have := Nat.div_add_mod (b + k - 1) k
    have := Nat.mod_lt (b + k - 1) (show 0 < k by omega)
    rw [Nat.mul_comm]; omega
  have h2 : (2 : Int) ^ (c * k) ≤ ((2 : Int) ^ c + 1) ^ k := by
    rw [Int.pow_mul]
    exact ipow_le (Int.pow_nonneg (by omega)) (by omega) k
  have h3 : a.toNat < 2 ^ (c * k) := Nat.lt_of_lt_of_le hb (Nat.pow_le_pow_right (by omega) h1)
  have h4 : (a.toNat : Int) < ((2 ^ (c * k) : Nat) : Int) := by exact_mod_cast h3
  rw [Int.natCast_pow] at h4
  rw [show (a.toNat : Int) = a by omega] at h4
  exact Int.lt_of_lt_of_le h4 h2
theorem isRoot_big {a : Int} {b k : Nat} (ha : 0 ≤ a) (hb : a.toNat < 2 ^ b) (hk : 1 ≤ k) (h : b ≤ k) : IsRoot a k (sgn a 0) := by
  by_cases h0 : a = 0
  · subst h0
    rw [sgn_eq]
    refine ⟨Int.le_refl _, ?_, ?_⟩
    · rw [show k = (k - 1) + 1 by omega, Int.pow_succ, Int.mul_zero]; exact Int.le_refl _
    · rw [Int.zero_add, Int.one_pow]; omega
  · rw [sgn_gt (show (0 : Int) < a by omega)]
    refine ⟨by omega, by rw [Int.one_pow]; omega, ?_⟩
    have h3 : a.toNat < 2 ^ k := Nat.lt_of_lt_of_le hb (Nat.pow_le_pow_right (by omega) h)
    have h4 : (a.toNat : Int) < ((2 ^ k : Nat) : Int) := by exact_mod_cast h3
    rw [Int.natCast_pow] at h4
    rw [show (a.toNat : Int) = a by omega] at h4
    exact h4
end Go.El
/- integer.Root, walked. -/
namespace Go.Proofs.YtddcgojpgdhefaaGreatDoor
open Go.RowKit Go.El
set_option linter.unusedVariables false
set_option maxRecDepth 100000 in
set_option maxHeartbeats 1000000 in
theorem Root_err (x : Value) (a k : Int) (w : World) (hx : IntV w x a) (hk : a < 0 ∨ k < 1) :
    Calls Tryz.prog 27 #[x, .int .i64 k] w fun e w' => e = .returned (.tuple #[.agg #[.bool false, .slice none 0 0], .int .i64 1]) ∧ Ext w w' := by
  obtain ⟨na, ax, nx, cx, rfl, hna, hwx⟩ := hx
  obtain ⟨B, w0, hB, hw0, hb0, hb1, he0⟩ := two w 24 24 [.bool na, .slice ax nx cx] [.bool false, .slice none 0 0]
  cases na with
  | true =>
    clear hna hwx hk
    go_enter Tryz.func27, Tryz.ntmps27
    go_wp2_with fail
    rw [← hw0, ← hB]
    exact bodyPost_ret (results_ct rfl rfl (intv_zero hb1)) rfl ⟨rfl, he0⟩
  | false =>
    have h0 := of_decide_eq_false hna.symm
    have h1 : decide (k < 1) = true := by simp; omega
    have h2 : k < 1 := by omega
    clear hna hwx hk h0
    go_enter Tryz.func27, Tryz.ntmps27
    go_wp2_with fail
    rw [← hw0, ← hB]
    exact bodyPost_ret (results_ct rfl rfl (intv_zero hb1)) rfl ⟨rfl, he0⟩
set_option maxRecDepth 100000 in
set_option maxHeartbeats 1000000 in
theorem Root_big (x : Value) (a : Int) (k : Nat) (w : World) (hx : IntV w x a) (ha : Fits a 1000) (h0 : 0 ≤ a) (hk : 1 ≤ k) (hk2 : k ≤ 9223372036854775807) (hbig : blen a.natAbs ≤ k) :
    Calls Tryz.prog 27 #[x, .int .i64 k] w fun e w' => (∃ v r, e = .returned (.tuple #[v, .int .i64 0]) ∧ IntV w' v r ∧ IsRoot a k r) ∧ Ext w w' := by
  have HX := Lib.hid hx
  obtain ⟨na, ax, nx, cx, rfl, hna, hwx⟩ := hx
  obtain rfl : na = false := by rw [hna]; simp [h0]
  obtain ⟨B, w0, hB, hw0, hb0, hb1, he0⟩ := two w 24 24 [.bool false, .slice ax nx cx] [.bool false, .slice none 0 0]
  have hk3 : decide ((k : Int) < 1) = false := by simp; omega
  have HA := Lib.hid ha
  have HR : Hid (IsRoot a k (sgn a 0)) := isRoot_big h0 (b := blen a.natAbs) (by have := blen_lt a.natAbs; rwa [show a.natAbs = a.toNat by omega] at this ⊢) hk hbig
  clear hna hwx ha
  obtain ⟨s, hs, hs0, hs1⟩ : ∃ s : Int, s = sgn a 0 ∧ 0 ≤ s ∧ s ≤ 1 := ⟨_, rfl, by have := sgn_cases a 0; omega, by have := sgn_cases a 0; omega⟩
  obtain ⟨bl, hbl⟩ : ∃ bl, bl = blen a.natAbs := ⟨_, rfl⟩
  rw [← hbl] at hbig
  have hkb : decide ((bl : Int) ≤ (k : Int)) = true := by simp; omega
  have HS := Lib.hid hs
  have HBl := Lib.hid hbl
  have H0 := Lib.hid h0
  clear hs hbl h0
  go_enter Tryz.func27, Tryz.ntmps27
  go_wp2_with fail
  rw [← hw0, ← hB]
  have c0 := hb0.cell (i := 0) rfl
  have c1 := hb0.cell (i := 1) rfl
  have HB := Lib.hid hB
  clear hw0 hB hb0
  refine (bits_any _ a _ (HX.out.ext he0) (HA.out.mono (by omega))).mono ?_
  rintro e w1 ⟨rfl, he1⟩
  rw [← HBl.out]
  have d0 := he1.cell c0
  have d1 := he1.cell c1
  go_wp2_with fail
  refine (sign_any _ a _ (HX.out.ext (he0.trans he1))).mono ?_
  rintro e w2 ⟨rfl, he2⟩
  rw [← HS.out]
  go_wp2_with fail
  refine (natural_any s _ (by omega) (by omega)).mono ?_
  rintro e w3 ⟨⟨na, nn, nc, rfl, hn, hnn⟩, he3⟩
  have HN := Lib.hid hn
  clear hn
  go_wp2_with fail
  refine (signed_any _ _ _ _ _ s _ HN.out (by omega) (by rw [if_neg (by simp), val_digs hs0])).mono ?_
  rintro e w4 ⟨⟨sr, ar, nr, cr, rfl, hr⟩, he4⟩
  have hb2' := ((((hb1.ext he1).ext he2).ext he3).ext he4)
  have e0 := hb2'.cell (i := 0) rfl
  have e1 := hb2'.cell (i := 1) rfl
  have f0 := hb2'.free 0
  have f1 := hb2'.free 1
  go_wp2_with fail
  refine bodyPost_ret (results_ct rfl rfl (load_int (hb2'.set2 _ _))) rfl ?_
  exact ⟨⟨_, s, rfl, ⟨_, _, _, _, rfl, hr.1, hr.2.keep2 hb2' (by simp) (by simp) _ _⟩, by rw [HS.out]; exact HR.out⟩, ((((he0.trans he1).trans he2).trans he3).trans he4).store' HB (by omega) 0 _ |>.store' HB (by omega) 1 _⟩
end Go.Proofs.YtddcgojpgdhefaaGreatDoor
/- integer.Root, Newton's loop. -/
namespace Go.Proofs.YtddcgojpgdhefaaGreatDoor
open Go.RowKit Go.El
set_option linter.unusedVariables false
set_option maxRecDepth 100000 in
set_option maxHeartbeats 2000000 in
theorem Root_newton (x : Value) (a : Int) (k : Nat) (w : World) (hx : IntV w x a) (ha : Fits a 1000) (h0 : 0 ≤ a) (hk : 1 ≤ k) (hbig : k < blen a.natAbs) :
    Calls Tryz.prog 27 #[x, .int .i64 k] w fun e w' => (∃ v r, e = .returned (.tuple #[v, .int .i64 0]) ∧ IntV w' v r ∧ IsRoot a k r) ∧ Ext w w' := by
  have HX := Lib.hid hx
  obtain ⟨na, ax, nx, cx, rfl, hna, hwx⟩ := hx
  obtain rfl : na = false := by rw [hna]; simp [h0]
  obtain ⟨B, w0, hB, hw0, hb0, hb1, he0⟩ := two w 24 24 [.bool false, .slice ax nx cx] [.bool false, .slice none 0 0]
  have hk3 : decide ((k : Int) < 1) = false := by simp; omega
  obtain ⟨bl, hbl⟩ : ∃ bl, bl = blen a.natAbs := ⟨_, rfl⟩
  have hbl2 : bl ≤ 32000 := by rw [hbl]; exact fits_blen ha
  rw [← hbl] at hbig
  have hkb : decide ((bl : Int) ≤ (k : Int)) = false := by simp; omega
  obtain ⟨c, hc⟩ : ∃ c, c = (bl + k - 1) / k := ⟨_, rfl⟩
  have hcb : c ≤ bl := by rw [hc]; exact ceil_le (by omega) hk
  have HCI : Hid (((bl : Int) + k - 1) / k = (c : Int)) := by rw [hc]; exact ceil_int hk
  have HX0 := Lib.hid (HX.out.ext he0)
  have Hx := Lib.hid (hwx.ext he0)
  have HA := Lib.hid ha
  have HBl := Lib.hid hbl
  have HC := Lib.hid hc
  have H0 := Lib.hid h0
  clear hna hwx ha hbl hc h0
  go_enter Tryz.func27, Tryz.ntmps27
  go_wp2_with fail
  rw [← hw0, ← hB]
  have c0 := hb0.cell (i := 0) rfl
  have c1 := hb0.cell (i := 1) rfl
  have HB := Lib.hid hB
  have HB1 := Lib.hid hb1
  clear hw0 hB hb0 hb1
  refine (bits_any _ a _ HX0.out (HA.out.mono (by omega))).mono ?_
  rintro e w1 ⟨rfl, he1⟩
  rw [← HBl.out]
  have d0 := he1.cell c0
  have d1 := he1.cell c1
  go_wp2_with fail
  have KH : Hid (∀ w', Ext w1 w' → w'.cell? ⟨B, 0, none⟩ = some (.bool false) ∧ w'.cell? ⟨B, 1, none⟩ = some (.slice ax nx cx)) := fun w' h => ⟨h.cell d0, h.cell d1⟩
  have wq1 : IntKind.i64.wrap ((bl : Int) + k) = (bl : Int) + k := IntWalk.i64_in _ (by omega)
  have wq2 : IntKind.i64.wrap ((bl : Int) + k - 1) = (bl : Int) + k - 1 := IntWalk.i64_in _ (by omega)
  have wq3 : IntKind.i64.wrap (c : Int) = (c : Int) := IntWalk.i64_in _ (by omega)
  have wq4 : ((k : Int) == 0) = false := by simp; omega
  have wq5 : ((bl : Int) + k - 1).tdiv k = (c : Int) := by rw [Int.tdiv_eq_ediv_of_nonneg (by omega)]; exact HCI.out
  have wq6 : ¬ (k : Int) = 0 := by omega
  have wq7 : ¬ k = 0 := by omega
  go_region_held3
    (fun w' => w'.cell? ⟨B, 0, none⟩ = some (.bool false) ∧ w'.cell? ⟨B, 1, none⟩ = some (.slice ax nx cx))
    (first | exact KH.out _ (Ext.refl _).drew | exact KH.out _ ((Ext.refl w1).drew.trans he2) | exact KH.out _ (((Ext.refl w1).drew.trans he2).trans he3) | exact KH.out _ ((((Ext.refl w1).drew.trans he2).trans he3).trans he4))
    (first
    | (go_at_call 60; (with_reducible refine (natural_any 2 _ (by omega) (by omega)).mono ?_); rintro e w2 ⟨⟨ta, tn, tc, rfl, ht, htn⟩, he2⟩)
    | (go_at_call 33; (with_reducible refine (bits_any _ a _ (HX0.out.ext ((he1.drew).trans he2)) (HA.out.mono (by omega))).mono ?_); rintro e w3 ⟨rfl, he3⟩; rw [← HBl.out])
    | (go_at_call 61; (try rw [HCI.out]); (with_reducible refine (npow_any _ _ _ 2 c 1 _ (by omega) (ht.ext he3) (by rw [pw_one]; omega) (by omega) (by omega)).mono ?_); rintro e w4 ⟨⟨ra, rn, rc, rfl, hr⟩, he4⟩)
    )
  clear wq1 wq2 wq3 wq4 wq5 wq6 wq7
  have HR0 := Lib.hid hr
  have HE4 : Ext w w4 := (((he0.trans he1).drew.trans he2).trans he3).trans he4
  have HB4 := Lib.hid (((((HB1.out.ext he1).drew).ext he2).ext he3).ext he4)
  have HX4 := Lib.hid ((((Hx.out.ext he1.drew).ext he2).ext he3).ext he4)
  clear hr ht htn he1 he2 he3 he4 d0 d1 c0 c1 KH HX0 Hx HB1 he0 HX HCI
  obtain ⟨kk, hkk, HK⟩ : ∃ kk : Nat, (k : Int) - 1 = (kk : Int) ∧ Hid (k = kk + 1) := ⟨k - 1, by omega, show k = k - 1 + 1 by omega⟩
  have HA0 : Hid (a.natAbs = a.toNat ∧ (a.natAbs : Int) = a) := by have := H0.out; exact ⟨by omega, by omega⟩
  have HA1 : Hid (1 ≤ a) := by
    have h1 := H0.out
    have h2 := HBl.out
    show 1 ≤ a
    by_cases h3 : a = 0
    · subst h3; rw [show blen (Int.natAbs 0) = 0 from rfl] at h2; omega
    · omega
  have HXn : Hid (nx ≤ 1000) := by
    have := HA.out.len
    rwa [HX4.out.hlen] at this
  go_wp2_with fail
  go_loopw [7] (fun r wr => ∃ root : Int, 1 ≤ root ∧ root ≤ 2 ^ c ∧ a < (root + 1) ^ k ∧ Ext w4 wr ∧ (∃ ra rn rc, r = .slice ra rn rc ∧ Words wr ra rn rc (digs root))) (fun r wr => mval wr r)
  case atStart =>
    have h2 : (0 : Int) < 2 ^ c := Int.pow_pos (by omega)
    exact ⟨2 ^ c, by omega, Int.le_refl _, root_start H0.out (b := bl) (by rw [HBl.out, ← HA0.out.1]; exact blen_lt _) hk HC.out, Ext.refl _, ⟨_, _, _, rfl, HR0.out⟩⟩
  case round =>
    obtain ⟨root, hr1, hrc, hup, he, ⟨ra', rn', rc', rfl, hr⟩⟩ := hrel
    have HR := Lib.hid hr
    have HRC := Lib.hid hrc
    have HUP := Lib.hid hup
    have HR1 := Lib.hid hr1
    have hrK : root < pw (c / 32 + 1) := by
      refine Int.lt_of_le_of_lt hrc ?_
      rw [pw_pow, Int.natCast_pow]
      have : (2 : Nat) ^ c < 2 ^ (32 * (c / 32 + 1)) := Nat.pow_lt_pow_right (by omega) (by omega)
      have h3 : ((2 ^ c : Nat) : Int) < ((2 ^ (32 * (c / 32 + 1)) : Nat) : Int) := by exact_mod_cast this
      rwa [Int.natCast_pow, Int.natCast_pow] at h3
    have hKk : (c / 32 + 1) * kk ≤ 1073741824 := by
      have h1 : (c / 32 + 1) * kk ≤ 1001 * kk := Nat.mul_le_mul_right _ (by omega)
      have := HK.out
      omega
    have HRK := Lib.hid hrK
    have HKK := Lib.hid hKk
    clear hr hrc hup hr1 hrK hKk
    have hkn : kk ≤ 32000 := by have := HK.out; omega
    go_wp2_with fail
    refine (npow_any _ _ _ root kk (c / 32 + 1) _ (by have := HR1.out; omega) HR.out HRK.out (by omega) HKK.out).mono ?_
    rintro e w5 ⟨⟨pa, pn, pc, rfl, hp⟩, he5⟩
    have HP := Lib.hid hp
    clear hp
    have HRP : Hid (0 < root ^ kk) := Int.pow_pos (by have := HR1.out; omega)
    go_wp2_with fail
    refine (ndiv_any _ _ _ _ _ _ (a.natAbs : Int) (root ^ kk) _ (by omega) HRP.out (HX4.out.ext (he.trans he5)) HP.out (by have := HXn.out; omega)).mono ?_
    rintro e w6 ⟨⟨qa, qn, qc, sa, sn, sc, rfl, hq, hs⟩, he6⟩
    have HQ := Lib.hid hq
    clear hq hs
    go_wp2_with fail
    have hq0 : 0 ≤ (a.natAbs : Int) / root ^ kk := Int.ediv_nonneg (by omega) (Int.le_of_lt HRP.out)
    have HQ0 := Lib.hid hq0
    clear hq0
    have HQn : Hid (qn ≤ 1000) := by
      show qn ≤ 1000
      rw [← HQ.out.hlen]
      refine Nat.le_trans (div_len (show 0 ≤ (a.natAbs : Int) by omega) HRP.out) ?_
      rw [HX4.out.hlen]; exact HXn.out
    have HRn : Hid (rn' ≤ 1001) := by
      show rn' ≤ 1001
      rw [← HR.out.hlen]
      exact Nat.le_trans (digs_len_le (by have := HR1.out; omega) HRK.out) (by omega)
    refine (natural_any (kk : Int) _ (by omega) (by omega)).mono ?_
    rintro e w7 ⟨⟨ka, kn, kc, rfl, hkw, hkn2⟩, he7⟩
    have HKw := Lib.hid hkw
    clear hkw
    go_wp2_with fail
    refine (nmul_any _ _ _ _ _ _ _ _ _ (HR.out.ext ((he5.trans he6).trans he7)) HKw.out (by have := HRn.out; omega) (by omega)).mono ?_
    rintro e w8 ⟨⟨ma, mn, mc, rfl, hm⟩, he8⟩
    rw [val_digs (show 0 ≤ root by have := HR1.out; omega), val_digs (show 0 ≤ (kk : Int) by omega)] at hm
    have HM := Lib.hid hm
    have HM0 : Hid (0 ≤ root * (kk : Int)) := Int.mul_nonneg (by have := HR1.out; omega) (by omega)
    have HMn : Hid (mn ≤ 1003) := by
      show mn ≤ 1003
      rw [← hm.hlen]
      refine digs_len_le HM0.out ?_
      rw [show (1003 : Nat) = 1001 + 2 from rfl, pw_add]
      have h1 : root < pw 1001 := Int.lt_of_lt_of_le HRK.out (pw_le (by omega))
      have h2 : (kk : Int) < pw 2 := by rw [pw_pow]; show (kk : Int) < 18446744073709551616; omega
      have h3 : root * (kk : Int) ≤ root * pw 2 := Int.mul_le_mul_of_nonneg_left (Int.le_of_lt h2) (by have := HR1.out; omega)
      have h4 : root * pw 2 < pw 1001 * pw 2 := Int.mul_lt_mul_of_pos_right h1 (pw_pos 2)
      omega
    clear hm
    go_wp2_with fail
    refine (nadd_any _ _ _ _ _ _ _ _ _ HM.out (HQ.out.ext (he7.trans he8)) (by have := HMn.out; omega) (by have := HQn.out; omega)).mono ?_
    rintro e w9 ⟨⟨sa', sn', sc', rfl, hs⟩, he9⟩
    rw [val_digs HM0.out, val_digs HQ0.out] at hs
    have HS := Lib.hid hs
    have HSn : Hid (sn' ≤ 1004) := by
      show sn' ≤ 1004
      rw [← hs.hlen]
      have h1 := digs_len_lt HM0.out
      rw [HM.out.hlen] at h1
      have h2 := digs_len_lt HQ0.out
      rw [HQ.out.hlen] at h2
      have h3 := pw_le (show mn ≤ 1003 from HMn.out)
      have h4 := pw_le (show qn ≤ 1003 by have := HQn.out; omega)
      have := HM0.out
      have := HQ0.out
      refine digs_len_le (by omega) ?_
      rw [show (1004 : Nat) = 1003 + 1 from rfl, pw]
      have := pw_pos 1003
      omega
    clear hs
    go_wp2_with fail
    refine (natural_any (k : Int) _ (by omega) (by omega)).mono ?_
    rintro e w10 ⟨⟨ja, jn, jc, rfl, hj, hjn⟩, he10⟩
    have HJ := Lib.hid hj
    clear hj
    go_wp2_with fail
    refine (ndiv_any _ _ _ _ _ _ (root * (kk : Int) + (a.natAbs : Int) / root ^ kk) (k : Int) _ (by have := HM0.out; have := HQ0.out; omega) (by omega) (HS.out.ext he10) HJ.out (by have := HSn.out; omega)).mono ?_
    rintro e w11 ⟨⟨na, nn, nc, ea, en, ec, rfl, hn, he_⟩, he11⟩
    have HN := Lib.hid hn
    clear hn he_
    obtain ⟨next, hnext⟩ : ∃ next, next = (root * (kk : Int) + (a.natAbs : Int) / root ^ kk) / (k : Int) := ⟨_, rfl⟩
    rw [← hnext] at HN
    have HU := newton_up (a := a) (x := root) (q := (a.natAbs : Int) / root ^ kk) (n := next) (k := kk) HR1.out (by have := HA1.out; omega) (by rw [HA0.out.2]) (by rw [hnext, show (k : Int) = (kk : Int) + 1 by omega])
    have HU1 := Lib.hid HU
    have HSt : Hid (root ≤ next → root ^ (kk + 1) ≤ a) := fun h => newton_stop (a := a) (x := root) (q := (a.natAbs : Int) / root ^ kk) (n := next) (k := kk) HR1.out (by have := HA1.out; omega) (by rw [HA0.out.2]) (by rw [hnext, show (k : Int) = (kk : Int) + 1 by omega]) h
    have HNe := Lib.hid hnext
    clear hnext HU
    have he12 := ((((((he5.trans he6).trans he7).trans he8).trans he9).trans he10).trans he11)
    have HRw := Lib.hid (HR.out.ext he12)
    go_wp2_with fail
    refine (ncmp_any _ _ _ _ _ _ next root _ HU1.out.2 (by have := HR1.out; omega) HN.out HRw.out).mono ?_
    rintro e w12 ⟨rfl, hd⟩
    obtain ⟨d, rfl⟩ := hd
    obtain ⟨s, hs⟩ : ∃ s, s = sgn next root := ⟨_, rfl⟩
    have hsc := sgn_cases next root
    rw [← hs] at hsc ⊢
    clear hs
    by_cases hge : root ≤ next
    · have hs0 : 0 ≤ s := by omega
      have hs1 : decide (0 ≤ s) = true := decide_eq_true hs0
      have HGE := Lib.hid hge
      clear hsc hge
      go_wp2_with fail
      refine (signed_any _ _ _ _ _ root _ (HRw.out.ext ((Ext.refl _).drewN d)) (by have := HRn.out; omega) (by rw [if_neg (by simp), val_digs (by have := HR1.out; omega)])).mono ?_
      rintro e w13 ⟨⟨sr, ar, nr, cr, rfl, hr⟩, he13⟩
      have he14 := (he12.drewN d).trans he13
      have hb2' := ((HB4.out.ext he).ext he14)
      have e0 := hb2'.cell (i := 0) rfl
      have e1 := hb2'.cell (i := 1) rfl
      have f0 := hb2'.free 0
      have f1 := hb2'.free 1
      go_wp2_with fail
      refine bodyPost_ret (results_ct rfl rfl (load_int (hb2'.set2 _ _))) rfl ?_
      exact ⟨⟨_, root, rfl, ⟨_, _, _, _, rfl, hr.1, hr.2.keep2 hb2' (by simp) (by simp) _ _⟩, ⟨by have := HR1.out; omega, by rw [HK.out]; exact HSt.out HGE.out, HUP.out⟩⟩, ((HE4.trans he).trans he14).store' HB (by omega) 0 _ |>.store' HB (by omega) 1 _⟩
    · have hs0 : s < 0 := by omega
      have hs1 : decide (0 ≤ s) = false := decide_eq_false (by omega)
      have HGE := Lib.hid hge
      have HN1 : Hid (1 ≤ next) := by
        show 1 ≤ next
        by_cases h3 : next = 0
        · have h4 := HU1.out.1
          rw [h3, Int.zero_add, Int.one_pow] at h4
          have := HA1.out
          omega
        · have := HU1.out.2; omega
      have hms : Hid (mval (w11.drewN d) (.slice na nn nc) < mval wr (.slice ra' rn' rc')) := by
        show mval (w11.drewN d) (.slice na nn nc) < mval wr (.slice ra' rn' rc')
        rw [mval_eq (HN.out.ext ((Ext.refl _).drewN d)), mval_eq HR.out, val_digs (by have := HN1.out; omega), val_digs (by have := HR1.out; omega)]
        have := HN1.out
        have := HR1.out
        omega
      clear hsc hge
      go_wp2_with fail
      go_roundw
      case rel => exact ⟨next, HN1.out, by have := HRC.out; have := HGE.out; omega, by rw [HK.out]; exact HU1.out.1, he.trans (he12.drewN d), ⟨_, _, _, rfl, HN.out.ext ((Ext.refl _).drewN d)⟩⟩
      case measure => exact hms.out
theorem Root_any (x : Value) (a : Int) (k : Nat) (w : World) (hx : IntV w x a) (ha : Fits a 1000) (h0 : 0 ≤ a) (hk : 1 ≤ k) (hk2 : k ≤ 9223372036854775807) :
    Calls Tryz.prog 27 #[x, .int .i64 k] w fun e w' => (∃ v r, e = .returned (.tuple #[v, .int .i64 0]) ∧ IntV w' v r ∧ IsRoot a k r) ∧ Ext w w' := by
  by_cases h : blen a.natAbs ≤ k
  · exact Root_big x a k w hx ha h0 hk hk2 h
  · exact Root_newton x a k w hx ha h0 hk (by omega)
end Go.Proofs.YtddcgojpgdhefaaGreatDoor
