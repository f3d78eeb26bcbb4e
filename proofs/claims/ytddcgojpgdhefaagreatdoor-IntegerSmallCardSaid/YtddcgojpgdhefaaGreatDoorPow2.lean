/- integer.Pow. -/
import Derived.Test.YtddcgojpgdhefaaGreatDoorPow
import Derived.Test.YtddcgojpgdhefaaGreatDoorRegLib
namespace Go.El
theorem Fits.abs_lt {a : Int} {K : Nat} (h : Fits a K) : (a.natAbs : Int) < pw K := h
theorem neg_sq' (a : Int) : (-a) ^ 2 = a ^ 2 := by
  rw [show (2 : Nat) = 1 + 1 from rfl, Int.pow_succ, Int.pow_succ, Int.pow_succ, Int.pow_succ, Int.pow_zero, Int.pow_zero, Int.one_mul, Int.one_mul, Int.neg_mul_neg]
theorem pow_sign {a : Int} {na : Bool} (n : Nat) (h : na = decide (a < 0)) : a ^ n = if (na && (n % 2 == 1)) then -((a.natAbs : Int) ^ n) else (a.natAbs : Int) ^ n := by
  subst h
  by_cases h1 : a < 0
  · rw [show ((a.natAbs : Nat) : Int) = -a by omega]
    rcases Nat.mod_two_eq_zero_or_one n with h2 | h2
    · rw [if_neg (by simp [h2])]
      obtain ⟨m, rfl⟩ : ∃ m, n = 2 * m := ⟨n / 2, by omega⟩
      rw [Int.pow_mul (a := a) (n := 2) (m := m), Int.pow_mul (a := -a) (n := 2) (m := m), neg_sq']
    · rw [if_pos (by simp [h1, h2])]
      obtain ⟨m, rfl⟩ : ∃ m, n = 2 * m + 1 := ⟨n / 2, by omega⟩
      rw [Int.pow_succ a (2 * m), Int.pow_succ (-a) (2 * m), Int.pow_mul (a := a) (n := 2) (m := m), Int.pow_mul (a := -a) (n := 2) (m := m), neg_sq', Int.mul_neg, Int.neg_neg]
  · rw [if_neg (by simp [h1]), show ((a.natAbs : Nat) : Int) = a by omega]
end Go.El
namespace Go.Proofs.YtddcgojpgdhefaaGreatDoor
open Go.RowKit Go.El
set_option linter.unusedVariables false
set_option maxRecDepth 100000 in
theorem Pow_err (x : Value) (a n : Int) (w : World) (hx : IntV w x a) (hn : n < 0 ∨ 4096 < n) :
    Calls Tryz.prog 26 #[x, .int .i64 n] w fun e w' => e = .returned (.tuple #[.agg #[.bool false, .slice none 0 0], .int .i64 1]) ∧ Ext w w' := by
  obtain ⟨na, ax, nx, cx, rfl, hna, hwx⟩ := hx
  clear hna hwx
  obtain ⟨B, w0, hB, hw0, hb0, hb1, he0⟩ := two w 24 24 [.bool na, .slice ax nx cx] [.bool false, .slice none 0 0]
  by_cases h : n < 0
  · go_enter Tryz.func26, Tryz.ntmps26
    go_wp2_with fail
    rw [← hw0, ← hB]
    exact bodyPost_ret (results_ct rfl rfl (intv_zero hb1)) rfl ⟨rfl, he0⟩
  · have h4 : 4096 < n := by omega
    go_enter Tryz.func26, Tryz.ntmps26
    go_wp2_with fail
    rw [← hw0, ← hB]
    exact bodyPost_ret (results_ct rfl rfl (intv_zero hb1)) rfl ⟨rfl, he0⟩
--<RS
structure PowF (W : World) (B : Nat) (ax : Option Addr) (nx cx n : Nat) (m z : Int) (L : Nat → Bool) (y : Nat → Value) (w : World) : Prop where
  e : Ext W w
  bb : Blk w B 24 [.bool false, .slice ax nx cx]
  rm : PlaceI w (B + 1)
  f0 : L 0 = true → y 13 = .pointer (some ⟨B, 1, none⟩)
  f1 : L 1 = true → y 14 = .slice ax nx cx
  f2 : L 2 = true → y 15 = .int .i64 n
  f3 : L 3 = true → ∃ a k c, y 16 = .slice a k c ∧ Words w a k c (digs m)
  f4 : L 4 = true → y 17 = .pointer (some ⟨B, 0, none⟩)
  f5 : L 5 = true → y 18 = .bool false
  f6 : L 6 = true → y 19 = .bool false
  f10 : L 10 = true → y 23 = .bool false
  f11 : L 11 = true → IntV w (y 24) z
  f12 : L 12 = true → HoldI w (B + 1) z
  f13 : L 13 = true → y 5 = .int .i64 0
theorem PowF.ext {W : World} {B : Nat} {ax : Option Addr} {nx cx n : Nat} {m z : Int} {L : Nat → Bool} {y : Nat → Value} {w w1 : World} (h : PowF W B ax nx cx n m z L y w) (he : Ext w w1) : PowF W B ax nx cx n m z L y w1 :=
  ⟨h.e.trans he, h.bb.ext he, h.rm.ext he, h.f0, h.f1, h.f2, fun z => by obtain ⟨a, k, c, e, hw⟩ := h.f3 z; exact ⟨a, k, c, e, hw.ext he⟩, h.f4, h.f5, h.f6, h.f10, fun k => (h.f11 k).ext he, fun k => (h.f12 k).ext he, h.f13⟩
-->RS
set_option maxRecDepth 100000 in
set_option maxHeartbeats 4000000 in
theorem Pow_any (x : Value) (a : Int) (n K : Nat) (w : World) (hx : IntV w x a) (hK : Fits a K) (hn : n ≤ 4096) (hb : K * n ≤ 1073741824) :
    Calls Tryz.prog 26 #[x, .int .i64 n] w fun e w' => (∃ v, e = .returned (.tuple #[v, .int .i64 0]) ∧ IntV w' v (a ^ n)) ∧ Ext w w' := by
  obtain ⟨na, ax, nx, cx, rfl, hna, hwx⟩ := hx
  have HPS : Hid (∀ b, b = (na && (n % 2 == 1)) → a ^ n = if b = true then -(val (digs ((a.natAbs : Int) ^ n))) else val (digs ((a.natAbs : Int) ^ n))) := by
    rintro b rfl
    rw [val_digs (Int.pow_nonneg (by omega))]
    exact pow_sign n hna
  have HPL : Hid (∀ (W : World) a' n' c', Words W a' n' c' (digs ((a.natAbs : Int) ^ n)) → n' ≤ 4398046511104) := by
    intro W a' n' c' h
    rw [← h.hlen]
    have := pow_len (show 0 ≤ (a.natAbs : Int) by omega) hK.abs_lt n
    omega
  have Hx := Lib.hid hwx
  have HK := Lib.hid hK
  clear hna hwx hK
  obtain ⟨B, w0, hB, hw0, hb0, hb1, he0⟩ := two w 24 24 [.bool na, .slice ax nx cx] [.bool false, .slice none 0 0]
  have h5 : (n : Int) ≤ 4096 := by omega
  go_enter Tryz.func26, Tryz.ntmps26
  go_wp2_with fail
  have HBX := Lib.hid hb0
  rw [← hw0, ← hB]
  have c0 := hb0.cell (i := 0) rfl
  have c1 := hb0.cell (i := 1) rfl
  have HB := Lib.hid hB
  clear hw0 hB hb0
  have hsz := hb1.lt
  cases na with
  | false =>
    have hz : ∀ b, b = false → a ^ n = if b = true then -(val (digs ((a.natAbs : Int) ^ n))) else val (digs ((a.natAbs : Int) ^ n)) := fun b e => HPS.out b (by rw [e]; rfl)
    have HZ := Lib.hid hz
    have HFK := HK
    have hBW : Hid (w.heap.size ≤ B + 1) := Lib.hid (by rw [← HB.out]; omega)
    clear hz
    have hb0' : Blk w0 B 24 [.bool false, .slice ax nx cx] := HBX.out
    refine wp_region_facts [13, 14, 15, 16, 17, 18, 19, 20, 21, 22, 23, 24, 5] (PowF w B ax nx cx n ((a.natAbs : Int) ^ n) (a ^ n)) (by kernel_rfl) (by kernel_rfl) ?_ ?_ ?_
    · intro y
      exact ⟨he0.drew, hb0'.drew, ⟨_, _, _, _, hb1.drew⟩, by simp, by simp, by simp, by simp, by simp, by simp, by simp, by simp, by simp, by simp, by simp⟩
    · intro Q
      clear hb0' HBX
      --<RT
      refine AllF.cons rfl ?_ ?_
      · skip
        with_reducible refine StepF.dst (d := 13) (by kernel_rfl) (by kernel_rfl) ?_
        intro L y w hi hp h K hK
        simp only [putAll, List.foldl, Act.put, List.setIfInBounds_toArray, List.set_cons_zero, List.set_cons_succ] at hK ⊢
        have HK := Lib.hid hK
        clear hK
        go_simp
        refine HK.out _ _ ?_
        have k := h.out
        exact ⟨k.e, k.bb, k.rm, fun _ => upd_eq, k.f1, k.f2, k.f3, k.f4, k.f5, k.f6, k.f10, k.f11, k.f12, k.f13⟩
      refine AllF.cons rfl ?_ ?_
      · skip
        with_reducible refine StepF.dst (d := 14) (by kernel_rfl) (by kernel_rfl) ?_
        intro L y w hi hp h K hK
        simp only [putAll, List.foldl, Act.put, List.setIfInBounds_toArray, List.set_cons_zero, List.set_cons_succ] at hK ⊢
        have HK := Lib.hid hK
        clear hK
        have g0 := h.out.f0 (hp.out 0 (by kernel_rfl))
        simp only [g0] at HK
        have cc0 := h.out.bb.cell (i := 0) rfl
        have cc1 := h.out.bb.cell (i := 1) rfl
        go_simp
        refine HK.out _ _ ?_
        have k := h.out
        exact ⟨k.e, k.bb, k.rm, k.f0, fun _ => upd_eq, k.f2, k.f3, k.f4, k.f5, k.f6, k.f10, k.f11, k.f12, k.f13⟩
      refine AllF.cons rfl ?_ ?_
      · skip
        with_reducible refine StepF.dst (d := 15) (by kernel_rfl) (by kernel_rfl) ?_
        intro L y w hi hp h K hK
        simp only [putAll, List.foldl, Act.put, List.setIfInBounds_toArray, List.set_cons_zero, List.set_cons_succ] at hK ⊢
        have HK := Lib.hid hK
        clear hK
        go_simp
        refine HK.out _ _ ?_
        have k := h.out
        exact ⟨k.e, k.bb, k.rm, k.f0, k.f1, fun _ => upd_eq, k.f3, k.f4, k.f5, k.f6, k.f10, k.f11, k.f12, k.f13⟩
      refine AllF.cons rfl ?_ ?_
      · skip
        with_reducible refine StepF.dst (d := 16) (by kernel_rfl) (by kernel_rfl) ?_
        intro L y w hi hp h K hK
        simp only [putAll, List.foldl, Act.put, List.setIfInBounds_toArray, List.set_cons_zero, List.set_cons_succ] at hK ⊢
        have HK := Lib.hid hK
        clear hK
        have g1 := h.out.f1 (hp.out 1 (by kernel_rfl))
        have g2 := h.out.f2 (hp.out 2 (by kernel_rfl))
        simp only [g1, g2] at HK
        go_simp
        refine (npow_any _ _ _ (a.natAbs : Int) n _ _ (by omega) (Hx.out.ext h.out.e) HFK.out.abs_lt (by omega) hb).mono ?_
        rintro e w1 ⟨⟨am, nm, cm, rfl, hm⟩, he1⟩
        clear g1 g2
        go_simp
        refine HK.out _ _ ?_
        have k := h.out.ext he1
        exact ⟨k.e, k.bb, k.rm, k.f0, k.f1, k.f2, fun _ => by rw [upd_eq]; exact ⟨_, _, _, rfl, hm⟩, k.f4, k.f5, k.f6, k.f10, k.f11, k.f12, k.f13⟩
      refine AllF.cons rfl ?_ ?_
      · skip
        with_reducible refine StepF.dst (d := 17) (by kernel_rfl) (by kernel_rfl) ?_
        intro L y w hi hp h K hK
        simp only [putAll, List.foldl, Act.put, List.setIfInBounds_toArray, List.set_cons_zero, List.set_cons_succ] at hK ⊢
        have HK := Lib.hid hK
        clear hK
        go_simp
        refine HK.out _ _ ?_
        have k := h.out
        exact ⟨k.e, k.bb, k.rm, k.f0, k.f1, k.f2, k.f3, fun _ => upd_eq, k.f5, k.f6, k.f10, k.f11, k.f12, k.f13⟩
      refine AllF.cons rfl ?_ ?_
      · skip
        with_reducible refine StepF.dst (d := 18) (by kernel_rfl) (by kernel_rfl) ?_
        intro L y w hi hp h K hK
        simp only [putAll, List.foldl, Act.put, List.setIfInBounds_toArray, List.set_cons_zero, List.set_cons_succ] at hK ⊢
        have HK := Lib.hid hK
        clear hK
        have g4 := h.out.f4 (hp.out 4 (by kernel_rfl))
        simp only [g4] at HK
        have cc0 := h.out.bb.cell (i := 0) rfl
        have cc1 := h.out.bb.cell (i := 1) rfl
        go_simp
        refine HK.out _ _ ?_
        have k := h.out
        exact ⟨k.e, k.bb, k.rm, k.f0, k.f1, k.f2, k.f3, k.f4, fun _ => upd_eq, k.f6, k.f10, k.f11, k.f12, k.f13⟩
      refine AllF.cons rfl ?_ ?_
      · skip
        with_reducible refine StepF.dst (d := 19) (by kernel_rfl) (by kernel_rfl) ?_
        intro L y w hi hp h K hK
        simp only [putAll, List.foldl, Act.put, List.setIfInBounds_toArray, List.set_cons_zero, List.set_cons_succ] at hK ⊢
        have HK := Lib.hid hK
        clear hK
        have g5 := h.out.f5 (hp.out 5 (by kernel_rfl))
        simp only [g5] at HK
        go_simp
        refine HK.out _ _ ?_
        have k := h.out
        exact ⟨k.e, k.bb, k.rm, k.f0, k.f1, k.f2, k.f3, k.f4, k.f5, fun _ => upd_eq, k.f10, k.f11, k.f12, k.f13⟩
      refine AllF.skip (d := 20) (dg := 19) rfl rfl rfl (by kernel_rfl) (by kernel_rfl) (by kernel_rfl) (by kernel_rfl) ?_ ?_
      · intro L y w hi hp h
        have k := h.out
        exact ⟨k.f6 (hp.out 6 (by kernel_rfl)), ⟨k.e, k.bb, k.rm, k.f0, k.f1, k.f2, k.f3, k.f4, k.f5, k.f6, k.f10, k.f11, k.f12, k.f13⟩⟩
      refine AllF.skip (d := 21) (dg := 19) rfl rfl rfl (by kernel_rfl) (by kernel_rfl) (by kernel_rfl) (by kernel_rfl) ?_ ?_
      · intro L y w hi hp h
        have k := h.out
        exact ⟨k.f6 (hp.out 6 (by kernel_rfl)), ⟨k.e, k.bb, k.rm, k.f0, k.f1, k.f2, k.f3, k.f4, k.f5, k.f6, k.f10, k.f11, k.f12, k.f13⟩⟩
      refine AllF.skip (d := 22) (dg := 19) rfl rfl rfl (by kernel_rfl) (by kernel_rfl) (by kernel_rfl) (by kernel_rfl) ?_ ?_
      · intro L y w hi hp h
        have k := h.out
        exact ⟨k.f6 (hp.out 6 (by kernel_rfl)), ⟨k.e, k.bb, k.rm, k.f0, k.f1, k.f2, k.f3, k.f4, k.f5, k.f6, k.f10, k.f11, k.f12, k.f13⟩⟩
      refine AllF.cons rfl ?_ ?_
      · skip
        with_reducible refine StepF.dst (d := 23) (by kernel_rfl) (by kernel_rfl) ?_
        intro L y w hi hp h K hK
        simp only [putAll, List.foldl, Act.put, List.setIfInBounds_toArray, List.set_cons_zero, List.set_cons_succ] at hK ⊢
        have HK := Lib.hid hK
        clear hK
        have g6 := h.out.f6 (hp.out 6 (by kernel_rfl))
        simp only [g6] at HK
        go_simp
        refine HK.out _ _ ?_
        have k := h.out
        exact ⟨k.e, k.bb, k.rm, k.f0, k.f1, k.f2, k.f3, k.f4, k.f5, k.f6, fun _ => upd_eq, k.f11, k.f12, k.f13⟩
      refine AllF.cons rfl ?_ ?_
      · skip
        with_reducible refine StepF.dst (d := 24) (by kernel_rfl) (by kernel_rfl) ?_
        intro L y w hi hp h K hK
        simp only [putAll, List.foldl, Act.put, List.setIfInBounds_toArray, List.set_cons_zero, List.set_cons_succ] at hK ⊢
        have HK := Lib.hid hK
        clear hK
        obtain ⟨am, nm, cm, g3, hm⟩ := h.out.f3 (hp.out 3 (by kernel_rfl))
        have HM := Lib.hid hm
        clear hm
        have g10 := h.out.f10 (hp.out 10 (by kernel_rfl))
        simp only [g3, g10] at HK
        go_simp
        refine (signed_any _ _ _ _ _ (a ^ n) _ HM.out (HPL.out _ _ _ _ HM.out) (HZ.out _ rfl)).mono ?_
        rintro e w1 ⟨⟨sr, ar, nr, cr, rfl, hr⟩, he1⟩
        clear g3 g10
        go_simp
        refine HK.out _ _ ?_
        have k := h.out.ext he1
        exact ⟨k.e, k.bb, k.rm, k.f0, k.f1, k.f2, k.f3, k.f4, k.f5, k.f6, k.f10, fun _ => by rw [upd_eq]; exact ⟨_, _, _, _, rfl, hr⟩, k.f12, k.f13⟩
      refine AllF.cons rfl ?_ ?_
      · skip
        with_reducible refine StepF.none ?_
        intro L y w hi hp h K hK
        simp only [putAll, List.foldl, Act.put, List.setIfInBounds_toArray, List.set_cons_zero, List.set_cons_succ] at hK ⊢
        have HK := Lib.hid hK
        clear hK
        obtain ⟨s8, a8, n8, c8, g8, h8⟩ := h.out.f11 (hp.out 11 (by kernel_rfl))
        have H8 := Lib.hid h8
        clear h8
        simp only [g8] at HK
        obtain ⟨s6, a6, n6, c6, hb6⟩ := h.out.rm
        have HB6 := Lib.hid hb6
        have cc0 := hb6.cell (i := 0) rfl
        have cc1 := hb6.cell (i := 1) rfl
        have ff0 := hb6.free 0
        have ff1 := hb6.free 1
        clear hb6
        go_simp
        refine HK.out _ ?_
        have k := h.out
        have hs := stay_st2 HB6.out (.bool s8) (.slice a8 n8 c8)
        exact ⟨ext_st2 k.e hBW.out _ _, Blk.st2_other k.bb (by omega) _ _, ⟨_, _, _, _, Blk.st2 HB6.out _ _⟩, k.f0, k.f1, k.f2, fun q => (by obtain ⟨a, k2, c, e, hw⟩ := k.f3 q; exact ⟨a, k2, c, e, hw.stay hs⟩), k.f4, k.f5, k.f6, k.f10, fun q => (k.f11 q).stay hs, fun _ => ⟨_, _, _, _, Blk.st2 HB6.out _ _, IntW.stay H8.out hs⟩, k.f13⟩
      refine AllF.cons rfl ?_ ?_
      · skip
        with_reducible refine StepF.dst (d := 5) (by kernel_rfl) (by kernel_rfl) ?_
        intro L y w hi hp h K hK
        simp only [putAll, List.foldl, Act.put, List.setIfInBounds_toArray, List.set_cons_zero, List.set_cons_succ] at hK ⊢
        have HK := Lib.hid hK
        clear hK
        go_simp
        refine HK.out _ _ ?_
        have k := h.out
        exact ⟨k.e, k.bb, k.rm, k.f0, k.f1, k.f2, k.f3, k.f4, k.f5, k.f6, k.f10, k.f11, k.f12, fun _ => upd_eq⟩
      exact trivial
      -->RT
    · intro L y w2 hL h
      obtain ⟨s8, a8, n8, c8, r4, h8⟩ := h.f12 (hL 12 (by decide))
      have e5 := h.f13 (hL 13 (by decide))
      have H8 := Lib.hid h8
      have he2 := h.e
      simp only [putAll, List.foldl, Act.put, List.setIfInBounds_toArray, List.set_cons_zero, List.set_cons_succ]
      simp only [e5]
      clear h hL h8 e5
      go_wp2_with fail
      refine bodyPost_ret (results_ct rfl rfl (load_int r4)) rfl ?_
      exact ⟨⟨_, rfl, ⟨_, _, _, _, rfl, H8.out⟩⟩, he2⟩
  | true =>
    rcases Nat.mod_two_eq_zero_or_one n with hm | hm
    · have hmi : ((n : Int).tmod 2 == 1) = false := by rw [Int.tmod_eq_emod_of_nonneg (by omega)]; simp; omega
      have hz : ∀ b, b = false → a ^ n = if b = true then -(val (digs ((a.natAbs : Int) ^ n))) else val (digs ((a.natAbs : Int) ^ n)) := fun b e => HPS.out b (by rw [e]; simp [hm])
      have KH : Hid (∀ w', Below (B + 1) w0 w' → w'.cell? ⟨B, 0, none⟩ = some (.bool true) ∧ w'.cell? ⟨B, 1, none⟩ = some (.slice ax nx cx)) := fun w' h => ⟨(h.cell (p := ⟨B, 0, none⟩) (by show B < B + 1; omega)).trans c0, (h.cell (p := ⟨B, 1, none⟩) (by show B < B + 1; omega)).trans c1⟩
      have HZ := Lib.hid hz
      clear hz
      first
      | go_region_held3
        (fun w' => w'.cell? ⟨B, 0, none⟩ = some (.bool true) ∧ w'.cell? ⟨B, 1, none⟩ = some (.slice ax nx cx))
        (first | exact KH.out _ (Below.refl _ _).drew | exact KH.out _ hx1 | exact KH.out _ hx2 | exact KH.out _ (Below.set2 hx2 (Nat.le_refl _) _ _))
        (first
        | (go_at_call 61; (with_reducible refine (npow_any _ _ _ (a.natAbs : Int) n K _ (by omega) (Hx.out.ext he0.drew) HK.out.abs_lt (by omega) hb).mono ?_); rintro e w1 ⟨⟨am, nm, cm, rfl, hm'⟩, he1⟩; have hx1 := (Below.refl (B + 1) w0).drew.trans (he1.upto (Nat.le_of_lt hsz)))
        | (go_at_call 55; (with_reducible refine (signed_any _ _ _ _ _ (a ^ n) _ hm' (HPL.out _ _ _ _ hm') (HZ.out _ rfl)).mono ?_); rintro e w2 ⟨⟨sr, ar, nr, cr, rfl, hr⟩, he2⟩; have hx2 := hx1.trans (he2.upto (Nat.le_trans (Nat.le_of_lt hsz) hx1.size)); have hb2' := hb1.drew.ext (he1.trans he2); have e0 := hb2'.cell (i := 0) rfl; have e1 := hb2'.cell (i := 1) rfl; have f0 := hb2'.free 0; have f1 := hb2'.free 1)
        )
      | fail
      go_wp2_with fail
      refine bodyPost_ret (results_ct rfl rfl (load_int (hb2'.set2 _ _))) rfl ?_
      exact ⟨⟨_, rfl, _, _, _, _, rfl, hr.1, hr.2.keep2 hb2' (by simp) (by simp) _ _⟩, Below.toExt (Below.set2 hx2 (Nat.le_refl _) _ _) he0 HB (by omega)⟩
    · have hmi : ((n : Int).tmod 2 == 1) = true := by rw [Int.tmod_eq_emod_of_nonneg (by omega)]; simp; omega
      have hz : ∀ b, b = true → a ^ n = if b = true then -(val (digs ((a.natAbs : Int) ^ n))) else val (digs ((a.natAbs : Int) ^ n)) := fun b e => HPS.out b (by rw [e]; simp [hm])
      have KH : Hid (∀ w', Below (B + 1) w0 w' → w'.cell? ⟨B, 0, none⟩ = some (.bool true) ∧ w'.cell? ⟨B, 1, none⟩ = some (.slice ax nx cx)) := fun w' h => ⟨(h.cell (p := ⟨B, 0, none⟩) (by show B < B + 1; omega)).trans c0, (h.cell (p := ⟨B, 1, none⟩) (by show B < B + 1; omega)).trans c1⟩
      have HZ := Lib.hid hz
      clear hz
      first
      | go_region_held3
        (fun w' => w'.cell? ⟨B, 0, none⟩ = some (.bool true) ∧ w'.cell? ⟨B, 1, none⟩ = some (.slice ax nx cx))
        (first | exact KH.out _ (Below.refl _ _).drew | exact KH.out _ hx1 | exact KH.out _ hx2 | exact KH.out _ (Below.set2 hx2 (Nat.le_refl _) _ _))
        (first
        | (go_at_call 61; (with_reducible refine (npow_any _ _ _ (a.natAbs : Int) n K _ (by omega) (Hx.out.ext he0.drew) HK.out.abs_lt (by omega) hb).mono ?_); rintro e w1 ⟨⟨am, nm, cm, rfl, hm'⟩, he1⟩; have hx1 := (Below.refl (B + 1) w0).drew.trans (he1.upto (Nat.le_of_lt hsz)))
        | (go_at_call 55; (with_reducible refine (signed_any _ _ _ _ _ (a ^ n) _ hm' (HPL.out _ _ _ _ hm') (HZ.out _ rfl)).mono ?_); rintro e w2 ⟨⟨sr, ar, nr, cr, rfl, hr⟩, he2⟩; have hx2 := hx1.trans (he2.upto (Nat.le_trans (Nat.le_of_lt hsz) hx1.size)); have hb2' := hb1.drew.ext (he1.trans he2); have e0 := hb2'.cell (i := 0) rfl; have e1 := hb2'.cell (i := 1) rfl; have f0 := hb2'.free 0; have f1 := hb2'.free 1)
        )
      | fail
      go_wp2_with fail
      refine bodyPost_ret (results_ct rfl rfl (load_int (hb2'.set2 _ _))) rfl ?_
      exact ⟨⟨_, rfl, _, _, _, _, rfl, hr.1, hr.2.keep2 hb2' (by simp) (by simp) _ _⟩, Below.toExt (Below.set2 hx2 (Nat.le_refl _) _ _) he0 HB (by omega)⟩
end Go.Proofs.YtddcgojpgdhefaaGreatDoor
