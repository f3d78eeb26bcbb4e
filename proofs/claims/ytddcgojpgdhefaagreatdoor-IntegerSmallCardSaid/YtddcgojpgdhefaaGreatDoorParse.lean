/- integer.Parse, walked. -/
import Derived.Test.YtddcgojpgdhefaaGreatDoorText
import Derived.Test.YtddcgojpgdhefaaGreatDoorParseM
namespace Go.Proofs.YtddcgojpgdhefaaGreatDoor
open Go.RowKit Go.El
set_option linter.unusedVariables false
theorem lt_words {v n N : Nat} (h1 : v < 10 ^ n) (hl : n ≤ N) : v < 2 ^ (4 * N) := by
  have h2 : 10 ^ n ≤ 16 ^ n := Nat.pow_le_pow_left (by omega) _
  have h3 : 16 ^ n ≤ 16 ^ N := Nat.pow_le_pow_right (by omega) hl
  rw [show (16 : Nat) ^ N = 2 ^ (4 * N) by rw [show (16 : Nat) = 2 ^ 4 from rfl, ← Nat.pow_mul]] at h3
  omega
theorem valD_words {p : List UInt8} (hd : ∀ b ∈ p, isD b) (hl : p.length ≤ 4000) : ((valD 0 p : Nat) : Int) < pw 500 := by
  have h1 := valD_lt hd
  have h5 := lt_words h1 hl
  rw [show 4 * 4000 = 32 * 500 from rfl] at h5
  rw [pw_pow]
  exact_mod_cast h5
theorem chunk_val {p f : List UInt8} {m n : Nat} (hm : m = n % 9) (hf : f.length = m + 1) (h : p = [] ∨ (n + 1) % 9 = 0) : valD 0 p * 1000000000 + valD 0 f = valD 0 (p ++ f) := by
  rw [valD_append, valD_acc (valD 0 p) f, hf]
  rcases h with rfl | h
  · show 0 * 1000000000 + valD 0 f = 0 * 10 ^ (m + 1) + valD 0 f
    rw [Nat.zero_mul, Nat.zero_mul]
  · rw [show m + 1 = 9 by omega]
def zeroV : Value := .agg #[.bool false, .slice none 0 0]
theorem cutP (s : List UInt8) (w : World) : Calls Tryz.prog 66 #[.string ⟨s.toArray⟩, .string ⟨#[45]⟩] w fun e w' => e = .returned (.tuple #[.string ⟨(Lib.trimPrefix s [45]).toArray⟩, .bool (Lib.hasPrefix s [45])]) ∧ w' = w :=
  Tryz.strings_CutPrefix ⟨s.toArray⟩ ⟨#[45]⟩ w
theorem trimD (s : List UInt8) (w : World) (h : s.length ≤ 4000) : Calls Tryz.prog 67 #[.string ⟨s.toArray⟩, .string ⟨#[48, 49, 50, 51, 52, 53, 54, 55, 56, 57]⟩] w fun e w' => e = .returned (.string ⟨(Lib.trimS s digitSet).toArray⟩) ∧ Ext w w' :=
  Tryz.strings_Trim_ascii ⟨s.toArray⟩ ⟨#[48, 49, 50, 51, 52, 53, 54, 55, 56, 57]⟩ w (by show s.toArray.size ≤ _; simp; omega) (by decide) (by
    intro j b hb
    have : b ∈ ([48, 49, 50, 51, 52, 53, 54, 55, 56, 57] : List UInt8) := List.mem_of_getElem? hb
    simp at this
    rcases this with rfl | rfl | rfl | rfl | rfl | rfl | rfl | rfl | rfl | rfl <;> decide)
theorem pre_len (s : List UInt8) : (Lib.trimPrefix s [45]).length ≤ s.length := by
  unfold Lib.trimPrefix; split
  · rw [List.length_drop]; omega
  · exact Nat.le_refl _
set_option maxRecDepth 100000 in
theorem parse_long (s : List UInt8) (w : World) (h : 4000 < s.length) :
    Calls Tryz.prog 29 #[.string ⟨s.toArray⟩] w fun e w' => e = .returned (.tuple #[zeroV, .int .i64 2]) ∧ Ext w w' := by
  obtain ⟨B, w0, hB, hw0, hb0, he0⟩ := one w 24 [.bool false, .slice none 0 0]
  have hs : (4000 : Int) < (s.length : Int) := by omega
  go_enter Tryz.func29, Tryz.ntmps29
  go_wp2_with fail
  rw [← hw0, ← hB]
  exact bodyPost_ret (results_ct rfl rfl (intv_zero hb0)) rfl ⟨rfl, he0⟩
set_option maxRecDepth 100000 in
theorem parse_form (s : List UInt8) (w : World) (h : s.length ≤ 4000) (hd : ¬ ∀ b ∈ Lib.trimPrefix s [45], isD b) :
    Calls Tryz.prog 29 #[.string ⟨s.toArray⟩] w fun e w' => e = .returned (.tuple #[zeroV, .int .i64 3]) ∧ Ext w w' := by
  obtain ⟨B, w0, hB, hw0, hb0, he0⟩ := one w 24 [.bool false, .slice none 0 0]
  have hs : decide ((4000 : Int) < (s.length : Int)) = false := by simp; omega
  have hne : (Lib.trimS (Lib.trimPrefix s [45]) digitSet).isEmpty = false := by
    cases hc : Lib.trimS (Lib.trimPrefix s [45]) digitSet with
    | nil => exact absurd (fun b hb => (mem_digits b).1 (trimS_nil.1 hc b hb)) hd
    | cons _ _ => rfl
  have hl := Nat.le_trans (pre_len s) h
  go_enter Tryz.func29, Tryz.ntmps29
  go_wp2_with fail
  rw [← hw0, ← hB]
  have HB := Lib.hid hB
  clear hw0 hB
  refine (cutP s _).mono ?_
  rintro e w1 ⟨rfl, rfl⟩
  generalize Lib.trimPrefix s [45] = R at *
  generalize Lib.hasPrefix s [45] = neg at *
  go_wp2_with fail
  refine (trimD R _ hl).mono ?_
  rintro e w2 ⟨rfl, he2⟩
  generalize Lib.trimS R digitSet = T at *
  have hb2 := hb0.ext he2
  have ec0 := hb2.cell (i := 0) rfl
  have ec1 := hb2.cell (i := 1) rfl
  have ef0 := hb2.free 0
  have ef1 := hb2.free 1
  go_wp2_with fail
  exact bodyPost_ret (results_ct rfl rfl (intv_zero (hb2.set2 _ _))) rfl ⟨rfl, ((he0.trans he2).store' HB (by omega) 0 _).store' HB (by omega) 1 _⟩
/-- What is left of a text. -/
def vlen : Value → Nat
  | .string b => b.size
  | _ => 0
set_option maxRecDepth 100000 in
set_option maxHeartbeats 1000000 in
theorem parse_digits (s : List UInt8) (w : World) (h : s.length ≤ 4000) (hd : ∀ b ∈ Lib.trimPrefix s [45], isD b) :
    Calls Tryz.prog 29 #[.string ⟨s.toArray⟩] w fun e w' => ((textL (parseZ s) = s ∧ ∃ v, e = .returned (.tuple #[v, .int .i64 0]) ∧ IntV w' v (parseZ s)) ∨ (textL (parseZ s) ≠ s ∧ e = .returned (.tuple #[zeroV, .int .i64 3]))) ∧ Ext w w' := by
  obtain ⟨B, w0, hB, hw0, hb0, he0⟩ := one w 24 [.bool false, .slice none 0 0]
  have hs : decide ((4000 : Int) < (s.length : Int)) = false := by simp; omega
  have hne : Lib.trimS (Lib.trimPrefix s [45]) digitSet = [] := trimS_nil.2 fun b hb => (mem_digits b).2 (hd b hb)
  have hl := Nat.le_trans (pre_len s) h
  have HP : Hid (∀ n R, n = Lib.hasPrefix s [45] → R = Lib.trimPrefix s [45] → parseZ s = if n = true then -((valD 0 R : Nat) : Int) else ((valD 0 R : Nat) : Int)) := by
    rintro n R rfl rfl; rfl
  obtain ⟨R, hR⟩ : ∃ R, R = Lib.trimPrefix s [45] := ⟨_, rfl⟩
  obtain ⟨neg, hneg⟩ : ∃ n, n = Lib.hasPrefix s [45] := ⟨_, rfl⟩
  have hcut := cutP s
  rw [← hR, ← hneg] at hcut
  rw [← hR] at hd hl hne
  have HZ := Lib.hid (HP.out neg R hneg hR)
  have HD := Lib.hid hd
  have HC := Lib.hid hcut
  have HT := Lib.hid hne
  clear hd hR hneg HP hcut hne
  go_enter Tryz.func29, Tryz.ntmps29
  go_wp2_with fail
  rw [← hw0, ← hB]
  have HB := Lib.hid hB
  clear hw0 hB
  refine (HC.out _).mono ?_
  rintro e w1 ⟨rfl, rfl⟩
  go_wp2_with fail
  refine (trimD R _ hl).mono ?_
  rintro e w2 ⟨rfl, he2⟩
  rw [HT.out]
  have HB2 := Lib.hid (hb0.ext he2)
  have he3 := he0.trans he2
  clear hb0 he0 he2
  go_wp2_with fail
  go_loopw [4, 6] (fun u x wr => ∃ p r : List UInt8, p ++ r = R ∧ u = .string ⟨r.toArray⟩ ∧ (p = [] ∨ r.length % 9 = 0) ∧ Ext w2 wr ∧ (∃ xa xn xc, x = .slice xa xn xc ∧ Words wr xa xn xc (digs (valD 0 p : Nat)))) (fun u _ _ => vlen u)
  case atStart => exact ⟨[], R, rfl, rfl, Or.inl rfl, Ext.refl _, ⟨_, _, _, rfl, by rw [show ((valD 0 [] : Nat) : Int) = 0 from rfl, digs_zero]; exact Words.nil' _⟩⟩
  case round =>
    obtain ⟨p, r, hpr, rfl, hmod, he4, ⟨xa, xn, xc, rfl, hx⟩⟩ := hrel
    have HX := Lib.hid hx
    have HPR := Lib.hid hpr
    have HM := Lib.hid hmod
    clear hx hpr hmod
    cases r with
    | nil =>
      have hpR : p = R := by rw [← HPR.out, List.append_nil]
      have hw1 : ((valD 0 R : Nat) : Int) < pw 500 := valD_words HD.out hl
      have hxn : Hid (xn ≤ 500) := by
        show xn ≤ 500
        rw [← HX.out.hlen, hpR]
        exact digs_len_le (by omega) hw1
      have hzv : Hid (parseZ s = if neg = true then -(val (digs ((valD 0 p : Nat) : Int))) else val (digs ((valD 0 p : Nat) : Int))) := by
        rw [val_digs (by omega), hpR]; exact HZ.out
      have hzf : Hid (Fits (parseZ s) 1000) := by
        show Fits (parseZ s) 1000
        refine Fits.mono (k := 500) ?_ (by omega)
        unfold Fits
        rw [HZ.out]
        split <;> omega
      clear hpR hw1
      go_wp2_with fail
      refine (signed_any _ _ _ _ _ (parseZ s) _ HX.out (by have := hxn.out; omega) hzv.out).mono ?_
      rintro e w5 ⟨⟨sr, ar, nr, cr, rfl, hr⟩, he5⟩
      have HR := Lib.hid hr
      clear hr
      obtain ⟨C, w6, hC, hw6, hbC, heC⟩ := one w5 24 [.bool sr, .slice ar nr cr]
      go_wp2_with fail
      rw [← hw6, ← hC]
      clear hw6 hC
      refine (text_any _ (parseZ s) _ ⟨sr, ar, nr, cr, rfl, HR.out.ext heC⟩ hzf.out).mono ?_
      rintro e w7 ⟨rfl, he7⟩
      have hbB := (((HB2.out.ext he4).ext he5).ext heC).ext he7
      have hbC' := hbC.ext he7
      have bc0 := hbB.cell (i := 0) rfl
      have bc1 := hbB.cell (i := 1) rfl
      have bf0 := hbB.free 0
      have bf1 := hbB.free 1
      have cc0 := hbC'.cell (i := 0) rfl
      have cc1 := hbC'.cell (i := 1) rfl
      have cf0 := hbC'.free 0
      have cf1 := hbC'.free 1
      have heA : Ext w w7 := ((((he3.trans he4).trans he5).trans heC).trans he7)
      obtain ⟨T, hT⟩ : ∃ T, T = textL (parseZ s) := ⟨_, rfl⟩
      rw [← hT]
      by_cases hTs : T = s
      · have HTs : Hid (textL (parseZ s) = s) := by rw [← hT]; exact hTs
        rw [hTs]
        clear hTs hT
        go_wp2_with fail
        refine bodyPost_ret (results_ct rfl rfl (load_int (hbB.set2 _ _))) rfl ?_
        have hr := HR.out.ext (heC.trans he7)
        exact ⟨Or.inl ⟨HTs.out, _, rfl, _, _, _, _, rfl, hr.1, hr.2.keep2 hbB (by simp) (by simp) _ _⟩, (heA.store' HB (by omega) 0 _).store' HB (by omega) 1 _⟩
      · have HTs : Hid (textL (parseZ s) ≠ s) := by rw [← hT]; exact hTs
        have hTb : (T == s) = false := beq_eq_false_iff_ne.2 hTs
        clear hT hTs
        go_wp2_with fail
        refine bodyPost_ret (results_ct rfl rfl (load_int (hbB.set2 _ _))) rfl ?_
        exact ⟨Or.inr ⟨HTs.out, rfl⟩, (heA.store' HB (by omega) 0 _).store' HB (by omega) 1 _⟩
    | cons c r =>
      have hrl : (r.length : Int) ≤ 4000 := by
        have h1 := congrArg List.length HPR.out
        rw [List.length_append, List.length_cons] at h1
        omega
      obtain ⟨m, hm, hmr, hm9, HMm⟩ : ∃ m : Nat, (r.length : Int).tmod 9 = (m : Int) ∧ (m : Int) ≤ r.length ∧ m < 9 ∧ Hid (m = r.length % 9) :=
        ⟨r.length % 9, by rw [Int.tmod_eq_emod_of_nonneg (by omega)]; omega, by omega, by omega, rfl⟩
      have hx1 : (⟨(c :: r).toArray⟩ : ByteArray).extract 0 (m + 1) = ⟨((c :: r).take (m + 1)).toArray⟩ := by
        apply ByteArray.ext; rw [ByteArray.data_extract]; simp [List.extract]
      have hx2 : (⟨(c :: r).toArray⟩ : ByteArray).extract (m + 1) (r.length + 1) = ⟨(r.drop m).toArray⟩ := by
        apply ByteArray.ext; rw [ByteArray.data_extract]; simp [List.extract]
        rw [List.take_of_length_le (by simp)]
      obtain ⟨F, hF⟩ : ∃ F, F = c :: r.take m := ⟨_, rfl⟩
      have hFl : F.length = m + 1 := by rw [hF, List.length_cons, List.length_take]; omega
      have hFR : p ++ (F ++ r.drop m) = R := by
        rw [hF, List.cons_append, List.take_append_drop]; exact HPR.out
      have hFd : ∀ b ∈ F, isD b := fun b hb => HD.out b (by rw [← hFR]; simp [hb])
      have hPd : ∀ b ∈ p ++ F, isD b := fun b hb => HD.out b (by rw [← hFR, ← List.append_assoc]; exact List.mem_append_left _ hb)
      have hFne : F ≠ [] := fun e => by rw [e] at hFl; simp at hFl
      have hPl : (p ++ F).length ≤ 4000 := by
        have := congrArg List.length hFR
        rw [← List.append_assoc, List.length_append] at this
        omega
      have HV := Lib.hid (chunk_val (p := p) (f := F) HMm.out hFl (by
        rcases HM.out with h | h
        · exact Or.inl h
        · rw [List.length_cons] at h; exact Or.inr h))
      have HU := Lib.hid (parse_chunk hFd hFne (by rw [hFl]; omega))
      have HFl := Lib.hid hFl
      have HFb := Lib.hid (valD_lt hFd)
      have HFR := Lib.hid hFR
      have HPd := Lib.hid hPd
      have HPl := Lib.hid hPl
      have hxn : Hid (xn ≤ 500) := by
        show xn ≤ 500
        rw [← HX.out.hlen]
        exact digs_len_le (by omega) (valD_words (fun b hb => hPd b (List.mem_append_left _ hb)) (by rw [List.length_append] at hPl; omega))
      have hFs : (⟨F.toArray⟩ : ByteArray).size ≤ 9223372036854775806 := by show F.toArray.size ≤ _; simp; omega
      have HFs := Lib.hid hFs
      have hF' := hF.symm
      clear hF hFl hFR hFd hPd hFne hPl hFs
      go_wp2_with fail
      refine (Tryz.strconv_ParseUint_10_at32_ok ⟨F.toArray⟩ HFs.out (valD 0 F) HU.out _).mono ?_
      rintro e w5 ⟨rfl, hw5⟩
      have he5 : Ext wr w5 := by
        rcases hw5 with rfl | rfl
        · exact Ext.refl _
        · exact Lib.bytesWorld_below _ _ _
      clear hw5
      have hub : valD 0 F < 1000000000 := by
        have h1 := HFb.out
        rw [HFl.out] at h1
        have : 10 ^ (m + 1) ≤ 10 ^ 9 := Nat.pow_le_pow_right (by omega) (by omega)
        omega
      generalize hu : valD 0 F = u at hub ⊢
      have HUu := Lib.hid hu
      clear hu
      go_wp2_with fail
      refine (natural_any 1000000000 _ (by omega) (by omega)).mono ?_
      rintro e w6 ⟨⟨ka, kn, kc, rfl, hkw, hkn⟩, he6⟩
      have HKw := Lib.hid hkw
      clear hkw
      go_wp2_with fail
      refine (nmul_any _ _ _ _ _ _ _ _ _ (HX.out.ext (he5.trans he6)) HKw.out (by have := hxn.out; omega) (by omega)).mono ?_
      rintro e w7 ⟨⟨ma, mn, mc, rfl, hmw⟩, he7⟩
      rw [val_digs (show (0 : Int) ≤ ((valD 0 p : Nat) : Int) by omega), val_digs (show (0 : Int) ≤ 1000000000 by omega)] at hmw
      have HMw := Lib.hid hmw
      have hmn : Hid (mn ≤ 502) := by
        show mn ≤ 502
        rw [← hmw.hlen]
        refine digs_len_le (by omega) ?_
        rw [show (502 : Nat) = 500 + 2 from rfl, pw_add]
        have h1 := valD_words (fun b hb => HPd.out b (List.mem_append_left _ hb)) (by have := HPl.out; rw [List.length_append] at this; omega)
        have h2 : (1000000000 : Int) < pw 2 := by rw [pw_pow]; decide
        have h3 : ((valD 0 p : Nat) : Int) * 1000000000 ≤ ((valD 0 p : Nat) : Int) * pw 2 := Int.mul_le_mul_of_nonneg_left (Int.le_of_lt h2) (by omega)
        have h4 : ((valD 0 p : Nat) : Int) * pw 2 < pw 500 * pw 2 := Int.mul_lt_mul_of_pos_right h1 (pw_pos 2)
        omega
      clear hmw
      go_wp2_with fail
      refine (natural_any (u : Int) _ (by omega) (by omega)).mono ?_
      rintro e w8 ⟨⟨va, vn, vc, rfl, hvw, hvn⟩, he8⟩
      have HVw := Lib.hid hvw
      clear hvw
      go_wp2_with fail
      refine (nadd_any _ _ _ _ _ _ _ _ _ (HMw.out.ext he8) HVw.out (by have := hmn.out; omega) (by omega)).mono ?_
      rintro e w9 ⟨⟨sa, sn, sc, rfl, hsw⟩, he9⟩
      rw [val_digs (show (0 : Int) ≤ ((valD 0 p : Nat) : Int) * 1000000000 by omega), val_digs (show (0 : Int) ≤ (u : Int) by omega), show ((valD 0 p : Nat) : Int) * 1000000000 + (u : Int) = ((valD 0 p * 1000000000 + u : Nat) : Int) by omega, ← HUu.out, HV.out] at hsw
      have HSw := Lib.hid hsw
      clear hsw
      go_wp2_with fail
      go_roundw
      case rel => exact ⟨p ++ F, r.drop m, by rw [List.append_assoc]; exact HFR.out, rfl, Or.inr (by rw [List.length_drop]; have := HMm.out; omega), he4.trans ((((he5.trans he6).trans he7).trans he8).trans he9), ⟨_, _, _, rfl, HSw.out⟩⟩
      case measure =>
        show (r.drop m).toArray.size < (c :: r).toArray.size
        simp; omega
/-- integer.Parse -/
theorem parse_any (s : List UInt8) (w : World) :
    Calls Tryz.prog 29 #[.string ⟨s.toArray⟩] w fun e w' => ((4000 < s.length ∧ e = .returned (.tuple #[zeroV, .int .i64 2])) ∨ (s.length ≤ 4000 ∧ textL (parseZ s) = s ∧ ∃ v, e = .returned (.tuple #[v, .int .i64 0]) ∧ IntV w' v (parseZ s)) ∨ (s.length ≤ 4000 ∧ textL (parseZ s) ≠ s ∧ e = .returned (.tuple #[zeroV, .int .i64 3]))) ∧ Ext w w' := by
  by_cases h : 4000 < s.length
  · exact (parse_long s w h).mono fun e w' hh => ⟨Or.inl ⟨h, hh.1⟩, hh.2⟩
  · by_cases hd : ∀ b ∈ Lib.trimPrefix s [45], isD b
    · refine (parse_digits s w (by omega) hd).mono fun e w' hh => ⟨Or.inr ?_, hh.2⟩
      rcases hh.1 with h1 | h1
      · exact Or.inl ⟨by omega, h1.1, h1.2⟩
      · exact Or.inr ⟨by omega, h1.1, h1.2⟩
    · exact (parse_form s w (by omega) hd).mono fun e w' hh => ⟨Or.inr (Or.inr ⟨by omega, fun e => hd (text_digits e), hh.1⟩), hh.2⟩
end Go.Proofs.YtddcgojpgdhefaaGreatDoor
