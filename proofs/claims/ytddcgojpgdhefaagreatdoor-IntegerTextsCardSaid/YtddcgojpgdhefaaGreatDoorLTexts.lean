/- The law IntegerTexts, walked. -/
import Derived.Test.YtddcgojpgdhefaaGreatDoorTextsLib
namespace Go.Proofs.YtddcgojpgdhefaaGreatDoor
open Go.RowKit Go.El
set_option linter.unusedVariables false
set_option maxRecDepth 100000 in
set_option maxHeartbeats 8000000 in
theorem texts_long (nx : Bool) (ax : Option Addr) (kx cx : Nat) (lx : List Int) (a : Int) (ea : a = rawZ nx lx 12) (ny : Bool) (ay : Option Addr) (ky cy : Nat) (ly : List Int) (b : Int) (eb : b = rawZ ny ly 12) (w : World) (hx : Words w ax kx cx lx) (hy : Words w ay ky cy ly) (P : List UInt8) (hp : (6 : Int) < (P.length : Int)) :
    Calls Tryz.prog 8 #[.agg #[.bool nx, .slice ax kx cx], .agg #[.bool ny, .slice ay ky cy], .string ⟨P.toArray⟩] w fun e w' => e = .returned (.bool true) ∧ Ext w w' := by
  have E_a := Lib.hid ea
  have HWx := Lib.hid hx
  clear ea hx
  have E_b := Lib.hid eb
  have HWy := Lib.hid hy
  clear eb hy
  obtain ⟨B0, w0, hB0, hw0, hr0, hr1, x0⟩ := two w 25 25 [.bool nx, .slice ax kx cx] [.bool ny, .slice ay ky cy]
  have KB3 : Hid (∀ W, Ext w0 W → W.cell? ⟨B0, 0, none⟩ = some (.bool nx) ∧ W.cell? ⟨B0, 1, none⟩ = some (.slice ax kx cx)) := Lib.hid fun W h => ⟨h.cell (hr0.cell (i := 0) rfl), h.cell (hr0.cell (i := 1) rfl)⟩
  have KB4 : Hid (∀ W, Ext w0 W → W.cell? ⟨B0 + 1, 0, none⟩ = some (.bool ny) ∧ W.cell? ⟨B0 + 1, 1, none⟩ = some (.slice ay ky cy)) := Lib.hid fun W h => ⟨h.cell (hr1.cell (i := 0) rfl), h.cell (hr1.cell (i := 1) rfl)⟩
  clear hr0 hr1
  go_enter Tryz.func8, Tryz.ntmps8
  go_wp2_with fail
  rw [← hw0, ← hB0]
  clear hw0 hB0
  refine (sanity_any _).mono ?_
  rintro e ws ⟨rfl, xs⟩
  go_wp2_with fail
  go_ret
  exact ⟨rfl, (x0.trans xs)⟩
structure OddE (w3 : World) (T P O : List UInt8) (L : Nat → Bool) (y : Nat → Value) (w : World) : Prop where
  e : Ext w3 w
  f0 : L 0 = true → y 74 = .string ⟨T.toArray⟩
  f1 : L 1 = true → y 75 = .int .i64 (0)
  f2 : L 2 = true → y 76 = .string ⟨#[]⟩
  f3 : L 3 = true → y 77 = .string ⟨P.toArray⟩
  f4 : L 4 = true → y 78 = .string ⟨P.toArray⟩
  f5 : L 5 = true → y 79 = .string ⟨T.toArray⟩
  f6 : L 6 = true → y 80 = .int .i64 (0)
  f7 : L 7 = true → y 81 = .int .i64 (0)
  f8 : L 8 = true → y 82 = .int .i64 (0)
  f9 : L 9 = true → y 83 = .string ⟨T.toArray⟩
  f10 : L 10 = true → y 84 = .int .i64 ((T.length : Int))
  f11 : L 11 = true → y 85 = .int .i64 (0)
  f12 : L 12 = true → y 86 = .string ⟨T.toArray⟩
  f13 : L 13 = true → y 87 = .string ⟨O.toArray⟩
  f14 : L 14 = true → y 15 = .string ⟨O.toArray⟩
theorem OddE.ext {w3 : World} {T P O : List UInt8} {L : Nat → Bool} {y : Nat → Value} {w w1 : World} (h : OddE w3 T P O L y w) (he : Ext w w1) : OddE w3 T P O L y w1 :=
  ⟨h.e.trans he, h.f0, h.f1, h.f2, h.f3, h.f4, h.f5, h.f6, h.f7, h.f8, h.f9, h.f10, h.f11, h.f12, h.f13, h.f14⟩
set_option maxRecDepth 100000 in
set_option maxHeartbeats 8000000 in
theorem texts_111 (nx : Bool) (ax : Option Addr) (kx cx : Nat) (lx : List Int) (a : Int) (ea : a = rawZ nx lx 12) (ny : Bool) (ay : Option Addr) (ky cy : Nat) (ly : List Int) (b : Int) (eb : b = rawZ ny ly 12) (w : World) (hx : Words w ax kx cx lx) (hy : Words w ay ky cy ly) (P : List UInt8) (T TB O : List UInt8) (d : Int) (ht : textL a = T) (hTl : (T.length : Int) ≤ 200) (hp : decide ((6 : Int) < (P.length : Int)) = false) (hab : a = b) (hky : ky = 0) (hO : O = P ++ T) (hOl : O.length ≤ 4000) (hd : textL d = O) (fd : Fits d 1000)  :
    Calls Tryz.prog 8 #[.agg #[.bool nx, .slice ax kx cx], .agg #[.bool ny, .slice ay ky cy], .string ⟨P.toArray⟩] w fun e w' => e = .returned (.bool true) ∧ Ext w w' := by
  have G_hx1 : Hid ((⟨T.toArray⟩ : ByteArray).extract 0 0 = ⟨#[]⟩) := Lib.hid (ba_take T 0)
  have G_hx2 : Hid ((⟨T.toArray⟩ : ByteArray).extract 0 T.length = ⟨T.toArray⟩) := Lib.hid (ba_drop T 0)
  have G_hx3 : Hid ((⟨#[]⟩ : ByteArray) ++ ⟨P.toArray⟩ = ⟨P.toArray⟩) := Lib.hid (ba_append [] P)
  have G_hx4 : Hid ((⟨P.toArray⟩ : ByteArray) ++ ⟨T.toArray⟩ = ⟨O.toArray⟩) := Lib.hid (by rw [ba_append, hO])
  have G_hx5 : Hid ((9223372036854775807 < P.length) = False) := Lib.hid (eq_false (by simp at hp; omega))
  have G_hx6 : Hid ((9223372036854775807 < P.length + T.length) = False) := Lib.hid (eq_false (by simp at hp; omega))
  have G_hx7 : Hid (min (0 : Int) (T.length : Int) = 0) := Lib.hid (by omega)
  have G_ht := Lib.hid ht
  have G_hab := Lib.hid hab
  have G_hd := Lib.hid hd
  have G_fd := Lib.hid fd
  clear hO ht hab hd fd
  subst hky
  have E_a := Lib.hid ea
  have HWx := Lib.hid hx
  clear ea hx
  have E_b := Lib.hid eb
  have HWy := Lib.hid hy
  clear eb hy
  obtain ⟨B0, w0, hB0, hw0, hr0, hr1, x0⟩ := two w 25 25 [.bool nx, .slice ax kx cx] [.bool ny, .slice ay 0 cy]
  have HF1 : Hid (Fits (a) 12) := Lib.hid (by rw [E_a.out]; exact fits_raw (HWx.out.wf) (by omega))
  have HF5 : Hid (Fits (b) 12) := Lib.hid (by rw [E_b.out]; exact fits_raw (HWy.out.wf) (by omega))
  have HF18 : Hid (Fits (d) 1000) := Lib.hid G_fd.out
  have KB3 : Hid (∀ W, Ext w0 W → W.cell? ⟨B0, 0, none⟩ = some (.bool nx) ∧ W.cell? ⟨B0, 1, none⟩ = some (.slice ax kx cx)) := Lib.hid fun W h => ⟨h.cell (hr0.cell (i := 0) rfl), h.cell (hr0.cell (i := 1) rfl)⟩
  have KB4 : Hid (∀ W, Ext w0 W → W.cell? ⟨B0 + 1, 0, none⟩ = some (.bool ny) ∧ W.cell? ⟨B0 + 1, 1, none⟩ = some (.slice ay 0 cy)) := Lib.hid fun W h => ⟨h.cell (hr1.cell (i := 0) rfl), h.cell (hr1.cell (i := 1) rfl)⟩
  clear hr0 hr1
  go_enter Tryz.func8, Tryz.ntmps8
  go_wp2_with fail
  rw [← hw0, ← hB0]
  clear hw0 hB0
  refine (sanity_any _).mono ?_
  rintro e ws ⟨rfl, xs⟩
  obtain ⟨cc3_0_3, cc3_1_3⟩ := KB3.out ws xs
  go_wp2_with fail
  clear cc3_0_3 cc3_1_3
  refine (Made_any nx ax kx cx lx 12 a _ (HWx.out.ext (x0.trans xs)) (by omega) E_a.out).mono ?_
  rintro e w2 ⟨⟨v2_0, rfl, ⟨s2_0, a2_0, n2_0, c2_0, rfl, hi2_0⟩⟩, x2⟩
  have HV2_0 : Hid (IntV w2 (.agg #[.bool s2_0, .slice a2_0 n2_0 c2_0]) (a)) := Lib.hid ⟨_, _, _, _, rfl, hi2_0⟩
  clear hi2_0
  obtain ⟨D4, wb4, hD4, hw4, hb4_0, xb4⟩ := one w2 24 [.bool s2_0, .slice a2_0 n2_0 c2_0]
  have KB8 : Hid (∀ W, Ext wb4 W → W.cell? ⟨D4, 0, none⟩ = some (.bool s2_0) ∧ W.cell? ⟨D4, 1, none⟩ = some (.slice a2_0 n2_0 c2_0)) := Lib.hid fun W h => ⟨h.cell (hb4_0.cell (i := 0) rfl), h.cell (hb4_0.cell (i := 1) rfl)⟩
  clear hb4_0
  obtain ⟨cc4_0_7, cc4_1_7⟩ := KB4.out wb4 ((xs.trans x2).trans xb4)
  have hq4 := hw4.symm
  have hp4 := hD4.symm
  clear hw4 hD4
  go_wp2_with fail
  clear hq4 hp4
  clear cc4_0_7 cc4_1_7
  refine (Made_any ny ay 0 cy ly 12 b _ (HWy.out.ext (((x0.trans xs).trans x2).trans xb4)) (by omega) E_b.out).mono ?_
  rintro e w6 ⟨⟨v6_0, rfl, ⟨s6_0, a6_0, n6_0, c6_0, rfl, hi6_0⟩⟩, x6⟩
  have HV6_0 : Hid (IntV w6 (.agg #[.bool s6_0, .slice a6_0 n6_0 c6_0]) (b)) := Lib.hid ⟨_, _, _, _, rfl, hi6_0⟩
  clear hi6_0
  obtain ⟨D8, wb8, hD8, hw8, hb8_0, xb8⟩ := one w6 24 [.bool s6_0, .slice a6_0 n6_0 c6_0]
  have KB9 : Hid (∀ W, Ext wb8 W → W.cell? ⟨D8, 0, none⟩ = some (.bool s6_0) ∧ W.cell? ⟨D8, 1, none⟩ = some (.slice a6_0 n6_0 c6_0)) := Lib.hid fun W h => ⟨h.cell (hb8_0.cell (i := 0) rfl), h.cell (hb8_0.cell (i := 1) rfl)⟩
  clear hb8_0
  obtain ⟨cc8_0_10, cc8_1_10⟩ := KB8.out wb8 (x6.trans xb8)
  have hq8 := hw8.symm
  have hp8 := hD8.symm
  clear hw8 hD8
  go_wp2_with fail
  clear hq8 hp8
  clear cc8_0_10 cc8_1_10
  refine (text_is _ a T _ (HV2_0.out.ext ((xb4.trans x6).trans xb8)) (HF1.out.mono (by omega)) G_ht.out).mono ?_
  rintro e w9 ⟨rfl, x9⟩
  go_wp2_with fail
  refine (parse_text T a _ G_ht.out (by omega)).mono ?_
  rintro e w11 ⟨⟨v11_0, rfl, ⟨s11_0, a11_0, n11_0, c11_0, rfl, hi11_0⟩⟩, x11⟩
  have HV11_0 : Hid (IntV w11 (.agg #[.bool s11_0, .slice a11_0 n11_0 c11_0]) (a)) := Lib.hid ⟨_, _, _, _, rfl, hi11_0⟩
  clear hi11_0
  obtain ⟨D12, wb12, hD12, hw12, hb12_0, xb12⟩ := one w11 24 [.bool s11_0, .slice a11_0 n11_0 c11_0]
  have KB11 : Hid (∀ W, Ext wb12 W → W.cell? ⟨D12, 0, none⟩ = some (.bool s11_0) ∧ W.cell? ⟨D12, 1, none⟩ = some (.slice a11_0 n11_0 c11_0)) := Lib.hid fun W h => ⟨h.cell (hb12_0.cell (i := 0) rfl), h.cell (hb12_0.cell (i := 1) rfl)⟩
  clear hb12_0
  have KX13 : Hid (∀ w', Ext wb12 w' → w'.cell? ⟨D12, 0, none⟩ = some (.bool s11_0) ∧ w'.cell? ⟨D12, 1, none⟩ = some (.slice a11_0 n11_0 c11_0) ∧ w'.cell? ⟨D4, 0, none⟩ = some (.bool s2_0) ∧ w'.cell? ⟨D4, 1, none⟩ = some (.slice a2_0 n2_0 c2_0) ∧ w'.cell? ⟨D8, 0, none⟩ = some (.bool s6_0) ∧ w'.cell? ⟨D8, 1, none⟩ = some (.slice a6_0 n6_0 c6_0)) := Lib.hid fun w' h => by
    have q11 := KB11.out w' ((Ext.refl _).trans h)
    have q8 := KB8.out w' (((((x6.trans xb8).trans x9).trans x11).trans xb12).trans h)
    have q9 := KB9.out w' (((x9.trans x11).trans xb12).trans h)
    exact ⟨q11.1, q11.2, q8.1, q8.2, q9.1, q9.2⟩
  have hq12 := hw12.symm
  have hp12 := hD12.symm
  clear hw12 hD12
  go_wp2_with fail
  clear hq12 hp12
  have hz13 := Below.drewExt wb12
  go_region_held3
    (fun w' => w'.cell? ⟨D12, 0, none⟩ = some (.bool s11_0) ∧ w'.cell? ⟨D12, 1, none⟩ = some (.slice a11_0 n11_0 c11_0) ∧ w'.cell? ⟨D4, 0, none⟩ = some (.bool s2_0) ∧ w'.cell? ⟨D4, 1, none⟩ = some (.slice a2_0 n2_0 c2_0) ∧ w'.cell? ⟨D8, 0, none⟩ = some (.bool s6_0) ∧ w'.cell? ⟨D8, 1, none⟩ = some (.slice a6_0 n6_0 c6_0))
    (with_reducible exact KX13.out _ (by assumption))
    (first
    | (go_at_call 21; (with_reducible refine (same_eq _ _ (a) (a) _ (HV11_0.out.ext (xb12.trans hz13)) (HV2_0.out.ext ((((((xb4.trans x6).trans xb8).trans x9).trans x11).trans xb12).trans hz13)) (Eq.refl _)).mono ?_); rintro e w14 ⟨rfl, x14⟩; have hz14 := hz13.trans x14)
    | (go_at_call 28; (with_reducible refine (text_is _ b T _ (HV6_0.out.ext (((((xb8.trans x9).trans x11).trans xb12).trans hz13).trans x14)) (HF5.out.mono (by omega)) (G_hab.out ▸ G_ht.out)).mono ?_); rintro e w15 ⟨rfl, x15⟩; have hz15 := hz14.trans x15)
    | (go_at_call 21; (with_reducible refine (same_eq _ _ a b _ (HV2_0.out.ext ((((((((xb4.trans x6).trans xb8).trans x9).trans x11).trans xb12).trans hz13).trans x14).trans x15)) (HV6_0.out.ext ((((((xb8.trans x9).trans x11).trans xb12).trans hz13).trans x14).trans x15)) G_hab.out).mono ?_); rintro e w16 ⟨rfl, x16⟩; have hz16 := hz15.trans x16)
    )
  clear KX13
  obtain ⟨cc4_0_17, cc4_1_17⟩ := KB4.out w16 (((((((((((xs.trans x2).trans xb4).trans x6).trans xb8).trans x9).trans x11).trans xb12).trans hz13).trans x14).trans x15).trans x16)
  have HX1 := G_hx1.out
  have HX2 := G_hx2.out
  have HX3 := G_hx3.out
  have HX4 := G_hx4.out
  have HX5 := G_hx5.out
  have HX6 := G_hx6.out
  have HX7 := G_hx7.out
  go_wp2_with fail
  clear cc4_0_17 cc4_1_17
  refine wp_region_facts [74, 75, 76, 77, 78, 79, 80, 81, 82, 83, 84, 85, 86, 87, 15] (OddE (w16) T P O) (by kernel_rfl) (by kernel_rfl) ?_ ?_ ?_
  · intro y
    exact ⟨(Ext.refl _).drew, by simp, by simp, by simp, by simp, by simp, by simp, by simp, by simp, by simp, by simp, by simp, by simp, by simp, by simp, by simp⟩
  · intro Q
    refine AllF.cons rfl ?_ ?_
    · skip
      with_reducible refine StepF.dst (d := 74) (by kernel_rfl) (by kernel_rfl) ?_
      intro L y w hi hp h K hK
      simp only [putAll, List.foldl, Act.put, List.setIfInBounds_toArray, List.set_cons_zero, List.set_cons_succ] at hK ⊢
      have HK := Lib.hid hK
      clear hK
      go_simp
      refine HK.out _ _ ?_
      have k := h.out
      exact ⟨k.e, fun _ => upd_eq, k.f1, k.f2, k.f3, k.f4, k.f5, k.f6, k.f7, k.f8, k.f9, k.f10, k.f11, k.f12, k.f13, k.f14⟩
    refine AllF.cons rfl ?_ ?_
    · skip
      with_reducible refine StepF.dst (d := 75) (by kernel_rfl) (by kernel_rfl) ?_
      intro L y w hi hp h K hK
      simp only [putAll, List.foldl, Act.put, List.setIfInBounds_toArray, List.set_cons_zero, List.set_cons_succ] at hK ⊢
      have HK := Lib.hid hK
      clear hK
      go_simp
      refine HK.out _ _ ?_
      have k := h.out
      exact ⟨k.e, k.f0, fun _ => upd_eq, k.f2, k.f3, k.f4, k.f5, k.f6, k.f7, k.f8, k.f9, k.f10, k.f11, k.f12, k.f13, k.f14⟩
    refine AllF.cons rfl ?_ ?_
    · skip
      with_reducible refine StepF.dst (d := 76) (by kernel_rfl) (by kernel_rfl) ?_
      intro L y w hi hp h K hK
      simp only [putAll, List.foldl, Act.put, List.setIfInBounds_toArray, List.set_cons_zero, List.set_cons_succ] at hK ⊢
      have HK := Lib.hid hK
      clear hK
      have g0 := h.out.f0 (hp.out 0 (by kernel_rfl))
      have g1 := h.out.f1 (hp.out 1 (by kernel_rfl))
      simp only [g0, g1] at HK
      go_simp
      refine HK.out _ _ ?_
      have k := h.out
      exact ⟨k.e, k.f0, k.f1, fun _ => upd_eq, k.f3, k.f4, k.f5, k.f6, k.f7, k.f8, k.f9, k.f10, k.f11, k.f12, k.f13, k.f14⟩
    refine AllF.cons rfl ?_ ?_
    · skip
      with_reducible refine StepF.dst (d := 77) (by kernel_rfl) (by kernel_rfl) ?_
      intro L y w hi hp h K hK
      simp only [putAll, List.foldl, Act.put, List.setIfInBounds_toArray, List.set_cons_zero, List.set_cons_succ] at hK ⊢
      have HK := Lib.hid hK
      clear hK
      go_simp
      refine HK.out _ _ ?_
      have k := h.out
      exact ⟨k.e, k.f0, k.f1, k.f2, fun _ => upd_eq, k.f4, k.f5, k.f6, k.f7, k.f8, k.f9, k.f10, k.f11, k.f12, k.f13, k.f14⟩
    refine AllF.cons rfl ?_ ?_
    · skip
      with_reducible refine StepF.dst (d := 78) (by kernel_rfl) (by kernel_rfl) ?_
      intro L y w hi hp h K hK
      simp only [putAll, List.foldl, Act.put, List.setIfInBounds_toArray, List.set_cons_zero, List.set_cons_succ] at hK ⊢
      have HK := Lib.hid hK
      clear hK
      have g2 := h.out.f2 (hp.out 2 (by kernel_rfl))
      have g3 := h.out.f3 (hp.out 3 (by kernel_rfl))
      simp only [g2, g3] at HK
      go_simp
      refine HK.out _ _ ?_
      have k := h.out
      exact ⟨k.e, k.f0, k.f1, k.f2, k.f3, fun _ => upd_eq, k.f5, k.f6, k.f7, k.f8, k.f9, k.f10, k.f11, k.f12, k.f13, k.f14⟩
    refine AllF.cons rfl ?_ ?_
    · skip
      with_reducible refine StepF.dst (d := 79) (by kernel_rfl) (by kernel_rfl) ?_
      intro L y w hi hp h K hK
      simp only [putAll, List.foldl, Act.put, List.setIfInBounds_toArray, List.set_cons_zero, List.set_cons_succ] at hK ⊢
      have HK := Lib.hid hK
      clear hK
      go_simp
      refine HK.out _ _ ?_
      have k := h.out
      exact ⟨k.e, k.f0, k.f1, k.f2, k.f3, k.f4, fun _ => upd_eq, k.f6, k.f7, k.f8, k.f9, k.f10, k.f11, k.f12, k.f13, k.f14⟩
    refine AllF.cons rfl ?_ ?_
    · skip
      with_reducible refine StepF.dst (d := 80) (by kernel_rfl) (by kernel_rfl) ?_
      intro L y w hi hp h K hK
      simp only [putAll, List.foldl, Act.put, List.setIfInBounds_toArray, List.set_cons_zero, List.set_cons_succ] at hK ⊢
      have HK := Lib.hid hK
      clear hK
      go_simp
      refine HK.out _ _ ?_
      have k := h.out
      exact ⟨k.e, k.f0, k.f1, k.f2, k.f3, k.f4, k.f5, fun _ => upd_eq, k.f7, k.f8, k.f9, k.f10, k.f11, k.f12, k.f13, k.f14⟩
    refine AllF.cons rfl ?_ ?_
    · skip
      with_reducible refine StepF.dst (d := 81) (by kernel_rfl) (by kernel_rfl) ?_
      intro L y w hi hp h K hK
      simp only [putAll, List.foldl, Act.put, List.setIfInBounds_toArray, List.set_cons_zero, List.set_cons_succ] at hK ⊢
      have HK := Lib.hid hK
      clear hK
      go_simp
      refine HK.out _ _ ?_
      have k := h.out
      exact ⟨k.e, k.f0, k.f1, k.f2, k.f3, k.f4, k.f5, k.f6, fun _ => upd_eq, k.f8, k.f9, k.f10, k.f11, k.f12, k.f13, k.f14⟩
    refine AllF.cons rfl ?_ ?_
    · skip
      with_reducible refine StepF.dst (d := 82) (by kernel_rfl) (by kernel_rfl) ?_
      intro L y w hi hp h K hK
      simp only [putAll, List.foldl, Act.put, List.setIfInBounds_toArray, List.set_cons_zero, List.set_cons_succ] at hK ⊢
      have HK := Lib.hid hK
      clear hK
      have g6 := h.out.f6 (hp.out 6 (by kernel_rfl))
      have g7 := h.out.f7 (hp.out 7 (by kernel_rfl))
      simp only [g6, g7] at HK
      go_simp
      refine HK.out _ _ ?_
      have k := h.out
      exact ⟨k.e, k.f0, k.f1, k.f2, k.f3, k.f4, k.f5, k.f6, k.f7, fun _ => upd_eq, k.f9, k.f10, k.f11, k.f12, k.f13, k.f14⟩
    refine AllF.cons rfl ?_ ?_
    · skip
      with_reducible refine StepF.dst (d := 83) (by kernel_rfl) (by kernel_rfl) ?_
      intro L y w hi hp h K hK
      simp only [putAll, List.foldl, Act.put, List.setIfInBounds_toArray, List.set_cons_zero, List.set_cons_succ] at hK ⊢
      have HK := Lib.hid hK
      clear hK
      go_simp
      refine HK.out _ _ ?_
      have k := h.out
      exact ⟨k.e, k.f0, k.f1, k.f2, k.f3, k.f4, k.f5, k.f6, k.f7, k.f8, fun _ => upd_eq, k.f10, k.f11, k.f12, k.f13, k.f14⟩
    refine AllF.cons rfl ?_ ?_
    · skip
      with_reducible refine StepF.dst (d := 84) (by kernel_rfl) (by kernel_rfl) ?_
      intro L y w hi hp h K hK
      simp only [putAll, List.foldl, Act.put, List.setIfInBounds_toArray, List.set_cons_zero, List.set_cons_succ] at hK ⊢
      have HK := Lib.hid hK
      clear hK
      have g9 := h.out.f9 (hp.out 9 (by kernel_rfl))
      simp only [g9] at HK
      go_simp
      refine HK.out _ _ ?_
      have k := h.out
      exact ⟨k.e, k.f0, k.f1, k.f2, k.f3, k.f4, k.f5, k.f6, k.f7, k.f8, k.f9, fun _ => upd_eq, k.f11, k.f12, k.f13, k.f14⟩
    refine AllF.cons rfl ?_ ?_
    · skip
      with_reducible refine StepF.dst (d := 85) (by kernel_rfl) (by kernel_rfl) ?_
      intro L y w hi hp h K hK
      simp only [putAll, List.foldl, Act.put, List.setIfInBounds_toArray, List.set_cons_zero, List.set_cons_succ] at hK ⊢
      have HK := Lib.hid hK
      clear hK
      have g8 := h.out.f8 (hp.out 8 (by kernel_rfl))
      have g10 := h.out.f10 (hp.out 10 (by kernel_rfl))
      simp only [g8, g10] at HK
      go_simp
      refine HK.out _ _ ?_
      have k := h.out
      exact ⟨k.e, k.f0, k.f1, k.f2, k.f3, k.f4, k.f5, k.f6, k.f7, k.f8, k.f9, k.f10, fun _ => upd_eq, k.f12, k.f13, k.f14⟩
    refine AllF.cons rfl ?_ ?_
    · skip
      with_reducible refine StepF.dst (d := 86) (by kernel_rfl) (by kernel_rfl) ?_
      intro L y w hi hp h K hK
      simp only [putAll, List.foldl, Act.put, List.setIfInBounds_toArray, List.set_cons_zero, List.set_cons_succ] at hK ⊢
      have HK := Lib.hid hK
      clear hK
      have g5 := h.out.f5 (hp.out 5 (by kernel_rfl))
      have g11 := h.out.f11 (hp.out 11 (by kernel_rfl))
      simp only [g5, g11] at HK
      go_simp
      refine HK.out _ _ ?_
      have k := h.out
      exact ⟨k.e, k.f0, k.f1, k.f2, k.f3, k.f4, k.f5, k.f6, k.f7, k.f8, k.f9, k.f10, k.f11, fun _ => upd_eq, k.f13, k.f14⟩
    refine AllF.cons rfl ?_ ?_
    · skip
      with_reducible refine StepF.dst (d := 87) (by kernel_rfl) (by kernel_rfl) ?_
      intro L y w hi hp h K hK
      simp only [putAll, List.foldl, Act.put, List.setIfInBounds_toArray, List.set_cons_zero, List.set_cons_succ] at hK ⊢
      have HK := Lib.hid hK
      clear hK
      have g4 := h.out.f4 (hp.out 4 (by kernel_rfl))
      have g12 := h.out.f12 (hp.out 12 (by kernel_rfl))
      simp only [g4, g12] at HK
      go_simp
      refine HK.out _ _ ?_
      have k := h.out
      exact ⟨k.e, k.f0, k.f1, k.f2, k.f3, k.f4, k.f5, k.f6, k.f7, k.f8, k.f9, k.f10, k.f11, k.f12, fun _ => upd_eq, k.f14⟩
    refine AllF.cons rfl ?_ ?_
    · skip
      with_reducible refine StepF.dst (d := 15) (by kernel_rfl) (by kernel_rfl) ?_
      intro L y w hi hp h K hK
      simp only [putAll, List.foldl, Act.put, List.setIfInBounds_toArray, List.set_cons_zero, List.set_cons_succ] at hK ⊢
      have HK := Lib.hid hK
      clear hK
      have g13 := h.out.f13 (hp.out 13 (by kernel_rfl))
      simp only [g13] at HK
      go_simp
      refine HK.out _ _ ?_
      have k := h.out
      exact ⟨k.e, k.f0, k.f1, k.f2, k.f3, k.f4, k.f5, k.f6, k.f7, k.f8, k.f9, k.f10, k.f11, k.f12, k.f13, fun _ => upd_eq⟩
    exact trivial
  · intro L y wE hL h
    have xE := h.e
    have ey := h.f14 (hL 14 (by decide))
    simp only [putAll, List.foldl, Act.put, List.setIfInBounds_toArray, List.set_cons_zero, List.set_cons_succ]
    simp only [ey]
    clear hL h ey HX1 HX2 HX3 HX4 HX5 HX6 HX7
    go_wp2_with fail
    refine (parse_text O d _ G_hd.out hOl).mono ?_
    rintro e w19 ⟨⟨v19_0, rfl, ⟨s19_0, a19_0, n19_0, c19_0, rfl, hi19_0⟩⟩, x19⟩
    have HV19_0 : Hid (IntV w19 (.agg #[.bool s19_0, .slice a19_0 n19_0 c19_0]) (d)) := Lib.hid ⟨_, _, _, _, rfl, hi19_0⟩
    clear hi19_0
    obtain ⟨D20, wb20, hD20, hw20, hb20_0, xb20⟩ := one w19 24 [.bool s19_0, .slice a19_0 n19_0 c19_0]
    have KB16 : Hid (∀ W, Ext wb20 W → W.cell? ⟨D20, 0, none⟩ = some (.bool s19_0) ∧ W.cell? ⟨D20, 1, none⟩ = some (.slice a19_0 n19_0 c19_0)) := Lib.hid fun W h => ⟨h.cell (hb20_0.cell (i := 0) rfl), h.cell (hb20_0.cell (i := 1) rfl)⟩
    clear hb20_0
    obtain ⟨cc16_0_22, cc16_1_22⟩ := KB16.out wb20 (Ext.refl _)
    have hq20 := hw20.symm
    have hp20 := hD20.symm
    clear hw20 hD20
    go_wp2_with fail
    clear hq20 hp20
    clear cc16_0_22 cc16_1_22
    refine (rvalid_any _ (d) _ (HV19_0.out.ext xb20)).mono ?_
    rintro e w21 ⟨rfl, x21⟩
    obtain ⟨cc16_0_24, cc16_1_24⟩ := KB16.out w21 x21
    go_wp2_with fail
    clear cc16_0_24 cc16_1_24
    refine (text_is _ d O _ (HV19_0.out.ext (xb20.trans x21)) G_fd.out G_hd.out).mono ?_
    rintro e w23 ⟨rfl, x23⟩
    go_wp2_with fail
    go_ret
    exact ⟨rfl, (((((((((((((((((x0.trans xs).trans x2).trans xb4).trans x6).trans xb8).trans x9).trans x11).trans xb12).trans hz13).trans x14).trans x15).trans x16).trans xE).trans x19).trans xb20).trans x21).trans x23)⟩
set_option maxRecDepth 100000 in
set_option maxHeartbeats 8000000 in
theorem texts_110 (nx : Bool) (ax : Option Addr) (kx cx : Nat) (lx : List Int) (a : Int) (ea : a = rawZ nx lx 12) (ny : Bool) (ay : Option Addr) (ky cy : Nat) (ly : List Int) (b : Int) (eb : b = rawZ ny ly 12) (w : World) (hx : Words w ax kx cx lx) (hy : Words w ay ky cy ly) (P : List UInt8) (T TB O : List UInt8) (d : Int) (ht : textL a = T) (hTl : (T.length : Int) ≤ 200) (hp : decide ((6 : Int) < (P.length : Int)) = false) (hab : a = b) (hky : ky = 0) (hO : O = P ++ T) (hOl : O.length ≤ 4000) (hd : textL (parseZ O) ≠ O) (hOT : (O == T) = false)  :
    Calls Tryz.prog 8 #[.agg #[.bool nx, .slice ax kx cx], .agg #[.bool ny, .slice ay ky cy], .string ⟨P.toArray⟩] w fun e w' => e = .returned (.bool true) ∧ Ext w w' := by
  have G_hx1 : Hid ((⟨T.toArray⟩ : ByteArray).extract 0 0 = ⟨#[]⟩) := Lib.hid (ba_take T 0)
  have G_hx2 : Hid ((⟨T.toArray⟩ : ByteArray).extract 0 T.length = ⟨T.toArray⟩) := Lib.hid (ba_drop T 0)
  have G_hx3 : Hid ((⟨#[]⟩ : ByteArray) ++ ⟨P.toArray⟩ = ⟨P.toArray⟩) := Lib.hid (ba_append [] P)
  have G_hx4 : Hid ((⟨P.toArray⟩ : ByteArray) ++ ⟨T.toArray⟩ = ⟨O.toArray⟩) := Lib.hid (by rw [ba_append, hO])
  have G_hx5 : Hid ((9223372036854775807 < P.length) = False) := Lib.hid (eq_false (by simp at hp; omega))
  have G_hx6 : Hid ((9223372036854775807 < P.length + T.length) = False) := Lib.hid (eq_false (by simp at hp; omega))
  have G_hx7 : Hid (min (0 : Int) (T.length : Int) = 0) := Lib.hid (by omega)
  have G_ht := Lib.hid ht
  have G_hab := Lib.hid hab
  have G_hd := Lib.hid hd
  clear hO ht hab hd
  subst hky
  have E_a := Lib.hid ea
  have HWx := Lib.hid hx
  clear ea hx
  have E_b := Lib.hid eb
  have HWy := Lib.hid hy
  clear eb hy
  obtain ⟨B0, w0, hB0, hw0, hr0, hr1, x0⟩ := two w 25 25 [.bool nx, .slice ax kx cx] [.bool ny, .slice ay 0 cy]
  have HF1 : Hid (Fits (a) 12) := Lib.hid (by rw [E_a.out]; exact fits_raw (HWx.out.wf) (by omega))
  have HF5 : Hid (Fits (b) 12) := Lib.hid (by rw [E_b.out]; exact fits_raw (HWy.out.wf) (by omega))
  have KB3 : Hid (∀ W, Ext w0 W → W.cell? ⟨B0, 0, none⟩ = some (.bool nx) ∧ W.cell? ⟨B0, 1, none⟩ = some (.slice ax kx cx)) := Lib.hid fun W h => ⟨h.cell (hr0.cell (i := 0) rfl), h.cell (hr0.cell (i := 1) rfl)⟩
  have KB4 : Hid (∀ W, Ext w0 W → W.cell? ⟨B0 + 1, 0, none⟩ = some (.bool ny) ∧ W.cell? ⟨B0 + 1, 1, none⟩ = some (.slice ay 0 cy)) := Lib.hid fun W h => ⟨h.cell (hr1.cell (i := 0) rfl), h.cell (hr1.cell (i := 1) rfl)⟩
  clear hr0 hr1
  go_enter Tryz.func8, Tryz.ntmps8
  go_wp2_with fail
  rw [← hw0, ← hB0]
  clear hw0 hB0
  refine (sanity_any _).mono ?_
  rintro e ws ⟨rfl, xs⟩
  obtain ⟨cc3_0_3, cc3_1_3⟩ := KB3.out ws xs
  go_wp2_with fail
  clear cc3_0_3 cc3_1_3
  refine (Made_any nx ax kx cx lx 12 a _ (HWx.out.ext (x0.trans xs)) (by omega) E_a.out).mono ?_
  rintro e w2 ⟨⟨v2_0, rfl, ⟨s2_0, a2_0, n2_0, c2_0, rfl, hi2_0⟩⟩, x2⟩
  have HV2_0 : Hid (IntV w2 (.agg #[.bool s2_0, .slice a2_0 n2_0 c2_0]) (a)) := Lib.hid ⟨_, _, _, _, rfl, hi2_0⟩
  clear hi2_0
  obtain ⟨D4, wb4, hD4, hw4, hb4_0, xb4⟩ := one w2 24 [.bool s2_0, .slice a2_0 n2_0 c2_0]
  have KB8 : Hid (∀ W, Ext wb4 W → W.cell? ⟨D4, 0, none⟩ = some (.bool s2_0) ∧ W.cell? ⟨D4, 1, none⟩ = some (.slice a2_0 n2_0 c2_0)) := Lib.hid fun W h => ⟨h.cell (hb4_0.cell (i := 0) rfl), h.cell (hb4_0.cell (i := 1) rfl)⟩
  clear hb4_0
  obtain ⟨cc4_0_7, cc4_1_7⟩ := KB4.out wb4 ((xs.trans x2).trans xb4)
  have hq4 := hw4.symm
  have hp4 := hD4.symm
  clear hw4 hD4
  go_wp2_with fail
  clear hq4 hp4
  clear cc4_0_7 cc4_1_7
  refine (Made_any ny ay 0 cy ly 12 b _ (HWy.out.ext (((x0.trans xs).trans x2).trans xb4)) (by omega) E_b.out).mono ?_
  rintro e w6 ⟨⟨v6_0, rfl, ⟨s6_0, a6_0, n6_0, c6_0, rfl, hi6_0⟩⟩, x6⟩
  have HV6_0 : Hid (IntV w6 (.agg #[.bool s6_0, .slice a6_0 n6_0 c6_0]) (b)) := Lib.hid ⟨_, _, _, _, rfl, hi6_0⟩
  clear hi6_0
  obtain ⟨D8, wb8, hD8, hw8, hb8_0, xb8⟩ := one w6 24 [.bool s6_0, .slice a6_0 n6_0 c6_0]
  have KB9 : Hid (∀ W, Ext wb8 W → W.cell? ⟨D8, 0, none⟩ = some (.bool s6_0) ∧ W.cell? ⟨D8, 1, none⟩ = some (.slice a6_0 n6_0 c6_0)) := Lib.hid fun W h => ⟨h.cell (hb8_0.cell (i := 0) rfl), h.cell (hb8_0.cell (i := 1) rfl)⟩
  clear hb8_0
  obtain ⟨cc8_0_10, cc8_1_10⟩ := KB8.out wb8 (x6.trans xb8)
  have hq8 := hw8.symm
  have hp8 := hD8.symm
  clear hw8 hD8
  go_wp2_with fail
  clear hq8 hp8
  clear cc8_0_10 cc8_1_10
  refine (text_is _ a T _ (HV2_0.out.ext ((xb4.trans x6).trans xb8)) (HF1.out.mono (by omega)) G_ht.out).mono ?_
  rintro e w9 ⟨rfl, x9⟩
  go_wp2_with fail
  refine (parse_text T a _ G_ht.out (by omega)).mono ?_
  rintro e w11 ⟨⟨v11_0, rfl, ⟨s11_0, a11_0, n11_0, c11_0, rfl, hi11_0⟩⟩, x11⟩
  have HV11_0 : Hid (IntV w11 (.agg #[.bool s11_0, .slice a11_0 n11_0 c11_0]) (a)) := Lib.hid ⟨_, _, _, _, rfl, hi11_0⟩
  clear hi11_0
  obtain ⟨D12, wb12, hD12, hw12, hb12_0, xb12⟩ := one w11 24 [.bool s11_0, .slice a11_0 n11_0 c11_0]
  have KB11 : Hid (∀ W, Ext wb12 W → W.cell? ⟨D12, 0, none⟩ = some (.bool s11_0) ∧ W.cell? ⟨D12, 1, none⟩ = some (.slice a11_0 n11_0 c11_0)) := Lib.hid fun W h => ⟨h.cell (hb12_0.cell (i := 0) rfl), h.cell (hb12_0.cell (i := 1) rfl)⟩
  clear hb12_0
  have KX13 : Hid (∀ w', Ext wb12 w' → w'.cell? ⟨D12, 0, none⟩ = some (.bool s11_0) ∧ w'.cell? ⟨D12, 1, none⟩ = some (.slice a11_0 n11_0 c11_0) ∧ w'.cell? ⟨D4, 0, none⟩ = some (.bool s2_0) ∧ w'.cell? ⟨D4, 1, none⟩ = some (.slice a2_0 n2_0 c2_0) ∧ w'.cell? ⟨D8, 0, none⟩ = some (.bool s6_0) ∧ w'.cell? ⟨D8, 1, none⟩ = some (.slice a6_0 n6_0 c6_0)) := Lib.hid fun w' h => by
    have q11 := KB11.out w' ((Ext.refl _).trans h)
    have q8 := KB8.out w' (((((x6.trans xb8).trans x9).trans x11).trans xb12).trans h)
    have q9 := KB9.out w' (((x9.trans x11).trans xb12).trans h)
    exact ⟨q11.1, q11.2, q8.1, q8.2, q9.1, q9.2⟩
  have hq12 := hw12.symm
  have hp12 := hD12.symm
  clear hw12 hD12
  go_wp2_with fail
  clear hq12 hp12
  have hz13 := Below.drewExt wb12
  go_region_held3
    (fun w' => w'.cell? ⟨D12, 0, none⟩ = some (.bool s11_0) ∧ w'.cell? ⟨D12, 1, none⟩ = some (.slice a11_0 n11_0 c11_0) ∧ w'.cell? ⟨D4, 0, none⟩ = some (.bool s2_0) ∧ w'.cell? ⟨D4, 1, none⟩ = some (.slice a2_0 n2_0 c2_0) ∧ w'.cell? ⟨D8, 0, none⟩ = some (.bool s6_0) ∧ w'.cell? ⟨D8, 1, none⟩ = some (.slice a6_0 n6_0 c6_0))
    (with_reducible exact KX13.out _ (by assumption))
    (first
    | (go_at_call 21; (with_reducible refine (same_eq _ _ (a) (a) _ (HV11_0.out.ext (xb12.trans hz13)) (HV2_0.out.ext ((((((xb4.trans x6).trans xb8).trans x9).trans x11).trans xb12).trans hz13)) (Eq.refl _)).mono ?_); rintro e w14 ⟨rfl, x14⟩; have hz14 := hz13.trans x14)
    | (go_at_call 28; (with_reducible refine (text_is _ b T _ (HV6_0.out.ext (((((xb8.trans x9).trans x11).trans xb12).trans hz13).trans x14)) (HF5.out.mono (by omega)) (G_hab.out ▸ G_ht.out)).mono ?_); rintro e w15 ⟨rfl, x15⟩; have hz15 := hz14.trans x15)
    | (go_at_call 21; (with_reducible refine (same_eq _ _ a b _ (HV2_0.out.ext ((((((((xb4.trans x6).trans xb8).trans x9).trans x11).trans xb12).trans hz13).trans x14).trans x15)) (HV6_0.out.ext ((((((xb8.trans x9).trans x11).trans xb12).trans hz13).trans x14).trans x15)) G_hab.out).mono ?_); rintro e w16 ⟨rfl, x16⟩; have hz16 := hz15.trans x16)
    )
  clear KX13
  obtain ⟨cc4_0_17, cc4_1_17⟩ := KB4.out w16 (((((((((((xs.trans x2).trans xb4).trans x6).trans xb8).trans x9).trans x11).trans xb12).trans hz13).trans x14).trans x15).trans x16)
  have HX1 := G_hx1.out
  have HX2 := G_hx2.out
  have HX3 := G_hx3.out
  have HX4 := G_hx4.out
  have HX5 := G_hx5.out
  have HX6 := G_hx6.out
  have HX7 := G_hx7.out
  go_wp2_with fail
  clear cc4_0_17 cc4_1_17
  refine wp_region_facts [74, 75, 76, 77, 78, 79, 80, 81, 82, 83, 84, 85, 86, 87, 15] (OddE (w16) T P O) (by kernel_rfl) (by kernel_rfl) ?_ ?_ ?_
  · intro y
    exact ⟨(Ext.refl _).drew, by simp, by simp, by simp, by simp, by simp, by simp, by simp, by simp, by simp, by simp, by simp, by simp, by simp, by simp, by simp⟩
  · intro Q
    refine AllF.cons rfl ?_ ?_
    · skip
      with_reducible refine StepF.dst (d := 74) (by kernel_rfl) (by kernel_rfl) ?_
      intro L y w hi hp h K hK
      simp only [putAll, List.foldl, Act.put, List.setIfInBounds_toArray, List.set_cons_zero, List.set_cons_succ] at hK ⊢
      have HK := Lib.hid hK
      clear hK
      go_simp
      refine HK.out _ _ ?_
      have k := h.out
      exact ⟨k.e, fun _ => upd_eq, k.f1, k.f2, k.f3, k.f4, k.f5, k.f6, k.f7, k.f8, k.f9, k.f10, k.f11, k.f12, k.f13, k.f14⟩
    refine AllF.cons rfl ?_ ?_
    · skip
      with_reducible refine StepF.dst (d := 75) (by kernel_rfl) (by kernel_rfl) ?_
      intro L y w hi hp h K hK
      simp only [putAll, List.foldl, Act.put, List.setIfInBounds_toArray, List.set_cons_zero, List.set_cons_succ] at hK ⊢
      have HK := Lib.hid hK
      clear hK
      go_simp
      refine HK.out _ _ ?_
      have k := h.out
      exact ⟨k.e, k.f0, fun _ => upd_eq, k.f2, k.f3, k.f4, k.f5, k.f6, k.f7, k.f8, k.f9, k.f10, k.f11, k.f12, k.f13, k.f14⟩
    refine AllF.cons rfl ?_ ?_
    · skip
      with_reducible refine StepF.dst (d := 76) (by kernel_rfl) (by kernel_rfl) ?_
      intro L y w hi hp h K hK
      simp only [putAll, List.foldl, Act.put, List.setIfInBounds_toArray, List.set_cons_zero, List.set_cons_succ] at hK ⊢
      have HK := Lib.hid hK
      clear hK
      have g0 := h.out.f0 (hp.out 0 (by kernel_rfl))
      have g1 := h.out.f1 (hp.out 1 (by kernel_rfl))
      simp only [g0, g1] at HK
      go_simp
      refine HK.out _ _ ?_
      have k := h.out
      exact ⟨k.e, k.f0, k.f1, fun _ => upd_eq, k.f3, k.f4, k.f5, k.f6, k.f7, k.f8, k.f9, k.f10, k.f11, k.f12, k.f13, k.f14⟩
    refine AllF.cons rfl ?_ ?_
    · skip
      with_reducible refine StepF.dst (d := 77) (by kernel_rfl) (by kernel_rfl) ?_
      intro L y w hi hp h K hK
      simp only [putAll, List.foldl, Act.put, List.setIfInBounds_toArray, List.set_cons_zero, List.set_cons_succ] at hK ⊢
      have HK := Lib.hid hK
      clear hK
      go_simp
      refine HK.out _ _ ?_
      have k := h.out
      exact ⟨k.e, k.f0, k.f1, k.f2, fun _ => upd_eq, k.f4, k.f5, k.f6, k.f7, k.f8, k.f9, k.f10, k.f11, k.f12, k.f13, k.f14⟩
    refine AllF.cons rfl ?_ ?_
    · skip
      with_reducible refine StepF.dst (d := 78) (by kernel_rfl) (by kernel_rfl) ?_
      intro L y w hi hp h K hK
      simp only [putAll, List.foldl, Act.put, List.setIfInBounds_toArray, List.set_cons_zero, List.set_cons_succ] at hK ⊢
      have HK := Lib.hid hK
      clear hK
      have g2 := h.out.f2 (hp.out 2 (by kernel_rfl))
      have g3 := h.out.f3 (hp.out 3 (by kernel_rfl))
      simp only [g2, g3] at HK
      go_simp
      refine HK.out _ _ ?_
      have k := h.out
      exact ⟨k.e, k.f0, k.f1, k.f2, k.f3, fun _ => upd_eq, k.f5, k.f6, k.f7, k.f8, k.f9, k.f10, k.f11, k.f12, k.f13, k.f14⟩
    refine AllF.cons rfl ?_ ?_
    · skip
      with_reducible refine StepF.dst (d := 79) (by kernel_rfl) (by kernel_rfl) ?_
      intro L y w hi hp h K hK
      simp only [putAll, List.foldl, Act.put, List.setIfInBounds_toArray, List.set_cons_zero, List.set_cons_succ] at hK ⊢
      have HK := Lib.hid hK
      clear hK
      go_simp
      refine HK.out _ _ ?_
      have k := h.out
      exact ⟨k.e, k.f0, k.f1, k.f2, k.f3, k.f4, fun _ => upd_eq, k.f6, k.f7, k.f8, k.f9, k.f10, k.f11, k.f12, k.f13, k.f14⟩
    refine AllF.cons rfl ?_ ?_
    · skip
      with_reducible refine StepF.dst (d := 80) (by kernel_rfl) (by kernel_rfl) ?_
      intro L y w hi hp h K hK
      simp only [putAll, List.foldl, Act.put, List.setIfInBounds_toArray, List.set_cons_zero, List.set_cons_succ] at hK ⊢
      have HK := Lib.hid hK
      clear hK
      go_simp
      refine HK.out _ _ ?_
      have k := h.out
      exact ⟨k.e, k.f0, k.f1, k.f2, k.f3, k.f4, k.f5, fun _ => upd_eq, k.f7, k.f8, k.f9, k.f10, k.f11, k.f12, k.f13, k.f14⟩
    refine AllF.cons rfl ?_ ?_
    · skip
      with_reducible refine StepF.dst (d := 81) (by kernel_rfl) (by kernel_rfl) ?_
      intro L y w hi hp h K hK
      simp only [putAll, List.foldl, Act.put, List.setIfInBounds_toArray, List.set_cons_zero, List.set_cons_succ] at hK ⊢
      have HK := Lib.hid hK
      clear hK
      go_simp
      refine HK.out _ _ ?_
      have k := h.out
      exact ⟨k.e, k.f0, k.f1, k.f2, k.f3, k.f4, k.f5, k.f6, fun _ => upd_eq, k.f8, k.f9, k.f10, k.f11, k.f12, k.f13, k.f14⟩
    refine AllF.cons rfl ?_ ?_
    · skip
      with_reducible refine StepF.dst (d := 82) (by kernel_rfl) (by kernel_rfl) ?_
      intro L y w hi hp h K hK
      simp only [putAll, List.foldl, Act.put, List.setIfInBounds_toArray, List.set_cons_zero, List.set_cons_succ] at hK ⊢
      have HK := Lib.hid hK
      clear hK
      have g6 := h.out.f6 (hp.out 6 (by kernel_rfl))
      have g7 := h.out.f7 (hp.out 7 (by kernel_rfl))
      simp only [g6, g7] at HK
      go_simp
      refine HK.out _ _ ?_
      have k := h.out
      exact ⟨k.e, k.f0, k.f1, k.f2, k.f3, k.f4, k.f5, k.f6, k.f7, fun _ => upd_eq, k.f9, k.f10, k.f11, k.f12, k.f13, k.f14⟩
    refine AllF.cons rfl ?_ ?_
    · skip
      with_reducible refine StepF.dst (d := 83) (by kernel_rfl) (by kernel_rfl) ?_
      intro L y w hi hp h K hK
      simp only [putAll, List.foldl, Act.put, List.setIfInBounds_toArray, List.set_cons_zero, List.set_cons_succ] at hK ⊢
      have HK := Lib.hid hK
      clear hK
      go_simp
      refine HK.out _ _ ?_
      have k := h.out
      exact ⟨k.e, k.f0, k.f1, k.f2, k.f3, k.f4, k.f5, k.f6, k.f7, k.f8, fun _ => upd_eq, k.f10, k.f11, k.f12, k.f13, k.f14⟩
    refine AllF.cons rfl ?_ ?_
    · skip
      with_reducible refine StepF.dst (d := 84) (by kernel_rfl) (by kernel_rfl) ?_
      intro L y w hi hp h K hK
      simp only [putAll, List.foldl, Act.put, List.setIfInBounds_toArray, List.set_cons_zero, List.set_cons_succ] at hK ⊢
      have HK := Lib.hid hK
      clear hK
      have g9 := h.out.f9 (hp.out 9 (by kernel_rfl))
      simp only [g9] at HK
      go_simp
      refine HK.out _ _ ?_
      have k := h.out
      exact ⟨k.e, k.f0, k.f1, k.f2, k.f3, k.f4, k.f5, k.f6, k.f7, k.f8, k.f9, fun _ => upd_eq, k.f11, k.f12, k.f13, k.f14⟩
    refine AllF.cons rfl ?_ ?_
    · skip
      with_reducible refine StepF.dst (d := 85) (by kernel_rfl) (by kernel_rfl) ?_
      intro L y w hi hp h K hK
      simp only [putAll, List.foldl, Act.put, List.setIfInBounds_toArray, List.set_cons_zero, List.set_cons_succ] at hK ⊢
      have HK := Lib.hid hK
      clear hK
      have g8 := h.out.f8 (hp.out 8 (by kernel_rfl))
      have g10 := h.out.f10 (hp.out 10 (by kernel_rfl))
      simp only [g8, g10] at HK
      go_simp
      refine HK.out _ _ ?_
      have k := h.out
      exact ⟨k.e, k.f0, k.f1, k.f2, k.f3, k.f4, k.f5, k.f6, k.f7, k.f8, k.f9, k.f10, fun _ => upd_eq, k.f12, k.f13, k.f14⟩
    refine AllF.cons rfl ?_ ?_
    · skip
      with_reducible refine StepF.dst (d := 86) (by kernel_rfl) (by kernel_rfl) ?_
      intro L y w hi hp h K hK
      simp only [putAll, List.foldl, Act.put, List.setIfInBounds_toArray, List.set_cons_zero, List.set_cons_succ] at hK ⊢
      have HK := Lib.hid hK
      clear hK
      have g5 := h.out.f5 (hp.out 5 (by kernel_rfl))
      have g11 := h.out.f11 (hp.out 11 (by kernel_rfl))
      simp only [g5, g11] at HK
      go_simp
      refine HK.out _ _ ?_
      have k := h.out
      exact ⟨k.e, k.f0, k.f1, k.f2, k.f3, k.f4, k.f5, k.f6, k.f7, k.f8, k.f9, k.f10, k.f11, fun _ => upd_eq, k.f13, k.f14⟩
    refine AllF.cons rfl ?_ ?_
    · skip
      with_reducible refine StepF.dst (d := 87) (by kernel_rfl) (by kernel_rfl) ?_
      intro L y w hi hp h K hK
      simp only [putAll, List.foldl, Act.put, List.setIfInBounds_toArray, List.set_cons_zero, List.set_cons_succ] at hK ⊢
      have HK := Lib.hid hK
      clear hK
      have g4 := h.out.f4 (hp.out 4 (by kernel_rfl))
      have g12 := h.out.f12 (hp.out 12 (by kernel_rfl))
      simp only [g4, g12] at HK
      go_simp
      refine HK.out _ _ ?_
      have k := h.out
      exact ⟨k.e, k.f0, k.f1, k.f2, k.f3, k.f4, k.f5, k.f6, k.f7, k.f8, k.f9, k.f10, k.f11, k.f12, fun _ => upd_eq, k.f14⟩
    refine AllF.cons rfl ?_ ?_
    · skip
      with_reducible refine StepF.dst (d := 15) (by kernel_rfl) (by kernel_rfl) ?_
      intro L y w hi hp h K hK
      simp only [putAll, List.foldl, Act.put, List.setIfInBounds_toArray, List.set_cons_zero, List.set_cons_succ] at hK ⊢
      have HK := Lib.hid hK
      clear hK
      have g13 := h.out.f13 (hp.out 13 (by kernel_rfl))
      simp only [g13] at HK
      go_simp
      refine HK.out _ _ ?_
      have k := h.out
      exact ⟨k.e, k.f0, k.f1, k.f2, k.f3, k.f4, k.f5, k.f6, k.f7, k.f8, k.f9, k.f10, k.f11, k.f12, k.f13, fun _ => upd_eq⟩
    exact trivial
  · intro L y wE hL h
    have xE := h.e
    have ey := h.f14 (hL 14 (by decide))
    simp only [putAll, List.foldl, Act.put, List.setIfInBounds_toArray, List.set_cons_zero, List.set_cons_succ]
    simp only [ey]
    clear hL h ey HX1 HX2 HX3 HX4 HX5 HX6 HX7
    go_wp2_with fail
    refine (parse_bad O _ G_hd.out hOl).mono ?_
    rintro e w18 ⟨rfl, x18⟩
    obtain ⟨D19, wb19, hD19, hw19, hb19_0, xb19⟩ := one w18 24 [.bool false, .slice none 0 0]
    have KB16 : Hid (∀ W, Ext wb19 W → W.cell? ⟨D19, 0, none⟩ = some (.bool false) ∧ W.cell? ⟨D19, 1, none⟩ = some (.slice none 0 0)) := Lib.hid fun W h => ⟨h.cell (hb19_0.cell (i := 0) rfl), h.cell (hb19_0.cell (i := 1) rfl)⟩
    have ze19_00 := setCell_same hb19_0 (i := 0) rfl
    have zf19_00 := hb19_0.free 0
    have ze19_01 := setCell_same hb19_0 (i := 1) rfl
    have zf19_01 := hb19_0.free 1
    clear hb19_0
    obtain ⟨cc16_0_20, cc16_1_20⟩ := KB16.out wb19 (Ext.refl _)
    have hq19 := hw19.symm
    have hp19 := hD19.symm
    clear hw19 hD19
    go_wp2_with fail
    clear hq19 hp19
    clear ze19_00 zf19_00 ze19_01 zf19_01 cc16_0_20 cc16_1_20
    go_wp2_with fail
    go_ret
    exact ⟨rfl, (((((((((((((((x0.trans xs).trans x2).trans xb4).trans x6).trans xb8).trans x9).trans x11).trans xb12).trans hz13).trans x14).trans x15).trans x16).trans xE).trans x18).trans xb19)⟩
structure OddF (w3 : World) (T P O1 O : List UInt8) (at0 cut M : Nat) (L : Nat → Bool) (y : Nat → Value) (w : World) : Prop where
  e : Ext w3 w
  f0 : L 0 = true → y 74 = .string ⟨T.toArray⟩
  f1 : L 1 = true → y 75 = .int .i64 (at0)
  f2 : L 2 = true → y 76 = .string ⟨(T.take at0).toArray⟩
  f3 : L 3 = true → y 77 = .string ⟨P.toArray⟩
  f4 : L 4 = true → y 78 = .string ⟨O1.toArray⟩
  f5 : L 5 = true → y 79 = .string ⟨T.toArray⟩
  f6 : L 6 = true → y 80 = .int .i64 (at0)
  f7 : L 7 = true → y 81 = .int .i64 (cut)
  f8 : L 8 = true → y 82 = .int .i64 ((at0 : Int) + (cut : Int))
  f9 : L 9 = true → y 83 = .string ⟨T.toArray⟩
  f10 : L 10 = true → y 84 = .int .i64 ((T.length : Int))
  f11 : L 11 = true → y 85 = .int .i64 (M)
  f12 : L 12 = true → y 86 = .string ⟨(T.drop M).toArray⟩
  f13 : L 13 = true → y 87 = .string ⟨O.toArray⟩
  f14 : L 14 = true → y 15 = .string ⟨O.toArray⟩
theorem OddF.ext {w3 : World} {T P O1 O : List UInt8} {at0 cut M : Nat} {L : Nat → Bool} {y : Nat → Value} {w w1 : World} (h : OddF w3 T P O1 O at0 cut M L y w) (he : Ext w w1) : OddF w3 T P O1 O at0 cut M L y w1 :=
  ⟨h.e.trans he, h.f0, h.f1, h.f2, h.f3, h.f4, h.f5, h.f6, h.f7, h.f8, h.f9, h.f10, h.f11, h.f12, h.f13, h.f14⟩
set_option maxRecDepth 100000 in
set_option maxHeartbeats 8000000 in
theorem texts_101 (nx : Bool) (ax : Option Addr) (kx cx : Nat) (lx : List Int) (a : Int) (ea : a = rawZ nx lx 12) (ny : Bool) (ay : Option Addr) (ky cy : Nat) (ly : List Int) (b : Int) (eb : b = rawZ ny ly 12) (w : World) (hx : Words w ax kx cx lx) (hy : Words w ay ky cy ly) (P : List UInt8) (T TB O : List UInt8) (d : Int) (O1 : List UInt8) (at0 cut M : Nat) (ht : textL a = T) (hTl : (T.length : Int) ≤ 200) (hp : decide ((6 : Int) < (P.length : Int)) = false) (hab : a = b) (by0 oy0 : Nat) (hay : ay = some ⟨by0, oy0, none⟩) (hky : decide ((0 : Int) < (ky : Int)) = true) (hkn : 0 < ky) (hkb : decide (0 < ky) = true) (hki : (0 : Int) < (ky : Int)) (y0 : Int) (hy0 : ly[0]? = some y0) (hcap : (cy : Int) ≤ 9223372036854775807) (hkc : (ky : Int) ≤ (cy : Int)) (hm1 : y0.tmod ((T.length : Int) + 1) = (at0 : Int)) (hm2 : y0.tmod 5 = (cut : Int)) (hat : at0 ≤ T.length) (hcut : cut ≤ 4) (hM : M = min (at0 + cut) T.length) (hO1 : O1 = T.take at0 ++ P) (hO : O = O1 ++ T.drop M) (hOl : O.length ≤ 4000) (hd : textL d = O) (fd : Fits d 1000)  :
    Calls Tryz.prog 8 #[.agg #[.bool nx, .slice ax kx cx], .agg #[.bool ny, .slice ay ky cy], .string ⟨P.toArray⟩] w fun e w' => e = .returned (.bool true) ∧ Ext w w' := by
  have G_hx1 : Hid ((⟨T.toArray⟩ : ByteArray).extract 0 at0 = ⟨(T.take at0).toArray⟩) := Lib.hid (ba_take T at0)
  have G_hx2 : Hid ((⟨T.toArray⟩ : ByteArray).extract M T.length = ⟨(T.drop M).toArray⟩) := Lib.hid (ba_drop T M)
  have G_hx3 : Hid ((⟨(T.take at0).toArray⟩ : ByteArray) ++ ⟨P.toArray⟩ = ⟨O1.toArray⟩) := Lib.hid (by rw [ba_append, hO1])
  have G_hx4 : Hid ((⟨O1.toArray⟩ : ByteArray) ++ ⟨(T.drop M).toArray⟩ = ⟨O.toArray⟩) := Lib.hid (by rw [ba_append, hO])
  have G_hx5 : Hid ((9223372036854775807 < at0 + P.length) = False) := Lib.hid (eq_false (by simp at hp; omega))
  have G_hx6 : Hid ((9223372036854775807 < O1.length + (T.length - M)) = False) := Lib.hid (eq_false (by rw [hO1, List.length_append, List.length_take]; simp at hp; omega))
  have G_hx7 : Hid (IntKind.i64.wrap ((at0 : Int) + (cut : Int)) = (at0 : Int) + (cut : Int)) := Lib.hid (IntWalk.i64_in _ (by omega))
  have G_hx8 : Hid (min (at0 + cut) T.length = M) := Lib.hid hM.symm
  have G_hx9 : Hid (min ((at0 : Int) + (cut : Int)) (T.length : Int) = (M : Int)) := Lib.hid (by omega)
  have G_hxm : Hid (M ≤ T.length) := Lib.hid (by omega)
  have G_ht := Lib.hid ht
  have G_hab := Lib.hid hab
  have G_hy0 := Lib.hid hy0
  have G_hd := Lib.hid hd
  have G_fd := Lib.hid fd
  clear hM hO1 hO ht hab hy0 hd fd
  subst hay
  have E_a := Lib.hid ea
  have HWx := Lib.hid hx
  clear ea hx
  have E_b := Lib.hid eb
  have HWy := Lib.hid hy
  clear eb hy
  obtain ⟨B0, w0, hB0, hw0, hr0, hr1, x0⟩ := two w 25 25 [.bool nx, .slice ax kx cx] [.bool ny, .slice (some ⟨by0, oy0, none⟩) ky cy]
  have HF1 : Hid (Fits (a) 12) := Lib.hid (by rw [E_a.out]; exact fits_raw (HWx.out.wf) (by omega))
  have HF5 : Hid (Fits (b) 12) := Lib.hid (by rw [E_b.out]; exact fits_raw (HWy.out.wf) (by omega))
  have HF18 : Hid (Fits (d) 1000) := Lib.hid G_fd.out
  have KB3 : Hid (∀ W, Ext w0 W → W.cell? ⟨B0, 0, none⟩ = some (.bool nx) ∧ W.cell? ⟨B0, 1, none⟩ = some (.slice ax kx cx)) := Lib.hid fun W h => ⟨h.cell (hr0.cell (i := 0) rfl), h.cell (hr0.cell (i := 1) rfl)⟩
  have KB4 : Hid (∀ W, Ext w0 W → W.cell? ⟨B0 + 1, 0, none⟩ = some (.bool ny) ∧ W.cell? ⟨B0 + 1, 1, none⟩ = some (.slice (some ⟨by0, oy0, none⟩) ky cy)) := Lib.hid fun W h => ⟨h.cell (hr1.cell (i := 0) rfl), h.cell (hr1.cell (i := 1) rfl)⟩
  clear hr0 hr1
  go_enter Tryz.func8, Tryz.ntmps8
  go_wp2_with fail
  rw [← hw0, ← hB0]
  clear hw0 hB0
  refine (sanity_any _).mono ?_
  rintro e ws ⟨rfl, xs⟩
  obtain ⟨cc3_0_3, cc3_1_3⟩ := KB3.out ws xs
  go_wp2_with fail
  clear cc3_0_3 cc3_1_3
  refine (Made_any nx ax kx cx lx 12 a _ (HWx.out.ext (x0.trans xs)) (by omega) E_a.out).mono ?_
  rintro e w2 ⟨⟨v2_0, rfl, ⟨s2_0, a2_0, n2_0, c2_0, rfl, hi2_0⟩⟩, x2⟩
  have HV2_0 : Hid (IntV w2 (.agg #[.bool s2_0, .slice a2_0 n2_0 c2_0]) (a)) := Lib.hid ⟨_, _, _, _, rfl, hi2_0⟩
  clear hi2_0
  obtain ⟨D4, wb4, hD4, hw4, hb4_0, xb4⟩ := one w2 24 [.bool s2_0, .slice a2_0 n2_0 c2_0]
  have KB8 : Hid (∀ W, Ext wb4 W → W.cell? ⟨D4, 0, none⟩ = some (.bool s2_0) ∧ W.cell? ⟨D4, 1, none⟩ = some (.slice a2_0 n2_0 c2_0)) := Lib.hid fun W h => ⟨h.cell (hb4_0.cell (i := 0) rfl), h.cell (hb4_0.cell (i := 1) rfl)⟩
  clear hb4_0
  obtain ⟨cc4_0_7, cc4_1_7⟩ := KB4.out wb4 ((xs.trans x2).trans xb4)
  have hq4 := hw4.symm
  have hp4 := hD4.symm
  clear hw4 hD4
  go_wp2_with fail
  clear hq4 hp4
  clear cc4_0_7 cc4_1_7
  refine (Made_any ny (some ⟨by0, oy0, none⟩) ky cy ly 12 b _ (HWy.out.ext (((x0.trans xs).trans x2).trans xb4)) (by omega) E_b.out).mono ?_
  rintro e w6 ⟨⟨v6_0, rfl, ⟨s6_0, a6_0, n6_0, c6_0, rfl, hi6_0⟩⟩, x6⟩
  have HV6_0 : Hid (IntV w6 (.agg #[.bool s6_0, .slice a6_0 n6_0 c6_0]) (b)) := Lib.hid ⟨_, _, _, _, rfl, hi6_0⟩
  clear hi6_0
  obtain ⟨D8, wb8, hD8, hw8, hb8_0, xb8⟩ := one w6 24 [.bool s6_0, .slice a6_0 n6_0 c6_0]
  have KB9 : Hid (∀ W, Ext wb8 W → W.cell? ⟨D8, 0, none⟩ = some (.bool s6_0) ∧ W.cell? ⟨D8, 1, none⟩ = some (.slice a6_0 n6_0 c6_0)) := Lib.hid fun W h => ⟨h.cell (hb8_0.cell (i := 0) rfl), h.cell (hb8_0.cell (i := 1) rfl)⟩
  clear hb8_0
  obtain ⟨cc8_0_10, cc8_1_10⟩ := KB8.out wb8 (x6.trans xb8)
  have hq8 := hw8.symm
  have hp8 := hD8.symm
  clear hw8 hD8
  go_wp2_with fail
  clear hq8 hp8
  clear cc8_0_10 cc8_1_10
  refine (text_is _ a T _ (HV2_0.out.ext ((xb4.trans x6).trans xb8)) (HF1.out.mono (by omega)) G_ht.out).mono ?_
  rintro e w9 ⟨rfl, x9⟩
  go_wp2_with fail
  refine (parse_text T a _ G_ht.out (by omega)).mono ?_
  rintro e w11 ⟨⟨v11_0, rfl, ⟨s11_0, a11_0, n11_0, c11_0, rfl, hi11_0⟩⟩, x11⟩
  have HV11_0 : Hid (IntV w11 (.agg #[.bool s11_0, .slice a11_0 n11_0 c11_0]) (a)) := Lib.hid ⟨_, _, _, _, rfl, hi11_0⟩
  clear hi11_0
  obtain ⟨D12, wb12, hD12, hw12, hb12_0, xb12⟩ := one w11 24 [.bool s11_0, .slice a11_0 n11_0 c11_0]
  have KB11 : Hid (∀ W, Ext wb12 W → W.cell? ⟨D12, 0, none⟩ = some (.bool s11_0) ∧ W.cell? ⟨D12, 1, none⟩ = some (.slice a11_0 n11_0 c11_0)) := Lib.hid fun W h => ⟨h.cell (hb12_0.cell (i := 0) rfl), h.cell (hb12_0.cell (i := 1) rfl)⟩
  clear hb12_0
  have KX13 : Hid (∀ w', Ext wb12 w' → w'.cell? ⟨D12, 0, none⟩ = some (.bool s11_0) ∧ w'.cell? ⟨D12, 1, none⟩ = some (.slice a11_0 n11_0 c11_0) ∧ w'.cell? ⟨D4, 0, none⟩ = some (.bool s2_0) ∧ w'.cell? ⟨D4, 1, none⟩ = some (.slice a2_0 n2_0 c2_0) ∧ w'.cell? ⟨D8, 0, none⟩ = some (.bool s6_0) ∧ w'.cell? ⟨D8, 1, none⟩ = some (.slice a6_0 n6_0 c6_0)) := Lib.hid fun w' h => by
    have q11 := KB11.out w' ((Ext.refl _).trans h)
    have q8 := KB8.out w' (((((x6.trans xb8).trans x9).trans x11).trans xb12).trans h)
    have q9 := KB9.out w' (((x9.trans x11).trans xb12).trans h)
    exact ⟨q11.1, q11.2, q8.1, q8.2, q9.1, q9.2⟩
  have hq12 := hw12.symm
  have hp12 := hD12.symm
  clear hw12 hD12
  go_wp2_with fail
  clear hq12 hp12
  have hz13 := Below.drewExt wb12
  go_region_held3
    (fun w' => w'.cell? ⟨D12, 0, none⟩ = some (.bool s11_0) ∧ w'.cell? ⟨D12, 1, none⟩ = some (.slice a11_0 n11_0 c11_0) ∧ w'.cell? ⟨D4, 0, none⟩ = some (.bool s2_0) ∧ w'.cell? ⟨D4, 1, none⟩ = some (.slice a2_0 n2_0 c2_0) ∧ w'.cell? ⟨D8, 0, none⟩ = some (.bool s6_0) ∧ w'.cell? ⟨D8, 1, none⟩ = some (.slice a6_0 n6_0 c6_0))
    (with_reducible exact KX13.out _ (by assumption))
    (first
    | (go_at_call 21; (with_reducible refine (same_eq _ _ (a) (a) _ (HV11_0.out.ext (xb12.trans hz13)) (HV2_0.out.ext ((((((xb4.trans x6).trans xb8).trans x9).trans x11).trans xb12).trans hz13)) (Eq.refl _)).mono ?_); rintro e w14 ⟨rfl, x14⟩; have hz14 := hz13.trans x14)
    | (go_at_call 28; (with_reducible refine (text_is _ b T _ (HV6_0.out.ext (((((xb8.trans x9).trans x11).trans xb12).trans hz13).trans x14)) (HF5.out.mono (by omega)) (G_hab.out ▸ G_ht.out)).mono ?_); rintro e w15 ⟨rfl, x15⟩; have hz15 := hz14.trans x15)
    | (go_at_call 21; (with_reducible refine (same_eq _ _ a b _ (HV2_0.out.ext ((((((((xb4.trans x6).trans xb8).trans x9).trans x11).trans xb12).trans hz13).trans x14).trans x15)) (HV6_0.out.ext ((((((xb8.trans x9).trans x11).trans xb12).trans hz13).trans x14).trans x15)) G_hab.out).mono ?_); rintro e w16 ⟨rfl, x16⟩; have hz16 := hz15.trans x16)
    )
  clear KX13
  obtain ⟨cc4_0_17, cc4_1_17⟩ := KB4.out w16 (((((((((((xs.trans x2).trans xb4).trans x6).trans xb8).trans x9).trans x11).trans xb12).trans hz13).trans x14).trans x15).trans x16)
  have hcy0 := (HWy.out.ext ((((((((((((x0.trans xs).trans x2).trans xb4).trans x6).trans xb8).trans x9).trans x11).trans xb12).trans hz13).trans x14).trans x15).trans x16)).cells 0 y0 G_hy0.out
  obtain ⟨b1, o1, e1, hcy⟩ := hcy0
  cases e1
  rw [Nat.add_zero] at hcy
  have bt0 : (at0 : Int) ≤ (T.length : Int) := by omega
  have bt1 : (0 : Int) ≤ (at0 : Int) := by omega
  have bt2 : (cut : Int) ≤ 4 := by omega
  have bt3 : (0 : Int) ≤ (cut : Int) := by omega
  have HXm := G_hxm.out
  have HX1 := G_hx1.out
  have HX2 := G_hx2.out
  have HX3 := G_hx3.out
  have HX4 := G_hx4.out
  have HX5 := G_hx5.out
  have HX6 := G_hx6.out
  have HX7 := G_hx7.out
  have HX8 := G_hx8.out
  have HX9 := G_hx9.out
  go_wp2_with fail
  clear hcy hm1 hm2
  clear cc4_0_17 cc4_1_17
  refine wp_region_facts [74, 75, 76, 77, 78, 79, 80, 81, 82, 83, 84, 85, 86, 87, 15] (OddF (w16) T P O1 O at0 cut M) (by kernel_rfl) (by kernel_rfl) ?_ ?_ ?_
  · intro y
    exact ⟨(Ext.refl _).drew, by simp, by simp, by simp, by simp, by simp, by simp, by simp, by simp, by simp, by simp, by simp, by simp, by simp, by simp, by simp⟩
  · intro Q
    refine AllF.cons rfl ?_ ?_
    · skip
      with_reducible refine StepF.dst (d := 74) (by kernel_rfl) (by kernel_rfl) ?_
      intro L y w hi hp h K hK
      simp only [putAll, List.foldl, Act.put, List.setIfInBounds_toArray, List.set_cons_zero, List.set_cons_succ] at hK ⊢
      have HK := Lib.hid hK
      clear hK
      go_simp
      refine HK.out _ _ ?_
      have k := h.out
      exact ⟨k.e, fun _ => upd_eq, k.f1, k.f2, k.f3, k.f4, k.f5, k.f6, k.f7, k.f8, k.f9, k.f10, k.f11, k.f12, k.f13, k.f14⟩
    refine AllF.cons rfl ?_ ?_
    · skip
      with_reducible refine StepF.dst (d := 75) (by kernel_rfl) (by kernel_rfl) ?_
      intro L y w hi hp h K hK
      simp only [putAll, List.foldl, Act.put, List.setIfInBounds_toArray, List.set_cons_zero, List.set_cons_succ] at hK ⊢
      have HK := Lib.hid hK
      clear hK
      go_simp
      refine HK.out _ _ ?_
      have k := h.out
      exact ⟨k.e, k.f0, fun _ => upd_eq, k.f2, k.f3, k.f4, k.f5, k.f6, k.f7, k.f8, k.f9, k.f10, k.f11, k.f12, k.f13, k.f14⟩
    refine AllF.cons rfl ?_ ?_
    · skip
      with_reducible refine StepF.dst (d := 76) (by kernel_rfl) (by kernel_rfl) ?_
      intro L y w hi hp h K hK
      simp only [putAll, List.foldl, Act.put, List.setIfInBounds_toArray, List.set_cons_zero, List.set_cons_succ] at hK ⊢
      have HK := Lib.hid hK
      clear hK
      have g0 := h.out.f0 (hp.out 0 (by kernel_rfl))
      have g1 := h.out.f1 (hp.out 1 (by kernel_rfl))
      simp only [g0, g1] at HK
      go_simp
      refine HK.out _ _ ?_
      have k := h.out
      exact ⟨k.e, k.f0, k.f1, fun _ => upd_eq, k.f3, k.f4, k.f5, k.f6, k.f7, k.f8, k.f9, k.f10, k.f11, k.f12, k.f13, k.f14⟩
    refine AllF.cons rfl ?_ ?_
    · skip
      with_reducible refine StepF.dst (d := 77) (by kernel_rfl) (by kernel_rfl) ?_
      intro L y w hi hp h K hK
      simp only [putAll, List.foldl, Act.put, List.setIfInBounds_toArray, List.set_cons_zero, List.set_cons_succ] at hK ⊢
      have HK := Lib.hid hK
      clear hK
      go_simp
      refine HK.out _ _ ?_
      have k := h.out
      exact ⟨k.e, k.f0, k.f1, k.f2, fun _ => upd_eq, k.f4, k.f5, k.f6, k.f7, k.f8, k.f9, k.f10, k.f11, k.f12, k.f13, k.f14⟩
    refine AllF.cons rfl ?_ ?_
    · skip
      with_reducible refine StepF.dst (d := 78) (by kernel_rfl) (by kernel_rfl) ?_
      intro L y w hi hp h K hK
      simp only [putAll, List.foldl, Act.put, List.setIfInBounds_toArray, List.set_cons_zero, List.set_cons_succ] at hK ⊢
      have HK := Lib.hid hK
      clear hK
      have g2 := h.out.f2 (hp.out 2 (by kernel_rfl))
      have g3 := h.out.f3 (hp.out 3 (by kernel_rfl))
      simp only [g2, g3] at HK
      go_simp
      refine HK.out _ _ ?_
      have k := h.out
      exact ⟨k.e, k.f0, k.f1, k.f2, k.f3, fun _ => upd_eq, k.f5, k.f6, k.f7, k.f8, k.f9, k.f10, k.f11, k.f12, k.f13, k.f14⟩
    refine AllF.cons rfl ?_ ?_
    · skip
      with_reducible refine StepF.dst (d := 79) (by kernel_rfl) (by kernel_rfl) ?_
      intro L y w hi hp h K hK
      simp only [putAll, List.foldl, Act.put, List.setIfInBounds_toArray, List.set_cons_zero, List.set_cons_succ] at hK ⊢
      have HK := Lib.hid hK
      clear hK
      go_simp
      refine HK.out _ _ ?_
      have k := h.out
      exact ⟨k.e, k.f0, k.f1, k.f2, k.f3, k.f4, fun _ => upd_eq, k.f6, k.f7, k.f8, k.f9, k.f10, k.f11, k.f12, k.f13, k.f14⟩
    refine AllF.cons rfl ?_ ?_
    · skip
      with_reducible refine StepF.dst (d := 80) (by kernel_rfl) (by kernel_rfl) ?_
      intro L y w hi hp h K hK
      simp only [putAll, List.foldl, Act.put, List.setIfInBounds_toArray, List.set_cons_zero, List.set_cons_succ] at hK ⊢
      have HK := Lib.hid hK
      clear hK
      go_simp
      refine HK.out _ _ ?_
      have k := h.out
      exact ⟨k.e, k.f0, k.f1, k.f2, k.f3, k.f4, k.f5, fun _ => upd_eq, k.f7, k.f8, k.f9, k.f10, k.f11, k.f12, k.f13, k.f14⟩
    refine AllF.cons rfl ?_ ?_
    · skip
      with_reducible refine StepF.dst (d := 81) (by kernel_rfl) (by kernel_rfl) ?_
      intro L y w hi hp h K hK
      simp only [putAll, List.foldl, Act.put, List.setIfInBounds_toArray, List.set_cons_zero, List.set_cons_succ] at hK ⊢
      have HK := Lib.hid hK
      clear hK
      go_simp
      refine HK.out _ _ ?_
      have k := h.out
      exact ⟨k.e, k.f0, k.f1, k.f2, k.f3, k.f4, k.f5, k.f6, fun _ => upd_eq, k.f8, k.f9, k.f10, k.f11, k.f12, k.f13, k.f14⟩
    refine AllF.cons rfl ?_ ?_
    · skip
      with_reducible refine StepF.dst (d := 82) (by kernel_rfl) (by kernel_rfl) ?_
      intro L y w hi hp h K hK
      simp only [putAll, List.foldl, Act.put, List.setIfInBounds_toArray, List.set_cons_zero, List.set_cons_succ] at hK ⊢
      have HK := Lib.hid hK
      clear hK
      have g6 := h.out.f6 (hp.out 6 (by kernel_rfl))
      have g7 := h.out.f7 (hp.out 7 (by kernel_rfl))
      simp only [g6, g7] at HK
      go_simp
      refine HK.out _ _ ?_
      have k := h.out
      exact ⟨k.e, k.f0, k.f1, k.f2, k.f3, k.f4, k.f5, k.f6, k.f7, fun _ => upd_eq, k.f9, k.f10, k.f11, k.f12, k.f13, k.f14⟩
    refine AllF.cons rfl ?_ ?_
    · skip
      with_reducible refine StepF.dst (d := 83) (by kernel_rfl) (by kernel_rfl) ?_
      intro L y w hi hp h K hK
      simp only [putAll, List.foldl, Act.put, List.setIfInBounds_toArray, List.set_cons_zero, List.set_cons_succ] at hK ⊢
      have HK := Lib.hid hK
      clear hK
      go_simp
      refine HK.out _ _ ?_
      have k := h.out
      exact ⟨k.e, k.f0, k.f1, k.f2, k.f3, k.f4, k.f5, k.f6, k.f7, k.f8, fun _ => upd_eq, k.f10, k.f11, k.f12, k.f13, k.f14⟩
    refine AllF.cons rfl ?_ ?_
    · skip
      with_reducible refine StepF.dst (d := 84) (by kernel_rfl) (by kernel_rfl) ?_
      intro L y w hi hp h K hK
      simp only [putAll, List.foldl, Act.put, List.setIfInBounds_toArray, List.set_cons_zero, List.set_cons_succ] at hK ⊢
      have HK := Lib.hid hK
      clear hK
      have g9 := h.out.f9 (hp.out 9 (by kernel_rfl))
      simp only [g9] at HK
      go_simp
      refine HK.out _ _ ?_
      have k := h.out
      exact ⟨k.e, k.f0, k.f1, k.f2, k.f3, k.f4, k.f5, k.f6, k.f7, k.f8, k.f9, fun _ => upd_eq, k.f11, k.f12, k.f13, k.f14⟩
    refine AllF.cons rfl ?_ ?_
    · skip
      with_reducible refine StepF.dst (d := 85) (by kernel_rfl) (by kernel_rfl) ?_
      intro L y w hi hp h K hK
      simp only [putAll, List.foldl, Act.put, List.setIfInBounds_toArray, List.set_cons_zero, List.set_cons_succ] at hK ⊢
      have HK := Lib.hid hK
      clear hK
      have g8 := h.out.f8 (hp.out 8 (by kernel_rfl))
      have g10 := h.out.f10 (hp.out 10 (by kernel_rfl))
      simp only [g8, g10] at HK
      go_simp
      refine HK.out _ _ ?_
      have k := h.out
      exact ⟨k.e, k.f0, k.f1, k.f2, k.f3, k.f4, k.f5, k.f6, k.f7, k.f8, k.f9, k.f10, fun _ => upd_eq, k.f12, k.f13, k.f14⟩
    refine AllF.cons rfl ?_ ?_
    · skip
      with_reducible refine StepF.dst (d := 86) (by kernel_rfl) (by kernel_rfl) ?_
      intro L y w hi hp h K hK
      simp only [putAll, List.foldl, Act.put, List.setIfInBounds_toArray, List.set_cons_zero, List.set_cons_succ] at hK ⊢
      have HK := Lib.hid hK
      clear hK
      have g5 := h.out.f5 (hp.out 5 (by kernel_rfl))
      have g11 := h.out.f11 (hp.out 11 (by kernel_rfl))
      simp only [g5, g11] at HK
      go_simp
      refine HK.out _ _ ?_
      have k := h.out
      exact ⟨k.e, k.f0, k.f1, k.f2, k.f3, k.f4, k.f5, k.f6, k.f7, k.f8, k.f9, k.f10, k.f11, fun _ => upd_eq, k.f13, k.f14⟩
    refine AllF.cons rfl ?_ ?_
    · skip
      with_reducible refine StepF.dst (d := 87) (by kernel_rfl) (by kernel_rfl) ?_
      intro L y w hi hp h K hK
      simp only [putAll, List.foldl, Act.put, List.setIfInBounds_toArray, List.set_cons_zero, List.set_cons_succ] at hK ⊢
      have HK := Lib.hid hK
      clear hK
      have g4 := h.out.f4 (hp.out 4 (by kernel_rfl))
      have g12 := h.out.f12 (hp.out 12 (by kernel_rfl))
      simp only [g4, g12] at HK
      go_simp
      refine HK.out _ _ ?_
      have k := h.out
      exact ⟨k.e, k.f0, k.f1, k.f2, k.f3, k.f4, k.f5, k.f6, k.f7, k.f8, k.f9, k.f10, k.f11, k.f12, fun _ => upd_eq, k.f14⟩
    refine AllF.cons rfl ?_ ?_
    · skip
      with_reducible refine StepF.dst (d := 15) (by kernel_rfl) (by kernel_rfl) ?_
      intro L y w hi hp h K hK
      simp only [putAll, List.foldl, Act.put, List.setIfInBounds_toArray, List.set_cons_zero, List.set_cons_succ] at hK ⊢
      have HK := Lib.hid hK
      clear hK
      have g13 := h.out.f13 (hp.out 13 (by kernel_rfl))
      simp only [g13] at HK
      go_simp
      refine HK.out _ _ ?_
      have k := h.out
      exact ⟨k.e, k.f0, k.f1, k.f2, k.f3, k.f4, k.f5, k.f6, k.f7, k.f8, k.f9, k.f10, k.f11, k.f12, k.f13, fun _ => upd_eq⟩
    exact trivial
  · intro L y wE hL h
    have xE := h.e
    have ey := h.f14 (hL 14 (by decide))
    simp only [putAll, List.foldl, Act.put, List.setIfInBounds_toArray, List.set_cons_zero, List.set_cons_succ]
    simp only [ey]
    clear hL h ey HX1 HX2 HX3 HX4 HX5 HX6 HX7 HX8 HX9 bt0 bt1 bt2 bt3 HXm
    go_wp2_with fail
    refine (parse_text O d _ G_hd.out hOl).mono ?_
    rintro e w19 ⟨⟨v19_0, rfl, ⟨s19_0, a19_0, n19_0, c19_0, rfl, hi19_0⟩⟩, x19⟩
    have HV19_0 : Hid (IntV w19 (.agg #[.bool s19_0, .slice a19_0 n19_0 c19_0]) (d)) := Lib.hid ⟨_, _, _, _, rfl, hi19_0⟩
    clear hi19_0
    obtain ⟨D20, wb20, hD20, hw20, hb20_0, xb20⟩ := one w19 24 [.bool s19_0, .slice a19_0 n19_0 c19_0]
    have KB16 : Hid (∀ W, Ext wb20 W → W.cell? ⟨D20, 0, none⟩ = some (.bool s19_0) ∧ W.cell? ⟨D20, 1, none⟩ = some (.slice a19_0 n19_0 c19_0)) := Lib.hid fun W h => ⟨h.cell (hb20_0.cell (i := 0) rfl), h.cell (hb20_0.cell (i := 1) rfl)⟩
    clear hb20_0
    obtain ⟨cc16_0_22, cc16_1_22⟩ := KB16.out wb20 (Ext.refl _)
    have hq20 := hw20.symm
    have hp20 := hD20.symm
    clear hw20 hD20
    go_wp2_with fail
    clear hq20 hp20
    clear cc16_0_22 cc16_1_22
    refine (rvalid_any _ (d) _ (HV19_0.out.ext xb20)).mono ?_
    rintro e w21 ⟨rfl, x21⟩
    obtain ⟨cc16_0_24, cc16_1_24⟩ := KB16.out w21 x21
    go_wp2_with fail
    clear cc16_0_24 cc16_1_24
    refine (text_is _ d O _ (HV19_0.out.ext (xb20.trans x21)) G_fd.out G_hd.out).mono ?_
    rintro e w23 ⟨rfl, x23⟩
    go_wp2_with fail
    go_ret
    exact ⟨rfl, (((((((((((((((((x0.trans xs).trans x2).trans xb4).trans x6).trans xb8).trans x9).trans x11).trans xb12).trans hz13).trans x14).trans x15).trans x16).trans xE).trans x19).trans xb20).trans x21).trans x23)⟩
set_option maxRecDepth 100000 in
set_option maxHeartbeats 8000000 in
theorem texts_100 (nx : Bool) (ax : Option Addr) (kx cx : Nat) (lx : List Int) (a : Int) (ea : a = rawZ nx lx 12) (ny : Bool) (ay : Option Addr) (ky cy : Nat) (ly : List Int) (b : Int) (eb : b = rawZ ny ly 12) (w : World) (hx : Words w ax kx cx lx) (hy : Words w ay ky cy ly) (P : List UInt8) (T TB O : List UInt8) (d : Int) (O1 : List UInt8) (at0 cut M : Nat) (ht : textL a = T) (hTl : (T.length : Int) ≤ 200) (hp : decide ((6 : Int) < (P.length : Int)) = false) (hab : a = b) (by0 oy0 : Nat) (hay : ay = some ⟨by0, oy0, none⟩) (hky : decide ((0 : Int) < (ky : Int)) = true) (hkn : 0 < ky) (hkb : decide (0 < ky) = true) (hki : (0 : Int) < (ky : Int)) (y0 : Int) (hy0 : ly[0]? = some y0) (hcap : (cy : Int) ≤ 9223372036854775807) (hkc : (ky : Int) ≤ (cy : Int)) (hm1 : y0.tmod ((T.length : Int) + 1) = (at0 : Int)) (hm2 : y0.tmod 5 = (cut : Int)) (hat : at0 ≤ T.length) (hcut : cut ≤ 4) (hM : M = min (at0 + cut) T.length) (hO1 : O1 = T.take at0 ++ P) (hO : O = O1 ++ T.drop M) (hOl : O.length ≤ 4000) (hd : textL (parseZ O) ≠ O) (hOT : (O == T) = false)  :
    Calls Tryz.prog 8 #[.agg #[.bool nx, .slice ax kx cx], .agg #[.bool ny, .slice ay ky cy], .string ⟨P.toArray⟩] w fun e w' => e = .returned (.bool true) ∧ Ext w w' := by
  have G_hx1 : Hid ((⟨T.toArray⟩ : ByteArray).extract 0 at0 = ⟨(T.take at0).toArray⟩) := Lib.hid (ba_take T at0)
  have G_hx2 : Hid ((⟨T.toArray⟩ : ByteArray).extract M T.length = ⟨(T.drop M).toArray⟩) := Lib.hid (ba_drop T M)
  have G_hx3 : Hid ((⟨(T.take at0).toArray⟩ : ByteArray) ++ ⟨P.toArray⟩ = ⟨O1.toArray⟩) := Lib.hid (by rw [ba_append, hO1])
  have G_hx4 : Hid ((⟨O1.toArray⟩ : ByteArray) ++ ⟨(T.drop M).toArray⟩ = ⟨O.toArray⟩) := Lib.hid (by rw [ba_append, hO])
  have G_hx5 : Hid ((9223372036854775807 < at0 + P.length) = False) := Lib.hid (eq_false (by simp at hp; omega))
  have G_hx6 : Hid ((9223372036854775807 < O1.length + (T.length - M)) = False) := Lib.hid (eq_false (by rw [hO1, List.length_append, List.length_take]; simp at hp; omega))
  have G_hx7 : Hid (IntKind.i64.wrap ((at0 : Int) + (cut : Int)) = (at0 : Int) + (cut : Int)) := Lib.hid (IntWalk.i64_in _ (by omega))
  have G_hx8 : Hid (min (at0 + cut) T.length = M) := Lib.hid hM.symm
  have G_hx9 : Hid (min ((at0 : Int) + (cut : Int)) (T.length : Int) = (M : Int)) := Lib.hid (by omega)
  have G_hxm : Hid (M ≤ T.length) := Lib.hid (by omega)
  have G_ht := Lib.hid ht
  have G_hab := Lib.hid hab
  have G_hy0 := Lib.hid hy0
  have G_hd := Lib.hid hd
  clear hM hO1 hO ht hab hy0 hd
  subst hay
  have E_a := Lib.hid ea
  have HWx := Lib.hid hx
  clear ea hx
  have E_b := Lib.hid eb
  have HWy := Lib.hid hy
  clear eb hy
  obtain ⟨B0, w0, hB0, hw0, hr0, hr1, x0⟩ := two w 25 25 [.bool nx, .slice ax kx cx] [.bool ny, .slice (some ⟨by0, oy0, none⟩) ky cy]
  have HF1 : Hid (Fits (a) 12) := Lib.hid (by rw [E_a.out]; exact fits_raw (HWx.out.wf) (by omega))
  have HF5 : Hid (Fits (b) 12) := Lib.hid (by rw [E_b.out]; exact fits_raw (HWy.out.wf) (by omega))
  have KB3 : Hid (∀ W, Ext w0 W → W.cell? ⟨B0, 0, none⟩ = some (.bool nx) ∧ W.cell? ⟨B0, 1, none⟩ = some (.slice ax kx cx)) := Lib.hid fun W h => ⟨h.cell (hr0.cell (i := 0) rfl), h.cell (hr0.cell (i := 1) rfl)⟩
  have KB4 : Hid (∀ W, Ext w0 W → W.cell? ⟨B0 + 1, 0, none⟩ = some (.bool ny) ∧ W.cell? ⟨B0 + 1, 1, none⟩ = some (.slice (some ⟨by0, oy0, none⟩) ky cy)) := Lib.hid fun W h => ⟨h.cell (hr1.cell (i := 0) rfl), h.cell (hr1.cell (i := 1) rfl)⟩
  clear hr0 hr1
  go_enter Tryz.func8, Tryz.ntmps8
  go_wp2_with fail
  rw [← hw0, ← hB0]
  clear hw0 hB0
  refine (sanity_any _).mono ?_
  rintro e ws ⟨rfl, xs⟩
  obtain ⟨cc3_0_3, cc3_1_3⟩ := KB3.out ws xs
  go_wp2_with fail
  clear cc3_0_3 cc3_1_3
  refine (Made_any nx ax kx cx lx 12 a _ (HWx.out.ext (x0.trans xs)) (by omega) E_a.out).mono ?_
  rintro e w2 ⟨⟨v2_0, rfl, ⟨s2_0, a2_0, n2_0, c2_0, rfl, hi2_0⟩⟩, x2⟩
  have HV2_0 : Hid (IntV w2 (.agg #[.bool s2_0, .slice a2_0 n2_0 c2_0]) (a)) := Lib.hid ⟨_, _, _, _, rfl, hi2_0⟩
  clear hi2_0
  obtain ⟨D4, wb4, hD4, hw4, hb4_0, xb4⟩ := one w2 24 [.bool s2_0, .slice a2_0 n2_0 c2_0]
  have KB8 : Hid (∀ W, Ext wb4 W → W.cell? ⟨D4, 0, none⟩ = some (.bool s2_0) ∧ W.cell? ⟨D4, 1, none⟩ = some (.slice a2_0 n2_0 c2_0)) := Lib.hid fun W h => ⟨h.cell (hb4_0.cell (i := 0) rfl), h.cell (hb4_0.cell (i := 1) rfl)⟩
  clear hb4_0
  obtain ⟨cc4_0_7, cc4_1_7⟩ := KB4.out wb4 ((xs.trans x2).trans xb4)
  have hq4 := hw4.symm
  have hp4 := hD4.symm
  clear hw4 hD4
  go_wp2_with fail
  clear hq4 hp4
  clear cc4_0_7 cc4_1_7
  refine (Made_any ny (some ⟨by0, oy0, none⟩) ky cy ly 12 b _ (HWy.out.ext (((x0.trans xs).trans x2).trans xb4)) (by omega) E_b.out).mono ?_
  rintro e w6 ⟨⟨v6_0, rfl, ⟨s6_0, a6_0, n6_0, c6_0, rfl, hi6_0⟩⟩, x6⟩
  have HV6_0 : Hid (IntV w6 (.agg #[.bool s6_0, .slice a6_0 n6_0 c6_0]) (b)) := Lib.hid ⟨_, _, _, _, rfl, hi6_0⟩
  clear hi6_0
  obtain ⟨D8, wb8, hD8, hw8, hb8_0, xb8⟩ := one w6 24 [.bool s6_0, .slice a6_0 n6_0 c6_0]
  have KB9 : Hid (∀ W, Ext wb8 W → W.cell? ⟨D8, 0, none⟩ = some (.bool s6_0) ∧ W.cell? ⟨D8, 1, none⟩ = some (.slice a6_0 n6_0 c6_0)) := Lib.hid fun W h => ⟨h.cell (hb8_0.cell (i := 0) rfl), h.cell (hb8_0.cell (i := 1) rfl)⟩
  clear hb8_0
  obtain ⟨cc8_0_10, cc8_1_10⟩ := KB8.out wb8 (x6.trans xb8)
  have hq8 := hw8.symm
  have hp8 := hD8.symm
  clear hw8 hD8
  go_wp2_with fail
  clear hq8 hp8
  clear cc8_0_10 cc8_1_10
  refine (text_is _ a T _ (HV2_0.out.ext ((xb4.trans x6).trans xb8)) (HF1.out.mono (by omega)) G_ht.out).mono ?_
  rintro e w9 ⟨rfl, x9⟩
  go_wp2_with fail
  refine (parse_text T a _ G_ht.out (by omega)).mono ?_
  rintro e w11 ⟨⟨v11_0, rfl, ⟨s11_0, a11_0, n11_0, c11_0, rfl, hi11_0⟩⟩, x11⟩
  have HV11_0 : Hid (IntV w11 (.agg #[.bool s11_0, .slice a11_0 n11_0 c11_0]) (a)) := Lib.hid ⟨_, _, _, _, rfl, hi11_0⟩
  clear hi11_0
  obtain ⟨D12, wb12, hD12, hw12, hb12_0, xb12⟩ := one w11 24 [.bool s11_0, .slice a11_0 n11_0 c11_0]
  have KB11 : Hid (∀ W, Ext wb12 W → W.cell? ⟨D12, 0, none⟩ = some (.bool s11_0) ∧ W.cell? ⟨D12, 1, none⟩ = some (.slice a11_0 n11_0 c11_0)) := Lib.hid fun W h => ⟨h.cell (hb12_0.cell (i := 0) rfl), h.cell (hb12_0.cell (i := 1) rfl)⟩
  clear hb12_0
  have KX13 : Hid (∀ w', Ext wb12 w' → w'.cell? ⟨D12, 0, none⟩ = some (.bool s11_0) ∧ w'.cell? ⟨D12, 1, none⟩ = some (.slice a11_0 n11_0 c11_0) ∧ w'.cell? ⟨D4, 0, none⟩ = some (.bool s2_0) ∧ w'.cell? ⟨D4, 1, none⟩ = some (.slice a2_0 n2_0 c2_0) ∧ w'.cell? ⟨D8, 0, none⟩ = some (.bool s6_0) ∧ w'.cell? ⟨D8, 1, none⟩ = some (.slice a6_0 n6_0 c6_0)) := Lib.hid fun w' h => by
    have q11 := KB11.out w' ((Ext.refl _).trans h)
    have q8 := KB8.out w' (((((x6.trans xb8).trans x9).trans x11).trans xb12).trans h)
    have q9 := KB9.out w' (((x9.trans x11).trans xb12).trans h)
    exact ⟨q11.1, q11.2, q8.1, q8.2, q9.1, q9.2⟩
  have hq12 := hw12.symm
  have hp12 := hD12.symm
  clear hw12 hD12
  go_wp2_with fail
  clear hq12 hp12
  have hz13 := Below.drewExt wb12
  go_region_held3
    (fun w' => w'.cell? ⟨D12, 0, none⟩ = some (.bool s11_0) ∧ w'.cell? ⟨D12, 1, none⟩ = some (.slice a11_0 n11_0 c11_0) ∧ w'.cell? ⟨D4, 0, none⟩ = some (.bool s2_0) ∧ w'.cell? ⟨D4, 1, none⟩ = some (.slice a2_0 n2_0 c2_0) ∧ w'.cell? ⟨D8, 0, none⟩ = some (.bool s6_0) ∧ w'.cell? ⟨D8, 1, none⟩ = some (.slice a6_0 n6_0 c6_0))
    (with_reducible exact KX13.out _ (by assumption))
    (first
    | (go_at_call 21; (with_reducible refine (same_eq _ _ (a) (a) _ (HV11_0.out.ext (xb12.trans hz13)) (HV2_0.out.ext ((((((xb4.trans x6).trans xb8).trans x9).trans x11).trans xb12).trans hz13)) (Eq.refl _)).mono ?_); rintro e w14 ⟨rfl, x14⟩; have hz14 := hz13.trans x14)
    | (go_at_call 28; (with_reducible refine (text_is _ b T _ (HV6_0.out.ext (((((xb8.trans x9).trans x11).trans xb12).trans hz13).trans x14)) (HF5.out.mono (by omega)) (G_hab.out ▸ G_ht.out)).mono ?_); rintro e w15 ⟨rfl, x15⟩; have hz15 := hz14.trans x15)
    | (go_at_call 21; (with_reducible refine (same_eq _ _ a b _ (HV2_0.out.ext ((((((((xb4.trans x6).trans xb8).trans x9).trans x11).trans xb12).trans hz13).trans x14).trans x15)) (HV6_0.out.ext ((((((xb8.trans x9).trans x11).trans xb12).trans hz13).trans x14).trans x15)) G_hab.out).mono ?_); rintro e w16 ⟨rfl, x16⟩; have hz16 := hz15.trans x16)
    )
  clear KX13
  obtain ⟨cc4_0_17, cc4_1_17⟩ := KB4.out w16 (((((((((((xs.trans x2).trans xb4).trans x6).trans xb8).trans x9).trans x11).trans xb12).trans hz13).trans x14).trans x15).trans x16)
  have hcy0 := (HWy.out.ext ((((((((((((x0.trans xs).trans x2).trans xb4).trans x6).trans xb8).trans x9).trans x11).trans xb12).trans hz13).trans x14).trans x15).trans x16)).cells 0 y0 G_hy0.out
  obtain ⟨b1, o1, e1, hcy⟩ := hcy0
  cases e1
  rw [Nat.add_zero] at hcy
  have bt0 : (at0 : Int) ≤ (T.length : Int) := by omega
  have bt1 : (0 : Int) ≤ (at0 : Int) := by omega
  have bt2 : (cut : Int) ≤ 4 := by omega
  have bt3 : (0 : Int) ≤ (cut : Int) := by omega
  have HXm := G_hxm.out
  have HX1 := G_hx1.out
  have HX2 := G_hx2.out
  have HX3 := G_hx3.out
  have HX4 := G_hx4.out
  have HX5 := G_hx5.out
  have HX6 := G_hx6.out
  have HX7 := G_hx7.out
  have HX8 := G_hx8.out
  have HX9 := G_hx9.out
  go_wp2_with fail
  clear hcy hm1 hm2
  clear cc4_0_17 cc4_1_17
  refine wp_region_facts [74, 75, 76, 77, 78, 79, 80, 81, 82, 83, 84, 85, 86, 87, 15] (OddF (w16) T P O1 O at0 cut M) (by kernel_rfl) (by kernel_rfl) ?_ ?_ ?_
  · intro y
    exact ⟨(Ext.refl _).drew, by simp, by simp, by simp, by simp, by simp, by simp, by simp, by simp, by simp, by simp, by simp, by simp, by simp, by simp, by simp⟩
  · intro Q
    refine AllF.cons rfl ?_ ?_
    · skip
      with_reducible refine StepF.dst (d := 74) (by kernel_rfl) (by kernel_rfl) ?_
      intro L y w hi hp h K hK
      simp only [putAll, List.foldl, Act.put, List.setIfInBounds_toArray, List.set_cons_zero, List.set_cons_succ] at hK ⊢
      have HK := Lib.hid hK
      clear hK
      go_simp
      refine HK.out _ _ ?_
      have k := h.out
      exact ⟨k.e, fun _ => upd_eq, k.f1, k.f2, k.f3, k.f4, k.f5, k.f6, k.f7, k.f8, k.f9, k.f10, k.f11, k.f12, k.f13, k.f14⟩
    refine AllF.cons rfl ?_ ?_
    · skip
      with_reducible refine StepF.dst (d := 75) (by kernel_rfl) (by kernel_rfl) ?_
      intro L y w hi hp h K hK
      simp only [putAll, List.foldl, Act.put, List.setIfInBounds_toArray, List.set_cons_zero, List.set_cons_succ] at hK ⊢
      have HK := Lib.hid hK
      clear hK
      go_simp
      refine HK.out _ _ ?_
      have k := h.out
      exact ⟨k.e, k.f0, fun _ => upd_eq, k.f2, k.f3, k.f4, k.f5, k.f6, k.f7, k.f8, k.f9, k.f10, k.f11, k.f12, k.f13, k.f14⟩
    refine AllF.cons rfl ?_ ?_
    · skip
      with_reducible refine StepF.dst (d := 76) (by kernel_rfl) (by kernel_rfl) ?_
      intro L y w hi hp h K hK
      simp only [putAll, List.foldl, Act.put, List.setIfInBounds_toArray, List.set_cons_zero, List.set_cons_succ] at hK ⊢
      have HK := Lib.hid hK
      clear hK
      have g0 := h.out.f0 (hp.out 0 (by kernel_rfl))
      have g1 := h.out.f1 (hp.out 1 (by kernel_rfl))
      simp only [g0, g1] at HK
      go_simp
      refine HK.out _ _ ?_
      have k := h.out
      exact ⟨k.e, k.f0, k.f1, fun _ => upd_eq, k.f3, k.f4, k.f5, k.f6, k.f7, k.f8, k.f9, k.f10, k.f11, k.f12, k.f13, k.f14⟩
    refine AllF.cons rfl ?_ ?_
    · skip
      with_reducible refine StepF.dst (d := 77) (by kernel_rfl) (by kernel_rfl) ?_
      intro L y w hi hp h K hK
      simp only [putAll, List.foldl, Act.put, List.setIfInBounds_toArray, List.set_cons_zero, List.set_cons_succ] at hK ⊢
      have HK := Lib.hid hK
      clear hK
      go_simp
      refine HK.out _ _ ?_
      have k := h.out
      exact ⟨k.e, k.f0, k.f1, k.f2, fun _ => upd_eq, k.f4, k.f5, k.f6, k.f7, k.f8, k.f9, k.f10, k.f11, k.f12, k.f13, k.f14⟩
    refine AllF.cons rfl ?_ ?_
    · skip
      with_reducible refine StepF.dst (d := 78) (by kernel_rfl) (by kernel_rfl) ?_
      intro L y w hi hp h K hK
      simp only [putAll, List.foldl, Act.put, List.setIfInBounds_toArray, List.set_cons_zero, List.set_cons_succ] at hK ⊢
      have HK := Lib.hid hK
      clear hK
      have g2 := h.out.f2 (hp.out 2 (by kernel_rfl))
      have g3 := h.out.f3 (hp.out 3 (by kernel_rfl))
      simp only [g2, g3] at HK
      go_simp
      refine HK.out _ _ ?_
      have k := h.out
      exact ⟨k.e, k.f0, k.f1, k.f2, k.f3, fun _ => upd_eq, k.f5, k.f6, k.f7, k.f8, k.f9, k.f10, k.f11, k.f12, k.f13, k.f14⟩
    refine AllF.cons rfl ?_ ?_
    · skip
      with_reducible refine StepF.dst (d := 79) (by kernel_rfl) (by kernel_rfl) ?_
      intro L y w hi hp h K hK
      simp only [putAll, List.foldl, Act.put, List.setIfInBounds_toArray, List.set_cons_zero, List.set_cons_succ] at hK ⊢
      have HK := Lib.hid hK
      clear hK
      go_simp
      refine HK.out _ _ ?_
      have k := h.out
      exact ⟨k.e, k.f0, k.f1, k.f2, k.f3, k.f4, fun _ => upd_eq, k.f6, k.f7, k.f8, k.f9, k.f10, k.f11, k.f12, k.f13, k.f14⟩
    refine AllF.cons rfl ?_ ?_
    · skip
      with_reducible refine StepF.dst (d := 80) (by kernel_rfl) (by kernel_rfl) ?_
      intro L y w hi hp h K hK
      simp only [putAll, List.foldl, Act.put, List.setIfInBounds_toArray, List.set_cons_zero, List.set_cons_succ] at hK ⊢
      have HK := Lib.hid hK
      clear hK
      go_simp
      refine HK.out _ _ ?_
      have k := h.out
      exact ⟨k.e, k.f0, k.f1, k.f2, k.f3, k.f4, k.f5, fun _ => upd_eq, k.f7, k.f8, k.f9, k.f10, k.f11, k.f12, k.f13, k.f14⟩
    refine AllF.cons rfl ?_ ?_
    · skip
      with_reducible refine StepF.dst (d := 81) (by kernel_rfl) (by kernel_rfl) ?_
      intro L y w hi hp h K hK
      simp only [putAll, List.foldl, Act.put, List.setIfInBounds_toArray, List.set_cons_zero, List.set_cons_succ] at hK ⊢
      have HK := Lib.hid hK
      clear hK
      go_simp
      refine HK.out _ _ ?_
      have k := h.out
      exact ⟨k.e, k.f0, k.f1, k.f2, k.f3, k.f4, k.f5, k.f6, fun _ => upd_eq, k.f8, k.f9, k.f10, k.f11, k.f12, k.f13, k.f14⟩
    refine AllF.cons rfl ?_ ?_
    · skip
      with_reducible refine StepF.dst (d := 82) (by kernel_rfl) (by kernel_rfl) ?_
      intro L y w hi hp h K hK
      simp only [putAll, List.foldl, Act.put, List.setIfInBounds_toArray, List.set_cons_zero, List.set_cons_succ] at hK ⊢
      have HK := Lib.hid hK
      clear hK
      have g6 := h.out.f6 (hp.out 6 (by kernel_rfl))
      have g7 := h.out.f7 (hp.out 7 (by kernel_rfl))
      simp only [g6, g7] at HK
      go_simp
      refine HK.out _ _ ?_
      have k := h.out
      exact ⟨k.e, k.f0, k.f1, k.f2, k.f3, k.f4, k.f5, k.f6, k.f7, fun _ => upd_eq, k.f9, k.f10, k.f11, k.f12, k.f13, k.f14⟩
    refine AllF.cons rfl ?_ ?_
    · skip
      with_reducible refine StepF.dst (d := 83) (by kernel_rfl) (by kernel_rfl) ?_
      intro L y w hi hp h K hK
      simp only [putAll, List.foldl, Act.put, List.setIfInBounds_toArray, List.set_cons_zero, List.set_cons_succ] at hK ⊢
      have HK := Lib.hid hK
      clear hK
      go_simp
      refine HK.out _ _ ?_
      have k := h.out
      exact ⟨k.e, k.f0, k.f1, k.f2, k.f3, k.f4, k.f5, k.f6, k.f7, k.f8, fun _ => upd_eq, k.f10, k.f11, k.f12, k.f13, k.f14⟩
    refine AllF.cons rfl ?_ ?_
    · skip
      with_reducible refine StepF.dst (d := 84) (by kernel_rfl) (by kernel_rfl) ?_
      intro L y w hi hp h K hK
      simp only [putAll, List.foldl, Act.put, List.setIfInBounds_toArray, List.set_cons_zero, List.set_cons_succ] at hK ⊢
      have HK := Lib.hid hK
      clear hK
      have g9 := h.out.f9 (hp.out 9 (by kernel_rfl))
      simp only [g9] at HK
      go_simp
      refine HK.out _ _ ?_
      have k := h.out
      exact ⟨k.e, k.f0, k.f1, k.f2, k.f3, k.f4, k.f5, k.f6, k.f7, k.f8, k.f9, fun _ => upd_eq, k.f11, k.f12, k.f13, k.f14⟩
    refine AllF.cons rfl ?_ ?_
    · skip
      with_reducible refine StepF.dst (d := 85) (by kernel_rfl) (by kernel_rfl) ?_
      intro L y w hi hp h K hK
      simp only [putAll, List.foldl, Act.put, List.setIfInBounds_toArray, List.set_cons_zero, List.set_cons_succ] at hK ⊢
      have HK := Lib.hid hK
      clear hK
      have g8 := h.out.f8 (hp.out 8 (by kernel_rfl))
      have g10 := h.out.f10 (hp.out 10 (by kernel_rfl))
      simp only [g8, g10] at HK
      go_simp
      refine HK.out _ _ ?_
      have k := h.out
      exact ⟨k.e, k.f0, k.f1, k.f2, k.f3, k.f4, k.f5, k.f6, k.f7, k.f8, k.f9, k.f10, fun _ => upd_eq, k.f12, k.f13, k.f14⟩
    refine AllF.cons rfl ?_ ?_
    · skip
      with_reducible refine StepF.dst (d := 86) (by kernel_rfl) (by kernel_rfl) ?_
      intro L y w hi hp h K hK
      simp only [putAll, List.foldl, Act.put, List.setIfInBounds_toArray, List.set_cons_zero, List.set_cons_succ] at hK ⊢
      have HK := Lib.hid hK
      clear hK
      have g5 := h.out.f5 (hp.out 5 (by kernel_rfl))
      have g11 := h.out.f11 (hp.out 11 (by kernel_rfl))
      simp only [g5, g11] at HK
      go_simp
      refine HK.out _ _ ?_
      have k := h.out
      exact ⟨k.e, k.f0, k.f1, k.f2, k.f3, k.f4, k.f5, k.f6, k.f7, k.f8, k.f9, k.f10, k.f11, fun _ => upd_eq, k.f13, k.f14⟩
    refine AllF.cons rfl ?_ ?_
    · skip
      with_reducible refine StepF.dst (d := 87) (by kernel_rfl) (by kernel_rfl) ?_
      intro L y w hi hp h K hK
      simp only [putAll, List.foldl, Act.put, List.setIfInBounds_toArray, List.set_cons_zero, List.set_cons_succ] at hK ⊢
      have HK := Lib.hid hK
      clear hK
      have g4 := h.out.f4 (hp.out 4 (by kernel_rfl))
      have g12 := h.out.f12 (hp.out 12 (by kernel_rfl))
      simp only [g4, g12] at HK
      go_simp
      refine HK.out _ _ ?_
      have k := h.out
      exact ⟨k.e, k.f0, k.f1, k.f2, k.f3, k.f4, k.f5, k.f6, k.f7, k.f8, k.f9, k.f10, k.f11, k.f12, fun _ => upd_eq, k.f14⟩
    refine AllF.cons rfl ?_ ?_
    · skip
      with_reducible refine StepF.dst (d := 15) (by kernel_rfl) (by kernel_rfl) ?_
      intro L y w hi hp h K hK
      simp only [putAll, List.foldl, Act.put, List.setIfInBounds_toArray, List.set_cons_zero, List.set_cons_succ] at hK ⊢
      have HK := Lib.hid hK
      clear hK
      have g13 := h.out.f13 (hp.out 13 (by kernel_rfl))
      simp only [g13] at HK
      go_simp
      refine HK.out _ _ ?_
      have k := h.out
      exact ⟨k.e, k.f0, k.f1, k.f2, k.f3, k.f4, k.f5, k.f6, k.f7, k.f8, k.f9, k.f10, k.f11, k.f12, k.f13, fun _ => upd_eq⟩
    exact trivial
  · intro L y wE hL h
    have xE := h.e
    have ey := h.f14 (hL 14 (by decide))
    simp only [putAll, List.foldl, Act.put, List.setIfInBounds_toArray, List.set_cons_zero, List.set_cons_succ]
    simp only [ey]
    clear hL h ey HX1 HX2 HX3 HX4 HX5 HX6 HX7 HX8 HX9 bt0 bt1 bt2 bt3 HXm
    go_wp2_with fail
    refine (parse_bad O _ G_hd.out hOl).mono ?_
    rintro e w18 ⟨rfl, x18⟩
    obtain ⟨D19, wb19, hD19, hw19, hb19_0, xb19⟩ := one w18 24 [.bool false, .slice none 0 0]
    have KB16 : Hid (∀ W, Ext wb19 W → W.cell? ⟨D19, 0, none⟩ = some (.bool false) ∧ W.cell? ⟨D19, 1, none⟩ = some (.slice none 0 0)) := Lib.hid fun W h => ⟨h.cell (hb19_0.cell (i := 0) rfl), h.cell (hb19_0.cell (i := 1) rfl)⟩
    have ze19_00 := setCell_same hb19_0 (i := 0) rfl
    have zf19_00 := hb19_0.free 0
    have ze19_01 := setCell_same hb19_0 (i := 1) rfl
    have zf19_01 := hb19_0.free 1
    clear hb19_0
    obtain ⟨cc16_0_20, cc16_1_20⟩ := KB16.out wb19 (Ext.refl _)
    have hq19 := hw19.symm
    have hp19 := hD19.symm
    clear hw19 hD19
    go_wp2_with fail
    clear hq19 hp19
    clear ze19_00 zf19_00 ze19_01 zf19_01 cc16_0_20 cc16_1_20
    go_wp2_with fail
    go_ret
    exact ⟨rfl, (((((((((((((((x0.trans xs).trans x2).trans xb4).trans x6).trans xb8).trans x9).trans x11).trans xb12).trans hz13).trans x14).trans x15).trans x16).trans xE).trans x18).trans xb19)⟩
set_option maxRecDepth 100000 in
set_option maxHeartbeats 8000000 in
theorem texts_011 (nx : Bool) (ax : Option Addr) (kx cx : Nat) (lx : List Int) (a : Int) (ea : a = rawZ nx lx 12) (ny : Bool) (ay : Option Addr) (ky cy : Nat) (ly : List Int) (b : Int) (eb : b = rawZ ny ly 12) (w : World) (hx : Words w ax kx cx lx) (hy : Words w ay ky cy ly) (P : List UInt8) (T TB O : List UInt8) (d : Int) (ht : textL a = T) (hTl : (T.length : Int) ≤ 200) (hp : decide ((6 : Int) < (P.length : Int)) = false) (hab : a ≠ b) (htb : textL b = TB) (hne : (TB == T) = false) (hky : ky = 0) (hO : O = P ++ T) (hOl : O.length ≤ 4000) (hd : textL d = O) (fd : Fits d 1000)  :
    Calls Tryz.prog 8 #[.agg #[.bool nx, .slice ax kx cx], .agg #[.bool ny, .slice ay ky cy], .string ⟨P.toArray⟩] w fun e w' => e = .returned (.bool true) ∧ Ext w w' := by
  have G_hx1 : Hid ((⟨T.toArray⟩ : ByteArray).extract 0 0 = ⟨#[]⟩) := Lib.hid (ba_take T 0)
  have G_hx2 : Hid ((⟨T.toArray⟩ : ByteArray).extract 0 T.length = ⟨T.toArray⟩) := Lib.hid (ba_drop T 0)
  have G_hx3 : Hid ((⟨#[]⟩ : ByteArray) ++ ⟨P.toArray⟩ = ⟨P.toArray⟩) := Lib.hid (ba_append [] P)
  have G_hx4 : Hid ((⟨P.toArray⟩ : ByteArray) ++ ⟨T.toArray⟩ = ⟨O.toArray⟩) := Lib.hid (by rw [ba_append, hO])
  have G_hx5 : Hid ((9223372036854775807 < P.length) = False) := Lib.hid (eq_false (by simp at hp; omega))
  have G_hx6 : Hid ((9223372036854775807 < P.length + T.length) = False) := Lib.hid (eq_false (by simp at hp; omega))
  have G_hx7 : Hid (min (0 : Int) (T.length : Int) = 0) := Lib.hid (by omega)
  have G_ht := Lib.hid ht
  have G_hab := Lib.hid hab
  have G_htb := Lib.hid htb
  have G_hd := Lib.hid hd
  have G_fd := Lib.hid fd
  clear hO ht hab htb hd fd
  subst hky
  have E_a := Lib.hid ea
  have HWx := Lib.hid hx
  clear ea hx
  have E_b := Lib.hid eb
  have HWy := Lib.hid hy
  clear eb hy
  obtain ⟨B0, w0, hB0, hw0, hr0, hr1, x0⟩ := two w 25 25 [.bool nx, .slice ax kx cx] [.bool ny, .slice ay 0 cy]
  have HF1 : Hid (Fits (a) 12) := Lib.hid (by rw [E_a.out]; exact fits_raw (HWx.out.wf) (by omega))
  have HF5 : Hid (Fits (b) 12) := Lib.hid (by rw [E_b.out]; exact fits_raw (HWy.out.wf) (by omega))
  have HF18 : Hid (Fits (d) 1000) := Lib.hid G_fd.out
  have KB3 : Hid (∀ W, Ext w0 W → W.cell? ⟨B0, 0, none⟩ = some (.bool nx) ∧ W.cell? ⟨B0, 1, none⟩ = some (.slice ax kx cx)) := Lib.hid fun W h => ⟨h.cell (hr0.cell (i := 0) rfl), h.cell (hr0.cell (i := 1) rfl)⟩
  have KB4 : Hid (∀ W, Ext w0 W → W.cell? ⟨B0 + 1, 0, none⟩ = some (.bool ny) ∧ W.cell? ⟨B0 + 1, 1, none⟩ = some (.slice ay 0 cy)) := Lib.hid fun W h => ⟨h.cell (hr1.cell (i := 0) rfl), h.cell (hr1.cell (i := 1) rfl)⟩
  clear hr0 hr1
  go_enter Tryz.func8, Tryz.ntmps8
  go_wp2_with fail
  rw [← hw0, ← hB0]
  clear hw0 hB0
  refine (sanity_any _).mono ?_
  rintro e ws ⟨rfl, xs⟩
  obtain ⟨cc3_0_3, cc3_1_3⟩ := KB3.out ws xs
  go_wp2_with fail
  clear cc3_0_3 cc3_1_3
  refine (Made_any nx ax kx cx lx 12 a _ (HWx.out.ext (x0.trans xs)) (by omega) E_a.out).mono ?_
  rintro e w2 ⟨⟨v2_0, rfl, ⟨s2_0, a2_0, n2_0, c2_0, rfl, hi2_0⟩⟩, x2⟩
  have HV2_0 : Hid (IntV w2 (.agg #[.bool s2_0, .slice a2_0 n2_0 c2_0]) (a)) := Lib.hid ⟨_, _, _, _, rfl, hi2_0⟩
  clear hi2_0
  obtain ⟨D4, wb4, hD4, hw4, hb4_0, xb4⟩ := one w2 24 [.bool s2_0, .slice a2_0 n2_0 c2_0]
  have KB8 : Hid (∀ W, Ext wb4 W → W.cell? ⟨D4, 0, none⟩ = some (.bool s2_0) ∧ W.cell? ⟨D4, 1, none⟩ = some (.slice a2_0 n2_0 c2_0)) := Lib.hid fun W h => ⟨h.cell (hb4_0.cell (i := 0) rfl), h.cell (hb4_0.cell (i := 1) rfl)⟩
  clear hb4_0
  obtain ⟨cc4_0_7, cc4_1_7⟩ := KB4.out wb4 ((xs.trans x2).trans xb4)
  have hq4 := hw4.symm
  have hp4 := hD4.symm
  clear hw4 hD4
  go_wp2_with fail
  clear hq4 hp4
  clear cc4_0_7 cc4_1_7
  refine (Made_any ny ay 0 cy ly 12 b _ (HWy.out.ext (((x0.trans xs).trans x2).trans xb4)) (by omega) E_b.out).mono ?_
  rintro e w6 ⟨⟨v6_0, rfl, ⟨s6_0, a6_0, n6_0, c6_0, rfl, hi6_0⟩⟩, x6⟩
  have HV6_0 : Hid (IntV w6 (.agg #[.bool s6_0, .slice a6_0 n6_0 c6_0]) (b)) := Lib.hid ⟨_, _, _, _, rfl, hi6_0⟩
  clear hi6_0
  obtain ⟨D8, wb8, hD8, hw8, hb8_0, xb8⟩ := one w6 24 [.bool s6_0, .slice a6_0 n6_0 c6_0]
  have KB9 : Hid (∀ W, Ext wb8 W → W.cell? ⟨D8, 0, none⟩ = some (.bool s6_0) ∧ W.cell? ⟨D8, 1, none⟩ = some (.slice a6_0 n6_0 c6_0)) := Lib.hid fun W h => ⟨h.cell (hb8_0.cell (i := 0) rfl), h.cell (hb8_0.cell (i := 1) rfl)⟩
  clear hb8_0
  obtain ⟨cc8_0_10, cc8_1_10⟩ := KB8.out wb8 (x6.trans xb8)
  have hq8 := hw8.symm
  have hp8 := hD8.symm
  clear hw8 hD8
  go_wp2_with fail
  clear hq8 hp8
  clear cc8_0_10 cc8_1_10
  refine (text_is _ a T _ (HV2_0.out.ext ((xb4.trans x6).trans xb8)) (HF1.out.mono (by omega)) G_ht.out).mono ?_
  rintro e w9 ⟨rfl, x9⟩
  go_wp2_with fail
  refine (parse_text T a _ G_ht.out (by omega)).mono ?_
  rintro e w11 ⟨⟨v11_0, rfl, ⟨s11_0, a11_0, n11_0, c11_0, rfl, hi11_0⟩⟩, x11⟩
  have HV11_0 : Hid (IntV w11 (.agg #[.bool s11_0, .slice a11_0 n11_0 c11_0]) (a)) := Lib.hid ⟨_, _, _, _, rfl, hi11_0⟩
  clear hi11_0
  obtain ⟨D12, wb12, hD12, hw12, hb12_0, xb12⟩ := one w11 24 [.bool s11_0, .slice a11_0 n11_0 c11_0]
  have KB11 : Hid (∀ W, Ext wb12 W → W.cell? ⟨D12, 0, none⟩ = some (.bool s11_0) ∧ W.cell? ⟨D12, 1, none⟩ = some (.slice a11_0 n11_0 c11_0)) := Lib.hid fun W h => ⟨h.cell (hb12_0.cell (i := 0) rfl), h.cell (hb12_0.cell (i := 1) rfl)⟩
  clear hb12_0
  have KX13 : Hid (∀ w', Ext wb12 w' → w'.cell? ⟨D12, 0, none⟩ = some (.bool s11_0) ∧ w'.cell? ⟨D12, 1, none⟩ = some (.slice a11_0 n11_0 c11_0) ∧ w'.cell? ⟨D4, 0, none⟩ = some (.bool s2_0) ∧ w'.cell? ⟨D4, 1, none⟩ = some (.slice a2_0 n2_0 c2_0) ∧ w'.cell? ⟨D8, 0, none⟩ = some (.bool s6_0) ∧ w'.cell? ⟨D8, 1, none⟩ = some (.slice a6_0 n6_0 c6_0)) := Lib.hid fun w' h => by
    have q11 := KB11.out w' ((Ext.refl _).trans h)
    have q8 := KB8.out w' (((((x6.trans xb8).trans x9).trans x11).trans xb12).trans h)
    have q9 := KB9.out w' (((x9.trans x11).trans xb12).trans h)
    exact ⟨q11.1, q11.2, q8.1, q8.2, q9.1, q9.2⟩
  have hq12 := hw12.symm
  have hp12 := hD12.symm
  clear hw12 hD12
  go_wp2_with fail
  clear hq12 hp12
  have hz13 := Below.drewExt wb12
  go_region_held3
    (fun w' => w'.cell? ⟨D12, 0, none⟩ = some (.bool s11_0) ∧ w'.cell? ⟨D12, 1, none⟩ = some (.slice a11_0 n11_0 c11_0) ∧ w'.cell? ⟨D4, 0, none⟩ = some (.bool s2_0) ∧ w'.cell? ⟨D4, 1, none⟩ = some (.slice a2_0 n2_0 c2_0) ∧ w'.cell? ⟨D8, 0, none⟩ = some (.bool s6_0) ∧ w'.cell? ⟨D8, 1, none⟩ = some (.slice a6_0 n6_0 c6_0))
    (with_reducible exact KX13.out _ (by assumption))
    (first
    | (go_at_call 21; (with_reducible refine (same_eq _ _ (a) (a) _ (HV11_0.out.ext (xb12.trans hz13)) (HV2_0.out.ext ((((((xb4.trans x6).trans xb8).trans x9).trans x11).trans xb12).trans hz13)) (Eq.refl _)).mono ?_); rintro e w14 ⟨rfl, x14⟩; have hz14 := hz13.trans x14)
    | (go_at_call 28; (with_reducible refine (text_is _ b TB _ (HV6_0.out.ext (((((xb8.trans x9).trans x11).trans xb12).trans hz13).trans x14)) (HF5.out.mono (by omega)) G_htb.out).mono ?_); rintro e w15 ⟨rfl, x15⟩; have hz15 := hz14.trans x15)
    | (go_at_call 21; (with_reducible refine (same_ne _ _ a b _ (HV2_0.out.ext ((((((((xb4.trans x6).trans xb8).trans x9).trans x11).trans xb12).trans hz13).trans x14).trans x15)) (HV6_0.out.ext ((((((xb8.trans x9).trans x11).trans xb12).trans hz13).trans x14).trans x15)) G_hab.out).mono ?_); rintro e w16 ⟨rfl, x16⟩; have hz16 := hz15.trans x16)
    )
  clear KX13
  obtain ⟨cc4_0_17, cc4_1_17⟩ := KB4.out w16 (((((((((((xs.trans x2).trans xb4).trans x6).trans xb8).trans x9).trans x11).trans xb12).trans hz13).trans x14).trans x15).trans x16)
  have HX1 := G_hx1.out
  have HX2 := G_hx2.out
  have HX3 := G_hx3.out
  have HX4 := G_hx4.out
  have HX5 := G_hx5.out
  have HX6 := G_hx6.out
  have HX7 := G_hx7.out
  go_wp2_with fail
  clear cc4_0_17 cc4_1_17
  refine wp_region_facts [74, 75, 76, 77, 78, 79, 80, 81, 82, 83, 84, 85, 86, 87, 15] (OddE (w16) T P O) (by kernel_rfl) (by kernel_rfl) ?_ ?_ ?_
  · intro y
    exact ⟨(Ext.refl _).drew, by simp, by simp, by simp, by simp, by simp, by simp, by simp, by simp, by simp, by simp, by simp, by simp, by simp, by simp, by simp⟩
  · intro Q
    refine AllF.cons rfl ?_ ?_
    · skip
      with_reducible refine StepF.dst (d := 74) (by kernel_rfl) (by kernel_rfl) ?_
      intro L y w hi hp h K hK
      simp only [putAll, List.foldl, Act.put, List.setIfInBounds_toArray, List.set_cons_zero, List.set_cons_succ] at hK ⊢
      have HK := Lib.hid hK
      clear hK
      go_simp
      refine HK.out _ _ ?_
      have k := h.out
      exact ⟨k.e, fun _ => upd_eq, k.f1, k.f2, k.f3, k.f4, k.f5, k.f6, k.f7, k.f8, k.f9, k.f10, k.f11, k.f12, k.f13, k.f14⟩
    refine AllF.cons rfl ?_ ?_
    · skip
      with_reducible refine StepF.dst (d := 75) (by kernel_rfl) (by kernel_rfl) ?_
      intro L y w hi hp h K hK
      simp only [putAll, List.foldl, Act.put, List.setIfInBounds_toArray, List.set_cons_zero, List.set_cons_succ] at hK ⊢
      have HK := Lib.hid hK
      clear hK
      go_simp
      refine HK.out _ _ ?_
      have k := h.out
      exact ⟨k.e, k.f0, fun _ => upd_eq, k.f2, k.f3, k.f4, k.f5, k.f6, k.f7, k.f8, k.f9, k.f10, k.f11, k.f12, k.f13, k.f14⟩
    refine AllF.cons rfl ?_ ?_
    · skip
      with_reducible refine StepF.dst (d := 76) (by kernel_rfl) (by kernel_rfl) ?_
      intro L y w hi hp h K hK
      simp only [putAll, List.foldl, Act.put, List.setIfInBounds_toArray, List.set_cons_zero, List.set_cons_succ] at hK ⊢
      have HK := Lib.hid hK
      clear hK
      have g0 := h.out.f0 (hp.out 0 (by kernel_rfl))
      have g1 := h.out.f1 (hp.out 1 (by kernel_rfl))
      simp only [g0, g1] at HK
      go_simp
      refine HK.out _ _ ?_
      have k := h.out
      exact ⟨k.e, k.f0, k.f1, fun _ => upd_eq, k.f3, k.f4, k.f5, k.f6, k.f7, k.f8, k.f9, k.f10, k.f11, k.f12, k.f13, k.f14⟩
    refine AllF.cons rfl ?_ ?_
    · skip
      with_reducible refine StepF.dst (d := 77) (by kernel_rfl) (by kernel_rfl) ?_
      intro L y w hi hp h K hK
      simp only [putAll, List.foldl, Act.put, List.setIfInBounds_toArray, List.set_cons_zero, List.set_cons_succ] at hK ⊢
      have HK := Lib.hid hK
      clear hK
      go_simp
      refine HK.out _ _ ?_
      have k := h.out
      exact ⟨k.e, k.f0, k.f1, k.f2, fun _ => upd_eq, k.f4, k.f5, k.f6, k.f7, k.f8, k.f9, k.f10, k.f11, k.f12, k.f13, k.f14⟩
    refine AllF.cons rfl ?_ ?_
    · skip
      with_reducible refine StepF.dst (d := 78) (by kernel_rfl) (by kernel_rfl) ?_
      intro L y w hi hp h K hK
      simp only [putAll, List.foldl, Act.put, List.setIfInBounds_toArray, List.set_cons_zero, List.set_cons_succ] at hK ⊢
      have HK := Lib.hid hK
      clear hK
      have g2 := h.out.f2 (hp.out 2 (by kernel_rfl))
      have g3 := h.out.f3 (hp.out 3 (by kernel_rfl))
      simp only [g2, g3] at HK
      go_simp
      refine HK.out _ _ ?_
      have k := h.out
      exact ⟨k.e, k.f0, k.f1, k.f2, k.f3, fun _ => upd_eq, k.f5, k.f6, k.f7, k.f8, k.f9, k.f10, k.f11, k.f12, k.f13, k.f14⟩
    refine AllF.cons rfl ?_ ?_
    · skip
      with_reducible refine StepF.dst (d := 79) (by kernel_rfl) (by kernel_rfl) ?_
      intro L y w hi hp h K hK
      simp only [putAll, List.foldl, Act.put, List.setIfInBounds_toArray, List.set_cons_zero, List.set_cons_succ] at hK ⊢
      have HK := Lib.hid hK
      clear hK
      go_simp
      refine HK.out _ _ ?_
      have k := h.out
      exact ⟨k.e, k.f0, k.f1, k.f2, k.f3, k.f4, fun _ => upd_eq, k.f6, k.f7, k.f8, k.f9, k.f10, k.f11, k.f12, k.f13, k.f14⟩
    refine AllF.cons rfl ?_ ?_
    · skip
      with_reducible refine StepF.dst (d := 80) (by kernel_rfl) (by kernel_rfl) ?_
      intro L y w hi hp h K hK
      simp only [putAll, List.foldl, Act.put, List.setIfInBounds_toArray, List.set_cons_zero, List.set_cons_succ] at hK ⊢
      have HK := Lib.hid hK
      clear hK
      go_simp
      refine HK.out _ _ ?_
      have k := h.out
      exact ⟨k.e, k.f0, k.f1, k.f2, k.f3, k.f4, k.f5, fun _ => upd_eq, k.f7, k.f8, k.f9, k.f10, k.f11, k.f12, k.f13, k.f14⟩
    refine AllF.cons rfl ?_ ?_
    · skip
      with_reducible refine StepF.dst (d := 81) (by kernel_rfl) (by kernel_rfl) ?_
      intro L y w hi hp h K hK
      simp only [putAll, List.foldl, Act.put, List.setIfInBounds_toArray, List.set_cons_zero, List.set_cons_succ] at hK ⊢
      have HK := Lib.hid hK
      clear hK
      go_simp
      refine HK.out _ _ ?_
      have k := h.out
      exact ⟨k.e, k.f0, k.f1, k.f2, k.f3, k.f4, k.f5, k.f6, fun _ => upd_eq, k.f8, k.f9, k.f10, k.f11, k.f12, k.f13, k.f14⟩
    refine AllF.cons rfl ?_ ?_
    · skip
      with_reducible refine StepF.dst (d := 82) (by kernel_rfl) (by kernel_rfl) ?_
      intro L y w hi hp h K hK
      simp only [putAll, List.foldl, Act.put, List.setIfInBounds_toArray, List.set_cons_zero, List.set_cons_succ] at hK ⊢
      have HK := Lib.hid hK
      clear hK
      have g6 := h.out.f6 (hp.out 6 (by kernel_rfl))
      have g7 := h.out.f7 (hp.out 7 (by kernel_rfl))
      simp only [g6, g7] at HK
      go_simp
      refine HK.out _ _ ?_
      have k := h.out
      exact ⟨k.e, k.f0, k.f1, k.f2, k.f3, k.f4, k.f5, k.f6, k.f7, fun _ => upd_eq, k.f9, k.f10, k.f11, k.f12, k.f13, k.f14⟩
    refine AllF.cons rfl ?_ ?_
    · skip
      with_reducible refine StepF.dst (d := 83) (by kernel_rfl) (by kernel_rfl) ?_
      intro L y w hi hp h K hK
      simp only [putAll, List.foldl, Act.put, List.setIfInBounds_toArray, List.set_cons_zero, List.set_cons_succ] at hK ⊢
      have HK := Lib.hid hK
      clear hK
      go_simp
      refine HK.out _ _ ?_
      have k := h.out
      exact ⟨k.e, k.f0, k.f1, k.f2, k.f3, k.f4, k.f5, k.f6, k.f7, k.f8, fun _ => upd_eq, k.f10, k.f11, k.f12, k.f13, k.f14⟩
    refine AllF.cons rfl ?_ ?_
    · skip
      with_reducible refine StepF.dst (d := 84) (by kernel_rfl) (by kernel_rfl) ?_
      intro L y w hi hp h K hK
      simp only [putAll, List.foldl, Act.put, List.setIfInBounds_toArray, List.set_cons_zero, List.set_cons_succ] at hK ⊢
      have HK := Lib.hid hK
      clear hK
      have g9 := h.out.f9 (hp.out 9 (by kernel_rfl))
      simp only [g9] at HK
      go_simp
      refine HK.out _ _ ?_
      have k := h.out
      exact ⟨k.e, k.f0, k.f1, k.f2, k.f3, k.f4, k.f5, k.f6, k.f7, k.f8, k.f9, fun _ => upd_eq, k.f11, k.f12, k.f13, k.f14⟩
    refine AllF.cons rfl ?_ ?_
    · skip
      with_reducible refine StepF.dst (d := 85) (by kernel_rfl) (by kernel_rfl) ?_
      intro L y w hi hp h K hK
      simp only [putAll, List.foldl, Act.put, List.setIfInBounds_toArray, List.set_cons_zero, List.set_cons_succ] at hK ⊢
      have HK := Lib.hid hK
      clear hK
      have g8 := h.out.f8 (hp.out 8 (by kernel_rfl))
      have g10 := h.out.f10 (hp.out 10 (by kernel_rfl))
      simp only [g8, g10] at HK
      go_simp
      refine HK.out _ _ ?_
      have k := h.out
      exact ⟨k.e, k.f0, k.f1, k.f2, k.f3, k.f4, k.f5, k.f6, k.f7, k.f8, k.f9, k.f10, fun _ => upd_eq, k.f12, k.f13, k.f14⟩
    refine AllF.cons rfl ?_ ?_
    · skip
      with_reducible refine StepF.dst (d := 86) (by kernel_rfl) (by kernel_rfl) ?_
      intro L y w hi hp h K hK
      simp only [putAll, List.foldl, Act.put, List.setIfInBounds_toArray, List.set_cons_zero, List.set_cons_succ] at hK ⊢
      have HK := Lib.hid hK
      clear hK
      have g5 := h.out.f5 (hp.out 5 (by kernel_rfl))
      have g11 := h.out.f11 (hp.out 11 (by kernel_rfl))
      simp only [g5, g11] at HK
      go_simp
      refine HK.out _ _ ?_
      have k := h.out
      exact ⟨k.e, k.f0, k.f1, k.f2, k.f3, k.f4, k.f5, k.f6, k.f7, k.f8, k.f9, k.f10, k.f11, fun _ => upd_eq, k.f13, k.f14⟩
    refine AllF.cons rfl ?_ ?_
    · skip
      with_reducible refine StepF.dst (d := 87) (by kernel_rfl) (by kernel_rfl) ?_
      intro L y w hi hp h K hK
      simp only [putAll, List.foldl, Act.put, List.setIfInBounds_toArray, List.set_cons_zero, List.set_cons_succ] at hK ⊢
      have HK := Lib.hid hK
      clear hK
      have g4 := h.out.f4 (hp.out 4 (by kernel_rfl))
      have g12 := h.out.f12 (hp.out 12 (by kernel_rfl))
      simp only [g4, g12] at HK
      go_simp
      refine HK.out _ _ ?_
      have k := h.out
      exact ⟨k.e, k.f0, k.f1, k.f2, k.f3, k.f4, k.f5, k.f6, k.f7, k.f8, k.f9, k.f10, k.f11, k.f12, fun _ => upd_eq, k.f14⟩
    refine AllF.cons rfl ?_ ?_
    · skip
      with_reducible refine StepF.dst (d := 15) (by kernel_rfl) (by kernel_rfl) ?_
      intro L y w hi hp h K hK
      simp only [putAll, List.foldl, Act.put, List.setIfInBounds_toArray, List.set_cons_zero, List.set_cons_succ] at hK ⊢
      have HK := Lib.hid hK
      clear hK
      have g13 := h.out.f13 (hp.out 13 (by kernel_rfl))
      simp only [g13] at HK
      go_simp
      refine HK.out _ _ ?_
      have k := h.out
      exact ⟨k.e, k.f0, k.f1, k.f2, k.f3, k.f4, k.f5, k.f6, k.f7, k.f8, k.f9, k.f10, k.f11, k.f12, k.f13, fun _ => upd_eq⟩
    exact trivial
  · intro L y wE hL h
    have xE := h.e
    have ey := h.f14 (hL 14 (by decide))
    simp only [putAll, List.foldl, Act.put, List.setIfInBounds_toArray, List.set_cons_zero, List.set_cons_succ]
    simp only [ey]
    clear hL h ey HX1 HX2 HX3 HX4 HX5 HX6 HX7
    go_wp2_with fail
    refine (parse_text O d _ G_hd.out hOl).mono ?_
    rintro e w19 ⟨⟨v19_0, rfl, ⟨s19_0, a19_0, n19_0, c19_0, rfl, hi19_0⟩⟩, x19⟩
    have HV19_0 : Hid (IntV w19 (.agg #[.bool s19_0, .slice a19_0 n19_0 c19_0]) (d)) := Lib.hid ⟨_, _, _, _, rfl, hi19_0⟩
    clear hi19_0
    obtain ⟨D20, wb20, hD20, hw20, hb20_0, xb20⟩ := one w19 24 [.bool s19_0, .slice a19_0 n19_0 c19_0]
    have KB16 : Hid (∀ W, Ext wb20 W → W.cell? ⟨D20, 0, none⟩ = some (.bool s19_0) ∧ W.cell? ⟨D20, 1, none⟩ = some (.slice a19_0 n19_0 c19_0)) := Lib.hid fun W h => ⟨h.cell (hb20_0.cell (i := 0) rfl), h.cell (hb20_0.cell (i := 1) rfl)⟩
    clear hb20_0
    obtain ⟨cc16_0_22, cc16_1_22⟩ := KB16.out wb20 (Ext.refl _)
    have hq20 := hw20.symm
    have hp20 := hD20.symm
    clear hw20 hD20
    go_wp2_with fail
    clear hq20 hp20
    clear cc16_0_22 cc16_1_22
    refine (rvalid_any _ (d) _ (HV19_0.out.ext xb20)).mono ?_
    rintro e w21 ⟨rfl, x21⟩
    obtain ⟨cc16_0_24, cc16_1_24⟩ := KB16.out w21 x21
    go_wp2_with fail
    clear cc16_0_24 cc16_1_24
    refine (text_is _ d O _ (HV19_0.out.ext (xb20.trans x21)) G_fd.out G_hd.out).mono ?_
    rintro e w23 ⟨rfl, x23⟩
    go_wp2_with fail
    go_ret
    exact ⟨rfl, (((((((((((((((((x0.trans xs).trans x2).trans xb4).trans x6).trans xb8).trans x9).trans x11).trans xb12).trans hz13).trans x14).trans x15).trans x16).trans xE).trans x19).trans xb20).trans x21).trans x23)⟩
set_option maxRecDepth 100000 in
set_option maxHeartbeats 8000000 in
theorem texts_010 (nx : Bool) (ax : Option Addr) (kx cx : Nat) (lx : List Int) (a : Int) (ea : a = rawZ nx lx 12) (ny : Bool) (ay : Option Addr) (ky cy : Nat) (ly : List Int) (b : Int) (eb : b = rawZ ny ly 12) (w : World) (hx : Words w ax kx cx lx) (hy : Words w ay ky cy ly) (P : List UInt8) (T TB O : List UInt8) (d : Int) (ht : textL a = T) (hTl : (T.length : Int) ≤ 200) (hp : decide ((6 : Int) < (P.length : Int)) = false) (hab : a ≠ b) (htb : textL b = TB) (hne : (TB == T) = false) (hky : ky = 0) (hO : O = P ++ T) (hOl : O.length ≤ 4000) (hd : textL (parseZ O) ≠ O) (hOT : (O == T) = false)  :
    Calls Tryz.prog 8 #[.agg #[.bool nx, .slice ax kx cx], .agg #[.bool ny, .slice ay ky cy], .string ⟨P.toArray⟩] w fun e w' => e = .returned (.bool true) ∧ Ext w w' := by
  have G_hx1 : Hid ((⟨T.toArray⟩ : ByteArray).extract 0 0 = ⟨#[]⟩) := Lib.hid (ba_take T 0)
  have G_hx2 : Hid ((⟨T.toArray⟩ : ByteArray).extract 0 T.length = ⟨T.toArray⟩) := Lib.hid (ba_drop T 0)
  have G_hx3 : Hid ((⟨#[]⟩ : ByteArray) ++ ⟨P.toArray⟩ = ⟨P.toArray⟩) := Lib.hid (ba_append [] P)
  have G_hx4 : Hid ((⟨P.toArray⟩ : ByteArray) ++ ⟨T.toArray⟩ = ⟨O.toArray⟩) := Lib.hid (by rw [ba_append, hO])
  have G_hx5 : Hid ((9223372036854775807 < P.length) = False) := Lib.hid (eq_false (by simp at hp; omega))
  have G_hx6 : Hid ((9223372036854775807 < P.length + T.length) = False) := Lib.hid (eq_false (by simp at hp; omega))
  have G_hx7 : Hid (min (0 : Int) (T.length : Int) = 0) := Lib.hid (by omega)
  have G_ht := Lib.hid ht
  have G_hab := Lib.hid hab
  have G_htb := Lib.hid htb
  have G_hd := Lib.hid hd
  clear hO ht hab htb hd
  subst hky
  have E_a := Lib.hid ea
  have HWx := Lib.hid hx
  clear ea hx
  have E_b := Lib.hid eb
  have HWy := Lib.hid hy
  clear eb hy
  obtain ⟨B0, w0, hB0, hw0, hr0, hr1, x0⟩ := two w 25 25 [.bool nx, .slice ax kx cx] [.bool ny, .slice ay 0 cy]
  have HF1 : Hid (Fits (a) 12) := Lib.hid (by rw [E_a.out]; exact fits_raw (HWx.out.wf) (by omega))
  have HF5 : Hid (Fits (b) 12) := Lib.hid (by rw [E_b.out]; exact fits_raw (HWy.out.wf) (by omega))
  have KB3 : Hid (∀ W, Ext w0 W → W.cell? ⟨B0, 0, none⟩ = some (.bool nx) ∧ W.cell? ⟨B0, 1, none⟩ = some (.slice ax kx cx)) := Lib.hid fun W h => ⟨h.cell (hr0.cell (i := 0) rfl), h.cell (hr0.cell (i := 1) rfl)⟩
  have KB4 : Hid (∀ W, Ext w0 W → W.cell? ⟨B0 + 1, 0, none⟩ = some (.bool ny) ∧ W.cell? ⟨B0 + 1, 1, none⟩ = some (.slice ay 0 cy)) := Lib.hid fun W h => ⟨h.cell (hr1.cell (i := 0) rfl), h.cell (hr1.cell (i := 1) rfl)⟩
  clear hr0 hr1
  go_enter Tryz.func8, Tryz.ntmps8
  go_wp2_with fail
  rw [← hw0, ← hB0]
  clear hw0 hB0
  refine (sanity_any _).mono ?_
  rintro e ws ⟨rfl, xs⟩
  obtain ⟨cc3_0_3, cc3_1_3⟩ := KB3.out ws xs
  go_wp2_with fail
  clear cc3_0_3 cc3_1_3
  refine (Made_any nx ax kx cx lx 12 a _ (HWx.out.ext (x0.trans xs)) (by omega) E_a.out).mono ?_
  rintro e w2 ⟨⟨v2_0, rfl, ⟨s2_0, a2_0, n2_0, c2_0, rfl, hi2_0⟩⟩, x2⟩
  have HV2_0 : Hid (IntV w2 (.agg #[.bool s2_0, .slice a2_0 n2_0 c2_0]) (a)) := Lib.hid ⟨_, _, _, _, rfl, hi2_0⟩
  clear hi2_0
  obtain ⟨D4, wb4, hD4, hw4, hb4_0, xb4⟩ := one w2 24 [.bool s2_0, .slice a2_0 n2_0 c2_0]
  have KB8 : Hid (∀ W, Ext wb4 W → W.cell? ⟨D4, 0, none⟩ = some (.bool s2_0) ∧ W.cell? ⟨D4, 1, none⟩ = some (.slice a2_0 n2_0 c2_0)) := Lib.hid fun W h => ⟨h.cell (hb4_0.cell (i := 0) rfl), h.cell (hb4_0.cell (i := 1) rfl)⟩
  clear hb4_0
  obtain ⟨cc4_0_7, cc4_1_7⟩ := KB4.out wb4 ((xs.trans x2).trans xb4)
  have hq4 := hw4.symm
  have hp4 := hD4.symm
  clear hw4 hD4
  go_wp2_with fail
  clear hq4 hp4
  clear cc4_0_7 cc4_1_7
  refine (Made_any ny ay 0 cy ly 12 b _ (HWy.out.ext (((x0.trans xs).trans x2).trans xb4)) (by omega) E_b.out).mono ?_
  rintro e w6 ⟨⟨v6_0, rfl, ⟨s6_0, a6_0, n6_0, c6_0, rfl, hi6_0⟩⟩, x6⟩
  have HV6_0 : Hid (IntV w6 (.agg #[.bool s6_0, .slice a6_0 n6_0 c6_0]) (b)) := Lib.hid ⟨_, _, _, _, rfl, hi6_0⟩
  clear hi6_0
  obtain ⟨D8, wb8, hD8, hw8, hb8_0, xb8⟩ := one w6 24 [.bool s6_0, .slice a6_0 n6_0 c6_0]
  have KB9 : Hid (∀ W, Ext wb8 W → W.cell? ⟨D8, 0, none⟩ = some (.bool s6_0) ∧ W.cell? ⟨D8, 1, none⟩ = some (.slice a6_0 n6_0 c6_0)) := Lib.hid fun W h => ⟨h.cell (hb8_0.cell (i := 0) rfl), h.cell (hb8_0.cell (i := 1) rfl)⟩
  clear hb8_0
  obtain ⟨cc8_0_10, cc8_1_10⟩ := KB8.out wb8 (x6.trans xb8)
  have hq8 := hw8.symm
  have hp8 := hD8.symm
  clear hw8 hD8
  go_wp2_with fail
  clear hq8 hp8
  clear cc8_0_10 cc8_1_10
  refine (text_is _ a T _ (HV2_0.out.ext ((xb4.trans x6).trans xb8)) (HF1.out.mono (by omega)) G_ht.out).mono ?_
  rintro e w9 ⟨rfl, x9⟩
  go_wp2_with fail
  refine (parse_text T a _ G_ht.out (by omega)).mono ?_
  rintro e w11 ⟨⟨v11_0, rfl, ⟨s11_0, a11_0, n11_0, c11_0, rfl, hi11_0⟩⟩, x11⟩
  have HV11_0 : Hid (IntV w11 (.agg #[.bool s11_0, .slice a11_0 n11_0 c11_0]) (a)) := Lib.hid ⟨_, _, _, _, rfl, hi11_0⟩
  clear hi11_0
  obtain ⟨D12, wb12, hD12, hw12, hb12_0, xb12⟩ := one w11 24 [.bool s11_0, .slice a11_0 n11_0 c11_0]
  have KB11 : Hid (∀ W, Ext wb12 W → W.cell? ⟨D12, 0, none⟩ = some (.bool s11_0) ∧ W.cell? ⟨D12, 1, none⟩ = some (.slice a11_0 n11_0 c11_0)) := Lib.hid fun W h => ⟨h.cell (hb12_0.cell (i := 0) rfl), h.cell (hb12_0.cell (i := 1) rfl)⟩
  clear hb12_0
  have KX13 : Hid (∀ w', Ext wb12 w' → w'.cell? ⟨D12, 0, none⟩ = some (.bool s11_0) ∧ w'.cell? ⟨D12, 1, none⟩ = some (.slice a11_0 n11_0 c11_0) ∧ w'.cell? ⟨D4, 0, none⟩ = some (.bool s2_0) ∧ w'.cell? ⟨D4, 1, none⟩ = some (.slice a2_0 n2_0 c2_0) ∧ w'.cell? ⟨D8, 0, none⟩ = some (.bool s6_0) ∧ w'.cell? ⟨D8, 1, none⟩ = some (.slice a6_0 n6_0 c6_0)) := Lib.hid fun w' h => by
    have q11 := KB11.out w' ((Ext.refl _).trans h)
    have q8 := KB8.out w' (((((x6.trans xb8).trans x9).trans x11).trans xb12).trans h)
    have q9 := KB9.out w' (((x9.trans x11).trans xb12).trans h)
    exact ⟨q11.1, q11.2, q8.1, q8.2, q9.1, q9.2⟩
  have hq12 := hw12.symm
  have hp12 := hD12.symm
  clear hw12 hD12
  go_wp2_with fail
  clear hq12 hp12
  have hz13 := Below.drewExt wb12
  go_region_held3
    (fun w' => w'.cell? ⟨D12, 0, none⟩ = some (.bool s11_0) ∧ w'.cell? ⟨D12, 1, none⟩ = some (.slice a11_0 n11_0 c11_0) ∧ w'.cell? ⟨D4, 0, none⟩ = some (.bool s2_0) ∧ w'.cell? ⟨D4, 1, none⟩ = some (.slice a2_0 n2_0 c2_0) ∧ w'.cell? ⟨D8, 0, none⟩ = some (.bool s6_0) ∧ w'.cell? ⟨D8, 1, none⟩ = some (.slice a6_0 n6_0 c6_0))
    (with_reducible exact KX13.out _ (by assumption))
    (first
    | (go_at_call 21; (with_reducible refine (same_eq _ _ (a) (a) _ (HV11_0.out.ext (xb12.trans hz13)) (HV2_0.out.ext ((((((xb4.trans x6).trans xb8).trans x9).trans x11).trans xb12).trans hz13)) (Eq.refl _)).mono ?_); rintro e w14 ⟨rfl, x14⟩; have hz14 := hz13.trans x14)
    | (go_at_call 28; (with_reducible refine (text_is _ b TB _ (HV6_0.out.ext (((((xb8.trans x9).trans x11).trans xb12).trans hz13).trans x14)) (HF5.out.mono (by omega)) G_htb.out).mono ?_); rintro e w15 ⟨rfl, x15⟩; have hz15 := hz14.trans x15)
    | (go_at_call 21; (with_reducible refine (same_ne _ _ a b _ (HV2_0.out.ext ((((((((xb4.trans x6).trans xb8).trans x9).trans x11).trans xb12).trans hz13).trans x14).trans x15)) (HV6_0.out.ext ((((((xb8.trans x9).trans x11).trans xb12).trans hz13).trans x14).trans x15)) G_hab.out).mono ?_); rintro e w16 ⟨rfl, x16⟩; have hz16 := hz15.trans x16)
    )
  clear KX13
  obtain ⟨cc4_0_17, cc4_1_17⟩ := KB4.out w16 (((((((((((xs.trans x2).trans xb4).trans x6).trans xb8).trans x9).trans x11).trans xb12).trans hz13).trans x14).trans x15).trans x16)
  have HX1 := G_hx1.out
  have HX2 := G_hx2.out
  have HX3 := G_hx3.out
  have HX4 := G_hx4.out
  have HX5 := G_hx5.out
  have HX6 := G_hx6.out
  have HX7 := G_hx7.out
  go_wp2_with fail
  clear cc4_0_17 cc4_1_17
  refine wp_region_facts [74, 75, 76, 77, 78, 79, 80, 81, 82, 83, 84, 85, 86, 87, 15] (OddE (w16) T P O) (by kernel_rfl) (by kernel_rfl) ?_ ?_ ?_
  · intro y
    exact ⟨(Ext.refl _).drew, by simp, by simp, by simp, by simp, by simp, by simp, by simp, by simp, by simp, by simp, by simp, by simp, by simp, by simp, by simp⟩
  · intro Q
    refine AllF.cons rfl ?_ ?_
    · skip
      with_reducible refine StepF.dst (d := 74) (by kernel_rfl) (by kernel_rfl) ?_
      intro L y w hi hp h K hK
      simp only [putAll, List.foldl, Act.put, List.setIfInBounds_toArray, List.set_cons_zero, List.set_cons_succ] at hK ⊢
      have HK := Lib.hid hK
      clear hK
      go_simp
      refine HK.out _ _ ?_
      have k := h.out
      exact ⟨k.e, fun _ => upd_eq, k.f1, k.f2, k.f3, k.f4, k.f5, k.f6, k.f7, k.f8, k.f9, k.f10, k.f11, k.f12, k.f13, k.f14⟩
    refine AllF.cons rfl ?_ ?_
    · skip
      with_reducible refine StepF.dst (d := 75) (by kernel_rfl) (by kernel_rfl) ?_
      intro L y w hi hp h K hK
      simp only [putAll, List.foldl, Act.put, List.setIfInBounds_toArray, List.set_cons_zero, List.set_cons_succ] at hK ⊢
      have HK := Lib.hid hK
      clear hK
      go_simp
      refine HK.out _ _ ?_
      have k := h.out
      exact ⟨k.e, k.f0, fun _ => upd_eq, k.f2, k.f3, k.f4, k.f5, k.f6, k.f7, k.f8, k.f9, k.f10, k.f11, k.f12, k.f13, k.f14⟩
    refine AllF.cons rfl ?_ ?_
    · skip
      with_reducible refine StepF.dst (d := 76) (by kernel_rfl) (by kernel_rfl) ?_
      intro L y w hi hp h K hK
      simp only [putAll, List.foldl, Act.put, List.setIfInBounds_toArray, List.set_cons_zero, List.set_cons_succ] at hK ⊢
      have HK := Lib.hid hK
      clear hK
      have g0 := h.out.f0 (hp.out 0 (by kernel_rfl))
      have g1 := h.out.f1 (hp.out 1 (by kernel_rfl))
      simp only [g0, g1] at HK
      go_simp
      refine HK.out _ _ ?_
      have k := h.out
      exact ⟨k.e, k.f0, k.f1, fun _ => upd_eq, k.f3, k.f4, k.f5, k.f6, k.f7, k.f8, k.f9, k.f10, k.f11, k.f12, k.f13, k.f14⟩
    refine AllF.cons rfl ?_ ?_
    · skip
      with_reducible refine StepF.dst (d := 77) (by kernel_rfl) (by kernel_rfl) ?_
      intro L y w hi hp h K hK
      simp only [putAll, List.foldl, Act.put, List.setIfInBounds_toArray, List.set_cons_zero, List.set_cons_succ] at hK ⊢
      have HK := Lib.hid hK
      clear hK
      go_simp
      refine HK.out _ _ ?_
      have k := h.out
      exact ⟨k.e, k.f0, k.f1, k.f2, fun _ => upd_eq, k.f4, k.f5, k.f6, k.f7, k.f8, k.f9, k.f10, k.f11, k.f12, k.f13, k.f14⟩
    refine AllF.cons rfl ?_ ?_
    · skip
      with_reducible refine StepF.dst (d := 78) (by kernel_rfl) (by kernel_rfl) ?_
      intro L y w hi hp h K hK
      simp only [putAll, List.foldl, Act.put, List.setIfInBounds_toArray, List.set_cons_zero, List.set_cons_succ] at hK ⊢
      have HK := Lib.hid hK
      clear hK
      have g2 := h.out.f2 (hp.out 2 (by kernel_rfl))
      have g3 := h.out.f3 (hp.out 3 (by kernel_rfl))
      simp only [g2, g3] at HK
      go_simp
      refine HK.out _ _ ?_
      have k := h.out
      exact ⟨k.e, k.f0, k.f1, k.f2, k.f3, fun _ => upd_eq, k.f5, k.f6, k.f7, k.f8, k.f9, k.f10, k.f11, k.f12, k.f13, k.f14⟩
    refine AllF.cons rfl ?_ ?_
    · skip
      with_reducible refine StepF.dst (d := 79) (by kernel_rfl) (by kernel_rfl) ?_
      intro L y w hi hp h K hK
      simp only [putAll, List.foldl, Act.put, List.setIfInBounds_toArray, List.set_cons_zero, List.set_cons_succ] at hK ⊢
      have HK := Lib.hid hK
      clear hK
      go_simp
      refine HK.out _ _ ?_
      have k := h.out
      exact ⟨k.e, k.f0, k.f1, k.f2, k.f3, k.f4, fun _ => upd_eq, k.f6, k.f7, k.f8, k.f9, k.f10, k.f11, k.f12, k.f13, k.f14⟩
    refine AllF.cons rfl ?_ ?_
    · skip
      with_reducible refine StepF.dst (d := 80) (by kernel_rfl) (by kernel_rfl) ?_
      intro L y w hi hp h K hK
      simp only [putAll, List.foldl, Act.put, List.setIfInBounds_toArray, List.set_cons_zero, List.set_cons_succ] at hK ⊢
      have HK := Lib.hid hK
      clear hK
      go_simp
      refine HK.out _ _ ?_
      have k := h.out
      exact ⟨k.e, k.f0, k.f1, k.f2, k.f3, k.f4, k.f5, fun _ => upd_eq, k.f7, k.f8, k.f9, k.f10, k.f11, k.f12, k.f13, k.f14⟩
    refine AllF.cons rfl ?_ ?_
    · skip
      with_reducible refine StepF.dst (d := 81) (by kernel_rfl) (by kernel_rfl) ?_
      intro L y w hi hp h K hK
      simp only [putAll, List.foldl, Act.put, List.setIfInBounds_toArray, List.set_cons_zero, List.set_cons_succ] at hK ⊢
      have HK := Lib.hid hK
      clear hK
      go_simp
      refine HK.out _ _ ?_
      have k := h.out
      exact ⟨k.e, k.f0, k.f1, k.f2, k.f3, k.f4, k.f5, k.f6, fun _ => upd_eq, k.f8, k.f9, k.f10, k.f11, k.f12, k.f13, k.f14⟩
    refine AllF.cons rfl ?_ ?_
    · skip
      with_reducible refine StepF.dst (d := 82) (by kernel_rfl) (by kernel_rfl) ?_
      intro L y w hi hp h K hK
      simp only [putAll, List.foldl, Act.put, List.setIfInBounds_toArray, List.set_cons_zero, List.set_cons_succ] at hK ⊢
      have HK := Lib.hid hK
      clear hK
      have g6 := h.out.f6 (hp.out 6 (by kernel_rfl))
      have g7 := h.out.f7 (hp.out 7 (by kernel_rfl))
      simp only [g6, g7] at HK
      go_simp
      refine HK.out _ _ ?_
      have k := h.out
      exact ⟨k.e, k.f0, k.f1, k.f2, k.f3, k.f4, k.f5, k.f6, k.f7, fun _ => upd_eq, k.f9, k.f10, k.f11, k.f12, k.f13, k.f14⟩
    refine AllF.cons rfl ?_ ?_
    · skip
      with_reducible refine StepF.dst (d := 83) (by kernel_rfl) (by kernel_rfl) ?_
      intro L y w hi hp h K hK
      simp only [putAll, List.foldl, Act.put, List.setIfInBounds_toArray, List.set_cons_zero, List.set_cons_succ] at hK ⊢
      have HK := Lib.hid hK
      clear hK
      go_simp
      refine HK.out _ _ ?_
      have k := h.out
      exact ⟨k.e, k.f0, k.f1, k.f2, k.f3, k.f4, k.f5, k.f6, k.f7, k.f8, fun _ => upd_eq, k.f10, k.f11, k.f12, k.f13, k.f14⟩
    refine AllF.cons rfl ?_ ?_
    · skip
      with_reducible refine StepF.dst (d := 84) (by kernel_rfl) (by kernel_rfl) ?_
      intro L y w hi hp h K hK
      simp only [putAll, List.foldl, Act.put, List.setIfInBounds_toArray, List.set_cons_zero, List.set_cons_succ] at hK ⊢
      have HK := Lib.hid hK
      clear hK
      have g9 := h.out.f9 (hp.out 9 (by kernel_rfl))
      simp only [g9] at HK
      go_simp
      refine HK.out _ _ ?_
      have k := h.out
      exact ⟨k.e, k.f0, k.f1, k.f2, k.f3, k.f4, k.f5, k.f6, k.f7, k.f8, k.f9, fun _ => upd_eq, k.f11, k.f12, k.f13, k.f14⟩
    refine AllF.cons rfl ?_ ?_
    · skip
      with_reducible refine StepF.dst (d := 85) (by kernel_rfl) (by kernel_rfl) ?_
      intro L y w hi hp h K hK
      simp only [putAll, List.foldl, Act.put, List.setIfInBounds_toArray, List.set_cons_zero, List.set_cons_succ] at hK ⊢
      have HK := Lib.hid hK
      clear hK
      have g8 := h.out.f8 (hp.out 8 (by kernel_rfl))
      have g10 := h.out.f10 (hp.out 10 (by kernel_rfl))
      simp only [g8, g10] at HK
      go_simp
      refine HK.out _ _ ?_
      have k := h.out
      exact ⟨k.e, k.f0, k.f1, k.f2, k.f3, k.f4, k.f5, k.f6, k.f7, k.f8, k.f9, k.f10, fun _ => upd_eq, k.f12, k.f13, k.f14⟩
    refine AllF.cons rfl ?_ ?_
    · skip
      with_reducible refine StepF.dst (d := 86) (by kernel_rfl) (by kernel_rfl) ?_
      intro L y w hi hp h K hK
      simp only [putAll, List.foldl, Act.put, List.setIfInBounds_toArray, List.set_cons_zero, List.set_cons_succ] at hK ⊢
      have HK := Lib.hid hK
      clear hK
      have g5 := h.out.f5 (hp.out 5 (by kernel_rfl))
      have g11 := h.out.f11 (hp.out 11 (by kernel_rfl))
      simp only [g5, g11] at HK
      go_simp
      refine HK.out _ _ ?_
      have k := h.out
      exact ⟨k.e, k.f0, k.f1, k.f2, k.f3, k.f4, k.f5, k.f6, k.f7, k.f8, k.f9, k.f10, k.f11, fun _ => upd_eq, k.f13, k.f14⟩
    refine AllF.cons rfl ?_ ?_
    · skip
      with_reducible refine StepF.dst (d := 87) (by kernel_rfl) (by kernel_rfl) ?_
      intro L y w hi hp h K hK
      simp only [putAll, List.foldl, Act.put, List.setIfInBounds_toArray, List.set_cons_zero, List.set_cons_succ] at hK ⊢
      have HK := Lib.hid hK
      clear hK
      have g4 := h.out.f4 (hp.out 4 (by kernel_rfl))
      have g12 := h.out.f12 (hp.out 12 (by kernel_rfl))
      simp only [g4, g12] at HK
      go_simp
      refine HK.out _ _ ?_
      have k := h.out
      exact ⟨k.e, k.f0, k.f1, k.f2, k.f3, k.f4, k.f5, k.f6, k.f7, k.f8, k.f9, k.f10, k.f11, k.f12, fun _ => upd_eq, k.f14⟩
    refine AllF.cons rfl ?_ ?_
    · skip
      with_reducible refine StepF.dst (d := 15) (by kernel_rfl) (by kernel_rfl) ?_
      intro L y w hi hp h K hK
      simp only [putAll, List.foldl, Act.put, List.setIfInBounds_toArray, List.set_cons_zero, List.set_cons_succ] at hK ⊢
      have HK := Lib.hid hK
      clear hK
      have g13 := h.out.f13 (hp.out 13 (by kernel_rfl))
      simp only [g13] at HK
      go_simp
      refine HK.out _ _ ?_
      have k := h.out
      exact ⟨k.e, k.f0, k.f1, k.f2, k.f3, k.f4, k.f5, k.f6, k.f7, k.f8, k.f9, k.f10, k.f11, k.f12, k.f13, fun _ => upd_eq⟩
    exact trivial
  · intro L y wE hL h
    have xE := h.e
    have ey := h.f14 (hL 14 (by decide))
    simp only [putAll, List.foldl, Act.put, List.setIfInBounds_toArray, List.set_cons_zero, List.set_cons_succ]
    simp only [ey]
    clear hL h ey HX1 HX2 HX3 HX4 HX5 HX6 HX7
    go_wp2_with fail
    refine (parse_bad O _ G_hd.out hOl).mono ?_
    rintro e w18 ⟨rfl, x18⟩
    obtain ⟨D19, wb19, hD19, hw19, hb19_0, xb19⟩ := one w18 24 [.bool false, .slice none 0 0]
    have KB16 : Hid (∀ W, Ext wb19 W → W.cell? ⟨D19, 0, none⟩ = some (.bool false) ∧ W.cell? ⟨D19, 1, none⟩ = some (.slice none 0 0)) := Lib.hid fun W h => ⟨h.cell (hb19_0.cell (i := 0) rfl), h.cell (hb19_0.cell (i := 1) rfl)⟩
    have ze19_00 := setCell_same hb19_0 (i := 0) rfl
    have zf19_00 := hb19_0.free 0
    have ze19_01 := setCell_same hb19_0 (i := 1) rfl
    have zf19_01 := hb19_0.free 1
    clear hb19_0
    obtain ⟨cc16_0_20, cc16_1_20⟩ := KB16.out wb19 (Ext.refl _)
    have hq19 := hw19.symm
    have hp19 := hD19.symm
    clear hw19 hD19
    go_wp2_with fail
    clear hq19 hp19
    clear ze19_00 zf19_00 ze19_01 zf19_01 cc16_0_20 cc16_1_20
    go_wp2_with fail
    go_ret
    exact ⟨rfl, (((((((((((((((x0.trans xs).trans x2).trans xb4).trans x6).trans xb8).trans x9).trans x11).trans xb12).trans hz13).trans x14).trans x15).trans x16).trans xE).trans x18).trans xb19)⟩
set_option maxRecDepth 100000 in
set_option maxHeartbeats 8000000 in
theorem texts_001 (nx : Bool) (ax : Option Addr) (kx cx : Nat) (lx : List Int) (a : Int) (ea : a = rawZ nx lx 12) (ny : Bool) (ay : Option Addr) (ky cy : Nat) (ly : List Int) (b : Int) (eb : b = rawZ ny ly 12) (w : World) (hx : Words w ax kx cx lx) (hy : Words w ay ky cy ly) (P : List UInt8) (T TB O : List UInt8) (d : Int) (O1 : List UInt8) (at0 cut M : Nat) (ht : textL a = T) (hTl : (T.length : Int) ≤ 200) (hp : decide ((6 : Int) < (P.length : Int)) = false) (hab : a ≠ b) (htb : textL b = TB) (hne : (TB == T) = false) (by0 oy0 : Nat) (hay : ay = some ⟨by0, oy0, none⟩) (hky : decide ((0 : Int) < (ky : Int)) = true) (hkn : 0 < ky) (hkb : decide (0 < ky) = true) (hki : (0 : Int) < (ky : Int)) (y0 : Int) (hy0 : ly[0]? = some y0) (hcap : (cy : Int) ≤ 9223372036854775807) (hkc : (ky : Int) ≤ (cy : Int)) (hm1 : y0.tmod ((T.length : Int) + 1) = (at0 : Int)) (hm2 : y0.tmod 5 = (cut : Int)) (hat : at0 ≤ T.length) (hcut : cut ≤ 4) (hM : M = min (at0 + cut) T.length) (hO1 : O1 = T.take at0 ++ P) (hO : O = O1 ++ T.drop M) (hOl : O.length ≤ 4000) (hd : textL d = O) (fd : Fits d 1000)  :
    Calls Tryz.prog 8 #[.agg #[.bool nx, .slice ax kx cx], .agg #[.bool ny, .slice ay ky cy], .string ⟨P.toArray⟩] w fun e w' => e = .returned (.bool true) ∧ Ext w w' := by
  have G_hx1 : Hid ((⟨T.toArray⟩ : ByteArray).extract 0 at0 = ⟨(T.take at0).toArray⟩) := Lib.hid (ba_take T at0)
  have G_hx2 : Hid ((⟨T.toArray⟩ : ByteArray).extract M T.length = ⟨(T.drop M).toArray⟩) := Lib.hid (ba_drop T M)
  have G_hx3 : Hid ((⟨(T.take at0).toArray⟩ : ByteArray) ++ ⟨P.toArray⟩ = ⟨O1.toArray⟩) := Lib.hid (by rw [ba_append, hO1])
  have G_hx4 : Hid ((⟨O1.toArray⟩ : ByteArray) ++ ⟨(T.drop M).toArray⟩ = ⟨O.toArray⟩) := Lib.hid (by rw [ba_append, hO])
  have G_hx5 : Hid ((9223372036854775807 < at0 + P.length) = False) := Lib.hid (eq_false (by simp at hp; omega))
  have G_hx6 : Hid ((9223372036854775807 < O1.length + (T.length - M)) = False) := Lib.hid (eq_false (by rw [hO1, List.length_append, List.length_take]; simp at hp; omega))
  have G_hx7 : Hid (IntKind.i64.wrap ((at0 : Int) + (cut : Int)) = (at0 : Int) + (cut : Int)) := Lib.hid (IntWalk.i64_in _ (by omega))
  have G_hx8 : Hid (min (at0 + cut) T.length = M) := Lib.hid hM.symm
  have G_hx9 : Hid (min ((at0 : Int) + (cut : Int)) (T.length : Int) = (M : Int)) := Lib.hid (by omega)
  have G_hxm : Hid (M ≤ T.length) := Lib.hid (by omega)
  have G_ht := Lib.hid ht
  have G_hab := Lib.hid hab
  have G_htb := Lib.hid htb
  have G_hy0 := Lib.hid hy0
  have G_hd := Lib.hid hd
  have G_fd := Lib.hid fd
  clear hM hO1 hO ht hab htb hy0 hd fd
  subst hay
  have E_a := Lib.hid ea
  have HWx := Lib.hid hx
  clear ea hx
  have E_b := Lib.hid eb
  have HWy := Lib.hid hy
  clear eb hy
  obtain ⟨B0, w0, hB0, hw0, hr0, hr1, x0⟩ := two w 25 25 [.bool nx, .slice ax kx cx] [.bool ny, .slice (some ⟨by0, oy0, none⟩) ky cy]
  have HF1 : Hid (Fits (a) 12) := Lib.hid (by rw [E_a.out]; exact fits_raw (HWx.out.wf) (by omega))
  have HF5 : Hid (Fits (b) 12) := Lib.hid (by rw [E_b.out]; exact fits_raw (HWy.out.wf) (by omega))
  have HF18 : Hid (Fits (d) 1000) := Lib.hid G_fd.out
  have KB3 : Hid (∀ W, Ext w0 W → W.cell? ⟨B0, 0, none⟩ = some (.bool nx) ∧ W.cell? ⟨B0, 1, none⟩ = some (.slice ax kx cx)) := Lib.hid fun W h => ⟨h.cell (hr0.cell (i := 0) rfl), h.cell (hr0.cell (i := 1) rfl)⟩
  have KB4 : Hid (∀ W, Ext w0 W → W.cell? ⟨B0 + 1, 0, none⟩ = some (.bool ny) ∧ W.cell? ⟨B0 + 1, 1, none⟩ = some (.slice (some ⟨by0, oy0, none⟩) ky cy)) := Lib.hid fun W h => ⟨h.cell (hr1.cell (i := 0) rfl), h.cell (hr1.cell (i := 1) rfl)⟩
  clear hr0 hr1
  go_enter Tryz.func8, Tryz.ntmps8
  go_wp2_with fail
  rw [← hw0, ← hB0]
  clear hw0 hB0
  refine (sanity_any _).mono ?_
  rintro e ws ⟨rfl, xs⟩
  obtain ⟨cc3_0_3, cc3_1_3⟩ := KB3.out ws xs
  go_wp2_with fail
  clear cc3_0_3 cc3_1_3
  refine (Made_any nx ax kx cx lx 12 a _ (HWx.out.ext (x0.trans xs)) (by omega) E_a.out).mono ?_
  rintro e w2 ⟨⟨v2_0, rfl, ⟨s2_0, a2_0, n2_0, c2_0, rfl, hi2_0⟩⟩, x2⟩
  have HV2_0 : Hid (IntV w2 (.agg #[.bool s2_0, .slice a2_0 n2_0 c2_0]) (a)) := Lib.hid ⟨_, _, _, _, rfl, hi2_0⟩
  clear hi2_0
  obtain ⟨D4, wb4, hD4, hw4, hb4_0, xb4⟩ := one w2 24 [.bool s2_0, .slice a2_0 n2_0 c2_0]
  have KB8 : Hid (∀ W, Ext wb4 W → W.cell? ⟨D4, 0, none⟩ = some (.bool s2_0) ∧ W.cell? ⟨D4, 1, none⟩ = some (.slice a2_0 n2_0 c2_0)) := Lib.hid fun W h => ⟨h.cell (hb4_0.cell (i := 0) rfl), h.cell (hb4_0.cell (i := 1) rfl)⟩
  clear hb4_0
  obtain ⟨cc4_0_7, cc4_1_7⟩ := KB4.out wb4 ((xs.trans x2).trans xb4)
  have hq4 := hw4.symm
  have hp4 := hD4.symm
  clear hw4 hD4
  go_wp2_with fail
  clear hq4 hp4
  clear cc4_0_7 cc4_1_7
  refine (Made_any ny (some ⟨by0, oy0, none⟩) ky cy ly 12 b _ (HWy.out.ext (((x0.trans xs).trans x2).trans xb4)) (by omega) E_b.out).mono ?_
  rintro e w6 ⟨⟨v6_0, rfl, ⟨s6_0, a6_0, n6_0, c6_0, rfl, hi6_0⟩⟩, x6⟩
  have HV6_0 : Hid (IntV w6 (.agg #[.bool s6_0, .slice a6_0 n6_0 c6_0]) (b)) := Lib.hid ⟨_, _, _, _, rfl, hi6_0⟩
  clear hi6_0
  obtain ⟨D8, wb8, hD8, hw8, hb8_0, xb8⟩ := one w6 24 [.bool s6_0, .slice a6_0 n6_0 c6_0]
  have KB9 : Hid (∀ W, Ext wb8 W → W.cell? ⟨D8, 0, none⟩ = some (.bool s6_0) ∧ W.cell? ⟨D8, 1, none⟩ = some (.slice a6_0 n6_0 c6_0)) := Lib.hid fun W h => ⟨h.cell (hb8_0.cell (i := 0) rfl), h.cell (hb8_0.cell (i := 1) rfl)⟩
  clear hb8_0
  obtain ⟨cc8_0_10, cc8_1_10⟩ := KB8.out wb8 (x6.trans xb8)
  have hq8 := hw8.symm
  have hp8 := hD8.symm
  clear hw8 hD8
  go_wp2_with fail
  clear hq8 hp8
  clear cc8_0_10 cc8_1_10
  refine (text_is _ a T _ (HV2_0.out.ext ((xb4.trans x6).trans xb8)) (HF1.out.mono (by omega)) G_ht.out).mono ?_
  rintro e w9 ⟨rfl, x9⟩
  go_wp2_with fail
  refine (parse_text T a _ G_ht.out (by omega)).mono ?_
  rintro e w11 ⟨⟨v11_0, rfl, ⟨s11_0, a11_0, n11_0, c11_0, rfl, hi11_0⟩⟩, x11⟩
  have HV11_0 : Hid (IntV w11 (.agg #[.bool s11_0, .slice a11_0 n11_0 c11_0]) (a)) := Lib.hid ⟨_, _, _, _, rfl, hi11_0⟩
  clear hi11_0
  obtain ⟨D12, wb12, hD12, hw12, hb12_0, xb12⟩ := one w11 24 [.bool s11_0, .slice a11_0 n11_0 c11_0]
  have KB11 : Hid (∀ W, Ext wb12 W → W.cell? ⟨D12, 0, none⟩ = some (.bool s11_0) ∧ W.cell? ⟨D12, 1, none⟩ = some (.slice a11_0 n11_0 c11_0)) := Lib.hid fun W h => ⟨h.cell (hb12_0.cell (i := 0) rfl), h.cell (hb12_0.cell (i := 1) rfl)⟩
  clear hb12_0
  have KX13 : Hid (∀ w', Ext wb12 w' → w'.cell? ⟨D12, 0, none⟩ = some (.bool s11_0) ∧ w'.cell? ⟨D12, 1, none⟩ = some (.slice a11_0 n11_0 c11_0) ∧ w'.cell? ⟨D4, 0, none⟩ = some (.bool s2_0) ∧ w'.cell? ⟨D4, 1, none⟩ = some (.slice a2_0 n2_0 c2_0) ∧ w'.cell? ⟨D8, 0, none⟩ = some (.bool s6_0) ∧ w'.cell? ⟨D8, 1, none⟩ = some (.slice a6_0 n6_0 c6_0)) := Lib.hid fun w' h => by
    have q11 := KB11.out w' ((Ext.refl _).trans h)
    have q8 := KB8.out w' (((((x6.trans xb8).trans x9).trans x11).trans xb12).trans h)
    have q9 := KB9.out w' (((x9.trans x11).trans xb12).trans h)
    exact ⟨q11.1, q11.2, q8.1, q8.2, q9.1, q9.2⟩
  have hq12 := hw12.symm
  have hp12 := hD12.symm
  clear hw12 hD12
  go_wp2_with fail
  clear hq12 hp12
  have hz13 := Below.drewExt wb12
  go_region_held3
    (fun w' => w'.cell? ⟨D12, 0, none⟩ = some (.bool s11_0) ∧ w'.cell? ⟨D12, 1, none⟩ = some (.slice a11_0 n11_0 c11_0) ∧ w'.cell? ⟨D4, 0, none⟩ = some (.bool s2_0) ∧ w'.cell? ⟨D4, 1, none⟩ = some (.slice a2_0 n2_0 c2_0) ∧ w'.cell? ⟨D8, 0, none⟩ = some (.bool s6_0) ∧ w'.cell? ⟨D8, 1, none⟩ = some (.slice a6_0 n6_0 c6_0))
    (with_reducible exact KX13.out _ (by assumption))
    (first
    | (go_at_call 21; (with_reducible refine (same_eq _ _ (a) (a) _ (HV11_0.out.ext (xb12.trans hz13)) (HV2_0.out.ext ((((((xb4.trans x6).trans xb8).trans x9).trans x11).trans xb12).trans hz13)) (Eq.refl _)).mono ?_); rintro e w14 ⟨rfl, x14⟩; have hz14 := hz13.trans x14)
    | (go_at_call 28; (with_reducible refine (text_is _ b TB _ (HV6_0.out.ext (((((xb8.trans x9).trans x11).trans xb12).trans hz13).trans x14)) (HF5.out.mono (by omega)) G_htb.out).mono ?_); rintro e w15 ⟨rfl, x15⟩; have hz15 := hz14.trans x15)
    | (go_at_call 21; (with_reducible refine (same_ne _ _ a b _ (HV2_0.out.ext ((((((((xb4.trans x6).trans xb8).trans x9).trans x11).trans xb12).trans hz13).trans x14).trans x15)) (HV6_0.out.ext ((((((xb8.trans x9).trans x11).trans xb12).trans hz13).trans x14).trans x15)) G_hab.out).mono ?_); rintro e w16 ⟨rfl, x16⟩; have hz16 := hz15.trans x16)
    )
  clear KX13
  obtain ⟨cc4_0_17, cc4_1_17⟩ := KB4.out w16 (((((((((((xs.trans x2).trans xb4).trans x6).trans xb8).trans x9).trans x11).trans xb12).trans hz13).trans x14).trans x15).trans x16)
  have hcy0 := (HWy.out.ext ((((((((((((x0.trans xs).trans x2).trans xb4).trans x6).trans xb8).trans x9).trans x11).trans xb12).trans hz13).trans x14).trans x15).trans x16)).cells 0 y0 G_hy0.out
  obtain ⟨b1, o1, e1, hcy⟩ := hcy0
  cases e1
  rw [Nat.add_zero] at hcy
  have bt0 : (at0 : Int) ≤ (T.length : Int) := by omega
  have bt1 : (0 : Int) ≤ (at0 : Int) := by omega
  have bt2 : (cut : Int) ≤ 4 := by omega
  have bt3 : (0 : Int) ≤ (cut : Int) := by omega
  have HXm := G_hxm.out
  have HX1 := G_hx1.out
  have HX2 := G_hx2.out
  have HX3 := G_hx3.out
  have HX4 := G_hx4.out
  have HX5 := G_hx5.out
  have HX6 := G_hx6.out
  have HX7 := G_hx7.out
  have HX8 := G_hx8.out
  have HX9 := G_hx9.out
  go_wp2_with fail
  clear hcy hm1 hm2
  clear cc4_0_17 cc4_1_17
  refine wp_region_facts [74, 75, 76, 77, 78, 79, 80, 81, 82, 83, 84, 85, 86, 87, 15] (OddF (w16) T P O1 O at0 cut M) (by kernel_rfl) (by kernel_rfl) ?_ ?_ ?_
  · intro y
    exact ⟨(Ext.refl _).drew, by simp, by simp, by simp, by simp, by simp, by simp, by simp, by simp, by simp, by simp, by simp, by simp, by simp, by simp, by simp⟩
  · intro Q
    refine AllF.cons rfl ?_ ?_
    · skip
      with_reducible refine StepF.dst (d := 74) (by kernel_rfl) (by kernel_rfl) ?_
      intro L y w hi hp h K hK
      simp only [putAll, List.foldl, Act.put, List.setIfInBounds_toArray, List.set_cons_zero, List.set_cons_succ] at hK ⊢
      have HK := Lib.hid hK
      clear hK
      go_simp
      refine HK.out _ _ ?_
      have k := h.out
      exact ⟨k.e, fun _ => upd_eq, k.f1, k.f2, k.f3, k.f4, k.f5, k.f6, k.f7, k.f8, k.f9, k.f10, k.f11, k.f12, k.f13, k.f14⟩
    refine AllF.cons rfl ?_ ?_
    · skip
      with_reducible refine StepF.dst (d := 75) (by kernel_rfl) (by kernel_rfl) ?_
      intro L y w hi hp h K hK
      simp only [putAll, List.foldl, Act.put, List.setIfInBounds_toArray, List.set_cons_zero, List.set_cons_succ] at hK ⊢
      have HK := Lib.hid hK
      clear hK
      go_simp
      refine HK.out _ _ ?_
      have k := h.out
      exact ⟨k.e, k.f0, fun _ => upd_eq, k.f2, k.f3, k.f4, k.f5, k.f6, k.f7, k.f8, k.f9, k.f10, k.f11, k.f12, k.f13, k.f14⟩
    refine AllF.cons rfl ?_ ?_
    · skip
      with_reducible refine StepF.dst (d := 76) (by kernel_rfl) (by kernel_rfl) ?_
      intro L y w hi hp h K hK
      simp only [putAll, List.foldl, Act.put, List.setIfInBounds_toArray, List.set_cons_zero, List.set_cons_succ] at hK ⊢
      have HK := Lib.hid hK
      clear hK
      have g0 := h.out.f0 (hp.out 0 (by kernel_rfl))
      have g1 := h.out.f1 (hp.out 1 (by kernel_rfl))
      simp only [g0, g1] at HK
      go_simp
      refine HK.out _ _ ?_
      have k := h.out
      exact ⟨k.e, k.f0, k.f1, fun _ => upd_eq, k.f3, k.f4, k.f5, k.f6, k.f7, k.f8, k.f9, k.f10, k.f11, k.f12, k.f13, k.f14⟩
    refine AllF.cons rfl ?_ ?_
    · skip
      with_reducible refine StepF.dst (d := 77) (by kernel_rfl) (by kernel_rfl) ?_
      intro L y w hi hp h K hK
      simp only [putAll, List.foldl, Act.put, List.setIfInBounds_toArray, List.set_cons_zero, List.set_cons_succ] at hK ⊢
      have HK := Lib.hid hK
      clear hK
      go_simp
      refine HK.out _ _ ?_
      have k := h.out
      exact ⟨k.e, k.f0, k.f1, k.f2, fun _ => upd_eq, k.f4, k.f5, k.f6, k.f7, k.f8, k.f9, k.f10, k.f11, k.f12, k.f13, k.f14⟩
    refine AllF.cons rfl ?_ ?_
    · skip
      with_reducible refine StepF.dst (d := 78) (by kernel_rfl) (by kernel_rfl) ?_
      intro L y w hi hp h K hK
      simp only [putAll, List.foldl, Act.put, List.setIfInBounds_toArray, List.set_cons_zero, List.set_cons_succ] at hK ⊢
      have HK := Lib.hid hK
      clear hK
      have g2 := h.out.f2 (hp.out 2 (by kernel_rfl))
      have g3 := h.out.f3 (hp.out 3 (by kernel_rfl))
      simp only [g2, g3] at HK
      go_simp
      refine HK.out _ _ ?_
      have k := h.out
      exact ⟨k.e, k.f0, k.f1, k.f2, k.f3, fun _ => upd_eq, k.f5, k.f6, k.f7, k.f8, k.f9, k.f10, k.f11, k.f12, k.f13, k.f14⟩
    refine AllF.cons rfl ?_ ?_
    · skip
      with_reducible refine StepF.dst (d := 79) (by kernel_rfl) (by kernel_rfl) ?_
      intro L y w hi hp h K hK
      simp only [putAll, List.foldl, Act.put, List.setIfInBounds_toArray, List.set_cons_zero, List.set_cons_succ] at hK ⊢
      have HK := Lib.hid hK
      clear hK
      go_simp
      refine HK.out _ _ ?_
      have k := h.out
      exact ⟨k.e, k.f0, k.f1, k.f2, k.f3, k.f4, fun _ => upd_eq, k.f6, k.f7, k.f8, k.f9, k.f10, k.f11, k.f12, k.f13, k.f14⟩
    refine AllF.cons rfl ?_ ?_
    · skip
      with_reducible refine StepF.dst (d := 80) (by kernel_rfl) (by kernel_rfl) ?_
      intro L y w hi hp h K hK
      simp only [putAll, List.foldl, Act.put, List.setIfInBounds_toArray, List.set_cons_zero, List.set_cons_succ] at hK ⊢
      have HK := Lib.hid hK
      clear hK
      go_simp
      refine HK.out _ _ ?_
      have k := h.out
      exact ⟨k.e, k.f0, k.f1, k.f2, k.f3, k.f4, k.f5, fun _ => upd_eq, k.f7, k.f8, k.f9, k.f10, k.f11, k.f12, k.f13, k.f14⟩
    refine AllF.cons rfl ?_ ?_
    · skip
      with_reducible refine StepF.dst (d := 81) (by kernel_rfl) (by kernel_rfl) ?_
      intro L y w hi hp h K hK
      simp only [putAll, List.foldl, Act.put, List.setIfInBounds_toArray, List.set_cons_zero, List.set_cons_succ] at hK ⊢
      have HK := Lib.hid hK
      clear hK
      go_simp
      refine HK.out _ _ ?_
      have k := h.out
      exact ⟨k.e, k.f0, k.f1, k.f2, k.f3, k.f4, k.f5, k.f6, fun _ => upd_eq, k.f8, k.f9, k.f10, k.f11, k.f12, k.f13, k.f14⟩
    refine AllF.cons rfl ?_ ?_
    · skip
      with_reducible refine StepF.dst (d := 82) (by kernel_rfl) (by kernel_rfl) ?_
      intro L y w hi hp h K hK
      simp only [putAll, List.foldl, Act.put, List.setIfInBounds_toArray, List.set_cons_zero, List.set_cons_succ] at hK ⊢
      have HK := Lib.hid hK
      clear hK
      have g6 := h.out.f6 (hp.out 6 (by kernel_rfl))
      have g7 := h.out.f7 (hp.out 7 (by kernel_rfl))
      simp only [g6, g7] at HK
      go_simp
      refine HK.out _ _ ?_
      have k := h.out
      exact ⟨k.e, k.f0, k.f1, k.f2, k.f3, k.f4, k.f5, k.f6, k.f7, fun _ => upd_eq, k.f9, k.f10, k.f11, k.f12, k.f13, k.f14⟩
    refine AllF.cons rfl ?_ ?_
    · skip
      with_reducible refine StepF.dst (d := 83) (by kernel_rfl) (by kernel_rfl) ?_
      intro L y w hi hp h K hK
      simp only [putAll, List.foldl, Act.put, List.setIfInBounds_toArray, List.set_cons_zero, List.set_cons_succ] at hK ⊢
      have HK := Lib.hid hK
      clear hK
      go_simp
      refine HK.out _ _ ?_
      have k := h.out
      exact ⟨k.e, k.f0, k.f1, k.f2, k.f3, k.f4, k.f5, k.f6, k.f7, k.f8, fun _ => upd_eq, k.f10, k.f11, k.f12, k.f13, k.f14⟩
    refine AllF.cons rfl ?_ ?_
    · skip
      with_reducible refine StepF.dst (d := 84) (by kernel_rfl) (by kernel_rfl) ?_
      intro L y w hi hp h K hK
      simp only [putAll, List.foldl, Act.put, List.setIfInBounds_toArray, List.set_cons_zero, List.set_cons_succ] at hK ⊢
      have HK := Lib.hid hK
      clear hK
      have g9 := h.out.f9 (hp.out 9 (by kernel_rfl))
      simp only [g9] at HK
      go_simp
      refine HK.out _ _ ?_
      have k := h.out
      exact ⟨k.e, k.f0, k.f1, k.f2, k.f3, k.f4, k.f5, k.f6, k.f7, k.f8, k.f9, fun _ => upd_eq, k.f11, k.f12, k.f13, k.f14⟩
    refine AllF.cons rfl ?_ ?_
    · skip
      with_reducible refine StepF.dst (d := 85) (by kernel_rfl) (by kernel_rfl) ?_
      intro L y w hi hp h K hK
      simp only [putAll, List.foldl, Act.put, List.setIfInBounds_toArray, List.set_cons_zero, List.set_cons_succ] at hK ⊢
      have HK := Lib.hid hK
      clear hK
      have g8 := h.out.f8 (hp.out 8 (by kernel_rfl))
      have g10 := h.out.f10 (hp.out 10 (by kernel_rfl))
      simp only [g8, g10] at HK
      go_simp
      refine HK.out _ _ ?_
      have k := h.out
      exact ⟨k.e, k.f0, k.f1, k.f2, k.f3, k.f4, k.f5, k.f6, k.f7, k.f8, k.f9, k.f10, fun _ => upd_eq, k.f12, k.f13, k.f14⟩
    refine AllF.cons rfl ?_ ?_
    · skip
      with_reducible refine StepF.dst (d := 86) (by kernel_rfl) (by kernel_rfl) ?_
      intro L y w hi hp h K hK
      simp only [putAll, List.foldl, Act.put, List.setIfInBounds_toArray, List.set_cons_zero, List.set_cons_succ] at hK ⊢
      have HK := Lib.hid hK
      clear hK
      have g5 := h.out.f5 (hp.out 5 (by kernel_rfl))
      have g11 := h.out.f11 (hp.out 11 (by kernel_rfl))
      simp only [g5, g11] at HK
      go_simp
      refine HK.out _ _ ?_
      have k := h.out
      exact ⟨k.e, k.f0, k.f1, k.f2, k.f3, k.f4, k.f5, k.f6, k.f7, k.f8, k.f9, k.f10, k.f11, fun _ => upd_eq, k.f13, k.f14⟩
    refine AllF.cons rfl ?_ ?_
    · skip
      with_reducible refine StepF.dst (d := 87) (by kernel_rfl) (by kernel_rfl) ?_
      intro L y w hi hp h K hK
      simp only [putAll, List.foldl, Act.put, List.setIfInBounds_toArray, List.set_cons_zero, List.set_cons_succ] at hK ⊢
      have HK := Lib.hid hK
      clear hK
      have g4 := h.out.f4 (hp.out 4 (by kernel_rfl))
      have g12 := h.out.f12 (hp.out 12 (by kernel_rfl))
      simp only [g4, g12] at HK
      go_simp
      refine HK.out _ _ ?_
      have k := h.out
      exact ⟨k.e, k.f0, k.f1, k.f2, k.f3, k.f4, k.f5, k.f6, k.f7, k.f8, k.f9, k.f10, k.f11, k.f12, fun _ => upd_eq, k.f14⟩
    refine AllF.cons rfl ?_ ?_
    · skip
      with_reducible refine StepF.dst (d := 15) (by kernel_rfl) (by kernel_rfl) ?_
      intro L y w hi hp h K hK
      simp only [putAll, List.foldl, Act.put, List.setIfInBounds_toArray, List.set_cons_zero, List.set_cons_succ] at hK ⊢
      have HK := Lib.hid hK
      clear hK
      have g13 := h.out.f13 (hp.out 13 (by kernel_rfl))
      simp only [g13] at HK
      go_simp
      refine HK.out _ _ ?_
      have k := h.out
      exact ⟨k.e, k.f0, k.f1, k.f2, k.f3, k.f4, k.f5, k.f6, k.f7, k.f8, k.f9, k.f10, k.f11, k.f12, k.f13, fun _ => upd_eq⟩
    exact trivial
  · intro L y wE hL h
    have xE := h.e
    have ey := h.f14 (hL 14 (by decide))
    simp only [putAll, List.foldl, Act.put, List.setIfInBounds_toArray, List.set_cons_zero, List.set_cons_succ]
    simp only [ey]
    clear hL h ey HX1 HX2 HX3 HX4 HX5 HX6 HX7 HX8 HX9 bt0 bt1 bt2 bt3 HXm
    go_wp2_with fail
    refine (parse_text O d _ G_hd.out hOl).mono ?_
    rintro e w19 ⟨⟨v19_0, rfl, ⟨s19_0, a19_0, n19_0, c19_0, rfl, hi19_0⟩⟩, x19⟩
    have HV19_0 : Hid (IntV w19 (.agg #[.bool s19_0, .slice a19_0 n19_0 c19_0]) (d)) := Lib.hid ⟨_, _, _, _, rfl, hi19_0⟩
    clear hi19_0
    obtain ⟨D20, wb20, hD20, hw20, hb20_0, xb20⟩ := one w19 24 [.bool s19_0, .slice a19_0 n19_0 c19_0]
    have KB16 : Hid (∀ W, Ext wb20 W → W.cell? ⟨D20, 0, none⟩ = some (.bool s19_0) ∧ W.cell? ⟨D20, 1, none⟩ = some (.slice a19_0 n19_0 c19_0)) := Lib.hid fun W h => ⟨h.cell (hb20_0.cell (i := 0) rfl), h.cell (hb20_0.cell (i := 1) rfl)⟩
    clear hb20_0
    obtain ⟨cc16_0_22, cc16_1_22⟩ := KB16.out wb20 (Ext.refl _)
    have hq20 := hw20.symm
    have hp20 := hD20.symm
    clear hw20 hD20
    go_wp2_with fail
    clear hq20 hp20
    clear cc16_0_22 cc16_1_22
    refine (rvalid_any _ (d) _ (HV19_0.out.ext xb20)).mono ?_
    rintro e w21 ⟨rfl, x21⟩
    obtain ⟨cc16_0_24, cc16_1_24⟩ := KB16.out w21 x21
    go_wp2_with fail
    clear cc16_0_24 cc16_1_24
    refine (text_is _ d O _ (HV19_0.out.ext (xb20.trans x21)) G_fd.out G_hd.out).mono ?_
    rintro e w23 ⟨rfl, x23⟩
    go_wp2_with fail
    go_ret
    exact ⟨rfl, (((((((((((((((((x0.trans xs).trans x2).trans xb4).trans x6).trans xb8).trans x9).trans x11).trans xb12).trans hz13).trans x14).trans x15).trans x16).trans xE).trans x19).trans xb20).trans x21).trans x23)⟩
set_option maxRecDepth 100000 in
set_option maxHeartbeats 8000000 in
theorem texts_000 (nx : Bool) (ax : Option Addr) (kx cx : Nat) (lx : List Int) (a : Int) (ea : a = rawZ nx lx 12) (ny : Bool) (ay : Option Addr) (ky cy : Nat) (ly : List Int) (b : Int) (eb : b = rawZ ny ly 12) (w : World) (hx : Words w ax kx cx lx) (hy : Words w ay ky cy ly) (P : List UInt8) (T TB O : List UInt8) (d : Int) (O1 : List UInt8) (at0 cut M : Nat) (ht : textL a = T) (hTl : (T.length : Int) ≤ 200) (hp : decide ((6 : Int) < (P.length : Int)) = false) (hab : a ≠ b) (htb : textL b = TB) (hne : (TB == T) = false) (by0 oy0 : Nat) (hay : ay = some ⟨by0, oy0, none⟩) (hky : decide ((0 : Int) < (ky : Int)) = true) (hkn : 0 < ky) (hkb : decide (0 < ky) = true) (hki : (0 : Int) < (ky : Int)) (y0 : Int) (hy0 : ly[0]? = some y0) (hcap : (cy : Int) ≤ 9223372036854775807) (hkc : (ky : Int) ≤ (cy : Int)) (hm1 : y0.tmod ((T.length : Int) + 1) = (at0 : Int)) (hm2 : y0.tmod 5 = (cut : Int)) (hat : at0 ≤ T.length) (hcut : cut ≤ 4) (hM : M = min (at0 + cut) T.length) (hO1 : O1 = T.take at0 ++ P) (hO : O = O1 ++ T.drop M) (hOl : O.length ≤ 4000) (hd : textL (parseZ O) ≠ O) (hOT : (O == T) = false)  :
    Calls Tryz.prog 8 #[.agg #[.bool nx, .slice ax kx cx], .agg #[.bool ny, .slice ay ky cy], .string ⟨P.toArray⟩] w fun e w' => e = .returned (.bool true) ∧ Ext w w' := by
  have G_hx1 : Hid ((⟨T.toArray⟩ : ByteArray).extract 0 at0 = ⟨(T.take at0).toArray⟩) := Lib.hid (ba_take T at0)
  have G_hx2 : Hid ((⟨T.toArray⟩ : ByteArray).extract M T.length = ⟨(T.drop M).toArray⟩) := Lib.hid (ba_drop T M)
  have G_hx3 : Hid ((⟨(T.take at0).toArray⟩ : ByteArray) ++ ⟨P.toArray⟩ = ⟨O1.toArray⟩) := Lib.hid (by rw [ba_append, hO1])
  have G_hx4 : Hid ((⟨O1.toArray⟩ : ByteArray) ++ ⟨(T.drop M).toArray⟩ = ⟨O.toArray⟩) := Lib.hid (by rw [ba_append, hO])
  have G_hx5 : Hid ((9223372036854775807 < at0 + P.length) = False) := Lib.hid (eq_false (by simp at hp; omega))
  have G_hx6 : Hid ((9223372036854775807 < O1.length + (T.length - M)) = False) := Lib.hid (eq_false (by rw [hO1, List.length_append, List.length_take]; simp at hp; omega))
  have G_hx7 : Hid (IntKind.i64.wrap ((at0 : Int) + (cut : Int)) = (at0 : Int) + (cut : Int)) := Lib.hid (IntWalk.i64_in _ (by omega))
  have G_hx8 : Hid (min (at0 + cut) T.length = M) := Lib.hid hM.symm
  have G_hx9 : Hid (min ((at0 : Int) + (cut : Int)) (T.length : Int) = (M : Int)) := Lib.hid (by omega)
  have G_hxm : Hid (M ≤ T.length) := Lib.hid (by omega)
  have G_ht := Lib.hid ht
  have G_hab := Lib.hid hab
  have G_htb := Lib.hid htb
  have G_hy0 := Lib.hid hy0
  have G_hd := Lib.hid hd
  clear hM hO1 hO ht hab htb hy0 hd
  subst hay
  have E_a := Lib.hid ea
  have HWx := Lib.hid hx
  clear ea hx
  have E_b := Lib.hid eb
  have HWy := Lib.hid hy
  clear eb hy
  obtain ⟨B0, w0, hB0, hw0, hr0, hr1, x0⟩ := two w 25 25 [.bool nx, .slice ax kx cx] [.bool ny, .slice (some ⟨by0, oy0, none⟩) ky cy]
  have HF1 : Hid (Fits (a) 12) := Lib.hid (by rw [E_a.out]; exact fits_raw (HWx.out.wf) (by omega))
  have HF5 : Hid (Fits (b) 12) := Lib.hid (by rw [E_b.out]; exact fits_raw (HWy.out.wf) (by omega))
  have KB3 : Hid (∀ W, Ext w0 W → W.cell? ⟨B0, 0, none⟩ = some (.bool nx) ∧ W.cell? ⟨B0, 1, none⟩ = some (.slice ax kx cx)) := Lib.hid fun W h => ⟨h.cell (hr0.cell (i := 0) rfl), h.cell (hr0.cell (i := 1) rfl)⟩
  have KB4 : Hid (∀ W, Ext w0 W → W.cell? ⟨B0 + 1, 0, none⟩ = some (.bool ny) ∧ W.cell? ⟨B0 + 1, 1, none⟩ = some (.slice (some ⟨by0, oy0, none⟩) ky cy)) := Lib.hid fun W h => ⟨h.cell (hr1.cell (i := 0) rfl), h.cell (hr1.cell (i := 1) rfl)⟩
  clear hr0 hr1
  go_enter Tryz.func8, Tryz.ntmps8
  go_wp2_with fail
  rw [← hw0, ← hB0]
  clear hw0 hB0
  refine (sanity_any _).mono ?_
  rintro e ws ⟨rfl, xs⟩
  obtain ⟨cc3_0_3, cc3_1_3⟩ := KB3.out ws xs
  go_wp2_with fail
  clear cc3_0_3 cc3_1_3
  refine (Made_any nx ax kx cx lx 12 a _ (HWx.out.ext (x0.trans xs)) (by omega) E_a.out).mono ?_
  rintro e w2 ⟨⟨v2_0, rfl, ⟨s2_0, a2_0, n2_0, c2_0, rfl, hi2_0⟩⟩, x2⟩
  have HV2_0 : Hid (IntV w2 (.agg #[.bool s2_0, .slice a2_0 n2_0 c2_0]) (a)) := Lib.hid ⟨_, _, _, _, rfl, hi2_0⟩
  clear hi2_0
  obtain ⟨D4, wb4, hD4, hw4, hb4_0, xb4⟩ := one w2 24 [.bool s2_0, .slice a2_0 n2_0 c2_0]
  have KB8 : Hid (∀ W, Ext wb4 W → W.cell? ⟨D4, 0, none⟩ = some (.bool s2_0) ∧ W.cell? ⟨D4, 1, none⟩ = some (.slice a2_0 n2_0 c2_0)) := Lib.hid fun W h => ⟨h.cell (hb4_0.cell (i := 0) rfl), h.cell (hb4_0.cell (i := 1) rfl)⟩
  clear hb4_0
  obtain ⟨cc4_0_7, cc4_1_7⟩ := KB4.out wb4 ((xs.trans x2).trans xb4)
  have hq4 := hw4.symm
  have hp4 := hD4.symm
  clear hw4 hD4
  go_wp2_with fail
  clear hq4 hp4
  clear cc4_0_7 cc4_1_7
  refine (Made_any ny (some ⟨by0, oy0, none⟩) ky cy ly 12 b _ (HWy.out.ext (((x0.trans xs).trans x2).trans xb4)) (by omega) E_b.out).mono ?_
  rintro e w6 ⟨⟨v6_0, rfl, ⟨s6_0, a6_0, n6_0, c6_0, rfl, hi6_0⟩⟩, x6⟩
  have HV6_0 : Hid (IntV w6 (.agg #[.bool s6_0, .slice a6_0 n6_0 c6_0]) (b)) := Lib.hid ⟨_, _, _, _, rfl, hi6_0⟩
  clear hi6_0
  obtain ⟨D8, wb8, hD8, hw8, hb8_0, xb8⟩ := one w6 24 [.bool s6_0, .slice a6_0 n6_0 c6_0]
  have KB9 : Hid (∀ W, Ext wb8 W → W.cell? ⟨D8, 0, none⟩ = some (.bool s6_0) ∧ W.cell? ⟨D8, 1, none⟩ = some (.slice a6_0 n6_0 c6_0)) := Lib.hid fun W h => ⟨h.cell (hb8_0.cell (i := 0) rfl), h.cell (hb8_0.cell (i := 1) rfl)⟩
  clear hb8_0
  obtain ⟨cc8_0_10, cc8_1_10⟩ := KB8.out wb8 (x6.trans xb8)
  have hq8 := hw8.symm
  have hp8 := hD8.symm
  clear hw8 hD8
  go_wp2_with fail
  clear hq8 hp8
  clear cc8_0_10 cc8_1_10
  refine (text_is _ a T _ (HV2_0.out.ext ((xb4.trans x6).trans xb8)) (HF1.out.mono (by omega)) G_ht.out).mono ?_
  rintro e w9 ⟨rfl, x9⟩
  go_wp2_with fail
  refine (parse_text T a _ G_ht.out (by omega)).mono ?_
  rintro e w11 ⟨⟨v11_0, rfl, ⟨s11_0, a11_0, n11_0, c11_0, rfl, hi11_0⟩⟩, x11⟩
  have HV11_0 : Hid (IntV w11 (.agg #[.bool s11_0, .slice a11_0 n11_0 c11_0]) (a)) := Lib.hid ⟨_, _, _, _, rfl, hi11_0⟩
  clear hi11_0
  obtain ⟨D12, wb12, hD12, hw12, hb12_0, xb12⟩ := one w11 24 [.bool s11_0, .slice a11_0 n11_0 c11_0]
  have KB11 : Hid (∀ W, Ext wb12 W → W.cell? ⟨D12, 0, none⟩ = some (.bool s11_0) ∧ W.cell? ⟨D12, 1, none⟩ = some (.slice a11_0 n11_0 c11_0)) := Lib.hid fun W h => ⟨h.cell (hb12_0.cell (i := 0) rfl), h.cell (hb12_0.cell (i := 1) rfl)⟩
  clear hb12_0
  have KX13 : Hid (∀ w', Ext wb12 w' → w'.cell? ⟨D12, 0, none⟩ = some (.bool s11_0) ∧ w'.cell? ⟨D12, 1, none⟩ = some (.slice a11_0 n11_0 c11_0) ∧ w'.cell? ⟨D4, 0, none⟩ = some (.bool s2_0) ∧ w'.cell? ⟨D4, 1, none⟩ = some (.slice a2_0 n2_0 c2_0) ∧ w'.cell? ⟨D8, 0, none⟩ = some (.bool s6_0) ∧ w'.cell? ⟨D8, 1, none⟩ = some (.slice a6_0 n6_0 c6_0)) := Lib.hid fun w' h => by
    have q11 := KB11.out w' ((Ext.refl _).trans h)
    have q8 := KB8.out w' (((((x6.trans xb8).trans x9).trans x11).trans xb12).trans h)
    have q9 := KB9.out w' (((x9.trans x11).trans xb12).trans h)
    exact ⟨q11.1, q11.2, q8.1, q8.2, q9.1, q9.2⟩
  have hq12 := hw12.symm
  have hp12 := hD12.symm
  clear hw12 hD12
  go_wp2_with fail
  clear hq12 hp12
  have hz13 := Below.drewExt wb12
  go_region_held3
    (fun w' => w'.cell? ⟨D12, 0, none⟩ = some (.bool s11_0) ∧ w'.cell? ⟨D12, 1, none⟩ = some (.slice a11_0 n11_0 c11_0) ∧ w'.cell? ⟨D4, 0, none⟩ = some (.bool s2_0) ∧ w'.cell? ⟨D4, 1, none⟩ = some (.slice a2_0 n2_0 c2_0) ∧ w'.cell? ⟨D8, 0, none⟩ = some (.bool s6_0) ∧ w'.cell? ⟨D8, 1, none⟩ = some (.slice a6_0 n6_0 c6_0))
    (with_reducible exact KX13.out _ (by assumption))
    (first
    | (go_at_call 21; (with_reducible refine (same_eq _ _ (a) (a) _ (HV11_0.out.ext (xb12.trans hz13)) (HV2_0.out.ext ((((((xb4.trans x6).trans xb8).trans x9).trans x11).trans xb12).trans hz13)) (Eq.refl _)).mono ?_); rintro e w14 ⟨rfl, x14⟩; have hz14 := hz13.trans x14)
    | (go_at_call 28; (with_reducible refine (text_is _ b TB _ (HV6_0.out.ext (((((xb8.trans x9).trans x11).trans xb12).trans hz13).trans x14)) (HF5.out.mono (by omega)) G_htb.out).mono ?_); rintro e w15 ⟨rfl, x15⟩; have hz15 := hz14.trans x15)
    | (go_at_call 21; (with_reducible refine (same_ne _ _ a b _ (HV2_0.out.ext ((((((((xb4.trans x6).trans xb8).trans x9).trans x11).trans xb12).trans hz13).trans x14).trans x15)) (HV6_0.out.ext ((((((xb8.trans x9).trans x11).trans xb12).trans hz13).trans x14).trans x15)) G_hab.out).mono ?_); rintro e w16 ⟨rfl, x16⟩; have hz16 := hz15.trans x16)
    )
  clear KX13
  obtain ⟨cc4_0_17, cc4_1_17⟩ := KB4.out w16 (((((((((((xs.trans x2).trans xb4).trans x6).trans xb8).trans x9).trans x11).trans xb12).trans hz13).trans x14).trans x15).trans x16)
  have hcy0 := (HWy.out.ext ((((((((((((x0.trans xs).trans x2).trans xb4).trans x6).trans xb8).trans x9).trans x11).trans xb12).trans hz13).trans x14).trans x15).trans x16)).cells 0 y0 G_hy0.out
  obtain ⟨b1, o1, e1, hcy⟩ := hcy0
  cases e1
  rw [Nat.add_zero] at hcy
  have bt0 : (at0 : Int) ≤ (T.length : Int) := by omega
  have bt1 : (0 : Int) ≤ (at0 : Int) := by omega
  have bt2 : (cut : Int) ≤ 4 := by omega
  have bt3 : (0 : Int) ≤ (cut : Int) := by omega
  have HXm := G_hxm.out
  have HX1 := G_hx1.out
  have HX2 := G_hx2.out
  have HX3 := G_hx3.out
  have HX4 := G_hx4.out
  have HX5 := G_hx5.out
  have HX6 := G_hx6.out
  have HX7 := G_hx7.out
  have HX8 := G_hx8.out
  have HX9 := G_hx9.out
  go_wp2_with fail
  clear hcy hm1 hm2
  clear cc4_0_17 cc4_1_17
  refine wp_region_facts [74, 75, 76, 77, 78, 79, 80, 81, 82, 83, 84, 85, 86, 87, 15] (OddF (w16) T P O1 O at0 cut M) (by kernel_rfl) (by kernel_rfl) ?_ ?_ ?_
  · intro y
    exact ⟨(Ext.refl _).drew, by simp, by simp, by simp, by simp, by simp, by simp, by simp, by simp, by simp, by simp, by simp, by simp, by simp, by simp, by simp⟩
  · intro Q
    refine AllF.cons rfl ?_ ?_
    · skip
      with_reducible refine StepF.dst (d := 74) (by kernel_rfl) (by kernel_rfl) ?_
      intro L y w hi hp h K hK
      simp only [putAll, List.foldl, Act.put, List.setIfInBounds_toArray, List.set_cons_zero, List.set_cons_succ] at hK ⊢
      have HK := Lib.hid hK
      clear hK
      go_simp
      refine HK.out _ _ ?_
      have k := h.out
      exact ⟨k.e, fun _ => upd_eq, k.f1, k.f2, k.f3, k.f4, k.f5, k.f6, k.f7, k.f8, k.f9, k.f10, k.f11, k.f12, k.f13, k.f14⟩
    refine AllF.cons rfl ?_ ?_
    · skip
      with_reducible refine StepF.dst (d := 75) (by kernel_rfl) (by kernel_rfl) ?_
      intro L y w hi hp h K hK
      simp only [putAll, List.foldl, Act.put, List.setIfInBounds_toArray, List.set_cons_zero, List.set_cons_succ] at hK ⊢
      have HK := Lib.hid hK
      clear hK
      go_simp
      refine HK.out _ _ ?_
      have k := h.out
      exact ⟨k.e, k.f0, fun _ => upd_eq, k.f2, k.f3, k.f4, k.f5, k.f6, k.f7, k.f8, k.f9, k.f10, k.f11, k.f12, k.f13, k.f14⟩
    refine AllF.cons rfl ?_ ?_
    · skip
      with_reducible refine StepF.dst (d := 76) (by kernel_rfl) (by kernel_rfl) ?_
      intro L y w hi hp h K hK
      simp only [putAll, List.foldl, Act.put, List.setIfInBounds_toArray, List.set_cons_zero, List.set_cons_succ] at hK ⊢
      have HK := Lib.hid hK
      clear hK
      have g0 := h.out.f0 (hp.out 0 (by kernel_rfl))
      have g1 := h.out.f1 (hp.out 1 (by kernel_rfl))
      simp only [g0, g1] at HK
      go_simp
      refine HK.out _ _ ?_
      have k := h.out
      exact ⟨k.e, k.f0, k.f1, fun _ => upd_eq, k.f3, k.f4, k.f5, k.f6, k.f7, k.f8, k.f9, k.f10, k.f11, k.f12, k.f13, k.f14⟩
    refine AllF.cons rfl ?_ ?_
    · skip
      with_reducible refine StepF.dst (d := 77) (by kernel_rfl) (by kernel_rfl) ?_
      intro L y w hi hp h K hK
      simp only [putAll, List.foldl, Act.put, List.setIfInBounds_toArray, List.set_cons_zero, List.set_cons_succ] at hK ⊢
      have HK := Lib.hid hK
      clear hK
      go_simp
      refine HK.out _ _ ?_
      have k := h.out
      exact ⟨k.e, k.f0, k.f1, k.f2, fun _ => upd_eq, k.f4, k.f5, k.f6, k.f7, k.f8, k.f9, k.f10, k.f11, k.f12, k.f13, k.f14⟩
    refine AllF.cons rfl ?_ ?_
    · skip
      with_reducible refine StepF.dst (d := 78) (by kernel_rfl) (by kernel_rfl) ?_
      intro L y w hi hp h K hK
      simp only [putAll, List.foldl, Act.put, List.setIfInBounds_toArray, List.set_cons_zero, List.set_cons_succ] at hK ⊢
      have HK := Lib.hid hK
      clear hK
      have g2 := h.out.f2 (hp.out 2 (by kernel_rfl))
      have g3 := h.out.f3 (hp.out 3 (by kernel_rfl))
      simp only [g2, g3] at HK
      go_simp
      refine HK.out _ _ ?_
      have k := h.out
      exact ⟨k.e, k.f0, k.f1, k.f2, k.f3, fun _ => upd_eq, k.f5, k.f6, k.f7, k.f8, k.f9, k.f10, k.f11, k.f12, k.f13, k.f14⟩
    refine AllF.cons rfl ?_ ?_
    · skip
      with_reducible refine StepF.dst (d := 79) (by kernel_rfl) (by kernel_rfl) ?_
      intro L y w hi hp h K hK
      simp only [putAll, List.foldl, Act.put, List.setIfInBounds_toArray, List.set_cons_zero, List.set_cons_succ] at hK ⊢
      have HK := Lib.hid hK
      clear hK
      go_simp
      refine HK.out _ _ ?_
      have k := h.out
      exact ⟨k.e, k.f0, k.f1, k.f2, k.f3, k.f4, fun _ => upd_eq, k.f6, k.f7, k.f8, k.f9, k.f10, k.f11, k.f12, k.f13, k.f14⟩
    refine AllF.cons rfl ?_ ?_
    · skip
      with_reducible refine StepF.dst (d := 80) (by kernel_rfl) (by kernel_rfl) ?_
      intro L y w hi hp h K hK
      simp only [putAll, List.foldl, Act.put, List.setIfInBounds_toArray, List.set_cons_zero, List.set_cons_succ] at hK ⊢
      have HK := Lib.hid hK
      clear hK
      go_simp
      refine HK.out _ _ ?_
      have k := h.out
      exact ⟨k.e, k.f0, k.f1, k.f2, k.f3, k.f4, k.f5, fun _ => upd_eq, k.f7, k.f8, k.f9, k.f10, k.f11, k.f12, k.f13, k.f14⟩
    refine AllF.cons rfl ?_ ?_
    · skip
      with_reducible refine StepF.dst (d := 81) (by kernel_rfl) (by kernel_rfl) ?_
      intro L y w hi hp h K hK
      simp only [putAll, List.foldl, Act.put, List.setIfInBounds_toArray, List.set_cons_zero, List.set_cons_succ] at hK ⊢
      have HK := Lib.hid hK
      clear hK
      go_simp
      refine HK.out _ _ ?_
      have k := h.out
      exact ⟨k.e, k.f0, k.f1, k.f2, k.f3, k.f4, k.f5, k.f6, fun _ => upd_eq, k.f8, k.f9, k.f10, k.f11, k.f12, k.f13, k.f14⟩
    refine AllF.cons rfl ?_ ?_
    · skip
      with_reducible refine StepF.dst (d := 82) (by kernel_rfl) (by kernel_rfl) ?_
      intro L y w hi hp h K hK
      simp only [putAll, List.foldl, Act.put, List.setIfInBounds_toArray, List.set_cons_zero, List.set_cons_succ] at hK ⊢
      have HK := Lib.hid hK
      clear hK
      have g6 := h.out.f6 (hp.out 6 (by kernel_rfl))
      have g7 := h.out.f7 (hp.out 7 (by kernel_rfl))
      simp only [g6, g7] at HK
      go_simp
      refine HK.out _ _ ?_
      have k := h.out
      exact ⟨k.e, k.f0, k.f1, k.f2, k.f3, k.f4, k.f5, k.f6, k.f7, fun _ => upd_eq, k.f9, k.f10, k.f11, k.f12, k.f13, k.f14⟩
    refine AllF.cons rfl ?_ ?_
    · skip
      with_reducible refine StepF.dst (d := 83) (by kernel_rfl) (by kernel_rfl) ?_
      intro L y w hi hp h K hK
      simp only [putAll, List.foldl, Act.put, List.setIfInBounds_toArray, List.set_cons_zero, List.set_cons_succ] at hK ⊢
      have HK := Lib.hid hK
      clear hK
      go_simp
      refine HK.out _ _ ?_
      have k := h.out
      exact ⟨k.e, k.f0, k.f1, k.f2, k.f3, k.f4, k.f5, k.f6, k.f7, k.f8, fun _ => upd_eq, k.f10, k.f11, k.f12, k.f13, k.f14⟩
    refine AllF.cons rfl ?_ ?_
    · skip
      with_reducible refine StepF.dst (d := 84) (by kernel_rfl) (by kernel_rfl) ?_
      intro L y w hi hp h K hK
      simp only [putAll, List.foldl, Act.put, List.setIfInBounds_toArray, List.set_cons_zero, List.set_cons_succ] at hK ⊢
      have HK := Lib.hid hK
      clear hK
      have g9 := h.out.f9 (hp.out 9 (by kernel_rfl))
      simp only [g9] at HK
      go_simp
      refine HK.out _ _ ?_
      have k := h.out
      exact ⟨k.e, k.f0, k.f1, k.f2, k.f3, k.f4, k.f5, k.f6, k.f7, k.f8, k.f9, fun _ => upd_eq, k.f11, k.f12, k.f13, k.f14⟩
    refine AllF.cons rfl ?_ ?_
    · skip
      with_reducible refine StepF.dst (d := 85) (by kernel_rfl) (by kernel_rfl) ?_
      intro L y w hi hp h K hK
      simp only [putAll, List.foldl, Act.put, List.setIfInBounds_toArray, List.set_cons_zero, List.set_cons_succ] at hK ⊢
      have HK := Lib.hid hK
      clear hK
      have g8 := h.out.f8 (hp.out 8 (by kernel_rfl))
      have g10 := h.out.f10 (hp.out 10 (by kernel_rfl))
      simp only [g8, g10] at HK
      go_simp
      refine HK.out _ _ ?_
      have k := h.out
      exact ⟨k.e, k.f0, k.f1, k.f2, k.f3, k.f4, k.f5, k.f6, k.f7, k.f8, k.f9, k.f10, fun _ => upd_eq, k.f12, k.f13, k.f14⟩
    refine AllF.cons rfl ?_ ?_
    · skip
      with_reducible refine StepF.dst (d := 86) (by kernel_rfl) (by kernel_rfl) ?_
      intro L y w hi hp h K hK
      simp only [putAll, List.foldl, Act.put, List.setIfInBounds_toArray, List.set_cons_zero, List.set_cons_succ] at hK ⊢
      have HK := Lib.hid hK
      clear hK
      have g5 := h.out.f5 (hp.out 5 (by kernel_rfl))
      have g11 := h.out.f11 (hp.out 11 (by kernel_rfl))
      simp only [g5, g11] at HK
      go_simp
      refine HK.out _ _ ?_
      have k := h.out
      exact ⟨k.e, k.f0, k.f1, k.f2, k.f3, k.f4, k.f5, k.f6, k.f7, k.f8, k.f9, k.f10, k.f11, fun _ => upd_eq, k.f13, k.f14⟩
    refine AllF.cons rfl ?_ ?_
    · skip
      with_reducible refine StepF.dst (d := 87) (by kernel_rfl) (by kernel_rfl) ?_
      intro L y w hi hp h K hK
      simp only [putAll, List.foldl, Act.put, List.setIfInBounds_toArray, List.set_cons_zero, List.set_cons_succ] at hK ⊢
      have HK := Lib.hid hK
      clear hK
      have g4 := h.out.f4 (hp.out 4 (by kernel_rfl))
      have g12 := h.out.f12 (hp.out 12 (by kernel_rfl))
      simp only [g4, g12] at HK
      go_simp
      refine HK.out _ _ ?_
      have k := h.out
      exact ⟨k.e, k.f0, k.f1, k.f2, k.f3, k.f4, k.f5, k.f6, k.f7, k.f8, k.f9, k.f10, k.f11, k.f12, fun _ => upd_eq, k.f14⟩
    refine AllF.cons rfl ?_ ?_
    · skip
      with_reducible refine StepF.dst (d := 15) (by kernel_rfl) (by kernel_rfl) ?_
      intro L y w hi hp h K hK
      simp only [putAll, List.foldl, Act.put, List.setIfInBounds_toArray, List.set_cons_zero, List.set_cons_succ] at hK ⊢
      have HK := Lib.hid hK
      clear hK
      have g13 := h.out.f13 (hp.out 13 (by kernel_rfl))
      simp only [g13] at HK
      go_simp
      refine HK.out _ _ ?_
      have k := h.out
      exact ⟨k.e, k.f0, k.f1, k.f2, k.f3, k.f4, k.f5, k.f6, k.f7, k.f8, k.f9, k.f10, k.f11, k.f12, k.f13, fun _ => upd_eq⟩
    exact trivial
  · intro L y wE hL h
    have xE := h.e
    have ey := h.f14 (hL 14 (by decide))
    simp only [putAll, List.foldl, Act.put, List.setIfInBounds_toArray, List.set_cons_zero, List.set_cons_succ]
    simp only [ey]
    clear hL h ey HX1 HX2 HX3 HX4 HX5 HX6 HX7 HX8 HX9 bt0 bt1 bt2 bt3 HXm
    go_wp2_with fail
    refine (parse_bad O _ G_hd.out hOl).mono ?_
    rintro e w18 ⟨rfl, x18⟩
    obtain ⟨D19, wb19, hD19, hw19, hb19_0, xb19⟩ := one w18 24 [.bool false, .slice none 0 0]
    have KB16 : Hid (∀ W, Ext wb19 W → W.cell? ⟨D19, 0, none⟩ = some (.bool false) ∧ W.cell? ⟨D19, 1, none⟩ = some (.slice none 0 0)) := Lib.hid fun W h => ⟨h.cell (hb19_0.cell (i := 0) rfl), h.cell (hb19_0.cell (i := 1) rfl)⟩
    have ze19_00 := setCell_same hb19_0 (i := 0) rfl
    have zf19_00 := hb19_0.free 0
    have ze19_01 := setCell_same hb19_0 (i := 1) rfl
    have zf19_01 := hb19_0.free 1
    clear hb19_0
    obtain ⟨cc16_0_20, cc16_1_20⟩ := KB16.out wb19 (Ext.refl _)
    have hq19 := hw19.symm
    have hp19 := hD19.symm
    clear hw19 hD19
    go_wp2_with fail
    clear hq19 hp19
    clear ze19_00 zf19_00 ze19_01 zf19_01 cc16_0_20 cc16_1_20
    go_wp2_with fail
    go_ret
    exact ⟨rfl, (((((((((((((((x0.trans xs).trans x2).trans xb4).trans x6).trans xb8).trans x9).trans x11).trans xb12).trans hz13).trans x14).trans x15).trans x16).trans xE).trans x18).trans xb19)⟩
theorem lawTexts (nx : Bool) (ax : Option Addr) (kx cx : Nat) (lx : List Int) (a : Int) (ea : a = rawZ nx lx 12) (ny : Bool) (ay : Option Addr) (ky cy : Nat) (ly : List Int) (b : Int) (eb : b = rawZ ny ly 12) (w : World) (hx : Words w ax kx cx lx) (hy : Words w ay ky cy ly) (P : List UInt8)  :
    Calls Tryz.prog 8 #[.agg #[.bool nx, .slice ax kx cx], .agg #[.bool ny, .slice ay ky cy], .string ⟨P.toArray⟩] w fun e w' => e = .returned (.bool true) ∧ Ext w w' := by
  by_cases hp0 : 6 < P.length
  · exact texts_long nx ax kx cx lx a ea ny ay ky cy ly b eb w hx hy P (by omega)
  have hp : decide ((6 : Int) < (P.length : Int)) = false := by simp; omega
  have hT : (textL a).length ≤ 120 := text_len_12 (by rw [ea]; exact fits_raw hx.wf (Nat.le_refl _))
  generalize ht : textL a = T at hT
  have key : ∀ O : List UInt8, O.length ≤ 4000 → (∃ d, textL d = O ∧ Fits d 1000) ∨ (textL (parseZ O) ≠ O ∧ (O == T) = false) := by
    intro O hO
    by_cases h : textL (parseZ O) = O
    · exact Or.inl ⟨_, h, text_fits (by rw [h]; exact hO)⟩
    · refine Or.inr ⟨h, beq_eq_false_iff_ne.2 ?_⟩
      rintro rfl
      exact h (by rw [← ht, (text_back a).2])
  by_cases hky : ky = 0
  · subst hky
    rcases key (P ++ T) (by rw [List.length_append]; omega) with ⟨d, hd, fd⟩ | ⟨hd, hOT⟩
    · by_cases hab : a = b
      · exact texts_111 nx ax kx cx lx a ea ny ay 0 cy ly b eb w hx hy P T T (P ++ T) d ht (by omega) hp hab rfl rfl (by rw [List.length_append]; omega) hd fd
      · exact texts_011 nx ax kx cx lx a ea ny ay 0 cy ly b eb w hx hy P T (textL b) (P ++ T) d ht (by omega) hp hab rfl (text_beq ht hab) rfl rfl (by rw [List.length_append]; omega) hd fd
    · by_cases hab : a = b
      · exact texts_110 nx ax kx cx lx a ea ny ay 0 cy ly b eb w hx hy P T T (P ++ T) a ht (by omega) hp hab rfl rfl (by rw [List.length_append]; omega) hd hOT
      · exact texts_010 nx ax kx cx lx a ea ny ay 0 cy ly b eb w hx hy P T (textL b) (P ++ T) a ht (by omega) hp hab rfl (text_beq ht hab) rfl rfl (by rw [List.length_append]; omega) hd hOT
  · obtain ⟨y0, hy0⟩ : ∃ y0, ly[0]? = some y0 := ⟨ly[0]'(by rw [hy.hlen]; omega), List.getElem?_eq_getElem _⟩
    obtain ⟨by0, oy0, hay, -⟩ := hy.cells 0 y0 hy0
    have hwf : 0 ≤ y0 ∧ y0 < 4294967296 := hy.wf y0 (List.mem_of_getElem? hy0)
    have hm1 : y0.tmod ((T.length : Int) + 1) = ((y0.toNat % (T.length + 1) : Nat) : Int) := by rw [Int.tmod_eq_emod_of_nonneg hwf.1, Int.natCast_emod, Int.toNat_of_nonneg hwf.1]; rfl
    have hm2 : y0.tmod 5 = ((y0.toNat % 5 : Nat) : Int) := by rw [Int.tmod_eq_emod_of_nonneg hwf.1]; omega
    have b1 : y0.toNat % (T.length + 1) ≤ T.length := by have := Nat.mod_lt y0.toNat (show 0 < T.length + 1 by omega); omega
    have b2 : y0.toNat % 5 ≤ 4 := by omega
    generalize y0.toNat % (T.length + 1) = at0 at hm1 b1
    generalize y0.toNat % 5 = cut at hm2 b2
    have hcap := hy.max
    have hkc := hy.le
    have hl : (T.take at0 ++ P ++ T.drop (min (at0 + cut) T.length)).length ≤ 4000 := by simp only [List.length_append, List.length_take, List.length_drop]; omega
    rcases key _ hl with ⟨d, hd, fd⟩ | ⟨hd, hOT⟩
    · by_cases hab : a = b
      · exact texts_101 nx ax kx cx lx a ea ny ay ky cy ly b eb w hx hy P T T _ d _ at0 cut _ ht (by omega) hp hab by0 oy0 hay (by simp; omega) (by omega) (by simp; omega) (by omega) y0 hy0 (by omega) (by omega) hm1 hm2 b1 b2 rfl rfl rfl hl hd fd
      · exact texts_001 nx ax kx cx lx a ea ny ay ky cy ly b eb w hx hy P T (textL b) _ d _ at0 cut _ ht (by omega) hp hab rfl (text_beq ht hab) by0 oy0 hay (by simp; omega) (by omega) (by simp; omega) (by omega) y0 hy0 (by omega) (by omega) hm1 hm2 b1 b2 rfl rfl rfl hl hd fd
    · by_cases hab : a = b
      · exact texts_100 nx ax kx cx lx a ea ny ay ky cy ly b eb w hx hy P T T _ a _ at0 cut _ ht (by omega) hp hab by0 oy0 hay (by simp; omega) (by omega) (by simp; omega) (by omega) y0 hy0 (by omega) (by omega) hm1 hm2 b1 b2 rfl rfl rfl hl hd hOT
      · exact texts_000 nx ax kx cx lx a ea ny ay ky cy ly b eb w hx hy P T (textL b) _ a _ at0 cut _ ht (by omega) hp hab rfl (text_beq ht hab) by0 oy0 hay (by simp; omega) (by omega) (by simp; omega) (by omega) y0 hy0 (by omega) (by omega) hm1 hm2 b1 b2 rfl rfl rfl hl hd hOT
end Go.Proofs.YtddcgojpgdhefaaGreatDoor
