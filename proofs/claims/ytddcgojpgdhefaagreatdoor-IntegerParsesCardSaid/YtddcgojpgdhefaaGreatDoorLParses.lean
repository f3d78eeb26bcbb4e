/- The law IntegerParses, walked. -/
import Derived.Test.YtddcgojpgdhefaaGreatDoorTextsLib
namespace Go.El
open Go.RowKit
/-- What both parsers give: the number and the error. -/
def pz (X : List UInt8) : Int := if textL (parseZ X) = X then parseZ X else 0
def pe (X : List UInt8) : Int := if textL (parseZ X) = X then 0 else 3
end Go.El
namespace Go.Proofs.YtddcgojpgdhefaaGreatDoor
open Go.RowKit Go.El
set_option linter.unusedVariables false
theorem intV_zero (w : World) : IntV w (.agg #[.bool false, .slice none 0 0]) 0 := ⟨_, _, _, _, rfl, intW_zero w⟩
theorem parse_pz (X : List UInt8) (w : World) (h : X.length ≤ 4000) :
    Calls Tryz.prog 29 #[.string ⟨X.toArray⟩] w fun e w' => (∃ v, e = .returned (.tuple #[v, .int .i64 (pe X)]) ∧ IntV w' v (pz X)) ∧ Ext w w' := by
  refine (parse_any X w).mono ?_
  rintro e w' ⟨⟨h1, _⟩ | ⟨_, h1, v, rfl, hv⟩ | ⟨_, h1, rfl⟩, he⟩
  · omega
  · exact ⟨⟨v, by rw [pe, if_pos h1], by rw [pz, if_pos h1]; exact hv⟩, he⟩
  · exact ⟨⟨_, by rw [pe, if_neg h1], by rw [pz, if_neg h1]; exact intV_zero w'⟩, he⟩
theorem rparse_pz (X : List UInt8) (w : World) (h : X.length ≤ 4000) :
    Calls Tryz.prog 30 #[.string ⟨X.toArray⟩] w fun e w' => (∃ v, e = .returned (.tuple #[v, .int .i64 (pe X)]) ∧ IntV w' v (pz X)) ∧ Ext w w' := by
  refine (rparse_any X w).mono ?_
  rintro e w' ⟨⟨h1, _⟩ | ⟨_, h1, v, rfl, hv⟩ | ⟨_, h1, rfl⟩, he⟩
  · omega
  · exact ⟨⟨v, by rw [pe, if_pos h1], by rw [pz, if_pos h1]; exact hv⟩, he⟩
  · exact ⟨⟨_, by rw [pe, if_neg h1], by rw [pz, if_neg h1]; exact intV_zero w'⟩, he⟩
theorem parse_big (X : List UInt8) (w : World) (h : 4000 < X.length) :
    Calls Tryz.prog 29 #[.string ⟨X.toArray⟩] w fun e w' => e = .returned (.tuple #[.agg #[.bool false, .slice none 0 0], .int .i64 2]) ∧ Ext w w' := parse_long X w h
set_option maxRecDepth 100000 in
theorem parses_long (S : List UInt8) (n : Int) (w : World) (h : (60 : Int) < (S.length : Int)) :
    Calls Tryz.prog 9 #[.string ⟨S.toArray⟩, .int .u16 n] w fun e w' => e = .returned (.bool true) ∧ Ext w w' := by
  go_enter Tryz.func9, Tryz.ntmps9
  go_wp2_with fail
  refine (sanity_any _).mono ?_
  rintro e ws ⟨rfl, xs⟩
  go_wp2_with fail
  go_ret
  exact ⟨rfl, xs⟩
set_option maxRecDepth 100000 in
set_option maxHeartbeats 8000000 in
theorem parses_short (S : List UInt8) (n : Int) (w : World) (h : decide ((60 : Int) < (S.length : Int)) = false) (hn0 : 0 ≤ n) (hn1 : n < 65536) :
    Calls Tryz.prog 9 #[.string ⟨S.toArray⟩, .int .u16 n] w fun e w' => e = .returned (.bool true) ∧ Ext w w' := by
  have hl : (S.length : Int) ≤ 60 := by simpa using h
  have hx1 : (⟨#[45]⟩ : ByteArray) ++ ⟨S.toArray⟩ = ⟨(45 :: S).toArray⟩ := ba_append [45] S
  have hx2 : (⟨#[48]⟩ : ByteArray) ++ ⟨S.toArray⟩ = ⟨(48 :: S).toArray⟩ := ba_append [48] S
  have hx3 : (⟨S.toArray⟩ : ByteArray) ++ ⟨#[55]⟩ = ⟨(S ++ [55]).toArray⟩ := ba_append S [55]
  have hx4 : (⟨#[52]⟩ : ByteArray) ++ ⟨S.toArray⟩ = ⟨(52 :: S).toArray⟩ := ba_append [52] S
  have hs1 : (9223372036854775807 < 1 + S.length) = False := eq_false (by omega)
  have hs2 : (9223372036854775807 < S.length + 1) = False := eq_false (by omega)
  obtain ⟨m, hm, hm1⟩ : ∃ m : Nat, n % 100 = (m : Int) ∧ m < 100 := ⟨(n % 100).toNat, by omega, by omega⟩
  have hmt : n.tmod 100 = (m : Int) := by rw [Int.tmod_eq_emod_of_nonneg hn0]; exact hm
  have HX1 := Lib.hid hx1
  have HX2 := Lib.hid hx2
  have HX3 := Lib.hid hx3
  have HX4 := Lib.hid hx4
  have HM := Lib.hid hm
  have HMt := Lib.hid hmt
  clear hx1 hx2 hx3 hx4 hm hmt
  go_enter Tryz.func9, Tryz.ntmps9
  go_wp2_with fail
  refine (sanity_any _).mono ?_
  rintro e ws ⟨rfl, xs⟩
  have hx1 := HX1.out
  have hx2 := HX2.out
  have hx3 := HX3.out
  have hx4 := HX4.out
  go_wp2_with fail
  clear hx1 hx2 hx3 hx4
  obtain ⟨TS, hTS⟩ : ∃ TS : List (List UInt8), TS = [S, 45 :: S, 48 :: S, S ++ [55], 52 :: S] := ⟨_, rfl⟩
  have hTl : TS.length = 5 := by rw [hTS]; rfl
  have hTe : ∀ X ∈ TS, X.length ≤ 4000 := by
    intro X hX
    rw [hTS] at hX
    simp only [List.mem_cons, List.not_mem_nil, or_false] at hX
    rcases hX with rfl | rfl | rfl | rfl | rfl <;> (try simp only [List.length_append, List.length_cons, List.length_nil]) <;> omega
  obtain ⟨b, wz, hb, hwz, hblk, hez⟩ := one ws 9 (TS.map encStr)
  have hwz' : wz = ws.alloc (.cells #[.string ⟨S.toArray⟩, .string ⟨(45 :: S).toArray⟩, .string ⟨(48 :: S).toArray⟩, .string ⟨(S ++ [55]).toArray⟩, .string ⟨(52 :: S).toArray⟩] 9) := by rw [hwz, hTS]; rfl
  rw [← hwz', ← hb]
  have HBlk := Lib.hid hblk
  have HTl := Lib.hid hTl
  have HTe := Lib.hid hTe
  have xz := xs.trans hez
  clear hTS hTl hTe hwz hwz' hb hblk hez
  go_loopw [7] (fun i wr => ∃ k : Nat, k ≤ 5 ∧ i = .int .i64 k ∧ Ext wz wr) (fun i _ => 5 - (intOf i).toNat)
  case atStart => exact ⟨0, by omega, rfl, Ext.refl _⟩
  case round =>
    obtain ⟨k, hk, rfl, x1⟩ := hrel
    by_cases hk5 : k < 5
    · obtain ⟨X, hX⟩ : ∃ X, TS[k]? = some X := ⟨TS[k]'(by rw [HTl.out]; exact hk5), List.getElem?_eq_getElem _⟩
      have HXl : Hid (X.length ≤ 4000) := HTe.out X (List.mem_of_getElem? hX)
      have HC := Lib.hid (show ∀ W, Ext wz W → W.cell? ⟨b, k, none⟩ = some (.string ⟨X.toArray⟩) from fun W hW => hW.cell (HBlk.out.cell (i := k) (by rw [List.getElem?_map, hX]; rfl)))
      clear hX
      have cc := HC.out _ x1
      go_wp2_with fail
      clear cc
      refine (parse_pz X _ HXl.out).mono ?_
      rintro e w2 ⟨⟨v, rfl, sv, av, nv, cv, rfl, hv⟩, x2⟩
      have HV := Lib.hid hv
      obtain ⟨D, w3, hD, hw, hb1, x3⟩ := one w2 24 [.bool sv, .slice av nv cv]
      have hq := hw.symm
      have hp := hD.symm
      have cc := HC.out _ ((x1.trans x2).trans x3)
      have HB1 := Lib.hid hb1
      clear hv hw hD hb1
      go_wp2_with fail
      clear cc hq hp
      refine (rparse_pz X _ HXl.out).mono ?_
      rintro e w4 ⟨⟨u, rfl, su, au, nu, cu, rfl, hu⟩, x4⟩
      have HU := Lib.hid hu
      obtain ⟨F, w5, hF, hw, hb2, x5⟩ := one w4 24 [.bool su, .slice au nu cu]
      have hq := hw.symm
      have hp := hF.symm
      have c0 := (HB1.out.ext (x4.trans x5)).cell (i := 0) rfl
      have c1 := (HB1.out.ext (x4.trans x5)).cell (i := 1) rfl
      have d0 := hb2.cell (i := 0) rfl
      have d1 := hb2.cell (i := 1) rfl
      obtain ⟨err, herr⟩ : ∃ err, err = pe X := ⟨_, rfl⟩
      rw [← herr]
      have hee : (err != err) = false := by simp
      clear hu hw hF hb2 herr
      go_wp2_with fail
      clear c0 c1 d0 d1 hq hp
      have hv5 : IntV w5 (.agg #[.bool sv, .slice av nv cv]) (pz X) := ⟨_, _, _, _, rfl, HV.out.ext ((x3.trans x4).trans x5)⟩
      have hu5 : IntV w5 (.agg #[.bool su, .slice au nu cu]) (pz X) := ⟨_, _, _, _, rfl, HU.out.ext x5⟩
      have HV5 := Lib.hid hv5
      have HU5 := Lib.hid hu5
      clear hv5 hu5
      refine (same_eq _ _ (pz X) (pz X) _ HV5.out HU5.out rfl).mono ?_
      rintro e w6 ⟨rfl, x6⟩
      go_wp2_with fail
      go_roundw
      case rel => exact ⟨k + 1, by omega, by go_num, ((((x1.trans x2).trans x3).trans x4).trans x5).trans x6⟩
      case measure => simp [intOf]; omega
    · obtain rfl : k = 5 := by omega
      go_wp2_with fail
      obtain ⟨wo, rfl⟩ : ∃ wo : World, wo = wr := ⟨_, rfl⟩
      go_loop [12, 13] (fun t i => ∃ k : Nat, k ≤ 4001 + m ∧ i = .int .i64 k ∧ t = .string ⟨(S ++ List.replicate k 49).toArray⟩) (fun _ i => 4001 + m - (intOf i).toNat)
      case atStart => exact ⟨0, by omega, rfl, by rw [List.replicate_zero, List.append_nil]⟩
      case round =>
        obtain ⟨k, hk, rfl, rfl⟩ := hrel
        have hm2 := HM.out
        have hmt2 := HMt.out
        by_cases hkm : k < 4001 + m
        · have happ : (⟨(S ++ List.replicate k 49).toArray⟩ : ByteArray) ++ ⟨#[49]⟩ = ⟨(S ++ List.replicate (k + 1) 49).toArray⟩ := by
            rw [show (⟨#[49]⟩ : ByteArray) = ⟨([49] : List UInt8).toArray⟩ from rfl, ba_append, List.append_assoc, List.replicate_succ']
          have hll : (S ++ List.replicate k (49 : UInt8)).length ≤ 5000 := by simp; omega
          obtain ⟨T, hT⟩ : ∃ T, T = S ++ List.replicate k (49 : UInt8) := ⟨_, rfl⟩
          rw [← hT] at happ hll ⊢
          have hsz : (9223372036854775807 < T.length + 1) = False := eq_false (by omega)
          obtain ⟨T2, hT2⟩ : ∃ T2, T2 = S ++ List.replicate (k + 1) (49 : UInt8) := ⟨_, rfl⟩
          rw [← hT2] at happ
          have HT2 := Lib.hid hT2
          clear hT hT2
          go_wp2_with fail
          clear happ
          go_round
          case rel => exact ⟨k + 1, by omega, by go_num, by rw [HT2.out]⟩
          case measure => simp [intOf]; omega
        · obtain rfl : k = 4001 + m := by omega
          have hll : Hid (4000 < (S ++ List.replicate (4001 + m) (49 : UInt8)).length) := by
            show 4000 < (S ++ List.replicate (4001 + m) (49 : UInt8)).length
            simp; omega
          generalize S ++ List.replicate (4001 + m) (49 : UInt8) = T at hll ⊢
          go_wp2_with fail
          refine (parse_big T _ hll.out).mono ?_
          rintro e w2 ⟨rfl, x2⟩
          obtain ⟨D, w3, hD, hw, hb1, x3⟩ := one w2 24 [.bool false, .slice none 0 0]
          have hq := hw.symm
          have hp := hD.symm
          have c0 := hb1.cell (i := 0) rfl
          have c1 := hb1.cell (i := 1) rfl
          have f0 := hb1.free 0
          have f1 := hb1.free 1
          have s0 := setCell_same hb1 (i := 0) rfl
          have s1 := setCell_same hb1 (i := 1) rfl
          clear hw hD hb1
          go_wp2_with fail
          go_ret
          exact ⟨rfl, ((xz.trans x1).trans x2).trans x3⟩
/-- The law IntegerParses. -/
theorem lawParses (S : List UInt8) (n : Int) (w : World) (hn0 : 0 ≤ n) (hn1 : n < 65536) :
    Calls Tryz.prog 9 #[.string ⟨S.toArray⟩, .int .u16 n] w fun e w' => e = .returned (.bool true) ∧ Ext w w' := by
  by_cases h : (60 : Int) < (S.length : Int)
  · exact parses_long S n w h
  · exact parses_short S n w (by simpa using h) hn0 hn1
end Go.Proofs.YtddcgojpgdhefaaGreatDoor
