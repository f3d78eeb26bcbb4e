/- integer.Text, walked. -/
import Derived.Test.YtddcgojpgdhefaaGreatDoorRoot2
import Derived.Test.YtddcgojpgdhefaaGreatDoorDec
import Derived.Test.YtddcgojpgdhefaaGreatDoorRef4
import Derived.Test.YtddcgojpgdhefaaGreatDoorTextLib
import Derived.Laws.BytesArg
import Derived.Sort.OwnSorted
namespace Go.El
open Go.RowKit
/-- Bytes as numbers. -/
def nums (l : List UInt8) : List Int := l.map fun b => (b.toNat : Int)
def u8s (l : List UInt8) : List Value := (nums l).map (Value.int .u8)
theorem strOf_nums (l : List UInt8) : strOfNums (nums l) = ⟨l.toArray⟩ := by
  unfold strOfNums nums
  congr 1
  rw [List.map_map]
  congr 1
  conv => rhs; rw [← List.map_id l]
  apply List.map_congr_left
  intro b _
  simp
theorem nums_length (l : List UInt8) : (nums l).length = l.length := by simp [nums]
theorem u8s_get {l : List UInt8} {i : Nat} (h : i < l.length) : (u8s l)[i]? = some (.int .u8 ((l[i].toNat : Nat) : Int)) := by simp [u8s, nums, h]
theorem u8s_set (l : List UInt8) (i : Nat) (b : UInt8) : (u8s l).set i (.int .u8 (b.toNat : Int)) = u8s (l.set i b) := by simp [u8s, nums, List.map_set]
/-- The part as it stands in a round. -/
def partB (k r : Nat) : List UInt8 := List.replicate (9 - k) 0 ++ padB k r
theorem part_length {k r : Nat} (h : k ≤ 9) : (partB k r).length = 9 := by simp [partB, padB_length]; omega
theorem part_set {k r : Nat} (h : k < 9) : (partB k r).set (8 - k) (dig (r / 10 ^ k)) = partB (k + 1) r := by
  unfold partB
  rw [List.set_append_left _ _ (by simp; omega), show 9 - k = (8 - k) + 1 by omega, List.replicate_succ', List.set_append_right _ _ (by simp), padB_cons, show 9 - (k + 1) = 8 - k by omega]
  simp
theorem part_get {k r : Nat} (h : k < 9) : (u8s (partB k r))[8 - k]? = some (.int .u8 0) := by
  have h1 : (partB k r)[8 - k]? = some 0 := by
    unfold partB
    rw [List.getElem?_append_left (by simp; omega), List.getElem?_replicate]
    simp; omega
  unfold u8s nums
  rw [List.getElem?_map, List.getElem?_map, h1]
  rfl
theorem Words.grownOpt {w w' : World} {a : Option Addr} {len cap : Nat} {l : List Int} {row : Option Nat} (h : Words w a len cap l) (hg : w.grownBy w' row) (hne : ∀ b off, a = some ⟨b, off, none⟩ → row ≠ some b) : Words w' a len cap l :=
  ⟨h.hlen, h.le, h.max, h.nil, h.wf, fun i z hz => by
    obtain ⟨b, off, ha, hc⟩ := h.cells i z hz
    exact ⟨b, off, ha, hg.cell hc (fun e => hne b off ha e.symm)⟩⟩
theorem dropWhile_len (l : List UInt8) (c : UInt8) : (Lib.trimLeftB l c).length ≤ l.length := by
  unfold Lib.trimLeftB
  induction l with
  | nil => exact Nat.le_refl _
  | cons a l ih =>
    rw [List.dropWhile_cons]
    split
    · rw [List.length_cons]; omega
    · exact Nat.le_refl _
theorem ba_append (x y : List UInt8) : (⟨x.toArray⟩ : ByteArray) ++ ⟨y.toArray⟩ = ⟨(x ++ y).toArray⟩ := by
  apply ByteArray.ext
  simp
theorem part_nine (r : Nat) : partB 9 r = padB 9 r := by simp [partB]
theorem chunk_bound {A j K : Nat} (h : A / 10 ^ (9 * j) ≠ 0) (hA : blen A ≤ K) : j ≤ K := by
  have h1 : 10 ^ (9 * j) ≤ A := by
    by_cases h2 : A < 10 ^ (9 * j)
    · exact absurd (Nat.div_eq_of_lt h2) h
    · omega
  have h2 : 2 ^ j ≤ 10 ^ (9 * j) := by
    rw [Nat.pow_mul]
    exact Nat.pow_le_pow_left (by omega) j
  have h3 : A < 2 ^ K := Nat.lt_of_lt_of_le (blen_lt A) (Nat.pow_le_pow_right (by omega) hA)
  exact Nat.le_of_lt ((Nat.pow_lt_pow_iff_right (by omega)).1 (show 2 ^ j < 2 ^ K by omega))
theorem chunk_next (A j : Nat) : A / 10 ^ (9 * (j + 1)) = A / 10 ^ (9 * j) / 1000000000 := by
  rw [Nat.mul_succ, Nat.pow_add, Nat.div_div_eq_div_mul]
end Go.El
namespace Go.Proofs.YtddcgojpgdhefaaGreatDoor
open Go.RowKit Go.El
set_option linter.unusedVariables false
theorem info_str : (Tryz.prog.info? 9).map (fun i => (i.zero, i.size, i.bytes)) = some (some (.string ⟨#[]⟩), 1, 16) := by kernel_rfl
set_option maxRecDepth 100000 in
set_option maxHeartbeats 1000000 in
theorem text_any (x : Value) (a : Int) (w : World) (hx : IntV w x a) (ha : Fits a 1000) :
    Calls Tryz.prog 28 #[x] w fun e w' => e = .returned (.string ⟨(textL a).toArray⟩) ∧ Ext w w' := by
  obtain ⟨na, ax, nx, cx, rfl, hna, hwx⟩ := hx
  have hnx := ha.len
  rw [hwx.hlen] at hnx
  have Hx := Lib.hid hwx
  have HNa := Lib.hid hna
  clear hwx hna
  obtain ⟨i0, hi, hz0, hz1, hz2⟩ := info_parts info_str
  obtain ⟨B, w0, hB, hw0, hb0, he0⟩ := one w 24 [.bool na, .slice ax nx cx]
  have HA := Lib.hid ha
  clear ha
  go_enter Tryz.func28, Tryz.ntmps28
  go_wp2_with fail
  rw [← hw0, ← hB]
  have HB := Lib.hid hB
  have c0 := hb0.cell (i := 0) rfl
  have HX0 := Lib.hid (Hx.out.ext he0)
  clear hw0 hB hb0
  go_loopw [3, 4] (fun v u wr => ∃ j : Nat, j ≤ 32001 ∧ Ext w0 wr ∧ wr.ownsRow w0.heap.size 9 1 v j ((chunks a.natAbs j).map encStr) ∧ (∃ ua un uc, u = .slice ua un uc ∧ Words wr ua un uc (digs ((a.natAbs / 10 ^ (9 * j) : Nat) : Int)))) (fun _ u wr => mval wr u)
  case atStart => exact ⟨0, by omega, Ext.refl _, World.ownsRow_nil _ _ _ _, ⟨_, _, _, rfl, by rw [Nat.mul_zero, Nat.pow_zero, Nat.div_one]; exact HX0.out⟩⟩
  case round =>
    obtain ⟨j, hj1, he1, hown, ⟨ua, un, uc, rfl, hu⟩⟩ := hrel
    by_cases hq : a.natAbs / 10 ^ (9 * j) = 0
    · rw [hq] at hu
      obtain rfl : un = 0 := by have := hu.hlen; rw [show ((0 : Nat) : Int) = 0 from rfl, digs_zero] at this; exact this.symm
      have hlt : Hid (a.natAbs < 10 ^ (9 * j)) := by
        show a.natAbs < 10 ^ (9 * j)
        by_cases h2 : a.natAbs < 10 ^ (9 * j)
        · exact h2
        · have := Nat.div_pos (show 10 ^ (9 * j) ≤ a.natAbs by omega) (Nat.pow_pos (by omega)); omega
      have d0 := he1.cell c0
      clear hu hq
      have hjb := Lib.hid hj1
      clear hj1
      have HO := Lib.hid hown
      clear hown
      go_wp2_with fail
      refine (rev_own _ _ _ _ _ HO.out (chunks_length _ _) (by have := hjb.out; omega)).mono ?_
      rintro e w2 ⟨rfl, hO2, hg2⟩
      have hE2 := he1.grown hg2 (fun k hk => (HO.out.lt k hk).1)
      have d1 := hE2.cell c0
      have HO2 := Lib.hid hO2
      clear hO2 hg2 d0
      go_wp2_with fail
      refine (join_own _ _ _ _ _ HO2.out (by rw [List.length_reverse, chunks_length]) (by have := hjb.out; omega) (by rw [flat_chunks, padB_length]; have := hjb.out; omega)).mono ?_
      rintro e w3 ⟨rfl, hE3⟩
      have d2 := hE3.cell d1
      rw [flat_chunks]
      clear d1
      go_wp2_with fail
      refine (trim0 _ _).mono ?_
      rintro e w4 ⟨rfl, rfl⟩
      rw [trim_pad hlt.out]
      by_cases ha0 : a.natAbs = 0
      · have hT : Hid (textL a = [48]) := by show textL a = _; rw [textL, if_pos (by omega)]
        rw [ha0, decN_zero]
        go_wp2_with fail
        go_ret
        rw [hT.out]
        exact ⟨rfl, (he0.trans hE2).trans hE3⟩
      · have hT : Hid (textL a = (if a < 0 then [45] else []) ++ decN a.natAbs) := by show textL a = _; rw [textL, if_neg (by omega)]
        have hne : (decN a.natAbs).isEmpty = false := by
          have := decN_ne_nil ha0
          cases h : decN a.natAbs with
          | nil => exact absurd h this
          | cons _ _ => rfl
        have hll : (decN a.natAbs).length ≤ 300000 := by
          rw [← trim_pad hlt.out]
          refine Nat.le_trans (dropWhile_len _ _) ?_
          rw [padB_length]
          have := hjb.out; omega
        generalize decN a.natAbs = L at *
        have hlb : 1 + L.length ≤ 9223372036854775807 := by omega
        clear ha0
        cases na with
        | true =>
          have hT2 : Hid (textL a = [45] ++ L) := by
            show textL a = _
            rw [hT.out, if_pos (of_decide_eq_true HNa.out.symm)]
          go_wp2_with fail
          go_ret
          rw [hT2.out, ← ba_append]
          exact ⟨rfl, (he0.trans hE2).trans hE3⟩
        | false =>
          have hT2 : Hid (textL a = L) := by
            show textL a = _
            rw [hT.out, if_neg (of_decide_eq_false HNa.out.symm)]; rfl
          go_wp2_with fail
          go_ret
          rw [hT2.out]
          exact ⟨rfl, (he0.trans hE2).trans hE3⟩
    · obtain ⟨q, hqq⟩ : ∃ q, q = a.natAbs / 10 ^ (9 * j) := ⟨_, rfl⟩
      rw [← hqq] at hq hu
      have hlen := digs_pos_len (show 0 < (q : Int) by omega)
      rw [hu.hlen] at hlen
      obtain ⟨m, rfl⟩ : ∃ m, un = m + 1 := ⟨un - 1, by omega⟩
      have HU := Lib.hid hu
      have HQ := Lib.hid hqq
      have HQ0 := Lib.hid hq
      have HM : Hid (mval wr (.slice ua (m + 1) uc) = q) := by
        show mval wr (.slice ua (m + 1) uc) = q
        rw [mval_eq HU.out, val_digs (by omega)]; omega
      have HO := Lib.hid hown
      clear hlen hu hqq hq hown
      go_wp2_with fail
      have hun : Hid (m + 1 ≤ 1000) := by
        show m + 1 ≤ 1000
        rw [← HU.out.hlen]
        refine Nat.le_trans (digs_len_mono (by omega) (show (q : Int) ≤ (a.natAbs : Int) by have := HQ.out; have := Nat.div_le_self a.natAbs (10 ^ (9 * j)); omega)) ?_
        rw [Hx.out.hlen]; exact hnx
      refine (nword_own _ _ _ _ 1000000000 _ HU.out (by have := hun.out; omega) (by omega) (by omega)).mono ?_
      rintro e w1 ⟨⟨qb, qn, qc, rfl, hqw, hqb⟩, he2⟩
      have HQB : Hid (∀ k, u3.ownBlock = some k → k ≠ qb) := fun k hk => by
        have := (HO.out.lt k hk).2; omega
      rw [val_digs (by omega)] at hqw
      obtain ⟨r, hr, hr9⟩ : ∃ r : Nat, (val (digs (q : Int))) % 1000000000 = (r : Int) ∧ Hid (r = q % 1000000000) := by
        refine ⟨q % 1000000000, ?_, rfl⟩
        rw [val_digs (by omega)]; omega
      rw [hr]
      have HQW := Lib.hid hqw
      have hrb : r < 1000000000 := by have := hr9.out; omega
      clear hr hqw
      go_wp2_with fail
      obtain ⟨P, w2, hP, hw2, hbP, heP⟩ := one w1 73 (u8s (partB 0 r))
      have hw2' : w2 = w1.alloc (.cells #[.int .u8 0, .int .u8 0, .int .u8 0, .int .u8 0, .int .u8 0, .int .u8 0, .int .u8 0, .int .u8 0, .int .u8 0] 73) := hw2
      rw [← hw2', ← hP]
      have HP := Lib.hid hP
      clear hw2 hw2' hP
      go_loopw [5, 19] (fun rest i wr => ∃ k : Nat, k ≤ 9 ∧ i = .int .i64 k ∧ rest = .int .u32 ((r / 10 ^ k : Nat) : Int) ∧ Ext w1 wr ∧ Blk wr P 73 (u8s (partB k r))) (fun _ i _ => 9 - (intOf i).toNat)
      case atStart => exact ⟨0, by omega, rfl, by rw [Nat.pow_zero, Nat.div_one], heP, hbP⟩
      case round =>
        obtain ⟨k, hk, rfl, rfl, he3, hb3⟩ := hrel
        by_cases hk9 : k < 9
        · have hcell := hb3.cell (part_get hk9)
          have hfree := hb3.free (8 - k)
          obtain ⟨p, hp, hp8, HPk⟩ : ∃ p : Nat, (8 : Int) - (k : Int) = (p : Int) ∧ p < 9 ∧ Hid (p = 8 - k) := ⟨8 - k, by omega, by omega, rfl⟩
          rw [← HPk.out] at hcell hfree
          obtain ⟨s, hs, hs9⟩ : ∃ s, s = r / 10 ^ k ∧ s < 1000000000 := ⟨_, rfl, Nat.lt_of_le_of_lt (Nat.div_le_self _ _) hrb⟩
          rw [← hs]
          have HS := Lib.hid hs
          have HB3 := Lib.hid hb3
          clear hs hb3
          go_wp2
          go_roundw
          case rel =>
            refine ⟨k + 1, by omega, by go_num, ?_, he3.store' HP (Nat.le_refl _) _ _, ?_⟩
            · rw [Nat.pow_succ, ← Nat.div_div_eq_div_mul, ← HS.out]
              first | rfl | (congr 1; omega)
            · have := HB3.out.set p (.int .u8 ((dig s).toNat : Int))
              rw [u8s_set, HPk.out, HS.out, part_set hk9] at this
              rw [HPk.out, show (48 + (s : Int) % 10) = ((dig s).toNat : Int) by rw [dig_toNat]; omega, HS.out]
              exact this
          case measure => simp [intOf]; omega
        · obtain rfl : k = 9 := by omega
          have hconv : (convert 74 9 (.slice (some ⟨P, 0, none⟩) 9 9)).run Tryz.prog wr = .ok (.string ⟨(padB 9 r).toArray⟩) wr := by
            have := run_convert_bytes_arg (P := Tryz.prog) wr 74 5 Tryz.underlying74 Tryz.underlying5 P 0 9 9 (nums (padB 9 r)) (by rw [nums_length, padB_length]) (fun i hi => by
              rw [Nat.zero_add]
              refine hb3.cell ?_
              rw [part_nine, u8s_get (by rw [padB_length]; exact hi)]
              simp [nums, padB_length, hi]) 9 Tryz.underlying9
            rwa [strOf_nums] at this
          have hjb : Hid (j ≤ 32000) := chunk_bound (K := 32000) (by rw [← HQ.out]; exact HQ0.out) (fits_blen HA.out)
          have hO3 := ownsRow_ext HO.out (he2.trans he3)
          have HO3 := Lib.hid hO3
          have HP9 : Hid (P < wr.heap.size) := hb3.lt
          have HSz3 : Hid (w0.heap.size ≤ wr.heap.size) := Nat.le_trans he1.size (Nat.le_trans he2.size he3.size)
          clear hO3 hb3
          go_wp2_with (at_builtin; refine wpList_append_own _ rfl _ _ 49 rfl w0.heap.size 9 i0 (.string ⟨#[]⟩) 1 16 Tryz.underlying49 hi hz0 hz1 hz2 rfl (by decide) _ _ _ rfl (HO3.out.alloc _) ⟨_, 0, none⟩ 1 1 [.string ⟨(padB 9 r).toArray⟩] rfl rfl (one_new wr _ _) (by simp [Value.oneCell']) (by have := hjb.out; simp only [maxLen]; omega) (by have := hjb.out; omega) (by have := HSz3.out; rw [World.size_alloc']; omega) ?_; intro v' w5 hown' hgrow HH)
          have hO5 : w5.ownsRow w0.heap.size 9 1 v' (j + 1) ((chunks a.natAbs (j + 1)).map encStr) := by
            rw [chunks_succ, List.map_append, ← HQ.out, ← padB_mod, show q % 10 ^ 9 = r from hr9.out.symm]
            exact hown'
          have hE5 := ((he1.trans (he2.trans he3)).alloc _).grown hgrow (fun k hk => (HO3.out.lt k hk).1)
          have HO5 := Lib.hid hO5
          have hq5 : Words w5 (some ⟨qb, 0, none⟩) qn qc (digs ((a.natAbs / 10 ^ (9 * (j + 1)) : Nat) : Int)) := by
            rw [chunk_next, ← HQ.out]
            have h1 : ((q / 1000000000 : Nat) : Int) = (q : Int) / 1000000000 := by omega
            rw [h1]
            exact (HQW.out.ext (he3.alloc _)).grownOpt hgrow (fun b off e hk => HQB.out _ hk (by cases e; rfl))
          have HQ5 := Lib.hid hq5
          clear hO5 hq5 hown' hgrow HH
          go_wp2_with fail
          go_roundw
          case rel => exact ⟨j + 1, by have := hjb.out; omega, hE5, HO5.out, ⟨_, _, _, rfl, HQ5.out⟩⟩
          case measure =>
            rw [HM.out, mval_eq HQ5.out, val_digs (Int.natCast_nonneg _), chunk_next, ← HQ.out]
            have := HQ0.out
            omega
end Go.Proofs.YtddcgojpgdhefaaGreatDoor
