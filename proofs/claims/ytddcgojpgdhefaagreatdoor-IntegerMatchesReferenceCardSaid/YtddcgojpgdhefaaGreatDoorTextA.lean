/- Merged texts: Dec, TextLib, Text, ParseM, Parse. -/
import Derived.Lib.TrimByte
import Derived.Lib.Join
import Derived.Test.YtddcgojpgdhefaaGreatDoorBase
import Derived.Test.YtddcgojpgdhefaaGreatDoorShelfText
import Derived.Sort.OwnSorted
import Derived.Test.YtddcgojpgdhefaaGreatDoorPowA
import Derived.Test.YtddcgojpgdhefaaGreatDoorRefA
import Derived.Laws.BytesArg
import Derived.Lib.ParseIntB
import Derived.Lib.SlTrimSet
import Derived.Lib.Strings
/- Decimal digits: the plain law. No program. -/
namespace Go.El
/-- The last decimal digit, as a byte. -/
def dig (n : Nat) : UInt8 := UInt8.ofNat (48 + n % 10)
theorem dig_toNat (n : Nat) : (dig n).toNat = 48 + n % 10 := by
  unfold dig
  rw [UInt8.toNat_ofNat_of_lt' (by have := Nat.mod_lt n (show 0 < 10 by omega); show _ < 256; omega)]
/-- The last k decimal digits. -/
def padB : Nat → Nat → List UInt8
  | 0, _ => []
  | k + 1, n => padB k (n / 10) ++ [dig n]
theorem padB_length (k n : Nat) : (padB k n).length = k := by
  induction k generalizing n with
  | zero => rfl
  | succ k ih => simp [padB, ih]
theorem padB_cons (k n : Nat) : padB (k + 1) n = dig (n / 10 ^ k) :: padB k n := by
  induction k generalizing n with
  | zero => simp [padB]
  | succ k ih =>
    rw [padB, ih (n / 10), padB, Nat.div_div_eq_div_mul, Nat.pow_succ, Nat.mul_comm 10]
    rfl
theorem padB_add (k j n : Nat) : padB (k + j) n = padB k (n / 10 ^ j) ++ padB j n := by
  induction j generalizing n with
  | zero => simp [padB]
  | succ j ih =>
    rw [← Nat.add_assoc, padB, ih (n / 10), padB, Nat.div_div_eq_div_mul, Nat.pow_succ, Nat.mul_comm 10, List.append_assoc]
theorem padB_mod (k n : Nat) : padB k (n % 10 ^ k) = padB k n := by
  induction k generalizing n with
  | zero => rfl
  | succ k ih =>
    rw [padB, padB, ← ih (n / 10)]
    congr 2
    · rw [Nat.pow_succ, Nat.mul_comm, Nat.mod_mul_right_div_self]
    · unfold dig
      rw [Nat.pow_succ, Nat.mul_comm, Nat.mod_mul_right_mod]
/-- The decimal digits; none of 0. -/
def decN (n : Nat) : List UInt8 := if _h : n = 0 then [] else decN (n / 10) ++ [dig n]
theorem decN_zero : decN 0 = [] := by rw [decN]; simp
theorem decN_pos {n : Nat} (h : n ≠ 0) : decN n = decN (n / 10) ++ [dig n] := by rw [decN]; simp [h]
theorem decN_ne_nil {n : Nat} (h : n ≠ 0) : decN n ≠ [] := by rw [decN_pos h]; simp
theorem decN_nil {n : Nat} : decN n = [] ↔ n = 0 := ⟨fun h => by by_cases h0 : n = 0; exact h0; exact absurd h (decN_ne_nil h0), fun h => by rw [h, decN_zero]⟩
theorem trim_pos {a c : UInt8} (l : List UInt8) (h : a = c) : Lib.trimLeftB (a :: l) c = Lib.trimLeftB l c := by
  unfold Lib.trimLeftB; simp [h]
theorem trim_neg {a c : UInt8} (l : List UInt8) (h : a ≠ c) : Lib.trimLeftB (a :: l) c = a :: l := by
  unfold Lib.trimLeftB; simp [h]
theorem trimLeft_append {l r : List UInt8} {c : UInt8} (h : Lib.trimLeftB l c ≠ []) : Lib.trimLeftB (l ++ r) c = Lib.trimLeftB l c ++ r := by
  induction l with
  | nil => exact absurd rfl h
  | cons a l ih =>
    by_cases ha : a = c
    · rw [List.cons_append, trim_pos _ ha, trim_pos _ ha]
      rw [trim_pos _ ha] at h
      exact ih h
    · rw [List.cons_append, trim_neg _ ha, trim_neg _ ha, List.cons_append]
theorem trimLeft_nil_append {l r : List UInt8} {c : UInt8} (h : Lib.trimLeftB l c = []) : Lib.trimLeftB (l ++ r) c = Lib.trimLeftB r c := by
  induction l with
  | nil => rfl
  | cons a l ih =>
    by_cases ha : a = c
    · rw [List.cons_append, trim_pos _ ha]
      rw [trim_pos _ ha] at h
      exact ih h
    · rw [trim_neg _ ha] at h; cases h
theorem dig_zero : dig 0 = 48 := rfl
theorem trim_pad {k n : Nat} (h : n < 10 ^ k) : Lib.trimLeftB (padB k n) 48 = decN n := by
  induction k generalizing n with
  | zero => have : n = 0 := by simpa using h
            subst this; rw [decN_zero]; rfl
  | succ k ih =>
    rw [padB]
    have h1 : n / 10 < 10 ^ k := by rw [Nat.pow_succ] at h; omega
    have h2 := ih h1
    by_cases h0 : n / 10 = 0
    · rw [h0, decN_zero] at h2
      rw [h0, trimLeft_nil_append h2]
      by_cases hn : n = 0
      · subst hn; rw [decN_zero]; rfl
      · rw [decN_pos hn, h0, decN_zero]
        refine trim_neg _ fun e => ?_
        have := congrArg UInt8.toNat e
        rw [dig_toNat] at this
        have h5 : (48 : UInt8).toNat = 48 := rfl
        omega
    · rw [trimLeft_append (by rw [h2]; exact decN_ne_nil h0), h2, decN_pos (n := n) (by omega)]
/-- The text of an integer. -/
def textL (z : Int) : List UInt8 := if z = 0 then [48] else (if z < 0 then [45] else []) ++ decN z.natAbs
/-- The chunks of 9 digits, the last one first. -/
def chunks (A j : Nat) : List (List UInt8) := (List.range j).map fun i => padB 9 (A / 10 ^ (9 * i))
theorem chunks_succ (A j : Nat) : chunks A (j + 1) = chunks A j ++ [padB 9 (A / 10 ^ (9 * j))] := by
  unfold chunks; rw [List.range_succ, List.map_append]; rfl
theorem chunks_length (A j : Nat) : (chunks A j).length = j := by simp [chunks]
theorem flat_chunks (A j : Nat) : (chunks A j).reverse.flatten = padB (9 * j) A := by
  induction j with
  | zero => rfl
  | succ j ih => rw [chunks_succ, List.reverse_append, List.flatten_append, ih, Nat.mul_succ, Nat.add_comm, padB_add]; simp
theorem join_flat (xs : List (List UInt8)) : Lib.join xs [] = xs.flatten := by
  cases xs with
  | nil => rfl
  | cons x r => rw [Lib.join_cons]; simp [Lib.joinTail]
theorem trim_join {A j : Nat} (h : A < 10 ^ (9 * j)) : Lib.trimLeftB (Lib.join (chunks A j).reverse []) 48 = decN A := by
  rw [join_flat, flat_chunks, trim_pad h]
end Go.El
/- The library's part of Text: Reverse, Join at a row of the call's own. -/
namespace Go.El
open Go.RowKit
theorem ownsRow_ext {w w' : World} {base : Nat} {e : TypeId} {size : Nat} {v : Value} {n : Nat} {xs : List Value} (h : w.ownsRow base e size v n xs) (he : Ext w w') : w'.ownsRow base e size v n xs := by
  refine ⟨h.1, ?_⟩
  rcases h.2 with hn | ⟨g, cap, cur, rfl, hb, hg, rest⟩
  · exact .inl hn
  · exact .inr ⟨g, cap, cur, rfl, hb, he.blk hg, rest⟩
end Go.El
namespace Go.Proofs.YtddcgojpgdhefaaGreatDoor
open Go.RowKit Go.El Go.Sort
set_option linter.unusedVariables false
theorem rev_own (w : World) (base : Nat) (v : Value) (j : Nat) (cs : List (List UInt8)) (h : w.ownsRow base 9 1 v j (cs.map encStr)) (hj : cs.length = j) (hb : j ≤ 1000000) :
    Calls Tryz.prog 63 #[v] w fun e w' => e = .returned (.tuple #[]) ∧ w'.ownsRow base 9 1 v j (cs.reverse.map encStr) ∧ w.grownBy w' v.ownBlock := by
  subst hj
  rcases h.2 with ⟨rfl, hnil⟩ | ⟨g, cap, cur, rfl, hbase, hg, h1, h2, h3, h4⟩
  · have hc : cs = [] := by simpa using hnil
    subst hc
    refine (Tryz.slices_Reverse_string_empty none 0 w).mono ?_
    rintro e w' ⟨rfl, rfl⟩
    exact ⟨rfl, h, ⟨rfl, rfl, rfl, Nat.le_refl _, fun _ _ _ => rfl⟩⟩
  · refine (Tryz.slices_Reverse_string g 0 cap cs w (holds_of_block hg (by simpa using h4)) (by omega)).mono ?_
    rintro e w' ⟨rfl, n, rfl⟩
    have e1 : putRow encStr (Sort.ahead w n) g 0 cs.reverse.toArray = grow (putRow encStr (Sort.ahead w n) g 0 cs.reverse.toArray) #[] := (grow_empty _).symm
    rw [e1]
    exact ⟨rfl, ownsRow_sorted (by simp) hbase hg h1 h2 h3, grownBy_sorted _⟩
theorem join_own (w : World) (base : Nat) (v : Value) (j : Nat) (cs : List (List UInt8)) (h : w.ownsRow base 9 1 v j (cs.map encStr)) (hj : cs.length = j) (hb : j ≤ 1000000) (hl : cs.flatten.length ≤ 1000000000) :
    Calls Tryz.prog 65 #[v, .string ⟨#[]⟩] w fun e w' => e = .returned (.string ⟨cs.flatten.toArray⟩) ∧ Ext w w' := by
  subst hj
  rcases h.2 with ⟨rfl, hnil⟩ | ⟨g, cap, cur, rfl, hbase, hg, h1, h2, h3, h4⟩
  · have hc : cs = [] := by simpa using hnil
    subst hc
    refine (Tryz.strings_Join_none none 0 ⟨#[]⟩ w).mono ?_
    rintro e w' ⟨rfl, rfl⟩
    exact ⟨rfl, Ext.refl _⟩
  · have hcells := h.cells (g := g) rfl
    have hj2 : Lib.join ((cs.map fun l => (⟨l.toArray⟩ : ByteArray)).map (·.data.toList)) (ByteArray.mk #[]).data.toList = cs.flatten := by
      rw [List.map_map]
      show Lib.join (List.map (fun l => l) cs) [] = _
      rw [List.map_id', join_flat]
    have := Tryz.strings_Join g 0 cap (cs.map fun l => (⟨l.toArray⟩ : ByteArray)) ⟨#[]⟩ w (fun i x hi => by
      have h5 := hcells i (.string x) (by
        rw [List.getElem?_map] at hi ⊢
        cases hc : cs[i]? with
        | none => rw [hc] at hi; cases hi
        | some l => rw [hc] at hi; cases hi; rfl)
      have e : (⟨g, 0, none⟩ : Addr).add i = ⟨g, 0 + i, none⟩ := by unfold Addr.add; split <;> simp_all
      rw [e] at h5; exact h5) (Array.getElem?_eq_some_iff.1 hg).1 (by rw [List.length_map]; omega) (by rw [List.length_map]; exact h1) (by rw [hj2]; omega)
    rw [hj2, List.length_map] at this
    exact this
theorem trim0 (l : List UInt8) (w : World) :
    Calls Tryz.prog 64 #[.string ⟨l.toArray⟩, .string ⟨#[48]⟩] w fun e w' => e = .returned (.string ⟨(Lib.trimLeftB l 48).toArray⟩) ∧ w' = w :=
  Tryz.strings_TrimLeft_one ⟨l.toArray⟩ 48 (by decide) w
end Go.Proofs.YtddcgojpgdhefaaGreatDoor
/- integer.Text, walked. -/
namespace Go.El
open Go.RowKit
/-- Bytes as numbers. -/
def nums (l : List UInt8) : List Int := l.map fun b => (b.toNat : Int)
def u8s (l : List UInt8) : List Value := (nums l).map (Value.int .u8)
theorem strOf_nums (l : List UInt8) : strOfNums (nums l) = ⟨l.toArray⟩ := by
  unfold strOfNums nums
  congr 1
  rw [List.map_map]
  congr 1
  conv => rhs; rw [← List.map_id l]
  apply List.map_congr_left
  intro b _
  simp
theorem nums_length (l : List UInt8) : (nums l).length = l.length := by simp [nums]
theorem u8s_get {l : List UInt8} {i : Nat} (h : i < l.length) : (u8s l)[i]? = some (.int .u8 ((l[i].toNat : Nat) : Int)) := by simp [u8s, nums, h]
theorem u8s_set (l : List UInt8) (i : Nat) (b : UInt8) : (u8s l).set i (.int .u8 (b.toNat : Int)) = u8s (l.set i b) := by simp [u8s, nums, List.map_set]
/-- The part as it stands in a round. -/
def partB (k r : Nat) : List UInt8 := List.replicate (9 - k) 0 ++ padB k r
theorem part_length {k r : Nat} (h : k ≤ 9) : (partB k r).length = 9 := by simp [partB, padB_length]; omega
theorem part_set {k r : Nat} (h : k < 9) : (partB k r).set (8 - k) (dig (r / 10 ^ k)) = partB (k + 1) r := by
  unfold partB
  rw [List.set_append_left _ _ (by simp; omega), show 9 - k = (8 - k) + 1 by omega, List.replicate_succ', List.set_append_right _ _ (by simp), padB_cons, show 9 - (k + 1) = 8 - k by omega]
  simp
theorem part_get {k r : Nat} (h : k < 9) : (u8s (partB k r))[8 - k]? = some (.int .u8 0) := by
  have h1 : (partB k r)[8 - k]? = some 0 := by
    unfold partB
    rw [List.getElem?_append_left (by simp; omega), List.getElem?_replicate]
    simp; omega
  unfold u8s nums
  rw [List.getElem?_map, List.getElem?_map, h1]
  rfl
theorem Words.grownOpt {w w' : World} {a : Option Addr} {len cap : Nat} {l : List Int} {row : Option Nat} (h : Words w a len cap l) (hg : w.grownBy w' row) (hne : ∀ b off, a = some ⟨b, off, none⟩ → row ≠ some b) : Words w' a len cap l :=
  ⟨h.hlen, h.le, h.max, h.nil, h.wf, fun i z hz => by
    obtain ⟨b, off, ha, hc⟩ := h.cells i z hz
    exact ⟨b, off, ha, hg.cell hc (fun e => hne b off ha e.symm)⟩⟩
theorem dropWhile_len (l : List UInt8) (c : UInt8) : (Lib.trimLeftB l c).length ≤ l.length := by
  unfold Lib.trimLeftB
  induction l with
  | nil => exact Nat.le_refl _
  | cons a l ih =>
    rw [List.dropWhile_cons]
    split
    · rw [List.length_cons]; omega
    · exact Nat.le_refl _
theorem ba_append (x y : List UInt8) : (⟨x.toArray⟩ : ByteArray) ++ ⟨y.toArray⟩ = ⟨(x ++ y).toArray⟩ := by
  apply ByteArray.ext
  simp
theorem part_nine (r : Nat) : partB 9 r = padB 9 r := by simp [partB]
theorem chunk_bound {A j K : Nat} (h : A / 10 ^ (9 * j) ≠ 0) (hA : blen A ≤ K) : j ≤ K := by
  have h1 : 10 ^ (9 * j) ≤ A := by
    by_cases h2 : A < 10 ^ (9 * j)
    · exact absurd (Nat.div_eq_of_lt h2) h
    · omega
  have h2 : 2 ^ j ≤ 10 ^ (9 * j) := by
    rw [Nat.pow_mul]
    exact Nat.pow_le_pow_left (by omega) j
  have h3 : A < 2 ^ K := Nat.lt_of_lt_of_le (blen_lt A) (Nat.pow_le_pow_right (by omega) hA)
  exact Nat.le_of_lt ((Nat.pow_lt_pow_iff_right (by omega)).1 (show 2 ^ j < 2 ^ K by omega))
theorem chunk_next (A j : Nat) : A / 10 ^ (9 * (j + 1)) = A / 10 ^ (9 * j) / 1000000000 := by
  rw [Nat.mul_succ, Nat.pow_add, Nat.div_div_eq_div_mul]
end Go.El
namespace Go.Proofs.YtddcgojpgdhefaaGreatDoor
open Go.RowKit Go.El
set_option linter.unusedVariables false
theorem info_str : (Tryz.prog.info? 9).map (fun i => (i.zero, i.size, i.bytes)) = some (some (.string ⟨#[]⟩), 1, 16) := by kernel_rfl
set_option maxRecDepth 100000 in
set_option maxHeartbeats 1000000 in
theorem text_any (x : Value) (a : Int) (w : World) (hx : IntV w x a) (ha : Fits a 1000) :
    Calls Tryz.prog 28 #[x] w fun e w' => e = .returned (.string ⟨(textL a).toArray⟩) ∧ Ext w w' := by
  obtain ⟨na, ax, nx, cx, rfl, hna, hwx⟩ := hx
  have hnx := ha.len
  rw [hwx.hlen] at hnx
  have Hx := Lib.hid hwx
  have HNa := Lib.hid hna
  clear hwx hna
  obtain ⟨i0, hi, hz0, hz1, hz2⟩ := info_parts info_str
  obtain ⟨B, w0, hB, hw0, hb0, he0⟩ := one w 24 [.bool na, .slice ax nx cx]
  have HA := Lib.hid ha
  clear ha
  go_enter Tryz.func28, Tryz.ntmps28
  go_wp2_with fail
  rw [← hw0, ← hB]
  have HB := Lib.hid hB
  have c0 := hb0.cell (i := 0) rfl
  have HX0 := Lib.hid (Hx.out.ext he0)
  clear hw0 hB hb0
  go_loopw [3, 4] (fun v u wr => ∃ j : Nat, j ≤ 32001 ∧ Ext w0 wr ∧ wr.ownsRow w0.heap.size 9 1 v j ((chunks a.natAbs j).map encStr) ∧ (∃ ua un uc, u = .slice ua un uc ∧ Words wr ua un uc (digs ((a.natAbs / 10 ^ (9 * j) : Nat) : Int)))) (fun _ u wr => mval wr u)
  case atStart => exact ⟨0, by omega, Ext.refl _, World.ownsRow_nil _ _ _ _, ⟨_, _, _, rfl, by rw [Nat.mul_zero, Nat.pow_zero, Nat.div_one]; exact HX0.out⟩⟩
  case round =>
    obtain ⟨j, hj1, he1, hown, ⟨ua, un, uc, rfl, hu⟩⟩ := hrel
    by_cases hq : a.natAbs / 10 ^ (9 * j) = 0
    · rw [hq] at hu
      obtain rfl : un = 0 := by have := hu.hlen; rw [show ((0 : Nat) : Int) = 0 from rfl, digs_zero] at this; exact this.symm
      have hlt : Hid (a.natAbs < 10 ^ (9 * j)) := by
        show a.natAbs < 10 ^ (9 * j)
        by_cases h2 : a.natAbs < 10 ^ (9 * j)
        · exact h2
        · have := Nat.div_pos (show 10 ^ (9 * j) ≤ a.natAbs by omega) (Nat.pow_pos (by omega)); omega
      have d0 := he1.cell c0
      clear hu hq
      have hjb := Lib.hid hj1
      clear hj1
      have HO := Lib.hid hown
      clear hown
      go_wp2_with fail
      refine (rev_own _ _ _ _ _ HO.out (chunks_length _ _) (by have := hjb.out; omega)).mono ?_
      rintro e w2 ⟨rfl, hO2, hg2⟩
      have hE2 := he1.grown hg2 (fun k hk => (HO.out.lt k hk).1)
      have d1 := hE2.cell c0
      have HO2 := Lib.hid hO2
      clear hO2 hg2 d0
      go_wp2_with fail
      refine (join_own _ _ _ _ _ HO2.out (by rw [List.length_reverse, chunks_length]) (by have := hjb.out; omega) (by rw [flat_chunks, padB_length]; have := hjb.out; omega)).mono ?_
      rintro e w3 ⟨rfl, hE3⟩
      have d2 := hE3.cell d1
      rw [flat_chunks]
      clear d1
      go_wp2_with fail
      refine (trim0 _ _).mono ?_
      rintro e w4 ⟨rfl, rfl⟩
      rw [trim_pad hlt.out]
      by_cases ha0 : a.natAbs = 0
      · have hT : Hid (textL a = [48]) := by show textL a = _; rw [textL, if_pos (by omega)]
        rw [ha0, decN_zero]
        go_wp2_with fail
        go_ret
        rw [hT.out]
        exact ⟨rfl, (he0.trans hE2).trans hE3⟩
      · have hT : Hid (textL a = (if a < 0 then [45] else []) ++ decN a.natAbs) := by show textL a = _; rw [textL, if_neg (by omega)]
        have hne : (decN a.natAbs).isEmpty = false := by
          have := decN_ne_nil ha0
          cases h : decN a.natAbs with
          | nil => exact absurd h this
          | cons _ _ => rfl
        have hll : (decN a.natAbs).length ≤ 300000 := by
          rw [← trim_pad hlt.out]
          refine Nat.le_trans (dropWhile_len _ _) ?_
          rw [padB_length]
          have := hjb.out; omega
        generalize decN a.natAbs = L at *
        have hlb : 1 + L.length ≤ 9223372036854775807 := by omega
        clear ha0
        cases na with
        | true =>
          have hT2 : Hid (textL a = [45] ++ L) := by
            show textL a = _
            rw [hT.out, if_pos (of_decide_eq_true HNa.out.symm)]
          go_wp2_with fail
          go_ret
          rw [hT2.out, ← ba_append]
          exact ⟨rfl, (he0.trans hE2).trans hE3⟩
        | false =>
          have hT2 : Hid (textL a = L) := by
            show textL a = _
            rw [hT.out, if_neg (of_decide_eq_false HNa.out.symm)]; rfl
          go_wp2_with fail
          go_ret
          rw [hT2.out]
          exact ⟨rfl, (he0.trans hE2).trans hE3⟩
    · obtain ⟨q, hqq⟩ : ∃ q, q = a.natAbs / 10 ^ (9 * j) := ⟨_, rfl⟩
      rw [← hqq] at hq hu
      have hlen := digs_pos_len (show 0 < (q : Int) by omega)
      rw [hu.hlen] at hlen
      obtain ⟨m, rfl⟩ : ∃ m, un = m + 1 := ⟨un - 1, by omega⟩
      have HU := Lib.hid hu
      have HQ := Lib.hid hqq
      have HQ0 := Lib.hid hq
      have HM : Hid (mval wr (.slice ua (m + 1) uc) = q) := by
        show mval wr (.slice ua (m + 1) uc) = q
        rw [mval_eq HU.out, val_digs (by omega)]; omega
      have HO := Lib.hid hown
      clear hlen hu hqq hq hown
      go_wp2_with fail
      have hun : Hid (m + 1 ≤ 1000) := by
        show m + 1 ≤ 1000
        rw [← HU.out.hlen]
        refine Nat.le_trans (digs_len_mono (by omega) (show (q : Int) ≤ (a.natAbs : Int) by have := HQ.out; have := Nat.div_le_self a.natAbs (10 ^ (9 * j)); omega)) ?_
        rw [Hx.out.hlen]; exact hnx
      refine (nword_own _ _ _ _ 1000000000 _ HU.out (by have := hun.out; omega) (by omega) (by omega)).mono ?_
      rintro e w1 ⟨⟨qb, qn, qc, rfl, hqw, hqb⟩, he2⟩
      have HQB : Hid (∀ k, u3.ownBlock = some k → k ≠ qb) := fun k hk => by
        have := (HO.out.lt k hk).2; omega
      rw [val_digs (by omega)] at hqw
      obtain ⟨r, hr, hr9⟩ : ∃ r : Nat, (val (digs (q : Int))) % 1000000000 = (r : Int) ∧ Hid (r = q % 1000000000) := by
        refine ⟨q % 1000000000, ?_, rfl⟩
        rw [val_digs (by omega)]; omega
      rw [hr]
      have HQW := Lib.hid hqw
      have hrb : r < 1000000000 := by have := hr9.out; omega
      clear hr hqw
      go_wp2_with fail
      obtain ⟨P, w2, hP, hw2, hbP, heP⟩ := one w1 73 (u8s (partB 0 r))
      have hw2' : w2 = w1.alloc (.cells #[.int .u8 0, .int .u8 0, .int .u8 0, .int .u8 0, .int .u8 0, .int .u8 0, .int .u8 0, .int .u8 0, .int .u8 0] 73) := hw2
      rw [← hw2', ← hP]
      have HP := Lib.hid hP
      clear hw2 hw2' hP
      go_loopw [5, 19] (fun rest i wr => ∃ k : Nat, k ≤ 9 ∧ i = .int .i64 k ∧ rest = .int .u32 ((r / 10 ^ k : Nat) : Int) ∧ Ext w1 wr ∧ Blk wr P 73 (u8s (partB k r))) (fun _ i _ => 9 - (intOf i).toNat)
      case atStart => exact ⟨0, by omega, rfl, by rw [Nat.pow_zero, Nat.div_one], heP, hbP⟩
      case round =>
        obtain ⟨k, hk, rfl, rfl, he3, hb3⟩ := hrel
        by_cases hk9 : k < 9
        · have hcell := hb3.cell (part_get hk9)
          have hfree := hb3.free (8 - k)
          obtain ⟨p, hp, hp8, HPk⟩ : ∃ p : Nat, (8 : Int) - (k : Int) = (p : Int) ∧ p < 9 ∧ Hid (p = 8 - k) := ⟨8 - k, by omega, by omega, rfl⟩
          rw [← HPk.out] at hcell hfree
          obtain ⟨s, hs, hs9⟩ : ∃ s, s = r / 10 ^ k ∧ s < 1000000000 := ⟨_, rfl, Nat.lt_of_le_of_lt (Nat.div_le_self _ _) hrb⟩
          rw [← hs]
          have HS := Lib.hid hs
          have HB3 := Lib.hid hb3
          clear hs hb3
          go_wp2
          go_roundw
          case rel =>
            refine ⟨k + 1, by omega, by go_num, ?_, he3.store' HP (Nat.le_refl _) _ _, ?_⟩
            · rw [Nat.pow_succ, ← Nat.div_div_eq_div_mul, ← HS.out]
              first | rfl | (congr 1; omega)
            · have := HB3.out.set p (.int .u8 ((dig s).toNat : Int))
              rw [u8s_set, HPk.out, HS.out, part_set hk9] at this
              rw [HPk.out, show (48 + (s : Int) % 10) = ((dig s).toNat : Int) by rw [dig_toNat]; omega, HS.out]
              exact this
          case measure => simp [intOf]; omega
        · obtain rfl : k = 9 := by omega
          have hconv : (convert 74 9 (.slice (some ⟨P, 0, none⟩) 9 9)).run Tryz.prog wr = .ok (.string ⟨(padB 9 r).toArray⟩) wr := by
            have := run_convert_bytes_arg (P := Tryz.prog) wr 74 5 Tryz.underlying74 Tryz.underlying5 P 0 9 9 (nums (padB 9 r)) (by rw [nums_length, padB_length]) (fun i hi => by
              rw [Nat.zero_add]
              refine hb3.cell ?_
              rw [part_nine, u8s_get (by rw [padB_length]; exact hi)]
              simp [nums, padB_length, hi]) 9 Tryz.underlying9
            rwa [strOf_nums] at this
          have hjb : Hid (j ≤ 32000) := chunk_bound (K := 32000) (by rw [← HQ.out]; exact HQ0.out) (fits_blen HA.out)
          have hO3 := ownsRow_ext HO.out (he2.trans he3)
          have HO3 := Lib.hid hO3
          have HP9 : Hid (P < wr.heap.size) := hb3.lt
          have HSz3 : Hid (w0.heap.size ≤ wr.heap.size) := Nat.le_trans he1.size (Nat.le_trans he2.size he3.size)
          clear hO3 hb3
          go_wp2_with (at_builtin; refine wpList_append_own _ rfl _ _ 49 rfl w0.heap.size 9 i0 (.string ⟨#[]⟩) 1 16 Tryz.underlying49 hi hz0 hz1 hz2 rfl (by decide) _ _ _ rfl (HO3.out.alloc _) ⟨_, 0, none⟩ 1 1 [.string ⟨(padB 9 r).toArray⟩] rfl rfl (one_new wr _ _) (by simp [Value.oneCell']) (by have := hjb.out; simp only [maxLen]; omega) (by have := hjb.out; omega) (by have := HSz3.out; rw [World.size_alloc']; omega) ?_; intro v' w5 hown' hgrow HH)
          have hO5 : w5.ownsRow w0.heap.size 9 1 v' (j + 1) ((chunks a.natAbs (j + 1)).map encStr) := by
            rw [chunks_succ, List.map_append, ← HQ.out, ← padB_mod, show q % 10 ^ 9 = r from hr9.out.symm]
            exact hown'
          have hE5 := ((he1.trans (he2.trans he3)).alloc _).grown hgrow (fun k hk => (HO3.out.lt k hk).1)
          have HO5 := Lib.hid hO5
          have hq5 : Words w5 (some ⟨qb, 0, none⟩) qn qc (digs ((a.natAbs / 10 ^ (9 * (j + 1)) : Nat) : Int)) := by
            rw [chunk_next, ← HQ.out]
            have h1 : ((q / 1000000000 : Nat) : Int) = (q : Int) / 1000000000 := by omega
            rw [h1]
            exact (HQW.out.ext (he3.alloc _)).grownOpt hgrow (fun b off e hk => HQB.out _ hk (by cases e; rfl))
          have HQ5 := Lib.hid hq5
          clear hO5 hq5 hown' hgrow HH
          go_wp2_with fail
          go_roundw
          case rel => exact ⟨j + 1, by have := hjb.out; omega, hE5, HO5.out, ⟨_, _, _, rfl, HQ5.out⟩⟩
          case measure =>
            rw [HM.out, mval_eq HQ5.out, val_digs (Int.natCast_nonneg _), chunk_next, ← HQ.out]
            have := HQ0.out
            omega
end Go.Proofs.YtddcgojpgdhefaaGreatDoor
/- Parsing decimal digits: the plain law. No program. -/
namespace Go.El
/-- A decimal digit. -/
def isD (b : UInt8) : Prop := 48 ≤ b.toNat ∧ b.toNat ≤ 57
def digitSet : List UInt8 := [48, 49, 50, 51, 52, 53, 54, 55, 56, 57]
theorem mem_digits (b : UInt8) : digitSet.contains b = true ↔ isD b := by
  unfold isD digitSet
  constructor
  · intro h
    simp at h
    rcases h with rfl | rfl | rfl | rfl | rfl | rfl | rfl | rfl | rfl | rfl <;> decide
  · rintro ⟨h1, h2⟩
    have h3 : b = UInt8.ofNat b.toNat := by simp
    generalize b.toNat = n at *
    subst h3
    have h4 : n = 48 ∨ n = 49 ∨ n = 50 ∨ n = 51 ∨ n = 52 ∨ n = 53 ∨ n = 54 ∨ n = 55 ∨ n = 56 ∨ n = 57 := by omega
    rcases h4 with rfl | rfl | rfl | rfl | rfl | rfl | rfl | rfl | rfl | rfl <;> decide
theorem dropNil {p : UInt8 → Bool} {l : List UInt8} : l.dropWhile p = [] ↔ ∀ b ∈ l, p b = true := by
  induction l with
  | nil => simp
  | cons a l ih =>
    rw [List.dropWhile_cons]
    by_cases h : p a = true
    · rw [if_pos h, ih]
      constructor
      · intro h2 b hb
        rcases List.mem_cons.1 hb with rfl | h3
        · exact h
        · exact h2 b h3
      · intro h2 b hb; exact h2 b (List.mem_cons_of_mem _ hb)
    · rw [if_neg h]
      constructor
      · intro h2; cases h2
      · intro h2; exact absurd (h2 a (List.mem_cons_self ..)) h
theorem trimS_nil {l cs : List UInt8} : Lib.trimS l cs = [] ↔ ∀ b ∈ l, cs.contains b = true := by
  unfold Lib.trimS Lib.trimLeftS Lib.trimRightS
  constructor
  · intro h
    have h1 : ∀ b ∈ (l.reverse.dropWhile (cs.contains ·)).reverse, cs.contains b = true := by
      intro b hb
      have := dropNil.1 h b hb
      simpa using this
    cases hr : l.reverse.dropWhile (cs.contains ·) with
    | nil =>
      intro b hb
      have := dropNil.1 hr b (List.mem_reverse.2 hb)
      simpa using this
    | cons x r =>
      have h2 := h1 x (by rw [hr]; simp)
      have h3 := List.head?_dropWhile_not (fun b => cs.contains b) l.reverse
      rw [hr] at h3
      simp at h3
      exact absurd h2 (by simp [h3])
  · intro h
    have h1 : l.reverse.dropWhile (cs.contains ·) = [] := dropNil.2 (fun b hb => h b (List.mem_reverse.1 hb))
    rw [h1]; rfl
/-- The number that digits spell. -/
def valD (acc : Nat) (l : List UInt8) : Nat := l.foldl (fun a c => a * 10 + (c.toNat - 48)) acc
theorem valD_append (acc : Nat) (a b : List UInt8) : valD acc (a ++ b) = valD (valD acc a) b := by simp [valD]
theorem valD_acc (acc : Nat) (l : List UInt8) : valD acc l = acc * 10 ^ l.length + valD 0 l := by
  induction l generalizing acc with
  | nil => simp [valD]
  | cons c l ih =>
    show valD (acc * 10 + (c.toNat - 48)) l = _ + valD (0 * 10 + (c.toNat - 48)) l
    rw [ih, ih (0 * 10 + (c.toNat - 48)), List.length_cons, Nat.pow_succ, Nat.zero_mul, Nat.zero_add, Nat.add_mul, Nat.mul_assoc, Nat.mul_comm 10, Nat.add_assoc]
theorem valD_lt {l : List UInt8} (h : ∀ b ∈ l, isD b) : valD 0 l < 10 ^ l.length := by
  induction l with
  | nil => simp [valD]
  | cons c l ih =>
    show valD (0 * 10 + (c.toNat - 48)) l < _
    rw [valD_acc, List.length_cons, Nat.pow_succ]
    have h1 := ih (fun b hb => h b (List.mem_cons_of_mem _ hb))
    have h2 := (h c (List.mem_cons_self ..)).2
    have h3 : (0 * 10 + (c.toNat - 48)) * 10 ^ l.length ≤ 9 * 10 ^ l.length := Nat.mul_le_mul_right _ (by omega)
    omega
theorem parseM_ok {M : Nat} (hM : M < 18446744073709551616) (l : List UInt8) (acc : Nat) (h : ∀ b ∈ l, isD b) (hb : (acc + 1) * 10 ^ l.length ≤ M + 1) : Lib.parseUintM M acc l = .ok (valD acc l) := by
  induction l generalizing acc with
  | nil => rfl
  | cons c l ih =>
    have h2 := h c (List.mem_cons_self ..)
    rw [List.length_cons, Nat.pow_succ] at hb
    have hp : 1 ≤ 10 ^ l.length := Nat.pow_pos (by omega)
    have h3 : (acc + 1) * 10 * 1 ≤ (acc + 1) * 10 * 10 ^ l.length := Nat.mul_le_mul_left _ hp
    have h4 : (acc + 1) * (10 ^ l.length * 10) = (acc + 1) * 10 * 10 ^ l.length := by rw [Nat.mul_comm (10 ^ _), Nat.mul_assoc]
    have h5 := h2.2
    have h6 := h2.1
    have h7 : (acc * 10 + (c.toNat - 48) + 1) * 10 ^ l.length ≤ (acc + 1) * 10 * 10 ^ l.length := Nat.mul_le_mul_right _ (by omega)
    rw [Lib.parseUintM, if_pos ⟨h6, h5⟩, if_neg (by omega), if_neg (by omega), ih _ (fun b hb => h b (List.mem_cons_of_mem _ hb)) (by omega)]
    rfl
theorem parse_chunk {l : List UInt8} (h : ∀ b ∈ l, isD b) (h1 : l ≠ []) (h9 : l.length ≤ 9) : Lib.parseUintB 32 l = .ok (valD 0 l) := by
  rw [Lib.parseUintB, if_neg h1]
  refine parseM_ok (by decide) l 0 h ?_
  have : 10 ^ l.length ≤ 10 ^ 9 := Nat.pow_le_pow_right (by omega) h9
  omega
theorem dig_isD (n : Nat) : isD (dig n) := by
  unfold isD; rw [dig_toNat]; omega
theorem decN_digits (n : Nat) : ∀ b ∈ decN n, isD b := by
  induction n using Nat.strongRecOn with
  | _ n ih =>
    by_cases h : n = 0
    · subst h; rw [decN_zero]; intro b hb; cases hb
    · rw [decN_pos h]
      intro b hb
      rcases List.mem_append.1 hb with h1 | h1
      · exact ih (n / 10) (by omega) b h1
      · rw [List.mem_singleton.1 h1]; exact dig_isD n
theorem valD_decN (n : Nat) : valD 0 (decN n) = n := by
  induction n using Nat.strongRecOn with
  | _ n ih =>
    by_cases h : n = 0
    · subst h; rw [decN_zero]; rfl
    · rw [decN_pos h, valD_append, ih (n / 10) (by omega)]
      show n / 10 * 10 + ((dig n).toNat - 48) = n
      rw [dig_toNat]; omega
/-- What Parse reads, where it reads something. -/
def parseZ (s : List UInt8) : Int := if Lib.hasPrefix s [45] then -((valD 0 (Lib.trimPrefix s [45]) : Nat) : Int) else ((valD 0 (Lib.trimPrefix s [45]) : Nat) : Int)
theorem pre_cons (l : List UInt8) : Lib.hasPrefix (45 :: l) [45] = true := by simp [Lib.hasPrefix]
theorem pre_dig {l : List UInt8} (h : ∀ b ∈ l, isD b) : Lib.hasPrefix l [45] = false := by
  cases l with
  | nil => rfl
  | cons c l =>
    have h1 := (h c (List.mem_cons_self ..)).1
    have h2 : ((45 : UInt8) == c) = false := by
      rw [beq_eq_false_iff_ne]
      intro e
      rw [← e] at h1
      exact absurd h1 (by decide)
    show ((45 : UInt8) == c && List.isPrefixOf [] l) = false
    rw [h2]; rfl
/-- A text is a sign and digits, and is read as its number. -/
theorem text_back (z : Int) : (∀ b ∈ Lib.trimPrefix (textL z) [45], isD b) ∧ parseZ (textL z) = z := by
  by_cases h0 : z = 0
  · subst h0; exact ⟨by intro b hb; have : b = 48 := by simpa [textL, Lib.trimPrefix, Lib.hasPrefix] using hb
                        subst this; exact ⟨by decide, by decide⟩, by decide⟩
  · by_cases h1 : z < 0
    · have e : textL z = 45 :: decN z.natAbs := by rw [textL, if_neg h0, if_pos h1]; rfl
      have e2 : Lib.trimPrefix (textL z) [45] = decN z.natAbs := by rw [e, Lib.trimPrefix, if_pos (pre_cons _)]; rfl
      refine ⟨by rw [e2]; exact decN_digits _, ?_⟩
      rw [parseZ, e2, e, if_pos (pre_cons _), valD_decN]; omega
    · have e : textL z = decN z.natAbs := by rw [textL, if_neg h0, if_neg h1]; rfl
      have hp := pre_dig (decN_digits z.natAbs)
      have e2 : Lib.trimPrefix (textL z) [45] = decN z.natAbs := by rw [e, Lib.trimPrefix, if_neg (by simp [hp])]
      refine ⟨by rw [e2]; exact decN_digits _, ?_⟩
      rw [parseZ, e2, e, if_neg (by simp [hp]), valD_decN]; omega
theorem textL_inj {a b : Int} (h : textL a = textL b) : a = b := by rw [← (text_back a).2, h, (text_back b).2]
theorem text_digits {s : List UInt8} (h : textL (parseZ s) = s) : ∀ b ∈ Lib.trimPrefix s [45], isD b := by
  have := (text_back (parseZ s)).1
  rwa [h] at this
end Go.El
/- integer.Parse, walked. -/
namespace Go.Proofs.YtddcgojpgdhefaaGreatDoor
open Go.RowKit Go.El
set_option linter.unusedVariables false
theorem lt_words {v n N : Nat} (h1 : v < 10 ^ n) (hl : n ≤ N) : v < 2 ^ (4 * N) := by
  have h2 : 10 ^ n ≤ 16 ^ n := Nat.pow_le_pow_left (by omega) _
  have h3 : 16 ^ n ≤ 16 ^ N := Nat.pow_le_pow_right (by omega) hl
  rw [show (16 : Nat) ^ N = 2 ^ (4 * N) by rw [show (16 : Nat) = 2 ^ 4 from rfl, ← Nat.pow_mul]] at h3
  omega
theorem valD_words {p : List UInt8} (hd : ∀ b ∈ p, isD b) (hl : p.length ≤ 4000) : ((valD 0 p : Nat) : Int) < pw 500 := by
  have h1 := valD_lt hd
  have h5 := lt_words h1 hl
  rw [show 4 * 4000 = 32 * 500 from rfl] at h5
  rw [pw_pow]
  exact_mod_cast h5
theorem chunk_val {p f : List UInt8} {m n : Nat} (hm : m = n % 9) (hf : f.length = m + 1) (h : p = [] ∨ (n + 1) % 9 = 0) : valD 0 p * 1000000000 + valD 0 f = valD 0 (p ++ f) := by
  rw [valD_append, valD_acc (valD 0 p) f, hf]
  rcases h with rfl | h
  · show 0 * 1000000000 + valD 0 f = 0 * 10 ^ (m + 1) + valD 0 f
    rw [Nat.zero_mul, Nat.zero_mul]
  · rw [show m + 1 = 9 by omega]
def zeroV : Value := .agg #[.bool false, .slice none 0 0]
theorem cutP (s : List UInt8) (w : World) : Calls Tryz.prog 66 #[.string ⟨s.toArray⟩, .string ⟨#[45]⟩] w fun e w' => e = .returned (.tuple #[.string ⟨(Lib.trimPrefix s [45]).toArray⟩, .bool (Lib.hasPrefix s [45])]) ∧ w' = w :=
  Tryz.strings_CutPrefix ⟨s.toArray⟩ ⟨#[45]⟩ w
theorem trimD (s : List UInt8) (w : World) (h : s.length ≤ 4000) : Calls Tryz.prog 67 #[.string ⟨s.toArray⟩, .string ⟨#[48, 49, 50, 51, 52, 53, 54, 55, 56, 57]⟩] w fun e w' => e = .returned (.string ⟨(Lib.trimS s digitSet).toArray⟩) ∧ Ext w w' :=
  Tryz.strings_Trim_ascii ⟨s.toArray⟩ ⟨#[48, 49, 50, 51, 52, 53, 54, 55, 56, 57]⟩ w (by show s.toArray.size ≤ _; simp; omega) (by decide) (by
    intro j b hb
    have : b ∈ ([48, 49, 50, 51, 52, 53, 54, 55, 56, 57] : List UInt8) := List.mem_of_getElem? hb
    simp at this
    rcases this with rfl | rfl | rfl | rfl | rfl | rfl | rfl | rfl | rfl | rfl <;> decide)
theorem pre_len (s : List UInt8) : (Lib.trimPrefix s [45]).length ≤ s.length := by
  unfold Lib.trimPrefix; split
  · rw [List.length_drop]; omega
  · exact Nat.le_refl _
set_option maxRecDepth 100000 in
theorem parse_long (s : List UInt8) (w : World) (h : 4000 < s.length) :
    Calls Tryz.prog 29 #[.string ⟨s.toArray⟩] w fun e w' => e = .returned (.tuple #[zeroV, .int .i64 2]) ∧ Ext w w' := by
  obtain ⟨B, w0, hB, hw0, hb0, he0⟩ := one w 24 [.bool false, .slice none 0 0]
  have hs : (4000 : Int) < (s.length : Int) := by omega
  go_enter Tryz.func29, Tryz.ntmps29
  go_wp2_with fail
  rw [← hw0, ← hB]
  exact bodyPost_ret (results_ct rfl rfl (intv_zero hb0)) rfl ⟨rfl, he0⟩
set_option maxRecDepth 100000 in
theorem parse_form (s : List UInt8) (w : World) (h : s.length ≤ 4000) (hd : ¬ ∀ b ∈ Lib.trimPrefix s [45], isD b) :
    Calls Tryz.prog 29 #[.string ⟨s.toArray⟩] w fun e w' => e = .returned (.tuple #[zeroV, .int .i64 3]) ∧ Ext w w' := by
  obtain ⟨B, w0, hB, hw0, hb0, he0⟩ := one w 24 [.bool false, .slice none 0 0]
  have hs : decide ((4000 : Int) < (s.length : Int)) = false := by simp; omega
  have hne : (Lib.trimS (Lib.trimPrefix s [45]) digitSet).isEmpty = false := by
    cases hc : Lib.trimS (Lib.trimPrefix s [45]) digitSet with
    | nil => exact absurd (fun b hb => (mem_digits b).1 (trimS_nil.1 hc b hb)) hd
    | cons _ _ => rfl
  have hl := Nat.le_trans (pre_len s) h
  go_enter Tryz.func29, Tryz.ntmps29
  go_wp2_with fail
  rw [← hw0, ← hB]
  have HB := Lib.hid hB
  clear hw0 hB
  refine (cutP s _).mono ?_
  rintro e w1 ⟨rfl, rfl⟩
  generalize Lib.trimPrefix s [45] = R at *
  generalize Lib.hasPrefix s [45] = neg at *
  go_wp2_with fail
  refine (trimD R _ hl).mono ?_
  rintro e w2 ⟨rfl, he2⟩
  generalize Lib.trimS R digitSet = T at *
  have hb2 := hb0.ext he2
  have ec0 := hb2.cell (i := 0) rfl
  have ec1 := hb2.cell (i := 1) rfl
  have ef0 := hb2.free 0
  have ef1 := hb2.free 1
  go_wp2_with fail
  exact bodyPost_ret (results_ct rfl rfl (intv_zero (hb2.set2 _ _))) rfl ⟨rfl, ((he0.trans he2).store' HB (by omega) 0 _).store' HB (by omega) 1 _⟩
/-- What is left of a text. -/
def vlen : Value → Nat
  | .string b => b.size
  | _ => 0
set_option maxRecDepth 100000 in
set_option maxHeartbeats 1000000 in
theorem parse_digits (s : List UInt8) (w : World) (h : s.length ≤ 4000) (hd : ∀ b ∈ Lib.trimPrefix s [45], isD b) :
    Calls Tryz.prog 29 #[.string ⟨s.toArray⟩] w fun e w' => ((textL (parseZ s) = s ∧ ∃ v, e = .returned (.tuple #[v, .int .i64 0]) ∧ IntV w' v (parseZ s)) ∨ (textL (parseZ s) ≠ s ∧ e = .returned (.tuple #[zeroV, .int .i64 3]))) ∧ Ext w w' := by
  obtain ⟨B, w0, hB, hw0, hb0, he0⟩ := one w 24 [.bool false, .slice none 0 0]
  have hs : decide ((4000 : Int) < (s.length : Int)) = false := by simp; omega
  have hne : Lib.trimS (Lib.trimPrefix s [45]) digitSet = [] := trimS_nil.2 fun b hb => (mem_digits b).2 (hd b hb)
  have hl := Nat.le_trans (pre_len s) h
  have HP : Hid (∀ n R, n = Lib.hasPrefix s [45] → R = Lib.trimPrefix s [45] → parseZ s = if n = true then -((valD 0 R : Nat) : Int) else ((valD 0 R : Nat) : Int)) := by
    rintro n R rfl rfl; rfl
  obtain ⟨R, hR⟩ : ∃ R, R = Lib.trimPrefix s [45] := ⟨_, rfl⟩
  obtain ⟨neg, hneg⟩ : ∃ n, n = Lib.hasPrefix s [45] := ⟨_, rfl⟩
  have hcut := cutP s
  rw [← hR, ← hneg] at hcut
  rw [← hR] at hd hl hne
  have HZ := Lib.hid (HP.out neg R hneg hR)
  have HD := Lib.hid hd
  have HC := Lib.hid hcut
  have HT := Lib.hid hne
  clear hd hR hneg HP hcut hne
  go_enter Tryz.func29, Tryz.ntmps29
  go_wp2_with fail
  rw [← hw0, ← hB]
  have HB := Lib.hid hB
  clear hw0 hB
  refine (HC.out _).mono ?_
  rintro e w1 ⟨rfl, rfl⟩
  go_wp2_with fail
  refine (trimD R _ hl).mono ?_
  rintro e w2 ⟨rfl, he2⟩
  rw [HT.out]
  have HB2 := Lib.hid (hb0.ext he2)
  have he3 := he0.trans he2
  clear hb0 he0 he2
  go_wp2_with fail
  go_loopw [4, 6] (fun u x wr => ∃ p r : List UInt8, p ++ r = R ∧ u = .string ⟨r.toArray⟩ ∧ (p = [] ∨ r.length % 9 = 0) ∧ Ext w2 wr ∧ (∃ xa xn xc, x = .slice xa xn xc ∧ Words wr xa xn xc (digs (valD 0 p : Nat)))) (fun u _ _ => vlen u)
  case atStart => exact ⟨[], R, rfl, rfl, Or.inl rfl, Ext.refl _, ⟨_, _, _, rfl, by rw [show ((valD 0 [] : Nat) : Int) = 0 from rfl, digs_zero]; exact Words.nil' _⟩⟩
  case round =>
    obtain ⟨p, r, hpr, rfl, hmod, he4, ⟨xa, xn, xc, rfl, hx⟩⟩ := hrel
    have HX := Lib.hid hx
    have HPR := Lib.hid hpr
    have HM := Lib.hid hmod
    clear hx hpr hmod
    cases r with
    | nil =>
      have hpR : p = R := by rw [← HPR.out, List.append_nil]
      have hw1 : ((valD 0 R : Nat) : Int) < pw 500 := valD_words HD.out hl
      have hxn : Hid (xn ≤ 500) := by
        show xn ≤ 500
        rw [← HX.out.hlen, hpR]
        exact digs_len_le (by omega) hw1
      have hzv : Hid (parseZ s = if neg = true then -(val (digs ((valD 0 p : Nat) : Int))) else val (digs ((valD 0 p : Nat) : Int))) := by
        rw [val_digs (by omega), hpR]; exact HZ.out
      have hzf : Hid (Fits (parseZ s) 1000) := by
        show Fits (parseZ s) 1000
        refine Fits.mono (k := 500) ?_ (by omega)
        unfold Fits
        rw [HZ.out]
        split <;> omega
      clear hpR hw1
      go_wp2_with fail
      refine (signed_any _ _ _ _ _ (parseZ s) _ HX.out (by have := hxn.out; omega) hzv.out).mono ?_
      rintro e w5 ⟨⟨sr, ar, nr, cr, rfl, hr⟩, he5⟩
      have HR := Lib.hid hr
      clear hr
      obtain ⟨C, w6, hC, hw6, hbC, heC⟩ := one w5 24 [.bool sr, .slice ar nr cr]
      go_wp2_with fail
      rw [← hw6, ← hC]
      clear hw6 hC
      refine (text_any _ (parseZ s) _ ⟨sr, ar, nr, cr, rfl, HR.out.ext heC⟩ hzf.out).mono ?_
      rintro e w7 ⟨rfl, he7⟩
      have hbB := (((HB2.out.ext he4).ext he5).ext heC).ext he7
      have hbC' := hbC.ext he7
      have bc0 := hbB.cell (i := 0) rfl
      have bc1 := hbB.cell (i := 1) rfl
      have bf0 := hbB.free 0
      have bf1 := hbB.free 1
      have cc0 := hbC'.cell (i := 0) rfl
      have cc1 := hbC'.cell (i := 1) rfl
      have cf0 := hbC'.free 0
      have cf1 := hbC'.free 1
      have heA : Ext w w7 := ((((he3.trans he4).trans he5).trans heC).trans he7)
      obtain ⟨T, hT⟩ : ∃ T, T = textL (parseZ s) := ⟨_, rfl⟩
      rw [← hT]
      by_cases hTs : T = s
      · have HTs : Hid (textL (parseZ s) = s) := by rw [← hT]; exact hTs
        rw [hTs]
        clear hTs hT
        go_wp2_with fail
        refine bodyPost_ret (results_ct rfl rfl (load_int (hbB.set2 _ _))) rfl ?_
        have hr := HR.out.ext (heC.trans he7)
        exact ⟨Or.inl ⟨HTs.out, _, rfl, _, _, _, _, rfl, hr.1, hr.2.keep2 hbB (by simp) (by simp) _ _⟩, (heA.store' HB (by omega) 0 _).store' HB (by omega) 1 _⟩
      · have HTs : Hid (textL (parseZ s) ≠ s) := by rw [← hT]; exact hTs
        have hTb : (T == s) = false := beq_eq_false_iff_ne.2 hTs
        clear hT hTs
        go_wp2_with fail
        refine bodyPost_ret (results_ct rfl rfl (load_int (hbB.set2 _ _))) rfl ?_
        exact ⟨Or.inr ⟨HTs.out, rfl⟩, (heA.store' HB (by omega) 0 _).store' HB (by omega) 1 _⟩
    | cons c r =>
      have hrl : (r.length : Int) ≤ 4000 := by
        have h1 := congrArg List.length HPR.out
        rw [List.length_append, List.length_cons] at h1
        omega
      obtain ⟨m, hm, hmr, hm9, HMm⟩ : ∃ m : Nat, (r.length : Int).tmod 9 = (m : Int) ∧ (m : Int) ≤ r.length ∧ m < 9 ∧ Hid (m = r.length % 9) :=
        ⟨r.length % 9, by rw [Int.tmod_eq_emod_of_nonneg (by omega)]; omega, by omega, by omega, rfl⟩
      have hx1 : (⟨(c :: r).toArray⟩ : ByteArray).extract 0 (m + 1) = ⟨((c :: r).take (m + 1)).toArray⟩ := by
        apply ByteArray.ext; rw [ByteArray.data_extract]; simp [List.extract]
      have hx2 : (⟨(c :: r).toArray⟩ : ByteArray).extract (m + 1) (r.length + 1) = ⟨(r.drop m).toArray⟩ := by
        apply ByteArray.ext; rw [ByteArray.data_extract]; simp [List.extract]
        rw [List.take_of_length_le (by simp)]
      obtain ⟨F, hF⟩ : ∃ F, F = c :: r.take m := ⟨_, rfl⟩
      have hFl : F.length = m + 1 := by rw [hF, List.length_cons, List.length_take]; omega
      have hFR : p ++ (F ++ r.drop m) = R := by
        rw [hF, List.cons_append, List.take_append_drop]; exact HPR.out
      have hFd : ∀ b ∈ F, isD b := fun b hb => HD.out b (by rw [← hFR]; simp [hb])
      have hPd : ∀ b ∈ p ++ F, isD b := fun b hb => HD.out b (by rw [← hFR, ← List.append_assoc]; exact List.mem_append_left _ hb)
      have hFne : F ≠ [] := fun e => by rw [e] at hFl; simp at hFl
      have hPl : (p ++ F).length ≤ 4000 := by
        have := congrArg List.length hFR
        rw [← List.append_assoc, List.length_append] at this
        omega
      have HV := Lib.hid (chunk_val (p := p) (f := F) HMm.out hFl (by
        rcases HM.out with h | h
        · exact Or.inl h
        · rw [List.length_cons] at h; exact Or.inr h))
      have HU := Lib.hid (parse_chunk hFd hFne (by rw [hFl]; omega))
      have HFl := Lib.hid hFl
      have HFb := Lib.hid (valD_lt hFd)
      have HFR := Lib.hid hFR
      have HPd := Lib.hid hPd
      have HPl := Lib.hid hPl
      have hxn : Hid (xn ≤ 500) := by
        show xn ≤ 500
        rw [← HX.out.hlen]
        exact digs_len_le (by omega) (valD_words (fun b hb => hPd b (List.mem_append_left _ hb)) (by rw [List.length_append] at hPl; omega))
      have hFs : (⟨F.toArray⟩ : ByteArray).size ≤ 9223372036854775806 := by show F.toArray.size ≤ _; simp; omega
      have HFs := Lib.hid hFs
      have hF' := hF.symm
      clear hF hFl hFR hFd hPd hFne hPl hFs
      go_wp2_with fail
      refine (Tryz.strconv_ParseUint_10_at32_ok ⟨F.toArray⟩ HFs.out (valD 0 F) HU.out _).mono ?_
      rintro e w5 ⟨rfl, hw5⟩
      have he5 : Ext wr w5 := by
        rcases hw5 with rfl | rfl
        · exact Ext.refl _
        · exact Lib.bytesWorld_below _ _ _
      clear hw5
      have hub : valD 0 F < 1000000000 := by
        have h1 := HFb.out
        rw [HFl.out] at h1
        have : 10 ^ (m + 1) ≤ 10 ^ 9 := Nat.pow_le_pow_right (by omega) (by omega)
        omega
      generalize hu : valD 0 F = u at hub ⊢
      have HUu := Lib.hid hu
      clear hu
      go_wp2_with fail
      refine (natural_any 1000000000 _ (by omega) (by omega)).mono ?_
      rintro e w6 ⟨⟨ka, kn, kc, rfl, hkw, hkn⟩, he6⟩
      have HKw := Lib.hid hkw
      clear hkw
      go_wp2_with fail
      refine (nmul_any _ _ _ _ _ _ _ _ _ (HX.out.ext (he5.trans he6)) HKw.out (by have := hxn.out; omega) (by omega)).mono ?_
      rintro e w7 ⟨⟨ma, mn, mc, rfl, hmw⟩, he7⟩
      rw [val_digs (show (0 : Int) ≤ ((valD 0 p : Nat) : Int) by omega), val_digs (show (0 : Int) ≤ 1000000000 by omega)] at hmw
      have HMw := Lib.hid hmw
      have hmn : Hid (mn ≤ 502) := by
        show mn ≤ 502
        rw [← hmw.hlen]
        refine digs_len_le (by omega) ?_
        rw [show (502 : Nat) = 500 + 2 from rfl, pw_add]
        have h1 := valD_words (fun b hb => HPd.out b (List.mem_append_left _ hb)) (by have := HPl.out; rw [List.length_append] at this; omega)
        have h2 : (1000000000 : Int) < pw 2 := by rw [pw_pow]; decide
        have h3 : ((valD 0 p : Nat) : Int) * 1000000000 ≤ ((valD 0 p : Nat) : Int) * pw 2 := Int.mul_le_mul_of_nonneg_left (Int.le_of_lt h2) (by omega)
        have h4 : ((valD 0 p : Nat) : Int) * pw 2 < pw 500 * pw 2 := Int.mul_lt_mul_of_pos_right h1 (pw_pos 2)
        omega
      clear hmw
      go_wp2_with fail
      refine (natural_any (u : Int) _ (by omega) (by omega)).mono ?_
      rintro e w8 ⟨⟨va, vn, vc, rfl, hvw, hvn⟩, he8⟩
      have HVw := Lib.hid hvw
      clear hvw
      go_wp2_with fail
      refine (nadd_any _ _ _ _ _ _ _ _ _ (HMw.out.ext he8) HVw.out (by have := hmn.out; omega) (by omega)).mono ?_
      rintro e w9 ⟨⟨sa, sn, sc, rfl, hsw⟩, he9⟩
      rw [val_digs (show (0 : Int) ≤ ((valD 0 p : Nat) : Int) * 1000000000 by omega), val_digs (show (0 : Int) ≤ (u : Int) by omega), show ((valD 0 p : Nat) : Int) * 1000000000 + (u : Int) = ((valD 0 p * 1000000000 + u : Nat) : Int) by omega, ← HUu.out, HV.out] at hsw
      have HSw := Lib.hid hsw
      clear hsw
      go_wp2_with fail
      go_roundw
      case rel => exact ⟨p ++ F, r.drop m, by rw [List.append_assoc]; exact HFR.out, rfl, Or.inr (by rw [List.length_drop]; have := HMm.out; omega), he4.trans ((((he5.trans he6).trans he7).trans he8).trans he9), ⟨_, _, _, rfl, HSw.out⟩⟩
      case measure =>
        show (r.drop m).toArray.size < (c :: r).toArray.size
        simp; omega
/-- integer.Parse -/
theorem parse_any (s : List UInt8) (w : World) :
    Calls Tryz.prog 29 #[.string ⟨s.toArray⟩] w fun e w' => ((4000 < s.length ∧ e = .returned (.tuple #[zeroV, .int .i64 2])) ∨ (s.length ≤ 4000 ∧ textL (parseZ s) = s ∧ ∃ v, e = .returned (.tuple #[v, .int .i64 0]) ∧ IntV w' v (parseZ s)) ∨ (s.length ≤ 4000 ∧ textL (parseZ s) ≠ s ∧ e = .returned (.tuple #[zeroV, .int .i64 3]))) ∧ Ext w w' := by
  by_cases h : 4000 < s.length
  · exact (parse_long s w h).mono fun e w' hh => ⟨Or.inl ⟨h, hh.1⟩, hh.2⟩
  · by_cases hd : ∀ b ∈ Lib.trimPrefix s [45], isD b
    · refine (parse_digits s w (by omega) hd).mono fun e w' hh => ⟨Or.inr ?_, hh.2⟩
      rcases hh.1 with h1 | h1
      · exact Or.inl ⟨by omega, h1.1, h1.2⟩
      · exact Or.inr ⟨by omega, h1.1, h1.2⟩
    · exact (parse_form s w (by omega) hd).mono fun e w' hh => ⟨Or.inr (Or.inr ⟨by omega, fun e => hd (text_digits e), hh.1⟩), hh.2⟩
end Go.Proofs.YtddcgojpgdhefaaGreatDoor
