/- The reference's texts: the plain law, Text and Parse walked. -/
import Derived.Test.YtddcgojpgdhefaaGreatDoorRefF
import Derived.Test.YtddcgojpgdhefaaGreatDoorTextA
namespace Go.El
theorem decN_len {n k : Nat} (h : n < 10 ^ k) : (decN n).length ≤ k := by
  rw [← trim_pad h]
  exact Nat.le_trans (dropWhile_len _ _) (by rw [padB_length]; exact Nat.le_refl _)
theorem decN_lt (n : Nat) : n < 10 ^ (decN n).length := by
  induction n using Nat.strongRecOn with
  | ind n ih =>
    by_cases h : n = 0
    · subst h; rw [decN_zero]; simp
    · rw [decN_pos h, List.length_append, List.length_singleton, Nat.pow_succ]
      have := ih (n / 10) (by omega)
      omega
theorem dec_len_fits {a : Int} {K : Nat} (h : Fits a K) : (decN a.natAbs).length ≤ 32 * K := by
  refine decN_len ?_
  unfold Fits at h
  rw [pw_pow] at h
  exact Nat.lt_of_lt_of_le (Int.ofNat_lt.1 h) (Nat.pow_le_pow_left (by omega) _)
theorem decN_valD : ∀ (k : Nat) (l : List UInt8), l.length = k → (∀ b ∈ l, isD b) → l ≠ [] → l.head? ≠ some 48 → decN (valD 0 l) = l := by
  intro k
  induction k with
  | zero => intro l hl _ hne _; exact absurd (List.eq_nil_of_length_eq_zero hl) hne
  | succ k ih =>
    intro l hl hd hne hh
    obtain ⟨m, c, rfl⟩ : ∃ m c, l = m ++ [c] := ⟨l.dropLast, l.getLast hne, (List.dropLast_concat_getLast hne).symm⟩
    have hc := hd c (by simp)
    unfold isD at hc
    rw [valD_append]
    show decN (valD 0 m * 10 + (c.toNat - 48)) = _
    have hdig : ∀ n : Nat, n % 10 = c.toNat - 48 → dig n = c := by
      intro n hn
      apply UInt8.toNat.inj
      rw [dig_toNat, hn]; omega
    cases m with
    | nil =>
      have h48 : c.toNat ≠ 48 := by
        intro e
        apply hh
        have : c = 48 := UInt8.toNat.inj e
        rw [this]; rfl
      rw [show valD 0 [] = 0 from rfl, decN_pos (by omega), hdig _ (by omega), show (0 * 10 + (c.toNat - 48)) / 10 = 0 by omega, decN_zero]
    | cons a m =>
      have h1 := ih (a :: m) (by simpa using hl) (fun b hb => hd b (List.mem_append_left _ hb)) (by simp) (by simpa using hh)
      have h2 : valD 0 (a :: m) ≠ 0 := by
        intro e
        rw [e, decN_zero] at h1
        cases h1
      rw [decN_pos (by omega), hdig _ (by omega), show (valD 0 (a :: m) * 10 + (c.toNat - 48)) / 10 = valD 0 (a :: m) by omega, h1]
theorem decN_head {n : Nat} (h : n ≠ 0) : (decN n).head? ≠ some 48 := by
  induction n using Nat.strongRecOn with
  | _ n ih =>
    rw [decN_pos h]
    by_cases h0 : n / 10 = 0
    · rw [h0, decN_zero]
      intro e
      have : dig n = 48 := by simpa using e
      have := congrArg UInt8.toNat this
      rw [dig_toNat] at this
      have h5 : (48 : UInt8).toNat = 48 := rfl
      omega
    · have h1 := ih (n / 10) (by omega) h0
      rw [List.head?_append]
      cases hd : decN (n / 10) with
      | nil => exact absurd hd (decN_ne_nil h0)
      | cons a l => rw [hd] at h1; simpa using h1
theorem pre_split (s : List UInt8) : s = (if Lib.hasPrefix s [45] = true then [45] else []) ++ Lib.trimPrefix s [45] := by
  cases s with
  | nil => rfl
  | cons c l =>
    by_cases h : c = 45
    · subst h
      rw [if_pos (pre_cons _), Lib.trimPrefix, if_pos (pre_cons _)]; rfl
    · have hp : Lib.hasPrefix (c :: l) [45] = false := by
        show ((45 : UInt8) == c && List.isPrefixOf [] l) = false
        rw [beq_eq_false_iff_ne.2 (Ne.symm h)]; rfl
      rw [if_neg (by simp [hp]), Lib.trimPrefix, if_neg (by simp [hp])]; rfl
theorem parse_good {s : List UInt8} (hd : ∀ b ∈ Lib.trimPrefix s [45], isD b) (hne : Lib.trimPrefix s [45] ≠ []) (h : (Lib.trimPrefix s [45]).head? ≠ some 48 ∨ s = [48]) : textL (parseZ s) = s := by
  by_cases h0 : s = [48]
  · subst h0; decide
  · have hh := h.resolve_right h0
    have hv := decN_valD _ _ rfl hd hne hh
    have hv0 : valD 0 (Lib.trimPrefix s [45]) ≠ 0 := by
      intro e; rw [e, decN_zero] at hv; exact hne hv.symm
    have hs := pre_split s
    unfold parseZ
    cases hp : Lib.hasPrefix s [45] with
    | true =>
      rw [hp, if_pos rfl] at hs
      rw [if_pos rfl, textL, if_neg (by omega), if_pos (by omega), Int.natAbs_neg, Int.natAbs_natCast, hv]
      exact hs.symm
    | false =>
      rw [hp, if_neg (by simp)] at hs
      rw [if_neg (by simp), textL, if_neg (by omega), if_neg (by omega), Int.natAbs_natCast, hv]
      exact hs.symm
theorem text_shape {s : List UInt8} (h : textL (parseZ s) = s) : s = [48] ∨ (Lib.trimPrefix s [45] ≠ [] ∧ (Lib.trimPrefix s [45]).head? ≠ some 48) := by
  by_cases h0 : parseZ s = 0
  · rw [h0] at h; exact Or.inl h.symm
  · refine Or.inr ?_
    have key : ∀ z : Int, z ≠ 0 → Lib.trimPrefix (textL z) [45] = decN z.natAbs := by
      intro z h0
      by_cases h1 : z < 0
      · have e : textL z = 45 :: decN z.natAbs := by rw [textL, if_neg h0, if_pos h1]; rfl
        rw [e, Lib.trimPrefix, if_pos (pre_cons _)]; rfl
      · have e : textL z = decN z.natAbs := by rw [textL, if_neg h0, if_neg h1]; rfl
        have hp := pre_dig (decN_digits z.natAbs)
        rw [e, Lib.trimPrefix, if_neg (by simp [hp])]
    have e2 := key _ h0
    rw [h] at e2
    rw [e2]
    exact ⟨decN_ne_nil (by omega), decN_head (by omega)⟩
end Go.El
namespace Go.Proofs.YtddcgojpgdhefaaGreatDoor
open Go.RowKit Go.El
set_option linter.unusedVariables false
set_option maxRecDepth 100000 in
set_option maxHeartbeats 1000000 in
/-- ref.Text -/
theorem rtext_any (x : Value) (a : Int) (w : World) (hx : IntV w x a) (ha : Fits a 1000) :
    Calls Tryz.prog 82 #[x] w fun e w' => e = .returned (.string ⟨(textL a).toArray⟩) ∧ Ext w w' := by
  obtain ⟨na, ax, nx, cx, rfl, hna, hwx⟩ := hx
  have hnx := ha.len
  rw [hwx.hlen] at hnx
  have Hx := Lib.hid hwx
  have HNa := Lib.hid hna
  clear hwx hna
  obtain ⟨B, w0, hB, hw0, hb0, he0⟩ := one w 24 [.bool na, .slice ax nx cx]
  by_cases ha0 : a = 0
  · subst ha0
    obtain rfl : nx = 0 := by have := Hx.out.hlen; rw [Int.natAbs_zero, show ((0 : Nat) : Int) = 0 from rfl, digs_zero] at this; exact this.symm
    clear Hx
    go_enter Tryz.func82, Tryz.ntmps82
    go_wp2_with fail
    go_ret
    rw [← hw0]
    exact ⟨rfl, he0⟩
  · have hlen := digs_pos_len (show 0 < (a.natAbs : Int) by omega)
    rw [Hx.out.hlen] at hlen
    have hn0 : ((nx : Int) == 0) = false := by simp; omega
    have HA := Lib.hid ha
    have HA0 := Lib.hid ha0
    clear ha ha0
    go_enter Tryz.func82, Tryz.ntmps82
    go_wp2_with fail
    rw [← hw0, ← hB]
    have c0 := hb0.cell (i := 0) rfl
    have HX0 := Lib.hid (Hx.out.ext he0)
    clear hw0 hB hb0 Hx
    go_loopw [3, 4] (fun o u wr => ∃ (M : Nat) (L : List UInt8), o = .string ⟨L.toArray⟩ ∧ Hid (decN a.natAbs = decN M ++ L) ∧ Hid (M ≤ a.natAbs) ∧ Ext w0 wr ∧ (∃ ua un uc, u = .slice ua un uc ∧ Hid (Words wr ua un uc (digs (M : Int))))) (fun _ u wr => mval wr u)
    case atStart => exact ⟨a.natAbs, [], rfl, by show decN a.natAbs = decN a.natAbs ++ []; rw [List.append_nil], Nat.le_refl _, Ext.refl _, ⟨_, _, _, rfl, HX0⟩⟩
    case round =>
      obtain ⟨M, L, rfl, HL, HM, he1, ⟨ua, un, uc, rfl, HU⟩⟩ := hrel
      by_cases hM : M = 0
      · subst hM
        obtain rfl : un = 0 := by have := HU.out.hlen; rw [show ((0 : Nat) : Int) = 0 from rfl, digs_zero] at this; exact this.symm
        have hl : Hid (decN a.natAbs = L) := by have := HL.out; rwa [decN_zero, List.nil_append] at this
        have hll : Hid (L.length ≤ 40000) := by
          rw [← hl.out]
          exact Nat.le_trans (dec_len_fits HA.out) (by omega)
        have hlb : 1 + L.length ≤ 9223372036854775807 := by have := hll.out; omega
        have c1 := he1.cell c0
        cases na with
        | true =>
          have hT2 : Hid (textL a = [45] ++ L) := by
            show textL a = _
            rw [textL, if_neg HA0.out, if_pos (of_decide_eq_true HNa.out.symm), hl.out]
          go_wp2_with fail
          go_ret
          rw [hT2.out, ← ba_append]
          exact ⟨rfl, he0.trans he1⟩
        | false =>
          have hT2 : Hid (textL a = L) := by
            show textL a = _
            rw [textL, if_neg HA0.out, if_neg (of_decide_eq_false HNa.out.symm), hl.out]; rfl
          go_wp2_with fail
          go_ret
          rw [hT2.out]
          exact ⟨rfl, he0.trans he1⟩
      · have hlen := digs_pos_len (show 0 < (M : Int) by omega)
        rw [HU.out.hlen] at hlen
        have hun : Hid (un ≤ 1000) := by
          show un ≤ 1000
          rw [← HU.out.hlen]
          have h1 := HM.out
          refine digs_len_le (by omega) ?_
          have h2 := HA.out
          unfold Fits at h2
          omega
        obtain ⟨m, rfl⟩ : ∃ m, un = m + 1 := ⟨un - 1, by omega⟩
        have HM0 := Lib.hid hM
        have hLl : Hid (L.length ≤ 40000) := by
          have h1 := congrArg List.length HL.out
          rw [List.length_append] at h1
          have h3 := dec_len_fits HA.out
          show L.length ≤ 40000
          omega
        clear hlen hM
        go_wp2_with fail
        refine (rshortly _ _ _ _ 10 _ HU.out (by have := hun.out; omega) (by omega) (by omega)).mono ?_
        rintro e w1 ⟨⟨qb, qn, qc, rfl, hqw, hqb⟩, he2⟩
        rw [val_digs (by omega)] at hqw
        obtain ⟨r, hr, hr9⟩ : ∃ r : Nat, (val (digs (M : Int))) % 10 = (r : Int) ∧ Hid (r = M % 10) := by
          refine ⟨M % 10, ?_, rfl⟩
          rw [val_digs (by omega)]; omega
        rw [hr]
        have hrb : (r : Int) < 10 := by have := hr9.out; omega
        have hrb0 : (0 : Int) ≤ (r : Int) := by omega
        have HQW := Lib.hid hqw
        have hlb : 1 + L.length ≤ 9223372036854775807 := by have := hLl.out; omega
        have hdg : (48 + (r : Int)) = ((dig M).toNat : Int) := by rw [dig_toNat]; have := hr9.out; omega
        have hconv : (convert 74 9 (.slice (some ⟨w1.heap.size, 0, none⟩) 1 1)).run Tryz.prog (w1.alloc (.cells #[.int .u8 (48 + (r : Int))] 5)) = .ok (.string ⟨#[dig M]⟩) (w1.alloc (.cells #[.int .u8 (48 + (r : Int))] 5)) := by
          rw [hdg]
          have := run_convert_bytes_arg (P := Tryz.prog) (w1.alloc (.cells #[.int .u8 ((dig M).toNat : Int)] 5)) 74 5 Tryz.underlying74 Tryz.underlying5 w1.heap.size 0 1 1 (nums [dig M]) rfl (fun i hi => by
            obtain rfl : i = 0 := by omega
            exact (Blk.new w1 5 [Value.int .u8 ((dig M).toNat : Int)]).cell (i := 0) rfl) 9 Tryz.underlying9
          rwa [strOf_nums] at this
        have happ : (⟨#[dig M]⟩ : ByteArray) ++ ⟨L.toArray⟩ = ⟨(dig M :: L).toArray⟩ := ba_append [dig M] L
        have HAp := Lib.hid happ
        clear hr hqw hdg happ
        go_wp2_with fail
        go_roundw
        case rel =>
          refine ⟨M / 10, dig M :: L, by rw [HAp.out], ?_, ?_, (he1.trans he2).alloc _, ⟨_, _, _, rfl, ?_⟩⟩
          · show decN a.natAbs = _
            rw [HL.out, decN_pos HM0.out]; simp
          · have := HM.out
            show M / 10 ≤ a.natAbs
            omega
          · show Words _ _ _ _ (digs ((M / 10 : Nat) : Int))
            rw [show ((M / 10 : Nat) : Int) = (M : Int) / 10 by omega]
            exact HQW.out.ext ((Ext.refl w1).alloc _)
        case measure =>
          have h1 : Words (w1.alloc (.cells #[.int .u8 (48 + (r : Int))] 5)) (some ⟨qb, 0, none⟩) qn qc (digs ((M / 10 : Nat) : Int)) := by
            rw [show ((M / 10 : Nat) : Int) = (M : Int) / 10 by omega]
            exact HQW.out.ext ((Ext.refl w1).alloc _)
          rw [mval_eq h1, mval_eq HU.out, val_digs (by omega), val_digs (by omega)]
          have := HM0.out
          omega
/-- What the reference's Parse leaves. -/
def RPost (s : List UInt8) (w : World) (e : Ending) (w' : World) : Prop :=
  ((textL (parseZ s) = s ∧ ∃ v, e = .returned (.tuple #[v, .int .i64 0]) ∧ IntV w' v (parseZ s)) ∨ (textL (parseZ s) ≠ s ∧ e = .returned (.tuple #[zeroV, .int .i64 3]))) ∧ Ext w w'
def GoodD (s D : List UInt8) : Prop := D = Lib.trimPrefix s [45] ∧ textL (parseZ s) = s ∨ D = Lib.trimPrefix s [45] ∧ D ≠ [] ∧ (D.head? ≠ some 48 ∨ s = [48])
theorem RPost.bad {s D : List UInt8} {w w' : World} (h : ¬ ∀ b ∈ D, isD b) (hD : GoodD s D) (he : Ext w w') : RPost s w (.returned (.tuple #[zeroV, .int .i64 3])) w' := by
  have hd : D = Lib.trimPrefix s [45] := by rcases hD with h | h; exact h.1; exact h.1
  subst hd
  exact ⟨Or.inr ⟨fun e => h (text_digits e), rfl⟩, he⟩
theorem RPost.good {s D : List UInt8} {w w' : World} {v : Value} (h : ∀ b ∈ D, isD b) (hD : GoodD s D) (hv : IntV w' v (parseZ s)) (he : Ext w w') : RPost s w (.returned (.tuple #[v, .int .i64 0])) w' := by
  refine ⟨Or.inl ⟨?_, v, rfl, hv⟩, he⟩
  rcases hD with h1 | h1
  · exact h1.2
  · have h0 := h1.1
    subst h0
    exact parse_good h h1.2.1 h1.2.2
theorem RPost.err {s : List UInt8} {w w' : World} (h : s ≠ [48]) (hD : Lib.trimPrefix s [45] = [] ∨ (Lib.trimPrefix s [45]).head? = some 48) (he : Ext w w') : RPost s w (.returned (.tuple #[zeroV, .int .i64 3])) w' := by
  refine ⟨Or.inr ⟨fun e => ?_, rfl⟩, he⟩
  rcases text_shape e with h1 | h1
  · exact h h1
  · rcases hD with h2 | h2
    · exact h1.1 h2
    · exact h1.2 h2
theorem ba_drop_to (T : List UInt8) (k : Nat) : (⟨T.toArray⟩ : ByteArray).extract k T.length = ⟨(T.drop k).toArray⟩ := by
  apply ByteArray.ext; rw [ByteArray.data_extract]; simp [List.extract]
  rw [List.take_of_length_le (by simp)]
set_option maxRecDepth 100000 in
theorem rparse_long (s : List UInt8) (w : World) (h : 4000 < s.length) :
    Calls Tryz.prog 30 #[.string ⟨s.toArray⟩] w fun e w' => e = .returned (.tuple #[zeroV, .int .i64 2]) ∧ Ext w w' := by
  obtain ⟨B, w0, hB, hw0, hb0, he0⟩ := one w 24 [.bool false, .slice none 0 0]
  have ec0 := hb0.cell (i := 0) rfl
  have ec1 := hb0.cell (i := 1) rfl
  have ef0 := hb0.free 0
  have ef1 := hb0.free 1
  have ze0 := setCell_same hb0 (i := 0) rfl
  have ze1 := setCell_same hb0 (i := 1) rfl
  have hq := hw0.symm
  have hp := hB.symm
  have HB := Lib.hid hB
  clear hw0 hB
  have hs : (4000 : Int) < (s.length : Int) := by omega
  go_enter Tryz.func30, Tryz.ntmps30
  go_wp2_with fail
  exact bodyPost_ret (results_ct rfl rfl (intv_zero hb0)) rfl ⟨rfl, he0⟩
set_option maxRecDepth 100000 in
theorem rparse_nil (w : World) :
    Calls Tryz.prog 30 #[.string ⟨([] : List UInt8).toArray⟩] w fun e w' => RPost ([] : List UInt8) w e w' := by
  obtain ⟨B, w0, hB, hw0, hb0, he0⟩ := one w 24 [.bool false, .slice none 0 0]
  have ec0 := hb0.cell (i := 0) rfl
  have ec1 := hb0.cell (i := 1) rfl
  have ef0 := hb0.free 0
  have ef1 := hb0.free 1
  have ze0 := setCell_same hb0 (i := 0) rfl
  have ze1 := setCell_same hb0 (i := 1) rfl
  have hq := hw0.symm
  have hp := hB.symm
  have HB := Lib.hid hB
  clear hw0 hB
  go_enter Tryz.func30, Tryz.ntmps30
  go_wp2_with fail
  exact bodyPost_ret (results_ct rfl rfl (intv_zero hb0)) rfl (RPost.err (by simp) (Or.inl rfl) he0)
set_option maxRecDepth 100000 in
theorem rparse_sign (w : World) :
    Calls Tryz.prog 30 #[.string ⟨([45] : List UInt8).toArray⟩] w fun e w' => RPost ([45] : List UInt8) w e w' := by
  obtain ⟨B, w0, hB, hw0, hb0, he0⟩ := one w 24 [.bool false, .slice none 0 0]
  have ec0 := hb0.cell (i := 0) rfl
  have ec1 := hb0.cell (i := 1) rfl
  have ef0 := hb0.free 0
  have ef1 := hb0.free 1
  have ze0 := setCell_same hb0 (i := 0) rfl
  have ze1 := setCell_same hb0 (i := 1) rfl
  have hq := hw0.symm
  have hp := hB.symm
  have HB := Lib.hid hB
  clear hw0 hB
  go_enter Tryz.func30, Tryz.ntmps30
  go_wp2_with fail
  exact bodyPost_ret (results_ct rfl rfl (intv_zero hb0)) rfl (RPost.err (by simp) (Or.inl rfl) he0)
set_option maxRecDepth 100000 in
theorem rparse_sign0 (r : List UInt8) (w : World) (h : (r.length : Int) ≤ 3998) :
    Calls Tryz.prog 30 #[.string ⟨(45 :: 48 :: r).toArray⟩] w fun e w' => RPost (45 :: 48 :: r) w e w' := by
  obtain ⟨B, w0, hB, hw0, hb0, he0⟩ := one w 24 [.bool false, .slice none 0 0]
  have ec0 := hb0.cell (i := 0) rfl
  have ec1 := hb0.cell (i := 1) rfl
  have ef0 := hb0.free 0
  have ef1 := hb0.free 1
  have ze0 := setCell_same hb0 (i := 0) rfl
  have ze1 := setCell_same hb0 (i := 1) rfl
  have hq := hw0.symm
  have hp := hB.symm
  have HB := Lib.hid hB
  clear hw0 hB
  have hx : (⟨(45 :: 48 :: r).toArray⟩ : ByteArray).extract 1 (r.length + 1 + 1) = ⟨(48 :: r).toArray⟩ := ba_drop_to (45 :: 48 :: r) 1
  go_enter Tryz.func30, Tryz.ntmps30
  go_wp2_with fail
  exact bodyPost_ret (results_ct rfl rfl (intv_zero hb0)) rfl (RPost.err (by simp) (Or.inr rfl) he0)
set_option maxRecDepth 100000 in
theorem rparse_zeros (d : UInt8) (r : List UInt8) (w : World) (h : (r.length : Int) ≤ 3998) :
    Calls Tryz.prog 30 #[.string ⟨(48 :: d :: r).toArray⟩] w fun e w' => RPost (48 :: d :: r) w e w' := by
  obtain ⟨B, w0, hB, hw0, hb0, he0⟩ := one w 24 [.bool false, .slice none 0 0]
  have ec0 := hb0.cell (i := 0) rfl
  have ec1 := hb0.cell (i := 1) rfl
  have ef0 := hb0.free 0
  have ef1 := hb0.free 1
  have ze0 := setCell_same hb0 (i := 0) rfl
  have ze1 := setCell_same hb0 (i := 1) rfl
  have hq := hw0.symm
  have hp := hB.symm
  have HB := Lib.hid hB
  clear hw0 hB
  go_enter Tryz.func30, Tryz.ntmps30
  go_wp2_with fail
  exact bodyPost_ret (results_ct rfl rfl (intv_zero hb0)) rfl (RPost.err (by simp) (Or.inr rfl) he0)
set_option maxRecDepth 100000 in
set_option maxHeartbeats 4000000 in
theorem rparse_neg (d : UInt8) (r : List UInt8) (w : World) (h : (r.length : Int) ≤ 3998) (hd : d ≠ 48) :
    Calls Tryz.prog 30 #[.string ⟨(45 :: d :: r).toArray⟩] w fun e w' => RPost (45 :: d :: r) w e w' := by
  obtain ⟨B, w0, hB, hw0, hb0, he0⟩ := one w 24 [.bool false, .slice none 0 0]
  have ec0 := hb0.cell (i := 0) rfl
  have ec1 := hb0.cell (i := 1) rfl
  have ef0 := hb0.free 0
  have ef1 := hb0.free 1
  have ze0 := setCell_same hb0 (i := 0) rfl
  have ze1 := setCell_same hb0 (i := 1) rfl
  have hq := hw0.symm
  have hp := hB.symm
  have HB := Lib.hid hB
  clear hw0 hB
  have hx : (⟨(45 :: d :: r).toArray⟩ : ByteArray).extract 1 (r.length + 1 + 1) = ⟨(d :: r).toArray⟩ := ba_drop_to (45 :: d :: r) 1
  obtain ⟨di, hdi⟩ : ∃ di : Int, di = (d.toNat : Int) := ⟨_, rfl⟩
  have g45 : (((⟨(45 :: d :: r).toArray⟩ : ByteArray)[0]'(Nat.zero_lt_succ _)).toNat : Int) = 45 := rfl
  have g1 : (((⟨(d :: r).toArray⟩ : ByteArray)[0]'(Nat.zero_lt_succ _)).toNat : Int) = di := by rw [hdi]; rfl
  have d0 : (di == 48) = false := by
    rw [hdi]; simp only [beq_eq_false_iff_ne]
    intro e; exact hd (UInt8.toNat.inj (by simpa using Int.ofNat.inj e))
  have h0 : (d :: r).head? ≠ some 48 ∨ 45 :: d :: r = [48] := Or.inl (by simpa using hd)
  clear hdi hd
  have hpf : Lib.hasPrefix (45 :: d :: r) [45] = true := pre_cons _
  obtain ⟨D, hDe⟩ : ∃ D : List UInt8, D = d :: r := ⟨_, rfl⟩
  have htp : Lib.trimPrefix (45 :: d :: r) [45] = D := by rw [hDe]; exact rfl
  have HPz : Hid (∀ V : Int, V = ((valD 0 D : Nat) : Int) → parseZ (45 :: d :: r) = if true = true then -V else V) := by
    rintro V rfl
    rw [parseZ, htp, hpf]
  have HDD : Hid (GoodD (45 :: d :: r) D) := by
    refine Or.inr ⟨htp.symm, by rw [hDe]; simp, by rw [hDe]; exact h0⟩
  have HDl : Hid (D.length ≤ 4000) := by
    show D.length ≤ 4000
    rw [hDe]; simp; try omega
  have hDl : (D.length : Int) ≤ 4000 := by have := HDl.out; omega
  have HDe := Lib.hid hDe
  clear hDe htp hpf h0
  go_enter Tryz.func30, Tryz.ntmps30
  go_wp2_with fail
  clear ze0 ze1 ec0 ec1 ef0 ef1 hq hp
  try rw [← HDe.out]
  have hl0 := Words.of_blk (l := []) (Blk.new w0 27 (u32s [])) Wf.nil (by simp)
  have he1 := he0.alloc (.cells (u32s []).toArray 27)
  have hbx := hb0.alloc (.cells (u32s []).toArray 27)
  have HL0 := Lib.hid hl0
  have HBX := Lib.hid hbx
  clear hl0 hb0 he0 hbx
  obtain ⟨wz, hwz⟩ : ∃ wz, wz = w0.alloc (.cells (u32s []).toArray 27) := ⟨_, rfl⟩
  have hwz' : wz = w0.alloc (.cells #[] 27) := hwz
  rw [← hwz] at HL0 he1 HBX
  rw [← hwz']
  clear hwz hwz'
  go_loopw [6, 7] (fun lv i wr => ∃ (k : Nat) (la : Option Addr) (ln lc : Nat), k ≤ D.length ∧ i = .int .i64 k ∧ lv = .slice la ln lc ∧ Hid (Words wr la ln lc (digs ((valD 0 (D.take k) : Nat) : Int))) ∧ Hid (∀ b ∈ D.take k, isD b) ∧ Ext wz wr) (fun _ i _ => D.length - (intOf i).toNat)
  case atStart => exact ⟨0, _, _, _, Nat.zero_le _, rfl, rfl, by rw [List.take_zero, show ((valD 0 [] : Nat) : Int) = 0 from rfl, digs_zero]; exact HL0, by rw [List.take_zero]; exact fun b hb => absurd hb (by simp), Ext.refl _⟩
  case round =>
    obtain ⟨k, la, ln, lc, hk, rfl, rfl, HW, HD, he2⟩ := hrel
    have hln : Hid (ln ≤ 500) := by
      show ln ≤ 500
      rw [← HW.out.hlen]
      exact digs_len_le (by omega) (valD_words HD.out (by rw [List.length_take]; have := HDl.out; omega))
    by_cases hkn : k < D.length
    · obtain ⟨c, hc⟩ : ∃ c : UInt8, c = D[k] := ⟨_, rfl⟩
      obtain ⟨ci, hci⟩ : ∃ ci : Int, ci = (c.toNat : Int) := ⟨_, rfl⟩
      have g0 : (((⟨D.toArray⟩ : ByteArray)[k]'hkn).toNat : Int) = ci := by rw [hci, hc]; rfl
      have hci0 : 0 ≤ ci := by omega
      have hci1 : ci < 256 := by have := UInt8.toNat_lt c; omega
      have HC := Lib.hid hc
      have HCi := Lib.hid hci
      have hbx := HBX.out.ext he2
      clear hc hci
      by_cases h48 : ci < 48
      · have d1 : decide (ci < 48) = true := by simpa using h48
        have HN : Hid (¬ ∀ b ∈ D, isD b) := fun h => by
          have h1 := h c (by rw [HC.out]; exact List.getElem_mem _)
          have h2 := HCi.out
          unfold isD at h1
          omega
        have ec0 := hbx.cell (i := 0) rfl
        have ec1 := hbx.cell (i := 1) rfl
        have ef0 := hbx.free 0
        have ef1 := hbx.free 1
        go_wp2_with fail
        exact bodyPost_ret (results_ct rfl rfl (intv_zero (hbx.set2 _ _))) rfl (RPost.bad HN.out HDD.out (((he1.trans he2).store' HB (by omega) 0 _).store' HB (by omega) 1 _))
      · have d1 : decide (ci < 48) = false := by simpa using h48
        by_cases h57 : 57 < ci
        · have d2 : decide (57 < ci) = true := by simpa using h57
          have HN : Hid (¬ ∀ b ∈ D, isD b) := fun h => by
            have h1 := h c (by rw [HC.out]; exact List.getElem_mem _)
            have h2 := HCi.out
            unfold isD at h1
            omega
          have ec0 := hbx.cell (i := 0) rfl
          have ec1 := hbx.cell (i := 1) rfl
          have ef0 := hbx.free 0
          have ef1 := hbx.free 1
          go_wp2_with fail
          exact bodyPost_ret (results_ct rfl rfl (intv_zero (hbx.set2 _ _))) rfl (RPost.bad HN.out HDD.out (((he1.trans he2).store' HB (by omega) 0 _).store' HB (by omega) 1 _))
        · have d2 : decide (57 < ci) = false := by simpa using h57
          have hcd : isD c := by
            have h2 := HCi.out
            unfold isD
            omega
          have HV : Hid (valD 0 (D.take (k + 1)) = valD 0 (D.take k) * 10 + (c.toNat - 48)) := by
            show valD 0 (D.take (k + 1)) = _
            rw [List.take_succ_eq_append_getElem hkn, valD_append, ← HC.out]
            rfl
          have HD2 : Hid (∀ b ∈ D.take (k + 1), isD b) := by
            intro b hb
            rw [List.take_succ_eq_append_getElem hkn, ← HC.out] at hb
            rcases List.mem_append.1 hb with h1 | h1
            · exact HD.out b h1
            · rw [List.mem_singleton.1 h1]; exact hcd
          have hten := Words.of_blk (Blk.new wr 27 (u32s [10])) (Wf.nil.cons (show (0 : Int) ≤ 10 by omega) (by omega)) (show 1 ≤ 9223372036854775807 by omega)
          have hea := (Ext.refl wr).alloc (.cells (u32s [10]).toArray 27)
          have HTen := Lib.hid hten
          have HEa := Lib.hid hea
          clear hten hea hcd hbx
          go_wp2_with fail
          refine (rtimes la (some ⟨wr.heap.size, 0, none⟩) ln lc 1 1 _ [10] _ (HW.out.ext HEa.out) HTen.out (by have := hln.out; omega) (by omega)).mono ?_
          rintro e w3 ⟨⟨ma, mn, mc, rfl, hm⟩, he3⟩
          rw [val_one, val_digs (by omega)] at hm
          have HM := Lib.hid hm
          have hmn : Hid (mn ≤ 501) := by
            show mn ≤ 501
            rw [← hm.hlen]
            refine digs_len_le (by omega) ?_
            have h1 := valD_words HD.out (by rw [List.length_take]; have := HDl.out; omega)
            have h2 : pw 501 = 4294967296 * pw 500 := by rw [show 501 = 500 + 1 from rfl, pw]
            omega
          clear hm
          go_wp2_with fail
          refine (words_any (ci - 48) _ (by omega) (by omega)).mono ?_
          rintro e w4 ⟨⟨ca, cn, cc, rfl, hcw, hcn⟩, he4⟩
          have HCw := Lib.hid hcw
          clear hcw
          go_wp2_with fail
          refine (radded _ _ _ _ _ _ _ _ _ (HM.out.ext he4) HCw.out (by have := hmn.out; omega) (by omega)).mono ?_
          rintro e w5 ⟨⟨sa, sn, sc, rfl, hsw⟩, he5⟩
          rw [val_digs (by omega), val_digs (by omega), show ((valD 0 (D.take k) : Nat) : Int) * 10 + (ci - 48) = ((valD 0 (D.take (k + 1)) : Nat) : Int) by rw [HV.out, HCi.out]; have := HCi.out; omega] at hsw
          have HS := Lib.hid hsw
          clear hsw
          go_wp2_with fail
          go_roundw
          case rel =>
            first
            | exact ⟨k + 1, _, _, _, by omega, by go_num, rfl, HS, HD2, he2.trans (((HEa.out.trans he3).trans he4).trans he5)⟩
            | ((repeat apply Exists.intro); exact ⟨⟨k + 1, _, _, _, by omega, by go_num, rfl, HS, HD2, he2.trans (((HEa.out.trans he3).trans he4).trans he5)⟩, rfl⟩)
          case measure => simp [intOf]; omega
    · obtain rfl : k = D.length := by omega
      have HDa : Hid (∀ b ∈ D, isD b) := by
        have := HD.out
        rwa [List.take_length] at this
      have HWa := HW.out
      rw [List.take_length] at HWa
      have HWb := Lib.hid HWa
      have HZ := Lib.hid (HPz.out _ (val_digs (show 0 ≤ ((valD 0 D : Nat) : Int) by omega)))
      clear HWa
      go_wp2_with fail
      refine (rmade _ _ _ _ _ _ _ HWb.out (by have := hln.out; omega) HZ.out).mono ?_
      rintro e w3 ⟨⟨sr, ar, nr, cr, rfl, hr⟩, he3⟩
      have hbx := (HBX.out.ext he2).ext he3
      have ec0 := hbx.cell (i := 0) rfl
      have ec1 := hbx.cell (i := 1) rfl
      have ef0 := hbx.free 0
      have ef1 := hbx.free 1
      go_wp2_with fail
      refine bodyPost_ret (results_ct rfl rfl (load_int (hbx.set2 _ _))) rfl (RPost.good HDa.out HDD.out ?_ ((((he1.trans he2).trans he3).store' HB (by omega) 0 _).store' HB (by omega) 1 _))
      exact ⟨_, _, _, _, rfl, hr.1, hr.2.keep2 hbx (by simp) (by simp) _ _⟩
set_option maxRecDepth 100000 in
set_option maxHeartbeats 4000000 in
theorem rparse_pos (d : UInt8) (r : List UInt8) (w : World) (h : (r.length : Int) ≤ 3999) (hd : d ≠ 48) (hm : d ≠ 45) :
    Calls Tryz.prog 30 #[.string ⟨(d :: r).toArray⟩] w fun e w' => RPost (d :: r) w e w' := by
  obtain ⟨B, w0, hB, hw0, hb0, he0⟩ := one w 24 [.bool false, .slice none 0 0]
  have ec0 := hb0.cell (i := 0) rfl
  have ec1 := hb0.cell (i := 1) rfl
  have ef0 := hb0.free 0
  have ef1 := hb0.free 1
  have ze0 := setCell_same hb0 (i := 0) rfl
  have ze1 := setCell_same hb0 (i := 1) rfl
  have hq := hw0.symm
  have hp := hB.symm
  have HB := Lib.hid hB
  clear hw0 hB
  obtain ⟨di, hdi⟩ : ∃ di : Int, di = (d.toNat : Int) := ⟨_, rfl⟩
  have g1 : (((⟨(d :: r).toArray⟩ : ByteArray)[0]'(Nat.zero_lt_succ _)).toNat : Int) = di := by rw [hdi]; rfl
  have d0 : (di == 48) = false := by
    rw [hdi]; simp only [beq_eq_false_iff_ne]
    intro e; exact hd (UInt8.toNat.inj (by simpa using Int.ofNat.inj e))
  have d1 : (di == 45) = false := by
    rw [hdi]; simp only [beq_eq_false_iff_ne]
    intro e; exact hm (UInt8.toNat.inj (by simpa using Int.ofNat.inj e))
  have h0 : (d :: r).head? ≠ some 48 ∨ d :: r = [48] := Or.inl (by simpa using hd)
  have hpf0 : Lib.hasPrefix (d :: r) [45] = false := by
    show ((45 : UInt8) == d && List.isPrefixOf [] r) = false
    rw [beq_eq_false_iff_ne.2 (Ne.symm hm)]; rfl
  have htp0 : Lib.trimPrefix (d :: r) [45] = d :: r := by rw [Lib.trimPrefix, if_neg (by simp [hpf0])]
  clear hdi hd hm
  have hpf : Lib.hasPrefix (d :: r) [45] = false := hpf0
  obtain ⟨D, hDe⟩ : ∃ D : List UInt8, D = d :: r := ⟨_, rfl⟩
  have htp : Lib.trimPrefix (d :: r) [45] = D := by rw [hDe]; exact htp0
  have HPz : Hid (∀ V : Int, V = ((valD 0 D : Nat) : Int) → parseZ (d :: r) = if false = true then -V else V) := by
    rintro V rfl
    rw [parseZ, htp, hpf]
  have HDD : Hid (GoodD (d :: r) D) := by
    refine Or.inr ⟨htp.symm, by rw [hDe]; simp, by rw [hDe]; exact h0⟩
  have HDl : Hid (D.length ≤ 4000) := by
    show D.length ≤ 4000
    rw [hDe]; simp; try omega
  have hDl : (D.length : Int) ≤ 4000 := by have := HDl.out; omega
  have HDe := Lib.hid hDe
  clear hDe htp hpf h0 htp0 hpf0
  go_enter Tryz.func30, Tryz.ntmps30
  go_wp2_with fail
  clear ze0 ze1 ec0 ec1 ef0 ef1 hq hp
  try rw [← HDe.out]
  have hl0 := Words.of_blk (l := []) (Blk.new w0 27 (u32s [])) Wf.nil (by simp)
  have he1 := he0.alloc (.cells (u32s []).toArray 27)
  have hbx := hb0.alloc (.cells (u32s []).toArray 27)
  have HL0 := Lib.hid hl0
  have HBX := Lib.hid hbx
  clear hl0 hb0 he0 hbx
  obtain ⟨wz, hwz⟩ : ∃ wz, wz = w0.alloc (.cells (u32s []).toArray 27) := ⟨_, rfl⟩
  have hwz' : wz = w0.alloc (.cells #[] 27) := hwz
  rw [← hwz] at HL0 he1 HBX
  rw [← hwz']
  clear hwz hwz'
  go_loopw [6, 7] (fun lv i wr => ∃ (k : Nat) (la : Option Addr) (ln lc : Nat), k ≤ D.length ∧ i = .int .i64 k ∧ lv = .slice la ln lc ∧ Hid (Words wr la ln lc (digs ((valD 0 (D.take k) : Nat) : Int))) ∧ Hid (∀ b ∈ D.take k, isD b) ∧ Ext wz wr) (fun _ i _ => D.length - (intOf i).toNat)
  case atStart => exact ⟨0, _, _, _, Nat.zero_le _, rfl, rfl, by rw [List.take_zero, show ((valD 0 [] : Nat) : Int) = 0 from rfl, digs_zero]; exact HL0, by rw [List.take_zero]; exact fun b hb => absurd hb (by simp), Ext.refl _⟩
  case round =>
    obtain ⟨k, la, ln, lc, hk, rfl, rfl, HW, HD, he2⟩ := hrel
    have hln : Hid (ln ≤ 500) := by
      show ln ≤ 500
      rw [← HW.out.hlen]
      exact digs_len_le (by omega) (valD_words HD.out (by rw [List.length_take]; have := HDl.out; omega))
    by_cases hkn : k < D.length
    · obtain ⟨c, hc⟩ : ∃ c : UInt8, c = D[k] := ⟨_, rfl⟩
      obtain ⟨ci, hci⟩ : ∃ ci : Int, ci = (c.toNat : Int) := ⟨_, rfl⟩
      have g0 : (((⟨D.toArray⟩ : ByteArray)[k]'hkn).toNat : Int) = ci := by rw [hci, hc]; rfl
      have hci0 : 0 ≤ ci := by omega
      have hci1 : ci < 256 := by have := UInt8.toNat_lt c; omega
      have HC := Lib.hid hc
      have HCi := Lib.hid hci
      have hbx := HBX.out.ext he2
      clear hc hci
      by_cases h48 : ci < 48
      · have d1 : decide (ci < 48) = true := by simpa using h48
        have HN : Hid (¬ ∀ b ∈ D, isD b) := fun h => by
          have h1 := h c (by rw [HC.out]; exact List.getElem_mem _)
          have h2 := HCi.out
          unfold isD at h1
          omega
        have ec0 := hbx.cell (i := 0) rfl
        have ec1 := hbx.cell (i := 1) rfl
        have ef0 := hbx.free 0
        have ef1 := hbx.free 1
        go_wp2_with fail
        exact bodyPost_ret (results_ct rfl rfl (intv_zero (hbx.set2 _ _))) rfl (RPost.bad HN.out HDD.out (((he1.trans he2).store' HB (by omega) 0 _).store' HB (by omega) 1 _))
      · have d1 : decide (ci < 48) = false := by simpa using h48
        by_cases h57 : 57 < ci
        · have d2 : decide (57 < ci) = true := by simpa using h57
          have HN : Hid (¬ ∀ b ∈ D, isD b) := fun h => by
            have h1 := h c (by rw [HC.out]; exact List.getElem_mem _)
            have h2 := HCi.out
            unfold isD at h1
            omega
          have ec0 := hbx.cell (i := 0) rfl
          have ec1 := hbx.cell (i := 1) rfl
          have ef0 := hbx.free 0
          have ef1 := hbx.free 1
          go_wp2_with fail
          exact bodyPost_ret (results_ct rfl rfl (intv_zero (hbx.set2 _ _))) rfl (RPost.bad HN.out HDD.out (((he1.trans he2).store' HB (by omega) 0 _).store' HB (by omega) 1 _))
        · have d2 : decide (57 < ci) = false := by simpa using h57
          have hcd : isD c := by
            have h2 := HCi.out
            unfold isD
            omega
          have HV : Hid (valD 0 (D.take (k + 1)) = valD 0 (D.take k) * 10 + (c.toNat - 48)) := by
            show valD 0 (D.take (k + 1)) = _
            rw [List.take_succ_eq_append_getElem hkn, valD_append, ← HC.out]
            rfl
          have HD2 : Hid (∀ b ∈ D.take (k + 1), isD b) := by
            intro b hb
            rw [List.take_succ_eq_append_getElem hkn, ← HC.out] at hb
            rcases List.mem_append.1 hb with h1 | h1
            · exact HD.out b h1
            · rw [List.mem_singleton.1 h1]; exact hcd
          have hten := Words.of_blk (Blk.new wr 27 (u32s [10])) (Wf.nil.cons (show (0 : Int) ≤ 10 by omega) (by omega)) (show 1 ≤ 9223372036854775807 by omega)
          have hea := (Ext.refl wr).alloc (.cells (u32s [10]).toArray 27)
          have HTen := Lib.hid hten
          have HEa := Lib.hid hea
          clear hten hea hcd hbx
          go_wp2_with fail
          refine (rtimes la (some ⟨wr.heap.size, 0, none⟩) ln lc 1 1 _ [10] _ (HW.out.ext HEa.out) HTen.out (by have := hln.out; omega) (by omega)).mono ?_
          rintro e w3 ⟨⟨ma, mn, mc, rfl, hm⟩, he3⟩
          rw [val_one, val_digs (by omega)] at hm
          have HM := Lib.hid hm
          have hmn : Hid (mn ≤ 501) := by
            show mn ≤ 501
            rw [← hm.hlen]
            refine digs_len_le (by omega) ?_
            have h1 := valD_words HD.out (by rw [List.length_take]; have := HDl.out; omega)
            have h2 : pw 501 = 4294967296 * pw 500 := by rw [show 501 = 500 + 1 from rfl, pw]
            omega
          clear hm
          go_wp2_with fail
          refine (words_any (ci - 48) _ (by omega) (by omega)).mono ?_
          rintro e w4 ⟨⟨ca, cn, cc, rfl, hcw, hcn⟩, he4⟩
          have HCw := Lib.hid hcw
          clear hcw
          go_wp2_with fail
          refine (radded _ _ _ _ _ _ _ _ _ (HM.out.ext he4) HCw.out (by have := hmn.out; omega) (by omega)).mono ?_
          rintro e w5 ⟨⟨sa, sn, sc, rfl, hsw⟩, he5⟩
          rw [val_digs (by omega), val_digs (by omega), show ((valD 0 (D.take k) : Nat) : Int) * 10 + (ci - 48) = ((valD 0 (D.take (k + 1)) : Nat) : Int) by rw [HV.out, HCi.out]; have := HCi.out; omega] at hsw
          have HS := Lib.hid hsw
          clear hsw
          go_wp2_with fail
          go_roundw
          case rel =>
            first
            | exact ⟨k + 1, _, _, _, by omega, by go_num, rfl, HS, HD2, he2.trans (((HEa.out.trans he3).trans he4).trans he5)⟩
            | ((repeat apply Exists.intro); exact ⟨⟨k + 1, _, _, _, by omega, by go_num, rfl, HS, HD2, he2.trans (((HEa.out.trans he3).trans he4).trans he5)⟩, rfl⟩)
          case measure => simp [intOf]; omega
    · obtain rfl : k = D.length := by omega
      have HDa : Hid (∀ b ∈ D, isD b) := by
        have := HD.out
        rwa [List.take_length] at this
      have HWa := HW.out
      rw [List.take_length] at HWa
      have HWb := Lib.hid HWa
      have HZ := Lib.hid (HPz.out _ (val_digs (show 0 ≤ ((valD 0 D : Nat) : Int) by omega)))
      clear HWa
      go_wp2_with fail
      refine (rmade _ _ _ _ _ _ _ HWb.out (by have := hln.out; omega) HZ.out).mono ?_
      rintro e w3 ⟨⟨sr, ar, nr, cr, rfl, hr⟩, he3⟩
      have hbx := (HBX.out.ext he2).ext he3
      have ec0 := hbx.cell (i := 0) rfl
      have ec1 := hbx.cell (i := 1) rfl
      have ef0 := hbx.free 0
      have ef1 := hbx.free 1
      go_wp2_with fail
      refine bodyPost_ret (results_ct rfl rfl (load_int (hbx.set2 _ _))) rfl (RPost.good HDa.out HDD.out ?_ ((((he1.trans he2).trans he3).store' HB (by omega) 0 _).store' HB (by omega) 1 _))
      exact ⟨_, _, _, _, rfl, hr.1, hr.2.keep2 hbx (by simp) (by simp) _ _⟩
set_option maxRecDepth 100000 in
set_option maxHeartbeats 4000000 in
theorem rparse_zero (w : World) :
    Calls Tryz.prog 30 #[.string ⟨([48] : List UInt8).toArray⟩] w fun e w' => RPost ([48] : List UInt8) w e w' := by
  obtain ⟨B, w0, hB, hw0, hb0, he0⟩ := one w 24 [.bool false, .slice none 0 0]
  have ec0 := hb0.cell (i := 0) rfl
  have ec1 := hb0.cell (i := 1) rfl
  have ef0 := hb0.free 0
  have ef1 := hb0.free 1
  have ze0 := setCell_same hb0 (i := 0) rfl
  have ze1 := setCell_same hb0 (i := 1) rfl
  have hq := hw0.symm
  have hp := hB.symm
  have HB := Lib.hid hB
  clear hw0 hB
  have h0 : ([48] : List UInt8).head? ≠ some 48 ∨ ([48] : List UInt8) = [48] := Or.inr rfl
  have hpf : Lib.hasPrefix ([48] : List UInt8) [45] = false := rfl
  obtain ⟨D, hDe⟩ : ∃ D : List UInt8, D = [48] := ⟨_, rfl⟩
  have htp : Lib.trimPrefix ([48] : List UInt8) [45] = D := by rw [hDe]; exact rfl
  have HPz : Hid (∀ V : Int, V = ((valD 0 D : Nat) : Int) → parseZ ([48] : List UInt8) = if false = true then -V else V) := by
    rintro V rfl
    rw [parseZ, htp, hpf]
  have HDD : Hid (GoodD ([48] : List UInt8) D) := by
    refine Or.inr ⟨htp.symm, by rw [hDe]; simp, by rw [hDe]; exact h0⟩
  have HDl : Hid (D.length ≤ 4000) := by
    show D.length ≤ 4000
    rw [hDe]; simp; try omega
  have hDl : (D.length : Int) ≤ 4000 := by have := HDl.out; omega
  have HDe := Lib.hid hDe
  clear hDe htp hpf h0
  go_enter Tryz.func30, Tryz.ntmps30
  go_wp2_with fail
  clear ze0 ze1 ec0 ec1 ef0 ef1 hq hp
  try rw [← HDe.out]
  have hl0 := Words.of_blk (l := []) (Blk.new w0 27 (u32s [])) Wf.nil (by simp)
  have he1 := he0.alloc (.cells (u32s []).toArray 27)
  have hbx := hb0.alloc (.cells (u32s []).toArray 27)
  have HL0 := Lib.hid hl0
  have HBX := Lib.hid hbx
  clear hl0 hb0 he0 hbx
  obtain ⟨wz, hwz⟩ : ∃ wz, wz = w0.alloc (.cells (u32s []).toArray 27) := ⟨_, rfl⟩
  have hwz' : wz = w0.alloc (.cells #[] 27) := hwz
  rw [← hwz] at HL0 he1 HBX
  rw [← hwz']
  clear hwz hwz'
  go_loopw [6, 7] (fun lv i wr => ∃ (k : Nat) (la : Option Addr) (ln lc : Nat), k ≤ D.length ∧ i = .int .i64 k ∧ lv = .slice la ln lc ∧ Hid (Words wr la ln lc (digs ((valD 0 (D.take k) : Nat) : Int))) ∧ Hid (∀ b ∈ D.take k, isD b) ∧ Ext wz wr) (fun _ i _ => D.length - (intOf i).toNat)
  case atStart => exact ⟨0, _, _, _, Nat.zero_le _, rfl, rfl, by rw [List.take_zero, show ((valD 0 [] : Nat) : Int) = 0 from rfl, digs_zero]; exact HL0, by rw [List.take_zero]; exact fun b hb => absurd hb (by simp), Ext.refl _⟩
  case round =>
    obtain ⟨k, la, ln, lc, hk, rfl, rfl, HW, HD, he2⟩ := hrel
    have hln : Hid (ln ≤ 500) := by
      show ln ≤ 500
      rw [← HW.out.hlen]
      exact digs_len_le (by omega) (valD_words HD.out (by rw [List.length_take]; have := HDl.out; omega))
    by_cases hkn : k < D.length
    · obtain ⟨c, hc⟩ : ∃ c : UInt8, c = D[k] := ⟨_, rfl⟩
      obtain ⟨ci, hci⟩ : ∃ ci : Int, ci = (c.toNat : Int) := ⟨_, rfl⟩
      have g0 : (((⟨D.toArray⟩ : ByteArray)[k]'hkn).toNat : Int) = ci := by rw [hci, hc]; rfl
      have hci0 : 0 ≤ ci := by omega
      have hci1 : ci < 256 := by have := UInt8.toNat_lt c; omega
      have HC := Lib.hid hc
      have HCi := Lib.hid hci
      have hbx := HBX.out.ext he2
      clear hc hci
      by_cases h48 : ci < 48
      · have d1 : decide (ci < 48) = true := by simpa using h48
        have HN : Hid (¬ ∀ b ∈ D, isD b) := fun h => by
          have h1 := h c (by rw [HC.out]; exact List.getElem_mem _)
          have h2 := HCi.out
          unfold isD at h1
          omega
        have ec0 := hbx.cell (i := 0) rfl
        have ec1 := hbx.cell (i := 1) rfl
        have ef0 := hbx.free 0
        have ef1 := hbx.free 1
        go_wp2_with fail
        exact bodyPost_ret (results_ct rfl rfl (intv_zero (hbx.set2 _ _))) rfl (RPost.bad HN.out HDD.out (((he1.trans he2).store' HB (by omega) 0 _).store' HB (by omega) 1 _))
      · have d1 : decide (ci < 48) = false := by simpa using h48
        by_cases h57 : 57 < ci
        · have d2 : decide (57 < ci) = true := by simpa using h57
          have HN : Hid (¬ ∀ b ∈ D, isD b) := fun h => by
            have h1 := h c (by rw [HC.out]; exact List.getElem_mem _)
            have h2 := HCi.out
            unfold isD at h1
            omega
          have ec0 := hbx.cell (i := 0) rfl
          have ec1 := hbx.cell (i := 1) rfl
          have ef0 := hbx.free 0
          have ef1 := hbx.free 1
          go_wp2_with fail
          exact bodyPost_ret (results_ct rfl rfl (intv_zero (hbx.set2 _ _))) rfl (RPost.bad HN.out HDD.out (((he1.trans he2).store' HB (by omega) 0 _).store' HB (by omega) 1 _))
        · have d2 : decide (57 < ci) = false := by simpa using h57
          have hcd : isD c := by
            have h2 := HCi.out
            unfold isD
            omega
          have HV : Hid (valD 0 (D.take (k + 1)) = valD 0 (D.take k) * 10 + (c.toNat - 48)) := by
            show valD 0 (D.take (k + 1)) = _
            rw [List.take_succ_eq_append_getElem hkn, valD_append, ← HC.out]
            rfl
          have HD2 : Hid (∀ b ∈ D.take (k + 1), isD b) := by
            intro b hb
            rw [List.take_succ_eq_append_getElem hkn, ← HC.out] at hb
            rcases List.mem_append.1 hb with h1 | h1
            · exact HD.out b h1
            · rw [List.mem_singleton.1 h1]; exact hcd
          have hten := Words.of_blk (Blk.new wr 27 (u32s [10])) (Wf.nil.cons (show (0 : Int) ≤ 10 by omega) (by omega)) (show 1 ≤ 9223372036854775807 by omega)
          have hea := (Ext.refl wr).alloc (.cells (u32s [10]).toArray 27)
          have HTen := Lib.hid hten
          have HEa := Lib.hid hea
          clear hten hea hcd hbx
          go_wp2_with fail
          refine (rtimes la (some ⟨wr.heap.size, 0, none⟩) ln lc 1 1 _ [10] _ (HW.out.ext HEa.out) HTen.out (by have := hln.out; omega) (by omega)).mono ?_
          rintro e w3 ⟨⟨ma, mn, mc, rfl, hm⟩, he3⟩
          rw [val_one, val_digs (by omega)] at hm
          have HM := Lib.hid hm
          have hmn : Hid (mn ≤ 501) := by
            show mn ≤ 501
            rw [← hm.hlen]
            refine digs_len_le (by omega) ?_
            have h1 := valD_words HD.out (by rw [List.length_take]; have := HDl.out; omega)
            have h2 : pw 501 = 4294967296 * pw 500 := by rw [show 501 = 500 + 1 from rfl, pw]
            omega
          clear hm
          go_wp2_with fail
          refine (words_any (ci - 48) _ (by omega) (by omega)).mono ?_
          rintro e w4 ⟨⟨ca, cn, cc, rfl, hcw, hcn⟩, he4⟩
          have HCw := Lib.hid hcw
          clear hcw
          go_wp2_with fail
          refine (radded _ _ _ _ _ _ _ _ _ (HM.out.ext he4) HCw.out (by have := hmn.out; omega) (by omega)).mono ?_
          rintro e w5 ⟨⟨sa, sn, sc, rfl, hsw⟩, he5⟩
          rw [val_digs (by omega), val_digs (by omega), show ((valD 0 (D.take k) : Nat) : Int) * 10 + (ci - 48) = ((valD 0 (D.take (k + 1)) : Nat) : Int) by rw [HV.out, HCi.out]; have := HCi.out; omega] at hsw
          have HS := Lib.hid hsw
          clear hsw
          go_wp2_with fail
          go_roundw
          case rel =>
            first
            | exact ⟨k + 1, _, _, _, by omega, by go_num, rfl, HS, HD2, he2.trans (((HEa.out.trans he3).trans he4).trans he5)⟩
            | ((repeat apply Exists.intro); exact ⟨⟨k + 1, _, _, _, by omega, by go_num, rfl, HS, HD2, he2.trans (((HEa.out.trans he3).trans he4).trans he5)⟩, rfl⟩)
          case measure => simp [intOf]; omega
    · obtain rfl : k = D.length := by omega
      have HDa : Hid (∀ b ∈ D, isD b) := by
        have := HD.out
        rwa [List.take_length] at this
      have HWa := HW.out
      rw [List.take_length] at HWa
      have HWb := Lib.hid HWa
      have HZ := Lib.hid (HPz.out _ (val_digs (show 0 ≤ ((valD 0 D : Nat) : Int) by omega)))
      clear HWa
      go_wp2_with fail
      refine (rmade _ _ _ _ _ _ _ HWb.out (by have := hln.out; omega) HZ.out).mono ?_
      rintro e w3 ⟨⟨sr, ar, nr, cr, rfl, hr⟩, he3⟩
      have hbx := (HBX.out.ext he2).ext he3
      have ec0 := hbx.cell (i := 0) rfl
      have ec1 := hbx.cell (i := 1) rfl
      have ef0 := hbx.free 0
      have ef1 := hbx.free 1
      go_wp2_with fail
      refine bodyPost_ret (results_ct rfl rfl (load_int (hbx.set2 _ _))) rfl (RPost.good HDa.out HDD.out ?_ ((((he1.trans he2).trans he3).store' HB (by omega) 0 _).store' HB (by omega) 1 _))
      exact ⟨_, _, _, _, rfl, hr.1, hr.2.keep2 hbx (by simp) (by simp) _ _⟩
theorem rparse_any (s : List UInt8) (w : World) :
    Calls Tryz.prog 30 #[.string ⟨s.toArray⟩] w fun e w' => ((4000 < s.length ∧ e = .returned (.tuple #[zeroV, .int .i64 2])) ∨ (s.length ≤ 4000 ∧ textL (parseZ s) = s ∧ ∃ v, e = .returned (.tuple #[v, .int .i64 0]) ∧ IntV w' v (parseZ s)) ∨ (s.length ≤ 4000 ∧ textL (parseZ s) ≠ s ∧ e = .returned (.tuple #[zeroV, .int .i64 3]))) ∧ Ext w w' := by
  by_cases h : 4000 < s.length
  · exact (rparse_long s w h).mono fun e w' hh => ⟨Or.inl ⟨h, hh.1⟩, hh.2⟩
  · have fin : Calls Tryz.prog 30 #[.string ⟨s.toArray⟩] w fun e w' => RPost s w e w' := by
      match s with
      | [] => exact rparse_nil w
      | d :: r =>
        simp only [List.length_cons] at h
        by_cases hm : d = 45
        · subst hm
          match r with
          | [] => exact rparse_sign w
          | e :: r =>
            simp only [List.length_cons] at h
            by_cases he : e = 48
            · subst he; exact rparse_sign0 r w (by omega)
            · exact rparse_neg e r w (by omega) he
        · by_cases hz : d = 48
          · subst hz
            match r with
            | [] => exact rparse_zero w
            | e :: r =>
              simp only [List.length_cons] at h
              exact rparse_zeros e r w (by omega)
          · exact rparse_pos d r w (by omega) hz hm
    refine fin.mono fun e w' hh => ⟨Or.inr ?_, hh.2⟩
    rcases hh.1 with h1 | h1
    · exact Or.inl ⟨by omega, h1.1, h1.2⟩
    · exact Or.inr ⟨by omega, h1.1, h1.2⟩
end Go.Proofs.YtddcgojpgdhefaaGreatDoor
