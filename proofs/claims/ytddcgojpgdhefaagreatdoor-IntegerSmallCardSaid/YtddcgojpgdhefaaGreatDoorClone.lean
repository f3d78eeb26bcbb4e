/- slices.Clone of words; signed; natural: walked. -/
import Derived.Test.YtddcgojpgdhefaaGreatDoorNat1
import Derived.Test.YtddcgojpgdhefaaGreatDoorCmp
namespace Go.Proofs.YtddcgojpgdhefaaGreatDoor
open Go.RowKit Go.El
set_option linter.unusedVariables false

theorem clone_nil (w : World) : Calls Tryz.prog 90 #[.slice none 0 0] w fun e w' => e = .returned (.slice none 0 0) ∧ w = w' := by
  have hn := fun w => Lib.run_eql_slice_nil (P := Tryz.prog) w 62 27 none 0 0 0 0 Tryz.underlying62
  go_enter Tryz.func90, Tryz.ntmps90
  go_wp2_with fail
  go_ret
  exact ⟨rfl, rfl⟩
set_option maxRecDepth 100000 in
theorem clone_some (ad : Addr) (len cap : Nat) (l : List Int) (w : World) (h : Words w (some ad) len cap l) (hs : len ≤ 4398046511104) : Calls Tryz.prog 90 #[.slice (some ad) len cap] w fun e w' => (∃ a n c, e = .returned (.slice a n c) ∧ Words w' a n c l) ∧ Ext w w' := by
  have hn := fun w => Lib.run_eql_slice_nil (P := Tryz.prog) w 62 27 (some ad) len cap 0 0 Tryz.underlying62
  obtain ⟨i0, hi, hz0, hz1, hz2⟩ := info_parts info_u32
  have hmx := h.max
  have H := Lib.hid h
  clear h
  go_enter Tryz.func90, Tryz.ntmps90
  have hown : (w.alloc (.cells #[] 27)).ownsRow w.heap.size 27 1 (.slice (some ⟨w.heap.size, 0, none⟩) 0 0) 0 [] := World.ownsRow_made w #[] 0 (Nat.le_refl _) (by simp [maxLen]) rfl
  have Hn := Lib.hid (show ∀ j u, (u32s l)[j]? = some u → (w.alloc (.cells #[] 27)).cell? (ad.add j) = some u from by
    intro j u hu
    simp only [u32s, List.getElem?_map, Option.map_eq_some_iff] at hu
    obtain ⟨z, hz, rfl⟩ := hu
    obtain ⟨b, off, ha, hc⟩ := H.out.cells j z hz
    cases ha
    have e : (⟨b, off, none⟩ : Addr).add j = ⟨b, off + j, none⟩ := by unfold Addr.add; split <;> simp_all
    rw [e]
    exact ((Ext.refl w).alloc _).cell hc)
  have Ho := Lib.hid (show ∀ u ∈ u32s l, u.oneCell' = true from fun u hu => by
    simp only [u32s, List.mem_map] at hu
    obtain ⟨z, _, rfl⟩ := hu
    rfl)
  have Hl := Lib.hid (show (u32s l).length = len * 1 by rw [u32s_length, Nat.mul_one, H.out.hlen])
  go_wp2_with (at_builtin; refine wpList_append_own _ rfl _ _ 62 rfl w.heap.size 27 i0 (.int .u32 0) 1 4 Tryz.underlying62 hi hz0 hz1 hz2 rfl (by decide) _ _ _ rfl hown ad len cap (u32s l) rfl Hl.out Hn.out Ho.out (by simp only [maxLen]; omega) (by omega) (by simp) ?_; intro v' w1 hown' hgrow HH)
  have hv := Words.of_own (l := l) (by simpa using hown') H.out.wf
  obtain ⟨a, c, rfl, hW⟩ := hv
  have hext : Ext w w1 := (((Ext.refl w).alloc _).grown hgrow (fun k hk => by cases hk; exact Nat.le_refl _))
  clear hown' hgrow HH hown
  go_wp2_with fail
  go_ret
  exact ⟨⟨a, _, c, rfl, hW⟩, hext⟩
/-- Clone, whatever the slice. -/
theorem clone_any (a : Option Addr) (len cap : Nat) (l : List Int) (w : World) (h : Words w a len cap l) (hs : len ≤ 4398046511104) : Calls Tryz.prog 90 #[.slice a len cap] w fun e w' => (∃ a n c, e = .returned (.slice a n c) ∧ Words w' a n c l) ∧ Ext w w' := by
  cases a with
  | none =>
    have hc := h.nil rfl
    have hl := h.le
    obtain rfl : cap = 0 := hc
    obtain rfl : len = 0 := by omega
    have : l = [] := List.eq_nil_of_length_eq_zero h.hlen
    subst this
    refine (clone_nil w).mono ?_
    rintro e w' ⟨rfl, rfl⟩
    exact ⟨⟨none, 0, 0, rfl, Words.nil' _⟩, Ext.refl _⟩
  | some ad => exact clone_some ad len cap l w h hs

/-- A sign and words that read as an integer; a value that does. -/
def IntW (w : World) (s : Bool) (a : Option Addr) (n c : Nat) (z : Int) : Prop := s = decide (z < 0) ∧ Words w a n c (digs z.natAbs)
def IntV (w : World) (v : Value) (z : Int) : Prop := ∃ s a n c, v = .agg #[.bool s, .slice a n c] ∧ IntW w s a n c z
theorem IntW.ext {w w' : World} {s : Bool} {a : Option Addr} {n c : Nat} {z : Int} (h : IntW w s a n c z) (he : Ext w w') : IntW w' s a n c z := ⟨h.1, h.2.ext he⟩
theorem IntV.ext {w w' : World} {v : Value} {z : Int} (h : IntV w v z) (he : Ext w w') : IntV w' v z := by
  obtain ⟨s, a, n, c, rfl, hw⟩ := h
  exact ⟨s, a, n, c, rfl, hw.ext he⟩

theorem load_int {w : World} {B : Nat} {x y : Value} (hb : Blk w B 24 [x, y]) : (loadVar 24 ⟨B, 0, none⟩).run Tryz.prog w = .ok (.agg #[x, y]) w := by
  have h0 := hb.cell (i := 0) rfl
  have h1 := hb.cell (i := 1) rfl
  simp [go_sem, h0, h1]

set_option maxRecDepth 100000 in
theorem signed_any (a : Option Addr) (n c : Nat) (l : List Int) (neg : Bool) (z : Int) (w : World) (h : Words w a n c l) (hs : n ≤ 4398046511104) (hz : z = if neg then - val l else val l) :
    Calls Tryz.prog 55 #[.slice a n c, .bool neg] w fun e w' => (∃ s a n c, e = .returned (.agg #[.bool s, .slice a n c]) ∧ IntW w' s a n c z) ∧ Ext w w' := by
  have H := Lib.hid h
  clear h
  have HZ := Lib.hid hz
  clear hz
  go_enter Tryz.func55, Tryz.ntmps55
  go_wp2_with fail
  have hb0 := Blk.new w 24 [Value.bool false, Value.slice none 0 0]
  have he0 := (Ext.refl w).alloc (.cells [Value.bool false, Value.slice none 0 0].toArray 24)
  obtain ⟨B, hB⟩ : ∃ B, B = w.heap.size := ⟨_, rfl⟩
  rw [← hB] at hb0 ⊢
  have HB := Lib.hid hB
  clear hB
  generalize w.alloc (.cells [Value.bool false, Value.slice none 0 0].toArray 24) = w0 at hb0 he0 ⊢
  refine (norm_any _ _ _ _ _ (H.out.ext he0)).mono ?_
  rintro e w' ⟨⟨m, rfl, hm, hW⟩, rfl⟩
  have hpos : m = 0 ↔ val l = 0 := by
    rw [← hW.hlen]
    have h0 := val_nonneg H.out.wf
    constructor
    · intro h; exact (digs_nil h0).1 (List.eq_nil_of_length_eq_zero h)
    · intro h; rw [h, digs_zero]; rfl
  have h0 := val_nonneg H.out.wf
  have hsg : decide (z < 0) = (neg && decide (0 < m)) := by
    rw [HZ.out]
    cases neg
    · simp; exact h0
    · simp; omega
  have hab : (z.natAbs : Int) = val l := by rw [HZ.out]; cases neg <;> simp <;> omega
  have HS := Lib.hid hsg
  have HAb := Lib.hid hab
  clear hsg hab hpos h0
  have hmm := hW.max
  have HW := Lib.hid hW
  clear hW
  cases neg
  all_goals
    go_wp2_with fail
    refine (clone_any _ _ _ _ _ HW.out (by omega)).mono ?_
    rintro e w2 ⟨⟨a2, n2, c2, rfl, hW2⟩, he2⟩
    have hb2 := hb0.ext he2
    have hc0 := hb2.cell (i := 0) rfl
    have hc1 := hb2.cell (i := 1) rfl
    have hf0 := hb2.free 0
    have hf1 := hb2.free 1
    have HB2 := Lib.hid hb2
    clear hb2
    go_wp2_with fail
    refine bodyPost_ret (results_c rfl rfl (load_int (HB2.out.set2 _ _))) rfl ?_
    refine ⟨⟨_, a2, n2, c2, rfl, by rw [HS.out]; rfl, by rw [HAb.out]; exact hW2.keep2 HB2.out (by simp) (by simp) _ _⟩, ?_⟩
    exact ((he0.trans he2).store HB _ _).store HB _ _
end Go.Proofs.YtddcgojpgdhefaaGreatDoor
