/- The reference: Made. -/
import Derived.Test.YtddcgojpgdhefaaGreatDoorRef3
namespace Go.Proofs.YtddcgojpgdhefaaGreatDoor
open Go.RowKit Go.El
set_option linter.unusedVariables false
theorem made_own (w : World) (base : Nat) (h : base ≤ w.heap.size) : (w.alloc (.cells #[] 27)).ownsRow base 27 1 (.slice (some ⟨w.heap.size, 0, none⟩) 0 0) 0 (u32s []) :=
  World.ownsRow_made w #[] 0 h (by decide) (by decide)
theorem one_new (w : World) (x : Value) (E : TypeId) : ∀ (j : Nat) (u : Value), [x][j]? = some u → (w.alloc (.cells #[x] E)).cell? ((⟨w.heap.size, 0, none⟩ : Addr).add j) = some u := by
  intro j u hj
  match j, hj with
  | 0, hj =>
    simp at hj
    subst hj
    simp [Addr.add]
theorem two_size (w : World) (a b : Obj) : ((w.alloc a).alloc b).heap.size = w.heap.size + 1 + 1 := by simp
theorem u32s_snoc (l : List Int) (x : Int) : u32s l ++ [Value.int .u32 x] = u32s (l ++ [x]) := by simp [u32s]
set_option maxRecDepth 100000 in
set_option maxHeartbeats 1000000 in
/-- ref.Made -/
theorem Made_any (neg : Bool) (ax : Option Addr) (nx cx : Nat) (l : List Int) (most : Nat) (z : Int) (w : World) (hw : Words w ax nx cx l) (hm : most ≤ 1000000) (hz : z = if neg then - val (l.take most) else val (l.take most)) :
    Calls Tryz.prog 14 #[.agg #[.bool neg, .slice ax nx cx], .int .i64 most] w fun e w' => (∃ v, e = .returned v ∧ IntV w' v z) ∧ Ext w w' := by
  obtain ⟨i0, hi, hz0, hz1, hz2⟩ := info_parts info_u32
  obtain ⟨B, w0, hB, hw0, hb0, hb1, he0⟩ := two w 25 24 [.bool neg, .slice ax nx cx] [.bool false, .slice none 0 0]
  have hmx := hw.max
  have hle := hw.le
  have HZ := Lib.hid hz
  have Hw := Lib.hid (hw.ext he0)
  have HSz : Hid (w0.heap.size = B + 1 + 1) := by rw [hw0, hB]; exact two_size _ _ _
  clear hz hw
  go_enter Tryz.func14, Tryz.ntmps14
  go_wp2
  rw [← hw0, ← hB]
  have c0 := hb0.cell (i := 0) rfl
  have c1 := hb0.cell (i := 1) rfl
  have HB := Lib.hid hB
  have HB1 := Lib.hid hb1
  clear hw0 hB hb0 hb1
  have fin : ∀ k, k ≤ nx → k ≤ most → (k = nx ∨ k = most) → l.take k = l.take most := by
    intro k h1 h2 h3
    rcases h3 with rfl | rfl
    · rw [List.take_of_length_le (by rw [Hw.out.hlen]; omega), List.take_of_length_le (by rw [Hw.out.hlen]; omega)]
    · rfl
  have Fin := Lib.hid fin
  clear fin
  go_loopw [5, 6] (fun v i wr => ∃ k : Nat, k ≤ nx ∧ k ≤ most ∧ i = .int .i64 k ∧ wr.ownsRow w0.heap.size 27 1 v k (u32s (l.take k)) ∧ Ext w0 wr) (fun _ i _ => nx - (intOf i).toNat)
  case atStart => exact ⟨0, Nat.zero_le _, Nat.zero_le _, rfl, by have := made_own w0 _ (Nat.le_refl _); rw [HSz.out] at this ⊢; exact this, (Ext.refl w0).alloc _⟩
  case round =>
    obtain ⟨k, hk, hk2, rfl, hown, he1⟩ := hrel
    have g0 := he1.cell c0
    have g1 := he1.cell c1
    by_cases hkn : k < nx
    · by_cases hkm : k < most
      · obtain ⟨x, hx⟩ : ∃ x, x = l.getD k 0 := ⟨_, rfl⟩
        obtain ⟨bx, ox, hax, hcx⟩ := Hw.out.cells k x (by rw [hx, List.getD, List.getElem?_eq_getElem (by rw [Hw.out.hlen]; omega)]; simp)
        have HX := Lib.hid hx
        have h1 := he1.cell hcx
        clear hx hcx
        subst hax
        go_wp2_with (at_builtin; refine wpList_append_own _ rfl _ _ 22 rfl w0.heap.size 27 i0 (.int .u32 0) 1 4 Tryz.underlying22 hi hz0 hz1 hz2 rfl (by decide) _ _ _ rfl (hown.alloc _) ⟨_, 0, none⟩ 1 1 [.int .u32 x] rfl rfl (one_new wr _ _) (by simp [Value.oneCell']) (by simp only [maxLen]; omega) (by omega) (by have := he1.size; rw [World.size_alloc']; omega) ?_; intro v' w1 hown' hgrow HH)
        have h5 : w1.ownsRow w0.heap.size 27 1 v' (k + 1) (u32s (l.take (k + 1))) := by
          rw [take_step (by rw [Hw.out.hlen]; exact hkn), ← HX.out, ← u32s_snoc]; exact hown'
        have he2 := (he1.alloc _).grown hgrow (fun k hk => (hown.lt k hk).1)
        have H5 := Lib.hid h5
        clear h5 hown' hgrow HH hown g0 g1 h1
        go_wp2
        go_roundw
        case rel => exact ⟨k + 1, by omega, by omega, by go_num, H5.out, he2⟩
        case measure => simp [intOf]; omega
      · have hE := Fin.out k hk hk2 (Or.inr (by omega))
        rw [hE] at hown
        obtain ⟨av, cv, rfl, hwv⟩ := Words.of_own hown (Hw.out.wf.take most)
        have HWv := Lib.hid hwv
        clear hwv hown hE
        go_wp2_with fail
        refine (made_any av k cv _ neg z _ HWv.out HZ.out).mono ?_
        rintro e w2 ⟨⟨v, rfl, hv⟩, he2⟩
        obtain ⟨sr, ar, nr, cr, rfl, hr⟩ := hv
        have hb2' := ((HB1.out.ext he1).ext he2)
        have e0 := hb2'.cell (i := 0) rfl
        have e1 := hb2'.cell (i := 1) rfl
        have f0 := hb2'.free 0
        have f1 := hb2'.free 1
        go_wp2_with fail
        refine bodyPost_ret (results_c rfl rfl (load_int (hb2'.set2 _ _))) rfl ?_
        exact ⟨⟨_, rfl, _, _, _, _, rfl, hr.1, hr.2.keep2 hb2' (by simp) (by simp) _ _⟩, (Ext.store' ((he0.trans he1).trans he2) HB (by omega) 0 _).store' HB (by omega) 1 _⟩
    · have hE := Fin.out k hk hk2 (Or.inl (by omega))
      rw [hE] at hown
      obtain ⟨av, cv, rfl, hwv⟩ := Words.of_own hown (Hw.out.wf.take most)
      have HWv := Lib.hid hwv
      clear hwv hown hE
      go_wp2_with fail
      refine (made_any av k cv _ neg z _ HWv.out HZ.out).mono ?_
      rintro e w2 ⟨⟨v, rfl, hv⟩, he2⟩
      obtain ⟨sr, ar, nr, cr, rfl, hr⟩ := hv
      have hb2' := ((HB1.out.ext he1).ext he2)
      have e0 := hb2'.cell (i := 0) rfl
      have e1 := hb2'.cell (i := 1) rfl
      have f0 := hb2'.free 0
      have f1 := hb2'.free 1
      go_wp2_with fail
      refine bodyPost_ret (results_c rfl rfl (load_int (hb2'.set2 _ _))) rfl ?_
      exact ⟨⟨_, rfl, _, _, _, _, rfl, hr.1, hr.2.keep2 hb2' (by simp) (by simp) _ _⟩, (Ext.store' ((he0.trans he1).trans he2) HB (by omega) 0 _).store' HB (by omega) 1 _⟩
end Go.Proofs.YtddcgojpgdhefaaGreatDoor
