/- Contracts of Text and Parse in the forms that the law IntegerTexts uses. -/
import Derived.Test.YtddcgojpgdhefaaGreatDoorLawLib2
import Derived.Test.YtddcgojpgdhefaaGreatDoorRefG
namespace Go.Proofs.YtddcgojpgdhefaaGreatDoor
open Go.RowKit Go.El
theorem text_is (x : Value) (a : Int) (T : List UInt8) (w : World) (hx : IntV w x a) (hf : Fits a 1000) (h : textL a = T) :
    Calls Tryz.prog 28 #[x] w fun e w' => e = .returned (.string ⟨T.toArray⟩) ∧ Ext w w' := by
  subst h; exact text_any x a w hx hf
theorem parse_text (s : List UInt8) (a : Int) (w : World) (h : textL a = s) (hl : s.length ≤ 4000) :
    Calls Tryz.prog 29 #[.string ⟨s.toArray⟩] w fun e w' => (∃ v, e = .returned (.tuple #[v, .int .i64 0]) ∧ IntV w' v a) ∧ Ext w w' := by
  have hz : parseZ s = a := by rw [← h]; exact (text_back a).2
  refine (parse_any s w).mono ?_
  rintro e w' ⟨⟨h1, _⟩ | ⟨_, _, v, rfl, hv⟩ | ⟨_, h1, _⟩, he⟩
  · omega
  · rw [hz] at hv; exact ⟨⟨v, rfl, hv⟩, he⟩
  · rw [hz] at h1; exact absurd h h1
theorem parse_bad (s : List UInt8) (w : World) (h : textL (parseZ s) ≠ s) (hl : s.length ≤ 4000) :
    Calls Tryz.prog 29 #[.string ⟨s.toArray⟩] w fun e w' => e = .returned (.tuple #[.agg #[.bool false, .slice none 0 0], .int .i64 3]) ∧ Ext w w' := by
  refine (parse_any s w).mono ?_
  rintro e w' ⟨⟨h1, _⟩ | ⟨_, h1, _⟩ | ⟨_, _, h1⟩, he⟩
  · omega
  · exact absurd h1 h
  · exact ⟨h1, he⟩
theorem ba_take (T : List UInt8) (k : Nat) : (⟨T.toArray⟩ : ByteArray).extract 0 k = ⟨(T.take k).toArray⟩ := by
  apply ByteArray.ext; rw [ByteArray.data_extract]; simp [List.extract]
theorem ba_drop (T : List UInt8) (k : Nat) : (⟨T.toArray⟩ : ByteArray).extract k T.length = ⟨(T.drop k).toArray⟩ := by
  apply ByteArray.ext; rw [ByteArray.data_extract]; simp [List.extract]
  rw [List.take_of_length_le (by simp)]
theorem run_min_int {P : Program} (ts : Array TypeId) (t : TypeId) {x y m : Int} (w : World) (h : m = min x y) : (Builtin.min_ ts t #[.int .i64 x, .int .i64 y]).run P w = .ok (.int .i64 m) w := by
  subst h
  have e : min x y = if y < x then y else x := by split <;> omega
  rw [e]
  simp [Builtin.min_, Builtin.min2, List.foldlM]
theorem text_len_12 {a : Int} (h : Fits a 12) : (textL a).length ≤ 120 := by
  have h1 : a.natAbs < 10 ^ 119 := by
    unfold Fits at h
    rw [pw_pow] at h
    have h2 : a.natAbs < 2 ^ (32 * 12) := by exact_mod_cast h
    exact Nat.lt_trans h2 (by decide +kernel)
  have h2 := decN_len h1
  unfold textL
  split
  · simp
  · split <;> simp <;> omega
theorem text_fits {d : Int} (h : (textL d).length ≤ 4000) : Fits d 1000 := by
  refine Fits.mono (k := 500) ?_ (by omega)
  have h1 : (decN d.natAbs).length ≤ 4000 := by
    by_cases h0 : d = 0
    · subst h0; rw [Int.natAbs_zero, decN_zero]; simp
    · unfold textL at h
      rw [if_neg h0, List.length_append] at h
      omega
  have h2 := lt_words (decN_lt d.natAbs) h1
  unfold Fits
  rw [pw_pow, show 32 * 500 = 4 * 4000 from rfl]
  exact_mod_cast h2
theorem text_beq {a b : Int} {T : List UInt8} (ht : textL a = T) (h : a ≠ b) : (textL b == T) = false := by
  refine beq_eq_false_iff_ne.2 fun e => h ?_
  rw [← (text_back a).2, ht, ← e, (text_back b).2]
end Go.Proofs.YtddcgojpgdhefaaGreatDoor
