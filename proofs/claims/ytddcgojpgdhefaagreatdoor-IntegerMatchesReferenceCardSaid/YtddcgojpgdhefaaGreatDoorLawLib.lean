/- What the laws' walks share. -/
import Derived.Test.YtddcgojpgdhefaaGreatDoorSanity
namespace Go.El
open Go.RowKit
/-- The integer that a description's first words make. -/
def rawZ (neg : Bool) (l : List Int) (most : Nat) : Int := if neg then - val (l.take most) else val (l.take most)
theorem fits_raw {neg : Bool} {l : List Int} {most k : Nat} (h : Wf l) (hk : most ≤ k) : Fits (rawZ neg l most) k := by
  have h1 := val_lt (h.take most)
  have h0 := val_nonneg (h.take most)
  have h2 : pw (l.take most).length ≤ pw k := pw_le (Nat.le_trans (by rw [List.length_take]; exact Nat.min_le_left _ _) hk)
  unfold Fits rawZ
  cases neg <;> simp <;> omega
theorem sgn_bd (a b : Int) : -1 ≤ sgn a b ∧ sgn a b ≤ 1 := by
  rcases sgn_cases a b with ⟨_, e⟩ | ⟨_, e⟩ | ⟨_, e⟩ <;> rw [e] <;> omega
theorem sgn_swap (a b : Int) : sgn b a = - sgn a b := by
  rcases sgn_cases a b with ⟨h, e⟩ | ⟨h, e⟩ | ⟨h, e⟩ <;> rcases sgn_cases b a with ⟨k, f⟩ | ⟨k, f⟩ | ⟨k, f⟩ <;> rw [e, f] <;> omega
theorem sgn_neg (a b : Int) : sgn (-a) (-b) = - sgn a b := by
  rcases sgn_cases a b with ⟨h, e⟩ | ⟨h, e⟩ | ⟨h, e⟩ <;> rcases sgn_cases (-a) (-b) with ⟨k, f⟩ | ⟨k, f⟩ | ⟨k, f⟩ <;> rw [e, f] <;> omega
theorem sgn_sub (a b : Int) : sgn (a - b) 0 = sgn a b := by
  rcases sgn_cases a b with ⟨h, e⟩ | ⟨h, e⟩ | ⟨h, e⟩ <;> rcases sgn_cases (a - b) 0 with ⟨k, f⟩ | ⟨k, f⟩ | ⟨k, f⟩ <;> rw [e, f] <;> omega
theorem sgn_add (a b c : Int) : sgn (a + c) (b + c) = sgn a b := by
  rcases sgn_cases a b with ⟨h, e⟩ | ⟨h, e⟩ | ⟨h, e⟩ <;> rcases sgn_cases (a + c) (b + c) with ⟨k, f⟩ | ⟨k, f⟩ | ⟨k, f⟩ <;> rw [e, f] <;> omega
theorem sgn_mul (a b c : Int) : sgn (a * c) (b * c) = sgn a b * sgn c 0 := by
  have key : ∀ x y : Int, x < y → (0 < c → x * c < y * c) ∧ (c < 0 → y * c < x * c) := fun x y h =>
    ⟨fun hc => Int.mul_lt_mul_of_pos_right h hc, fun hc => Int.mul_lt_mul_of_neg_right h hc⟩
  have k1 := key a b
  have k2 := key b a
  rcases sgn_cases c 0 with ⟨h, e⟩ | ⟨h, e⟩ | ⟨h, e⟩
  · rcases sgn_cases a b with ⟨h', e'⟩ | ⟨h', e'⟩ | ⟨h', e'⟩
    · rw [e, e', sgn_gt ((k1 h').2 h)]; rfl
    · rw [e, e', h', sgn_eq]; rfl
    · rw [e, e', sgn_lt ((k2 h').2 h)]; rfl
  · rw [e, h, Int.mul_zero, Int.mul_zero, sgn_eq, Int.mul_zero]
  · rcases sgn_cases a b with ⟨h', e'⟩ | ⟨h', e'⟩ | ⟨h', e'⟩
    · rw [e, e', sgn_lt ((k1 h').1 h)]; rfl
    · rw [e, e', h', sgn_eq]; rfl
    · rw [e, e', sgn_gt ((k2 h').1 h)]; rfl
theorem sgn_trans {a b c : Int} (h : sgn a b = -1) (k : sgn b c ≤ 0) : sgn a c = -1 := by
  rcases sgn_cases a b with ⟨h1, e⟩ | ⟨h1, e⟩ | ⟨h1, e⟩ <;> rcases sgn_cases b c with ⟨k1, f⟩ | ⟨k1, f⟩ | ⟨k1, f⟩ <;> rcases sgn_cases a c with ⟨l1, g⟩ | ⟨l1, g⟩ | ⟨l1, g⟩ <;> rw [g] <;> omega
end Go.El
namespace Go.Proofs.YtddcgojpgdhefaaGreatDoor
open Go.RowKit Go.El
theorem same_eq (x y : Value) (a b : Int) (w : World) (hx : IntV w x a) (hy : IntV w y b) (h : a = b) :
    Calls Tryz.prog 21 #[x, y] w fun e w' => e = .returned (.bool true) ∧ Ext w w' := by
  subst h; exact same_true x y a w hx hy
theorem same_ne (x y : Value) (a b : Int) (w : World) (hx : IntV w x a) (hy : IntV w y b) (h : a ≠ b) :
    Calls Tryz.prog 21 #[x, y] w fun e w' => e = .returned (.bool false) ∧ Ext w w' := by
  have k := same_any x y a b w hx hy
  rwa [decide_eq_false h] at k
theorem cmp_is (x y : Value) (a b o : Int) (w : World) (hx : IntV w x a) (hy : IntV w y b) (h : sgn a b = o) :
    Calls Tryz.prog 16 #[x, y] w fun e w' => e = .returned (.int .i64 o) ∧ Ext w w' := by
  subst h; exact cmp_any x y a b w hx hy
theorem sign_is (x : Value) (a o : Int) (w : World) (hx : IntV w x a) (h : sgn a 0 = o) :
    Calls Tryz.prog 24 #[x] w fun e w' => e = .returned (.int .i64 o) ∧ Ext w w' := by
  subst h; exact sign_any x a w hx
theorem divmod_zero' (x y : Value) (a b : Int) (w : World) (hx : IntV w x a) (hy : IntV w y b) (hb : b = 0) :
    Calls Tryz.prog 25 #[x, y] w fun e w' => e = .returned (.tuple #[.agg #[.bool false, .slice none 0 0], .agg #[.bool false, .slice none 0 0], .int .i64 10]) ∧ Ext w w' := by
  subst hb; exact divmod_zero x y a w hx hy
theorem divmod_rem (x y : Value) (a b : Int) (w : World) (hx : IntV w x a) (hy : IntV w y b) (ha : Fits a 1073741824) (hB1 : Fits b 1073741824) (hb : b ≠ 0) :
    Calls Tryz.prog 25 #[x, y] w fun e w' => (∃ u a' n c, e = .returned (.tuple #[u, .agg #[.bool false, .slice a' n c], .int .i64 0]) ∧ IntV w' u (a / b) ∧ IntW w' false a' n c (a % b)) ∧ Ext w w' := by
  refine (divmod_any x y a b w hx hy ha hB1 hb).mono ?_
  rintro e w' ⟨⟨u, v, rfl, hu, ⟨s, a', n, c, rfl, hi⟩⟩, he⟩
  have : s = false := by rw [hi.1]; simp; exact Int.emod_nonneg a hb
  subst this
  exact ⟨⟨_, _, _, _, rfl, hu, hi⟩, he⟩
end Go.Proofs.YtddcgojpgdhefaaGreatDoor
