/- Merged texts: Math, Math2, Math3, Math4. -/

/- Numbers and their words of 32 bits, least word first: plain laws, no program. -/
namespace Go.El
set_option linter.unusedVariables false

/-- 2^32 to the k. -/
def pw : Nat → Int
  | 0 => 1
  | k + 1 => 4294967296 * pw k

theorem pw_pos (k : Nat) : 0 < pw k := by
  induction k with
  | zero => simp [pw]
  | succ k ih => simp only [pw]; omega
theorem pw_add (a b : Nat) : pw (a + b) = pw a * pw b := by
  induction a with
  | zero => simp [pw]
  | succ a ih => rw [Nat.succ_add]; simp only [pw, ih]; rw [Int.mul_assoc]
theorem pw_one : pw 1 = 4294967296 := by simp [pw]
theorem pw_le {a b : Nat} (h : a ≤ b) : pw a ≤ pw b := by
  obtain ⟨c, rfl⟩ := Nat.exists_eq_add_of_le h
  rw [pw_add]
  have h1 := pw_pos a
  have h2 := pw_pos c
  have : pw a * 1 ≤ pw a * pw c := Int.mul_le_mul_of_nonneg_left (by omega) (by omega)
  omega

/-- The number that words stand for. -/
def val : List Int → Int
  | [] => 0
  | d :: l => d + 4294967296 * val l

def Wf (l : List Int) : Prop := ∀ x ∈ l, 0 ≤ x ∧ x < 4294967296

theorem Wf.nil : Wf [] := fun x h => by cases h
theorem Wf.cons {d : Int} {l : List Int} (h0 : 0 ≤ d) (h1 : d < 4294967296) (h : Wf l) : Wf (d :: l) := fun x hx => by
  rcases List.mem_cons.1 hx with rfl | hx
  · exact ⟨h0, h1⟩
  · exact h x hx
theorem Wf.head {d : Int} {l : List Int} (h : Wf (d :: l)) : 0 ≤ d ∧ d < 4294967296 := h d (by simp)
theorem Wf.tail {d : Int} {l : List Int} (h : Wf (d :: l)) : Wf l := fun x hx => h x (by simp [hx])
theorem Wf.append {a b : List Int} (ha : Wf a) (hb : Wf b) : Wf (a ++ b) := fun x hx => by
  rcases List.mem_append.1 hx with h | h
  · exact ha x h
  · exact hb x h
theorem Wf.left {a b : List Int} (h : Wf (a ++ b)) : Wf a := fun x hx => h x (by simp [hx])
theorem Wf.right {a b : List Int} (h : Wf (a ++ b)) : Wf b := fun x hx => h x (by simp [hx])
theorem Wf.take {l : List Int} (h : Wf l) (k : Nat) : Wf (l.take k) := fun x hx => h x (List.mem_of_mem_take hx)
theorem Wf.drop {l : List Int} (h : Wf l) (k : Nat) : Wf (l.drop k) := fun x hx => h x (List.mem_of_mem_drop hx)
theorem Wf.zeros (k : Nat) : Wf (List.replicate k 0) := fun x hx => by
  rw [List.eq_of_mem_replicate hx]; omega
theorem Wf.set {l : List Int} (h : Wf l) (i : Nat) {z : Int} (h0 : 0 ≤ z) (h1 : z < 4294967296) : Wf (l.set i z) := fun x hx => by
  rcases List.mem_or_eq_of_mem_set hx with hx | rfl
  · exact h x hx
  · exact ⟨h0, h1⟩
theorem Wf.getD {l : List Int} (h : Wf l) (k : Nat) : 0 ≤ l.getD k 0 ∧ l.getD k 0 < 4294967296 := by
  unfold List.getD
  cases hk : l[k]? with
  | none => simp
  | some z => simpa using h z (List.mem_of_getElem? hk)
theorem Wf.get {l : List Int} (h : Wf l) (k : Nat) (hk : k < l.length) : 0 ≤ l[k] ∧ l[k] < 4294967296 := h _ (List.getElem_mem hk)

theorem val_append (a b : List Int) : val (a ++ b) = val a + pw a.length * val b := by
  induction a with
  | nil => simp [val, pw]
  | cons d a ih =>
    simp only [List.cons_append, val, ih, List.length_cons, pw]
    rw [Int.mul_add, Int.mul_assoc]
    omega
theorem val_zeros (k : Nat) : val (List.replicate k 0) = 0 := by
  induction k with
  | zero => rfl
  | succ k ih => simp [List.replicate_succ, val, ih]
theorem val_one (d : Int) : val [d] = d := by simp [val]
theorem val_snoc (a : List Int) (d : Int) : val (a ++ [d]) = val a + pw a.length * d := by rw [val_append, val_one]
theorem val_nonneg {l : List Int} (h : Wf l) : 0 ≤ val l := by
  induction l with
  | nil => simp [val]
  | cons d l ih =>
    have := h.head
    have := ih h.tail
    simp only [val]; omega
theorem val_lt {l : List Int} (h : Wf l) : val l < pw l.length := by
  induction l with
  | nil => simp [val, pw]
  | cons d l ih =>
    have := h.head
    have := ih h.tail
    simp only [val, List.length_cons, pw]; omega
theorem val_take_drop (l : List Int) (k : Nat) (hk : k ≤ l.length) : val l = val (l.take k) + pw k * val (l.drop k) := by
  have h := val_append (l.take k) (l.drop k)
  rw [List.take_append_drop] at h
  rw [h, List.length_take, Nat.min_eq_left hk]
theorem getD_lt {l : List Int} {k : Nat} (h : k < l.length) : l.getD k 0 = l[k] := by simp [List.getD, h]
theorem getD_ge {l : List Int} {k : Nat} (h : l.length ≤ k) : l.getD k 0 = 0 := by simp [List.getD, h]
theorem take_snoc {l : List Int} {k : Nat} (h : k < l.length) : l.take (k + 1) = l.take k ++ [l.getD k 0] := by
  rw [List.take_succ_eq_append_getElem h, getD_lt h]
/-- One word more, 0 behind the last. -/
theorem val_take_succ (l : List Int) (k : Nat) : val (l.take (k + 1)) = val (l.take k) + pw k * l.getD k 0 := by
  rcases Nat.lt_or_ge k l.length with h | h
  · rw [take_snoc h, val_snoc, List.length_take, Nat.min_eq_left (by omega)]
  · rw [List.take_of_length_le (by omega), List.take_of_length_le (by omega), getD_ge h]; simp

/-- The words of a number, none of them 0 at the end. -/
def digsN (n : Nat) : List Int := if h : n = 0 then [] else ((n % 4294967296 : Nat) : Int) :: digsN (n / 4294967296)
  termination_by n
  decreasing_by omega
def digs (z : Int) : List Int := digsN z.toNat

theorem digsN_zero : digsN 0 = [] := by rw [digsN]; simp
theorem digsN_pos {n : Nat} (h : n ≠ 0) : digsN n = ((n % 4294967296 : Nat) : Int) :: digsN (n / 4294967296) := by
  rw [digsN]; simp [h]
theorem digs_zero : digs 0 = [] := digsN_zero
theorem digs_pos {z : Int} (h : 0 < z) : digs z = z % 4294967296 :: digs (z / 4294967296) := by
  unfold digs
  rw [digsN_pos (by omega)]
  congr 1
  · omega
  · congr 1; omega

theorem int_ind {P : Int → Prop} (h0 : P 0) (hs : ∀ z, 0 < z → P (z / 4294967296) → P z) : ∀ z, 0 ≤ z → P z := by
  intro z
  generalize hn : z.toNat = n
  induction n using Nat.strongRecOn generalizing z with
  | _ n ih =>
    intro hz
    by_cases h : z = 0
    · subst h; exact h0
    · exact hs z (by omega) (ih _ (by omega) (z / 4294967296) rfl (by omega))

theorem digs_wf {z : Int} (hz : 0 ≤ z) : Wf (digs z) := by
  refine int_ind (P := fun z => Wf (digs z)) ?_ ?_ z hz
  · rw [digs_zero]; exact Wf.nil
  · intro z h ih
    rw [digs_pos h]
    exact ih.cons (by omega) (by omega)
theorem val_digs {z : Int} (hz : 0 ≤ z) : val (digs z) = z := by
  refine int_ind (P := fun z => val (digs z) = z) ?_ ?_ z hz
  · rw [digs_zero]; rfl
  · intro z h ih
    rw [digs_pos h, val, ih]; omega

/-- Canonical: the last word is not 0. -/
def Can (l : List Int) : Prop := Wf l ∧ l.getLast? ≠ some 0

theorem digs_val {l : List Int} (hw : Wf l) (hl : l.getLast? ≠ some 0) : digs (val l) = l := by
  induction l with
  | nil => simp only [val, digs_zero]
  | cons d l ih =>
    have hd := hw.head
    have hv := val_nonneg hw.tail
    have hl' : l.getLast? ≠ some 0 := by
      cases l with
      | nil => simp
      | cons e l => simpa [List.getLast?_cons_cons] using hl
    have ih := ih hw.tail hl'
    have hpos : 0 < d + 4294967296 * val l := by
      cases l with
      | nil =>
        simp at hl
        simp only [val]; omega
      | cons e l =>
        by_cases h0 : val (e :: l) = 0
        · rw [h0, digs_zero] at ih; cases ih
        · omega
    simp only [val]
    rw [digs_pos hpos]
    have e1 : (d + 4294967296 * val l) % 4294967296 = d := by omega
    have e2 : (d + 4294967296 * val l) / 4294967296 = val l := by omega
    rw [e1, e2, ih]
theorem digs_last {z : Int} (hz : 0 ≤ z) : (digs z).getLast? ≠ some 0 := by
  refine int_ind (P := fun z => (digs z).getLast? ≠ some 0) ?_ ?_ z hz
  · rw [digs_zero]; simp
  · intro z h ih
    rw [digs_pos h]
    cases hd : digs (z / 4294967296) with
    | nil =>
      simp only [List.getLast?_singleton, ne_eq, Option.some.injEq]
      have h1 := val_digs (show 0 ≤ z / 4294967296 by omega)
      rw [hd] at h1
      simp only [val] at h1
      omega
    | cons e l => rw [List.getLast?_cons_cons, ← hd]; exact ih
theorem digs_nil {z : Int} (hz : 0 ≤ z) : digs z = [] ↔ z = 0 := by
  constructor
  · intro h
    have := val_digs hz
    rw [h] at this
    simpa [val] using this.symm
  · rintro rfl; exact digs_zero
theorem digs_inj {a b : Int} (ha : 0 ≤ a) (hb : 0 ≤ b) (h : digs a = digs b) : a = b := by
  rw [← val_digs ha, ← val_digs hb, h]
theorem digs_len_le {z : Int} (hz : 0 ≤ z) {k : Nat} (h : z < pw k) : (digs z).length ≤ k := by
  induction k generalizing z with
  | zero => simp only [pw] at h; have : z = 0 := by omega
            subst this; rw [digs_zero]; simp
  | succ k ih =>
    by_cases h0 : z = 0
    · subst h0; rw [digs_zero]; simp
    · rw [digs_pos (by omega), List.length_cons]
      have := ih (z := z / 4294967296) (by omega) (by simp only [pw] at h; omega)
      omega
theorem digs_len_lt {z : Int} (hz : 0 ≤ z) : z < pw (digs z).length := by
  have := val_lt (digs_wf hz)
  rwa [val_digs hz] at this
theorem digs_len_ge {z : Int} (hz : 0 ≤ z) {k : Nat} (h : pw k ≤ z) : k < (digs z).length := by
  apply Decidable.byContradiction
  intro hn
  have h1 := digs_len_lt hz
  have h2 := pw_le (show (digs z).length ≤ k by omega)
  omega
theorem digs_pos_len {z : Int} (hz : 0 < z) : 0 < (digs z).length := by rw [digs_pos hz]; simp

/-- What stays when the words that are 0 at the end are cut off. -/
theorem take_digs {l : List Int} (hw : Wf l) {n : Nat} (hn : n ≤ l.length) (hz : ∀ i, n ≤ i → l.getD i 0 = 0) (ht : n = 0 ∨ l.getD (n - 1) 0 ≠ 0) : l.take n = digs (val l) := by
  have hd : val (l.drop n) = 0 := by
    have : l.drop n = List.replicate (l.drop n).length 0 := by
      refine List.eq_replicate_iff.2 ⟨rfl, fun x hx => ?_⟩
      obtain ⟨i, hi, rfl⟩ := List.mem_iff_getElem.1 hx
      rw [List.getElem_drop]
      have := hz (n + i) (by omega)
      rw [getD_lt (by simp at hi; omega)] at this
      exact this
    rw [this, val_zeros]
  have hv : val l = val (l.take n) := by
    have := val_take_drop l n hn
    rw [hd] at this
    omega
  rw [hv, digs_val (hw.take n)]
  rcases ht with rfl | ht
  · simp
  · rcases Nat.eq_zero_or_pos n with rfl | hp
    · simp
    intro h
    rw [List.getLast?_eq_getElem?, List.length_take, Nat.min_eq_left hn, List.getElem?_take_of_lt (by omega)] at h
    apply ht
    simp [List.getD, h]

/-- A row of n cells of which the first are written. -/
def fillTo (d : List Int) (n : Nat) : List Int := d ++ List.replicate (n - d.length) 0
theorem fillTo_nil (n : Nat) : fillTo [] n = List.replicate n 0 := by simp [fillTo]
theorem fillTo_full (d : List Int) (n : Nat) (h : d.length = n) : fillTo d n = d := by simp [fillTo, h]
theorem fillTo_set (d : List Int) (n k : Nat) (z : Int) (hk : d.length = k) (hn : k < n) : (fillTo d n).set k z = fillTo (d ++ [z]) n := by
  subst hk
  unfold fillTo
  rw [List.set_append_right _ _ (Nat.le_refl _), Nat.sub_self]
  obtain ⟨m, hm⟩ : ∃ m, n - d.length = m + 1 := ⟨n - d.length - 1, by omega⟩
  rw [hm, List.replicate_succ, List.set_cons_zero]
  simp
  omega
theorem fillTo_length (d : List Int) (n : Nat) (h : d.length ≤ n) : (fillTo d n).length = n := by simp [fillTo]; omega
theorem fillTo_get (d : List Int) (n k : Nat) (h : d.length ≤ k) (hk : k < n) : (fillTo d n)[k]? = some 0 := by
  unfold fillTo
  rw [List.getElem?_append_right h, List.getElem?_replicate, if_pos (by omega)]

/-! ### Addition -/
def addTo (x y : List Int) : Nat → List Int × Int
  | 0 => ([], 0)
  | k + 1 => ((addTo x y k).1 ++ [(x.getD k 0 + y.getD k 0 + (addTo x y k).2) % 4294967296], (x.getD k 0 + y.getD k 0 + (addTo x y k).2) / 4294967296)
theorem addTo_length (x y : List Int) (k : Nat) : (addTo x y k).1.length = k := by
  induction k with
  | zero => rfl
  | succ k ih => simp [addTo, ih]
theorem addTo_carry {x y : List Int} (hx : Wf x) (hy : Wf y) (k : Nat) : 0 ≤ (addTo x y k).2 ∧ (addTo x y k).2 ≤ 1 := by
  induction k with
  | zero => simp [addTo]
  | succ k ih =>
    have h1 := hx.getD k
    have h2 := hy.getD k
    simp only [addTo]
    omega
theorem addTo_wf (x y : List Int) (k : Nat) : Wf (addTo x y k).1 := by
  induction k with
  | zero => exact Wf.nil
  | succ k ih => exact ih.append (Wf.nil.cons (by omega) (by omega))
theorem addTo_val (x y : List Int) (k : Nat) : val (addTo x y k).1 + pw k * (addTo x y k).2 = val (x.take k) + val (y.take k) := by
  induction k with
  | zero => simp [addTo, val]
  | succ k ih =>
    rw [val_take_succ, val_take_succ]
    simp only [addTo]
    rw [val_snoc, addTo_length]
    generalize ht : x.getD k 0 + y.getD k 0 + (addTo x y k).2 = t
    have e : 4294967296 * (t / 4294967296) + t % 4294967296 = t := by omega
    have e2 : pw (k + 1) = pw k * 4294967296 := by simp only [pw]; omega
    have e3 : pw k * (t % 4294967296) + pw k * 4294967296 * (t / 4294967296) = pw k * t := by
      rw [Int.mul_assoc, ← Int.mul_add, Int.add_comm, e]
    have e4 : pw k * t = pw k * x.getD k 0 + pw k * y.getD k 0 + pw k * (addTo x y k).2 := by rw [← ht, Int.mul_add, Int.mul_add]
    rw [e2]
    omega
theorem add_val {x y : List Int} (n : Nat) (hx : x.length ≤ n) (hy : y.length ≤ n) : val ((addTo x y n).1 ++ [(addTo x y n).2]) = val x + val y := by
  rw [val_snoc, addTo_length, addTo_val, List.take_of_length_le hx, List.take_of_length_le hy]

/-! ### Subtraction -/
def subTo (x y : List Int) : Nat → List Int × Int
  | 0 => ([], 0)
  | k + 1 => ((subTo x y k).1 ++ [(x.getD k 0 - y.getD k 0 - (subTo x y k).2) % 4294967296], -((x.getD k 0 - y.getD k 0 - (subTo x y k).2) / 4294967296))
theorem subTo_length (x y : List Int) (k : Nat) : (subTo x y k).1.length = k := by
  induction k with
  | zero => rfl
  | succ k ih => simp [subTo, ih]
theorem subTo_borrow {x y : List Int} (hx : Wf x) (hy : Wf y) (k : Nat) : 0 ≤ (subTo x y k).2 ∧ (subTo x y k).2 ≤ 1 := by
  induction k with
  | zero => simp [subTo]
  | succ k ih =>
    have h1 := hx.getD k
    have h2 := hy.getD k
    simp only [subTo]
    omega
theorem subTo_wf (x y : List Int) (k : Nat) : Wf (subTo x y k).1 := by
  induction k with
  | zero => exact Wf.nil
  | succ k ih => exact ih.append (Wf.nil.cons (by omega) (by omega))
theorem subTo_val (x y : List Int) (k : Nat) : val (subTo x y k).1 - pw k * (subTo x y k).2 = val (x.take k) - val (y.take k) := by
  induction k with
  | zero => simp [subTo, val]
  | succ k ih =>
    rw [val_take_succ, val_take_succ]
    simp only [subTo]
    rw [val_snoc, subTo_length]
    generalize ht : x.getD k 0 - y.getD k 0 - (subTo x y k).2 = t
    have e : 4294967296 * (t / 4294967296) + t % 4294967296 = t := by omega
    have e2 : pw (k + 1) = pw k * 4294967296 := by simp only [pw]; omega
    have e3 : pw k * (t % 4294967296) + pw k * 4294967296 * (t / 4294967296) = pw k * t := by
      rw [Int.mul_assoc, ← Int.mul_add, Int.add_comm, e]
    have e4 : pw k * t = pw k * x.getD k 0 - pw k * y.getD k 0 - pw k * (subTo x y k).2 := by rw [← ht, Int.mul_sub, Int.mul_sub]
    rw [e2, Int.mul_neg]
    omega
theorem sub_val {x y : List Int} (hx : Wf x) (hy : Wf y) (hl : y.length ≤ x.length) (hle : val y ≤ val x) : val (subTo x y x.length).1 = val x - val y := by
  have h := subTo_val x y x.length
  rw [List.take_length, List.take_of_length_le hl] at h
  have hb := subTo_borrow hx hy x.length
  have hlt := val_lt (subTo_wf x y x.length)
  rw [subTo_length] at hlt
  have hp := pw_pos x.length
  have h0 := val_nonneg (subTo_wf x y x.length)
  have : (subTo x y x.length).2 = 0 ∨ (subTo x y x.length).2 = 1 := by omega
  rcases this with e | e <;> rw [e] at h <;> omega

/-! ### Multiplication -/
theorem val_set (l : List Int) (j : Nat) (z : Int) (hj : j < l.length) : val (l.set j z) = val l + pw j * (z - l.getD j 0) := by
  induction l generalizing j with
  | nil => simp at hj
  | cons d l ih =>
    cases j with
    | zero => simp [val, pw]; omega
    | succ j =>
      simp only [List.set_cons_succ, val, pw, List.getD_cons_succ]
      rw [ih j (by simpa using hj), Int.mul_add, Int.mul_assoc]
      omega
theorem getD_set_self (l : List Int) (j : Nat) (z : Int) (hj : j < l.length) : (l.set j z).getD j 0 = z := by simp [List.getD, hj]
theorem getD_set_ne (l : List Int) (i j : Nat) (z : Int) (h : i ≠ j) : (l.set i z).getD j 0 = l.getD j 0 := by simp [List.getD, List.getElem?_set_ne h]

/-- The row and the carry after k steps of adding a times y at place i. -/
def mulIn (L : List Int) (i : Nat) (a : Int) (y : List Int) : Nat → List Int × Int
  | 0 => (L, 0)
  | k + 1 => (((mulIn L i a y k).1).set (i + k) ((a * y.getD k 0 + (mulIn L i a y k).1.getD (i + k) 0 + (mulIn L i a y k).2) % 4294967296),
      (a * y.getD k 0 + (mulIn L i a y k).1.getD (i + k) 0 + (mulIn L i a y k).2) / 4294967296)
theorem mulIn_length (L : List Int) (i : Nat) (a : Int) (y : List Int) (k : Nat) : (mulIn L i a y k).1.length = L.length := by
  induction k with
  | zero => rfl
  | succ k ih => simp [mulIn, ih]
theorem mul32_bound {a b : Int} (ha : 0 ≤ a) (ha' : a < 4294967296) (hb : 0 ≤ b) (hb' : b < 4294967296) : 0 ≤ a * b ∧ a * b ≤ 18446744065119617025 := by
  refine ⟨Int.mul_nonneg ha hb, ?_⟩
  have h1 : a * b ≤ 4294967295 * b := Int.mul_le_mul_of_nonneg_right (by omega) hb
  omega
theorem mulIn_ok {L : List Int} {i : Nat} {a : Int} {y : List Int} (hL : Wf L) (ha : 0 ≤ a) (ha' : a < 4294967296) (hy : Wf y) (k : Nat) :
    Wf (mulIn L i a y k).1 ∧ 0 ≤ (mulIn L i a y k).2 ∧ (mulIn L i a y k).2 < 4294967296 := by
  induction k with
  | zero => exact ⟨hL, by simp [mulIn], by simp [mulIn]⟩
  | succ k ih =>
    have h1 := hy.getD k
    have h2 := ih.1.getD (i + k)
    have h3 := mul32_bound ha ha' h1.1 h1.2
    simp only [mulIn]
    refine ⟨ih.1.set _ (by omega) (by omega), by omega, by omega⟩
theorem mulIn_val {L : List Int} {i : Nat} {a : Int} {y : List Int} {k : Nat} (hk : i + k ≤ L.length) :
    val (mulIn L i a y k).1 + pw (i + k) * (mulIn L i a y k).2 = val L + pw i * (a * val (y.take k)) := by
  induction k with
  | zero => simp [mulIn, val]
  | succ k ih =>
    have ih := ih (by omega)
    simp only [mulIn]
    rw [val_set _ _ _ (by rw [mulIn_length]; omega), val_take_succ]
    generalize (mulIn L i a y k).1 = M at *
    generalize (mulIn L i a y k).2 = c at *
    generalize hm : M.getD (i + k) 0 = m
    generalize y.getD k 0 = b
    generalize ht : a * b + m + c = t
    have e : 4294967296 * (t / 4294967296) + t % 4294967296 = t := by omega
    have e2 : pw (i + (k + 1)) = pw (i + k) * 4294967296 := by rw [← Nat.add_assoc]; simp only [pw]; omega
    have e3 : pw (i + k) * (t % 4294967296) + pw (i + k) * 4294967296 * (t / 4294967296) = pw (i + k) * t := by
      rw [Int.mul_assoc, ← Int.mul_add, Int.add_comm, e]
    have e4 : pw (i + k) * t = pw (i + k) * (a * b) + pw (i + k) * m + pw (i + k) * c := by rw [← ht, Int.mul_add, Int.mul_add]
    have e5 : pw i * (a * (val (List.take k y) + pw k * b)) = pw i * (a * val (List.take k y)) + pw (i + k) * (a * b) := by
      rw [pw_add, Int.mul_add, Int.mul_add]
      congr 1
      rw [Int.mul_assoc, Int.mul_left_comm a (pw k) b]
    rw [e2, e5, Int.mul_sub]
    omega
theorem mulIn_beyond (L : List Int) (i : Nat) (a : Int) (y : List Int) (k j : Nat) (hj : i + k ≤ j) : (mulIn L i a y k).1.getD j 0 = L.getD j 0 := by
  induction k with
  | zero => rfl
  | succ k ih =>
    simp only [mulIn]
    rw [getD_set_ne _ _ _ _ (by omega)]
    exact ih (by omega)
/-- The row after i steps of multiplying x and y. -/
def mulOut (x y : List Int) : Nat → List Int
  | 0 => List.replicate (x.length + y.length) 0
  | i + 1 => (mulIn (mulOut x y i) i (x.getD i 0) y y.length).1.set (i + y.length) (mulIn (mulOut x y i) i (x.getD i 0) y y.length).2
theorem mulOut_length (x y : List Int) (i : Nat) : (mulOut x y i).length = x.length + y.length := by
  induction i with
  | zero => simp [mulOut]
  | succ i ih => simp [mulOut, mulIn_length, ih]
theorem mulOut_wf {x y : List Int} (hx : Wf x) (hy : Wf y) (i : Nat) : Wf (mulOut x y i) := by
  induction i with
  | zero => exact Wf.zeros _
  | succ i ih =>
    have h := mulIn_ok (i := i) ih (hx.getD i).1 (hx.getD i).2 hy y.length
    exact h.1.set _ h.2.1 h.2.2
theorem mulOut_beyond (x y : List Int) (i j : Nat) (hj : i + y.length ≤ j) : (mulOut x y i).getD j 0 = 0 := by
  induction i generalizing j with
  | zero => simp [mulOut, List.getD, List.getElem?_replicate]; split <;> rfl
  | succ i ih =>
    simp only [mulOut]
    rw [getD_set_ne _ _ _ _ (by omega), mulIn_beyond _ _ _ _ _ _ (by omega)]
    exact ih j (by omega)
theorem mulOut_val {x y : List Int} {i : Nat} (hi : i ≤ x.length) : val (mulOut x y i) = val (x.take i) * val y := by
  induction i with
  | zero => simp [mulOut, val_zeros, val]
  | succ i ih =>
    have ih := ih (by omega)
    simp only [mulOut]
    have hl : i + y.length < (mulIn (mulOut x y i) i (x.getD i 0) y y.length).1.length := by rw [mulIn_length, mulOut_length]; omega
    rw [val_set _ _ _ hl, mulIn_beyond _ _ _ _ _ _ (Nat.le_refl _), mulOut_beyond _ _ _ _ (Nat.le_refl _)]
    have h := mulIn_val (L := mulOut x y i) (i := i) (a := x.getD i 0) (y := y) (k := y.length) (by rw [mulOut_length]; omega)
    rw [List.take_length, ih] at h
    rw [val_take_succ, Int.add_mul, Int.sub_zero, h, Int.mul_assoc]
theorem mul_val (x y : List Int) : val (mulOut x y x.length) = val x * val y := by
  rw [mulOut_val (Nat.le_refl _), List.take_length]

attribute [irreducible] pw
end Go.El
/- Division by one word; shifts: plain laws, no program. -/
namespace Go.El
set_option linter.unusedVariables false

/-! ### Division by one word, from the greatest word on -/
def wordTo (x : List Int) (d : Int) : Nat → List Int × Int
  | 0 => ([], 0)
  | k + 1 => ((((wordTo x d k).2 * 4294967296 + x.getD (x.length - 1 - k) 0) / d) :: (wordTo x d k).1, ((wordTo x d k).2 * 4294967296 + x.getD (x.length - 1 - k) 0) % d)
theorem wordTo_length (x : List Int) (d : Int) (k : Nat) : (wordTo x d k).1.length = k := by
  induction k with
  | zero => rfl
  | succ k ih => simp [wordTo, ih]
theorem wordTo_rest {x : List Int} {d : Int} (hd : 0 < d) (k : Nat) : 0 ≤ (wordTo x d k).2 ∧ (wordTo x d k).2 < d := by
  cases k with
  | zero => simp [wordTo]; exact hd
  | succ k =>
    simp only [wordTo]
    exact ⟨Int.emod_nonneg _ (by omega), Int.emod_lt_of_pos _ hd⟩
theorem wordTo_wf {x : List Int} {d : Int} (hx : Wf x) (hd : 0 < d) (k : Nat) : Wf (wordTo x d k).1 := by
  induction k with
  | zero => exact Wf.nil
  | succ k ih =>
    have h1 := hx.getD (x.length - 1 - k)
    have h2 := wordTo_rest (x := x) hd k
    refine ih.cons (Int.ediv_nonneg (by omega) (by omega)) (Int.ediv_lt_of_lt_mul hd ?_)
    have : (wordTo x d k).2 * 4294967296 ≤ (d - 1) * 4294967296 := by omega
    omega
theorem drop_cons {l : List Int} {k : Nat} (h : k < l.length) : l.drop k = l.getD k 0 :: l.drop (k + 1) := by
  rw [List.drop_eq_getElem_cons h, getD_lt h]
theorem wordTo_val {x : List Int} {d : Int} (hd : 0 < d) {k : Nat} (hk : k ≤ x.length) : val (x.drop (x.length - k)) = d * val (wordTo x d k).1 + (wordTo x d k).2 := by
  induction k with
  | zero => simp [wordTo, val]
  | succ k ih =>
    have ih := ih (by omega)
    rw [drop_cons (k := x.length - (k + 1)) (by omega), show x.length - (k + 1) + 1 = x.length - k by omega, show x.length - (k + 1) = x.length - 1 - k by omega]
    simp only [wordTo, val]
    rw [ih]
    generalize hz : (wordTo x d k).2 * 4294967296 + x.getD (x.length - 1 - k) 0 = z
    have e := Int.mul_ediv_add_emod z d
    rw [Int.mul_add, Int.mul_add]
    have : 4294967296 * (d * val (wordTo x d k).1) = d * (4294967296 * val (wordTo x d k).1) := by rw [Int.mul_left_comm]
    omega
theorem word_val {x : List Int} {d : Int} (hd : 0 < d) : val (wordTo x d x.length).1 = val x / d ∧ (wordTo x d x.length).2 = val x % d := by
  have h := wordTo_val (x := x) hd (Nat.le_refl _)
  have hr := wordTo_rest (x := x) hd x.length
  rw [Nat.sub_self, List.drop_zero] at h
  have := (Int.ediv_emod_unique (a := val x) (q := val (wordTo x d x.length).1) (r := (wordTo x d x.length).2) hd).2 ⟨by rw [h, Int.add_comm], hr.1, hr.2⟩
  exact ⟨this.1.symm, this.2.symm⟩
/-- The row of the quotient after k steps. -/
def topTo (d : List Int) (n : Nat) : List Int := List.replicate (n - d.length) 0 ++ d
theorem topTo_nil (n : Nat) : topTo [] n = List.replicate n 0 := by simp [topTo]
theorem topTo_full (d : List Int) (n : Nat) (h : d.length = n) : topTo d n = d := by simp [topTo, h]
theorem topTo_length (d : List Int) (n : Nat) (h : d.length ≤ n) : (topTo d n).length = n := by simp [topTo]; omega
theorem topTo_get (d : List Int) (n k : Nat) (h : k < n - d.length) : (topTo d n)[k]? = some 0 := by
  unfold topTo
  rw [List.getElem?_append_left (by simp; omega), List.getElem?_replicate, if_pos h]
theorem topTo_set (d : List Int) (n k : Nat) (z : Int) (hk : d.length + k + 1 = n) : (topTo d n).set k z = topTo (z :: d) n := by
  unfold topTo
  rw [List.set_append_left _ _ (by simp; omega)]
  have e : n - d.length = k + 1 := by omega
  have e2 : n - (z :: d).length = k := by simp; omega
  rw [e, e2, List.replicate_succ', List.set_append_right _ _ (by simp), List.length_replicate, Nat.sub_self, List.set_cons_zero, List.append_assoc]
  rfl

/-! ### Shifts by p = 2^s, p at most 2^31 -/
def shlTo (x : List Int) (p : Int) : Nat → List Int × Int
  | 0 => ([], 0)
  | k + 1 => ((shlTo x p k).1 ++ [(shlTo x p k).2 + (x.getD k 0 * p) % 4294967296], x.getD k 0 * p / 4294967296)
theorem shlTo_length (x : List Int) (p : Int) (k : Nat) : (shlTo x p k).1.length = k := by
  induction k with
  | zero => rfl
  | succ k ih => simp [shlTo, ih]
theorem shlTo_val (x : List Int) (p : Int) (k : Nat) : val (shlTo x p k).1 + pw k * (shlTo x p k).2 = val (x.take k) * p := by
  induction k with
  | zero => simp [shlTo, val]
  | succ k ih =>
    rw [val_take_succ]
    simp only [shlTo]
    rw [val_snoc, shlTo_length, Int.add_mul, ← ih, Int.mul_add]
    generalize ht : x.getD k 0 * p = t
    have e : 4294967296 * (t / 4294967296) + t % 4294967296 = t := by omega
    have e2 : pw (k + 1) = pw k * 4294967296 := by simp only [pw]; omega
    have e3 : pw k * (t % 4294967296) + pw k * 4294967296 * (t / 4294967296) = pw k * t := by
      rw [Int.mul_assoc, ← Int.mul_add, Int.add_comm, e]
    rw [e2, Int.mul_assoc (pw k) (x.getD k 0) p, ht]
    omega
/-- A power of 2 up to 2^31. -/
def Pow2 (p : Int) (s : Nat) : Prop := p = ((2 ^ s : Nat) : Int) ∧ s ≤ 31
theorem Pow2.bd {p : Int} {s : Nat} (h : Pow2 p s) : 1 ≤ p ∧ p ≤ 2147483648 := by
  obtain ⟨h1, h2⟩ := h
  have a := Nat.pow_le_pow_right (show 0 < 2 by omega) h2
  have b := Nat.one_le_two_pow (n := s)
  have c : (2 : Nat) ^ 31 = 2147483648 := by decide
  omega
/-- p times its partner is 2^32. -/
theorem Pow2.split {p : Int} {s : Nat} (h : Pow2 p s) : ∃ q : Int, p * q = 4294967296 ∧ 2 ≤ q ∧ q = ((2 ^ (32 - s) : Nat) : Int) := by
  obtain ⟨h1, h2⟩ := h
  refine ⟨((2 ^ (32 - s) : Nat) : Int), ?_, ?_, rfl⟩
  · rw [h1, ← Int.natCast_mul, ← Nat.pow_add, show s + (32 - s) = 32 by omega]; rfl
  · have a := Nat.pow_le_pow_right (show 0 < 2 by omega) (show 1 ≤ 32 - s by omega)
    omega
theorem shl_carry {a p : Int} {s : Nat} (hp : Pow2 p s) (ha : 0 ≤ a) (ha' : a < 4294967296) : 0 ≤ a * p / 4294967296 ∧ a * p / 4294967296 < p ∧ ∃ m, (a * p) % 4294967296 = p * m ∧ 0 ≤ m ∧ p * m + p ≤ 4294967296 := by
  obtain ⟨q, hq, hq2, _⟩ := hp.split
  have hb := hp.bd
  have h0 : 0 ≤ a * p := Int.mul_nonneg ha (by omega)
  have h1 : a * p < 4294967296 * p := Int.mul_lt_mul_of_pos_right ha' (by omega)
  refine ⟨Int.ediv_nonneg h0 (by omega), Int.ediv_lt_of_lt_mul (by omega) (by rw [Int.mul_comm p]; exact h1), a % q, ?_, Int.emod_nonneg _ (by omega), ?_⟩
  · rw [← hq, Int.mul_comm a p, Int.mul_emod_mul_of_pos _ _ (by omega)]
  · have h2 : a % q < q := Int.emod_lt_of_pos _ (by omega)
    have h3 : p * (a % q + 1) ≤ p * q := Int.mul_le_mul_of_nonneg_left (by omega) (by omega)
    rw [Int.mul_add] at h3
    omega
theorem shlTo_carry {x : List Int} {p : Int} {s : Nat} (hp : Pow2 p s) (hx : Wf x) (k : Nat) : 0 ≤ (shlTo x p k).2 ∧ (shlTo x p k).2 < p := by
  cases k with
  | zero => have := hp.bd; simp [shlTo]; omega
  | succ k =>
    have h := shl_carry hp (hx.getD k).1 (hx.getD k).2
    exact ⟨h.1, h.2.1⟩
theorem shlTo_wf {x : List Int} {p : Int} {s : Nat} (hp : Pow2 p s) (hx : Wf x) (k : Nat) : Wf (shlTo x p k).1 := by
  induction k with
  | zero => exact Wf.nil
  | succ k ih =>
    have h := shlTo_carry hp hx k
    obtain ⟨_, _, m, hm, hm0, hm1⟩ := shl_carry hp (hx.getD k).1 (hx.getD k).2
    have hb := hp.bd
    have : 0 ≤ p * m := Int.mul_nonneg (by omega) hm0
    refine ih.append (Wf.nil.cons ?_ ?_)
    · omega
    · omega
theorem shl_val (x : List Int) (p : Int) : val ((shlTo x p x.length).1 ++ [(shlTo x p x.length).2]) = val x * p := by
  rw [val_snoc, shlTo_length, shlTo_val, List.take_length]

/-- Right: word i of x / p. -/
def shrAt (x : List Int) (p : Int) (i : Nat) : Int := ((x.getD (i + 1) 0 * 4294967296 + x.getD i 0) / p) % 4294967296
def shrTo (x : List Int) (p : Int) (k : Nat) : List Int := (List.range k).map (shrAt x p)
theorem shrTo_succ (x : List Int) (p : Int) (k : Nat) : shrTo x p (k + 1) = shrTo x p k ++ [shrAt x p k] := by simp [shrTo, List.range_succ]
theorem shrTo_length (x : List Int) (p : Int) (k : Nat) : (shrTo x p k).length = k := by simp [shrTo]
theorem shrTo_wf (x : List Int) (p : Int) (k : Nat) : Wf (shrTo x p k) := fun z hz => by
  simp only [shrTo, List.mem_map] at hz
  obtain ⟨i, _, rfl⟩ := hz
  unfold shrAt; omega
/-- The words below k, with those that come down from above. -/
theorem shrTo_val {x : List Int} {p : Int} {s : Nat} (hp : Pow2 p s) (hx : Wf x) (k : Nat) : val (shrTo x p k) * p + (x.getD 0 0) % p = val (x.take k) + pw k * (x.getD k 0 % p) := by
  obtain ⟨q, hq, hq2, _⟩ := hp.split
  have hb := hp.bd
  induction k with
  | zero => simp [shrTo, val, pw]
  | succ k ih =>
    rw [shrTo_succ, val_snoc, shrTo_length, val_take_succ, Int.add_mul]
    have e2 : pw (k + 1) = pw k * 4294967296 := by simp only [pw]; omega
    have key : shrAt x p k * p + x.getD k 0 % p = x.getD k 0 + 4294967296 * (x.getD (k + 1) 0 % p) := by
      unfold shrAt
      generalize ha : x.getD k 0 = a
      generalize hc : x.getD (k + 1) 0 = c
      have h1 := hx.getD k
      rw [ha] at h1
      have e3 : (c * 4294967296 + a) / p = c * q + a / p := by
        rw [← hq, show c * (p * q) + a = a + (c * q) * p by rw [Int.mul_comm p q, Int.mul_assoc, Int.add_comm], Int.add_mul_ediv_right _ _ (by omega)]
        omega
      rw [e3]
      have e4 : (c * q + a / p) % 4294967296 = (c % p) * q + a / p := by
        have hc1 := Int.mul_ediv_add_emod c p
        have : c * q + a / p = ((c % p) * q + a / p) + 4294967296 * (c / p) := by
          rw [← hq]
          have : c * q = (p * (c / p) + c % p) * q := by rw [hc1]
          rw [this, Int.add_mul, Int.mul_assoc p (c / p) q, Int.mul_comm (c / p) q, ← Int.mul_assoc]
          omega
        rw [this, Int.add_mul_emod_self_left]
        have b1 : 0 ≤ c % p := Int.emod_nonneg _ (by omega)
        have b2 : c % p < p := Int.emod_lt_of_pos _ (by omega)
        have b3 : 0 ≤ a / p := Int.ediv_nonneg h1.1 (by omega)
        have b4 : a / p < q := Int.ediv_lt_of_lt_mul (by omega) (by rw [Int.mul_comm, hq]; omega)
        have b5 : 0 ≤ (c % p) * q := Int.mul_nonneg b1 (by omega)
        have b6 : (c % p + 1) * q ≤ p * q := Int.mul_le_mul_of_nonneg_right (by omega) (by omega)
        rw [Int.add_mul] at b6
        exact Int.emod_eq_of_lt (by omega) (by omega)
      rw [e4, Int.add_mul, Int.mul_assoc, Int.mul_comm q p, hq]
      have := Int.mul_ediv_add_emod a p
      rw [Int.mul_comm p] at this
      omega
    have e5 : pw k * shrAt x p k * p = pw k * (shrAt x p k * p) := Int.mul_assoc _ _ _
    have e6 : pw k * (shrAt x p k * p) + pw k * (x.getD k 0 % p) = pw k * x.getD k 0 + pw k * 4294967296 * (x.getD (k + 1) 0 % p) := by
      rw [← Int.mul_add, key, Int.mul_add, Int.mul_assoc]
    rw [e2, e5]
    omega
theorem shr_val {x : List Int} {p : Int} {s : Nat} (hp : Pow2 p s) (hx : Wf x) : val (shrTo x p x.length) = val x / p := by
  have h := shrTo_val hp hx x.length
  have hb := hp.bd
  rw [List.take_length, getD_ge (Nat.le_refl _)] at h
  simp only [Int.zero_emod, Int.mul_zero] at h
  have h1 : 0 ≤ x.getD 0 0 % p := Int.emod_nonneg _ (by omega)
  have h2 : x.getD 0 0 % p < p := Int.emod_lt_of_pos _ (by omega)
  exact ((Int.ediv_emod_unique (a := val x) (q := val (shrTo x p x.length)) (r := x.getD 0 0 % p) (by omega)).2 ⟨by rw [Int.mul_comm p]; omega, h1, h2⟩).1.symm
end Go.El
/- The digit of a quotient (Knuth's algorithm D): plain laws, no program. -/
namespace Go.El
set_option linter.unusedVariables false

/-! ### Rows in the middle of a longer row; rows half written -/
def mid (A L C : List Int) : List Int := A ++ (L ++ C)
theorem mid_get (A L C : List Int) (i : Nat) (h : i < L.length) : (mid A L C)[A.length + i]? = some (L.getD i 0) := by
  unfold mid
  rw [List.getElem?_append_right (by omega), Nat.add_sub_cancel_left, List.getElem?_append_left h, getD_lt h, List.getElem?_eq_getElem h]
theorem mid_set (A L C : List Int) (i : Nat) (z : Int) (h : i < L.length) : (mid A L C).set (A.length + i) z = mid A (L.set i z) C := by
  unfold mid
  rw [List.set_append_right _ _ (by omega), Nat.add_sub_cancel_left, List.set_append_left _ _ h]
/-- The first words new, the others as in L. -/
def half (P L : List Int) : List Int := P ++ L.drop P.length
theorem half_nil (L : List Int) : half [] L = L := by simp [half]
theorem half_length (P L : List Int) (h : P.length ≤ L.length) : (half P L).length = L.length := by simp [half]; omega
theorem half_get (P L : List Int) (k : Nat) (hk : P.length = k) : (half P L).getD k 0 = L.getD k 0 := by
  subst hk
  simp only [half, List.getD]
  rw [List.getElem?_append_right (Nat.le_refl _), Nat.sub_self, List.getElem?_drop, Nat.add_zero]
theorem half_set (P L : List Int) (k : Nat) (z : Int) (hk : P.length = k) (hl : k < L.length) : (half P L).set k z = half (P ++ [z]) L := by
  subst hk
  unfold half
  rw [List.set_append_right _ _ (Nat.le_refl _), Nat.sub_self, List.drop_eq_getElem_cons hl, List.set_cons_zero]
  simp
theorem half_full (P L : List Int) (h : L.length ≤ P.length) : half P L = P := by simp [half, List.drop_of_length_le h]
theorem half_wf {P L : List Int} (hp : Wf P) (hl : Wf L) : Wf (half P L) := hp.append (hl.drop _)

/-! ### d times v taken away, word by word: the digits, the carry, the borrow -/
def msTo (x v : List Int) (d : Int) : Nat → List Int × Int × Int
  | 0 => ([], 0, 0)
  | k + 1 =>
    let t := (msTo x v d k).2.1 + d * v.getD k 0
    let s := x.getD k 0 - t % 4294967296 - (msTo x v d k).2.2
    ((msTo x v d k).1 ++ [s % 4294967296], t / 4294967296, -(s / 4294967296))
theorem msTo_length (x v : List Int) (d : Int) (k : Nat) : (msTo x v d k).1.length = k := by
  induction k with
  | zero => rfl
  | succ k ih => simp [msTo, ih]
theorem msTo_wf (x v : List Int) (d : Int) (k : Nat) : Wf (msTo x v d k).1 := by
  induction k with
  | zero => exact Wf.nil
  | succ k ih => exact ih.append (Wf.nil.cons (by omega) (by omega))
theorem msTo_bd {x v : List Int} {d : Int} (hx : Wf x) (hv : Wf v) (hd : 0 ≤ d) (hd' : d < 4294967296) (k : Nat) :
    0 ≤ (msTo x v d k).2.1 ∧ (msTo x v d k).2.1 < 4294967296 ∧ 0 ≤ (msTo x v d k).2.2 ∧ (msTo x v d k).2.2 ≤ 1 := by
  induction k with
  | zero => simp [msTo]
  | succ k ih =>
    have h1 := hx.getD k
    have h2 := hv.getD k
    have h3 := mul32_bound hd hd' h2.1 h2.2
    simp only [msTo]
    omega
theorem msTo_val (x v : List Int) (d : Int) (k : Nat) : val (msTo x v d k).1 = val (x.take k) - d * val (v.take k) + pw k * ((msTo x v d k).2.1 + (msTo x v d k).2.2) := by
  induction k with
  | zero => simp [msTo, val]
  | succ k ih =>
    rw [val_take_succ, val_take_succ]
    simp only [msTo]
    rw [val_snoc, msTo_length, ih]
    generalize (msTo x v d k).2.1 = c
    generalize (msTo x v d k).2.2 = b
    generalize x.getD k 0 = y
    generalize v.getD k 0 = z
    have e2 : pw (k + 1) = pw k * 4294967296 := by simp only [pw]; omega
    rw [e2, Int.mul_add d, Int.mul_left_comm d (pw k) z, Int.mul_assoc]
    have e : ∀ t s : Int, t = c + d * z → s = y - t % 4294967296 - b → s % 4294967296 + (d * z) + (c + b) = y + 4294967296 * (t / 4294967296 + -(s / 4294967296)) := fun t s ht hs => by omega
    have e' := congrArg (fun q => pw k * q) (e _ _ rfl rfl)
    simp only [Int.mul_add] at e' ⊢
    omega
theorem msTo_carry {x v : List Int} {d : Int} (hv : Wf v) (hd : 0 ≤ d) (k : Nat) : pw k * (msTo x v d k).2.1 ≤ d * val (v.take k) := by
  induction k with
  | zero => simp [msTo, val]
  | succ k ih =>
    rw [val_take_succ]
    simp only [msTo]
    generalize (msTo x v d k).2.1 = c at *
    generalize v.getD k 0 = z
    have e2 : pw (k + 1) = pw k * 4294967296 := by simp only [pw]; omega
    rw [e2, Int.mul_add d, Int.mul_left_comm d (pw k) z, Int.mul_assoc]
    have hp := pw_pos k
    have h1 : 4294967296 * ((c + d * z) / 4294967296) ≤ c + d * z := by omega
    have h2 : pw k * (4294967296 * ((c + d * z) / 4294967296)) ≤ pw k * (c + d * z) := Int.mul_le_mul_of_nonneg_left h1 (by omega)
    rw [Int.mul_add] at h2
    omega
/-- At the end no carry is left. -/
theorem msTo_end {x v : List Int} {d : Int} {n : Nat} (hx : Wf x) (hv : Wf v) (hd : 0 ≤ d) (hd' : d < 4294967296) (hvl : v.length = n) (hxl : x.length = n + 1) :
    (msTo x v d (n + 1)).2.1 = 0 ∧ val (msTo x v d (n + 1)).1 = val x - d * val v + pw (n + 1) * (msTo x v d (n + 1)).2.2 := by
  have h1 := msTo_carry (x := x) hv hd (n + 1)
  have h2 := msTo_bd hx hv hd hd' (n + 1)
  have h3 := msTo_val x v d (n + 1)
  rw [List.take_of_length_le (by omega)] at h1
  rw [List.take_of_length_le (by omega), List.take_of_length_le (by omega)] at h3
  have h4 := val_lt hv
  have h5 := val_nonneg hv
  rw [hvl] at h4
  have h0 : (msTo x v d (n + 1)).2.1 = 0 := by
    apply Decidable.byContradiction
    intro hne
    have h6 : pw (n + 1) * 1 ≤ pw (n + 1) * (msTo x v d (n + 1)).2.1 := Int.mul_le_mul_of_nonneg_left (by omega) (by have := pw_pos (n + 1); omega)
    have h7 : d * val v ≤ 4294967295 * val v := Int.mul_le_mul_of_nonneg_right (by omega) h5
    simp only [pw] at h6 h1
    omega
  refine ⟨h0, ?_⟩
  rw [h3, h0, Int.zero_add]

/-! ### The guess is not less than the digit -/
/-- q v <= x; T the two first words of x, v1, v2 those of v; M what follows counts. -/
theorem guess_ge {q X V T v1 n : Int} (hn : 0 < n) (hv1 : 0 < v1) (hq : 0 ≤ q) (hqx : q * V ≤ X) (hV : v1 * n ≤ V) (hX : X < (T + 1) * n) : q ≤ T / v1 := by
  have h1 : q * (v1 * n) ≤ q * V := Int.mul_le_mul_of_nonneg_left hV hq
  have h2 : (q * v1) * n < (T + 1) * n := by rw [Int.mul_assoc]; omega
  have h3 : q * v1 < T + 1 := Int.lt_of_mul_lt_mul_right h2 (by omega)
  exact Int.le_ediv_of_mul_le hv1 (by omega)
theorem guess_less {q X V T v1 v2 u2 d r n : Int} (hn : 0 < n) (hV0 : 0 ≤ V) (hqx : q * V ≤ X) (hV : (v1 * 4294967296 + v2) * n ≤ V) (hX : X < (T * 4294967296 + u2 + 1) * n) (hdr : d * v1 + r = T) (hd : 0 ≤ d) (hgt : r * 4294967296 + u2 < d * v2) : q < d := by
  apply Decidable.byContradiction
  intro hnot
  have hle : d ≤ q := by omega
  have h1 : d * V ≤ q * V := Int.mul_le_mul_of_nonneg_right hle hV0
  have h3 : d * ((v1 * 4294967296 + v2) * n) ≤ d * V := Int.mul_le_mul_of_nonneg_left hV hd
  have e : T * 4294967296 + u2 + 1 ≤ d * (v1 * 4294967296 + v2) := by
    rw [Int.mul_add, ← Int.mul_assoc]
    have : d * v1 = T - r := by omega
    rw [this, Int.sub_mul]; omega
  have h4 : (T * 4294967296 + u2 + 1) * n ≤ d * (v1 * 4294967296 + v2) * n := Int.mul_le_mul_of_nonneg_right e (by omega)
  rw [Int.mul_assoc d] at h4
  omega
/-- If the second test lets it be, the guess is at most 1 too great. -/
theorem guess_near {X V T v1 v2 u2 d n : Int} (hn : 0 < n) (hv1 : 0 < v1) (hd : 0 ≤ d) (hd' : d ≤ 4294967296) (hV1 : v1 * 4294967296 * n ≤ V) (hV : V < (v1 * 4294967296 + v2 + 1) * n) (hX : (T * 4294967296 + u2) * n ≤ X) (hle : d * (v1 * 4294967296 + v2) ≤ T * 4294967296 + u2) : (d - 1) * V ≤ X := by
  have h1 : d * (v1 * 4294967296 + v2) * n ≤ X := Int.le_trans (Int.mul_le_mul_of_nonneg_right hle (by omega)) hX
  have h2 : d * V ≤ d * ((v1 * 4294967296 + v2 + 1) * n) := Int.mul_le_mul_of_nonneg_left (by omega) hd
  have e : d * ((v1 * 4294967296 + v2 + 1) * n) = d * (v1 * 4294967296 + v2) * n + d * n := by
    rw [Int.add_mul, Int.one_mul, Int.mul_add, Int.mul_assoc]
  have h3 : d * n ≤ 4294967296 * n := Int.mul_le_mul_of_nonneg_right hd' (by omega)
  have h4 : 1 * (4294967296 * n) ≤ v1 * (4294967296 * n) := Int.mul_le_mul_of_nonneg_right (by omega) (by omega)
  rw [← Int.mul_assoc v1] at h4
  rw [Int.sub_mul, Int.one_mul]
  omega
/-- The two and the three first words against the whole. -/
theorem val_top2 {l : List Int} (h : Wf l) {m : Nat} (hl : l.length = m + 1) : l.getD m 0 * pw m ≤ val l ∧ val l < (l.getD m 0 + 1) * pw m := by
  have h1 := val_take_drop l m (by omega)
  rw [drop_cons (by omega), List.drop_of_length_le (by omega), val_one] at h1
  have h2 := val_nonneg (h.take m)
  have h3 := val_lt (h.take m)
  rw [List.length_take, Nat.min_eq_left (by omega)] at h3
  rw [Int.add_mul, Int.one_mul, Int.mul_comm (l.getD m 0)]
  omega
theorem val_top (l : List Int) (h : Wf l) (j : Nat) (hj : j ≤ l.length) : val (l.drop j) * pw j ≤ val l ∧ val l < (val (l.drop j) + 1) * pw j := by
  have h1 := val_take_drop l j hj
  have h2 := val_nonneg (h.take j)
  have h3 := val_lt (h.take j)
  rw [List.length_take, Nat.min_eq_left hj] at h3
  rw [Int.add_mul, Int.one_mul, Int.mul_comm (val (l.drop j))]
  omega
theorem drop_two {l : List Int} {n : Nat} (hl : l.length = n + 2) : val (l.drop n) = l.getD (n + 1) 0 * 4294967296 + l.getD n 0 := by
  rw [drop_cons (by omega), drop_cons (by omega), List.drop_of_length_le (by omega)]
  simp only [val]; omega
theorem drop_three {l : List Int} {n : Nat} (hl : l.length = n + 3) : val (l.drop n) = (l.getD (n + 2) 0 * 4294967296 + l.getD (n + 1) 0) * 4294967296 + l.getD n 0 := by
  have e : n + 1 + 1 = n + 2 := rfl
  rw [drop_cons (by omega), drop_cons (by omega), drop_cons (by omega), List.drop_of_length_le (by omega)]
  simp only [val, e]; omega
end Go.El
/- Long division: the plain law, no program. -/
namespace Go.El
set_option linter.unusedVariables false

/-- The state of long division: u0 is what is divided, v the divisor of n words, U what is left (j + n words), d the digits so far, j the digits still to come. -/
structure Dv (u0 v : Int) (n : Nat) (U d : List Int) (j : Nat) : Prop where
  wf : Wf U
  wd : Wf d
  eq : u0 = val d * pw j * v + val U
  lt : val (U.drop j) < v
theorem val_mid (A L C : List Int) : val (mid A L C) = val A + pw A.length * (val L + pw L.length * val C) := by
  unfold mid; rw [val_append, val_append]
theorem split_mid (U : List Int) (j n : Nat) (h : j + n ≤ U.length) : mid (U.take j) ((U.drop j).take n) ((U.drop j).drop n) = U := by
  unfold mid; rw [List.take_append_drop, List.take_append_drop]
/-- Before a digit is reckoned. -/
theorem Dv.before {u0 v : Int} {n : Nat} {U d : List Int} {j : Nat} (h : Dv u0 v n U d (j + 1)) (hv : v < pw n) (hl : j + (n + 1) ≤ U.length) :
    val ((U.drop j).take (n + 1)) < 4294967296 * v ∧ val ((U.drop j).drop (n + 1)) = 0 := by
  have h1 := h.lt
  have h2 : U.drop j = U.getD j 0 :: U.drop (j + 1) := drop_cons (by omega)
  have h3 := val_take_drop (U.drop (j + 1)) n (by simp; omega)
  have h4 : ((U.drop j).drop (n + 1)) = (U.drop (j + 1)).drop n := by rw [List.drop_drop, List.drop_drop]; congr 1; omega
  have h5 := val_nonneg ((h.wf.drop (j + 1)).take n)
  have h6 := val_nonneg ((h.wf.drop (j + 1)).drop n)
  have hC : val ((U.drop (j + 1)).drop n) = 0 := by
    apply Decidable.byContradiction
    intro hne
    have : pw n * 1 ≤ pw n * val ((U.drop (j + 1)).drop n) := Int.mul_le_mul_of_nonneg_left (by omega) (by have := pw_pos n; omega)
    omega
  refine ⟨?_, by rw [h4]; exact hC⟩
  have h7 := val_take_drop (U.drop j) (n + 1) (by simp; omega)
  rw [h4, hC, Int.mul_zero, Int.add_zero] at h7
  have hd := h.wf.getD j
  rw [← h7, h2, val]
  omega
theorem Dv.step {u0 v : Int} {n : Nat} {U d L' : List Int} {j : Nat} (h : Dv u0 v n U d (j + 1)) (hv0 : 0 < v) (hv : v < pw n) (hl : j + (n + 1) ≤ U.length) (hw : Wf L') (hlen : L'.length = n + 1)
    (hval : val L' = val ((U.drop j).take (n + 1)) % v) : Dv u0 v n (mid (U.take j) L' ((U.drop j).drop (n + 1))) (val ((U.drop j).take (n + 1)) / v :: d) j := by
  obtain ⟨hb, hC⟩ := h.before hv hl
  have hL0 := val_nonneg ((h.wf.drop j).take (n + 1))
  have hq0 : 0 ≤ val ((U.drop j).take (n + 1)) / v := Int.ediv_nonneg hL0 (by omega)
  have hq1 : val ((U.drop j).take (n + 1)) / v < 4294967296 := Int.ediv_lt_of_lt_mul hv0 hb
  have hU := val_mid (U.take j) ((U.drop j).take (n + 1)) ((U.drop j).drop (n + 1))
  rw [split_mid _ _ _ hl, hC, Int.mul_zero, Int.add_zero, List.length_take, Nat.min_eq_left (by omega)] at hU
  refine ⟨?_, h.wd.cons hq0 hq1, ?_, ?_⟩
  · unfold mid; exact (h.wf.take _).append (hw.append ((h.wf.drop _).drop _))
  · rw [h.eq, hU, val_mid, hC, Int.mul_zero, Int.add_zero, List.length_take, Nat.min_eq_left (by omega), hval]
    have e := Int.mul_ediv_add_emod (val ((U.drop j).take (n + 1))) v
    generalize val ((U.drop j).take (n + 1)) = X at *
    simp only [val, pw]
    have e1 : pw j * X = pw j * (v * (X / v)) + pw j * (X % v) := by rw [← Int.mul_add, e]
    have e2 : (X / v + 4294967296 * val d) * pw j * v = X / v * pw j * v + val d * (4294967296 * pw j) * v := by
      rw [Int.add_mul, Int.add_mul]
      congr 2
      rw [Int.mul_comm 4294967296 (val d), Int.mul_assoc]
    have e3 : X / v * pw j * v = pw j * (v * (X / v)) := by
      rw [Int.mul_comm (X / v) (pw j), Int.mul_assoc, Int.mul_comm (X / v) v]
    rw [e2, e3]
    omega
  · have : (mid (U.take j) L' ((U.drop j).drop (n + 1))).drop j = L' ++ (U.drop j).drop (n + 1) := by
      unfold mid
      rw [List.drop_append_of_le_length (by simp; omega), List.drop_of_length_le (by simp; omega), List.nil_append]
    rw [this, val_append, hC, Int.mul_zero, Int.add_zero, hval]
    exact Int.emod_lt_of_pos _ hv0
theorem Dv.done {u0 v : Int} {n : Nat} {U d : List Int} (h : Dv u0 v n U d 0) (hv : 0 < v) : val d = u0 / v ∧ val U = u0 % v := by
  have h1 := h.eq
  have h2 := h.lt
  rw [List.drop_zero] at h2
  simp only [pw, Int.mul_one] at h1
  have := (Int.ediv_emod_unique (a := u0) (q := val d) (r := val U) hv).2 ⟨by rw [h1, Int.mul_comm v]; omega, val_nonneg h.wf, h2⟩
  exact ⟨this.1.symm, this.2.symm⟩
/-- The beginning. -/
theorem Dv.start {a b p : Int} {U : List Int} {j n : Nat} (hw : Wf U) (hU : val U = a * p) (hp : 0 < p) (ha : a < pw (j + n - 1)) (hb : pw (n - 1) ≤ b) (hn : 1 ≤ n) (hj : 1 ≤ j) (hl : U.length = j + n) : Dv (a * p) (b * p) n U [] j := by
  refine ⟨hw, Wf.nil, by simp [val, hU], ?_⟩
  have h1 := val_take_drop U j (by omega)
  have h2 := val_nonneg (hw.take j)
  have h3 : a * p < pw (j + n - 1) * p := Int.mul_lt_mul_of_pos_right ha hp
  have e : pw (j + n - 1) = pw j * pw (n - 1) := by rw [← pw_add]; congr 1; omega
  have h4 : pw j * val (U.drop j) < pw j * (pw (n - 1) * p) := by
    rw [← Int.mul_assoc, ← e]; omega
  have h5 := Int.lt_of_mul_lt_mul_left h4 (by have := pw_pos j; omega)
  have h6 : pw (n - 1) * p ≤ b * p := Int.mul_le_mul_of_nonneg_right hb (by omega)
  omega
theorem scaled_div {a b p : Int} (hb : 0 < b) (hp : 0 < p) : (a * p) / (b * p) = a / b ∧ (a * p) % (b * p) = (a % b) * p := by
  refine ⟨Int.mul_ediv_mul_of_pos_left _ _ hp, ?_⟩
  rw [Int.mul_comm a p, Int.mul_comm b p, Int.mul_emod_mul_of_pos _ _ hp, Int.mul_comm]
end Go.El
