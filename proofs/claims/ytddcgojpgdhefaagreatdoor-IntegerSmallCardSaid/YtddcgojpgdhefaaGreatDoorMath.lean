/- Numbers and their words of 32 bits, least word first: plain laws, no program. -/
namespace Go.El
set_option linter.unusedVariables false

/-- 2^32 to the k. -/
def pw : Nat → Int
  | 0 => 1
  | k + 1 => 4294967296 * pw k

theorem pw_pos (k : Nat) : 0 < pw k := by
  induction k with
  | zero => simp [pw]
  | succ k ih => simp only [pw]; omega
theorem pw_add (a b : Nat) : pw (a + b) = pw a * pw b := by
  induction a with
  | zero => simp [pw]
  | succ a ih => rw [Nat.succ_add]; simp only [pw, ih]; rw [Int.mul_assoc]
theorem pw_one : pw 1 = 4294967296 := by simp [pw]
theorem pw_le {a b : Nat} (h : a ≤ b) : pw a ≤ pw b := by
  obtain ⟨c, rfl⟩ := Nat.exists_eq_add_of_le h
  rw [pw_add]
  have h1 := pw_pos a
  have h2 := pw_pos c
  have : pw a * 1 ≤ pw a * pw c := Int.mul_le_mul_of_nonneg_left (by omega) (by omega)
  omega

/-- The number that words stand for. -/
def val : List Int → Int
  | [] => 0
  | d :: l => d + 4294967296 * val l

def Wf (l : List Int) : Prop := ∀ x ∈ l, 0 ≤ x ∧ x < 4294967296

theorem Wf.nil : Wf [] := fun x h => by cases h
theorem Wf.cons {d : Int} {l : List Int} (h0 : 0 ≤ d) (h1 : d < 4294967296) (h : Wf l) : Wf (d :: l) := fun x hx => by
  rcases List.mem_cons.1 hx with rfl | hx
  · exact ⟨h0, h1⟩
  · exact h x hx
theorem Wf.head {d : Int} {l : List Int} (h : Wf (d :: l)) : 0 ≤ d ∧ d < 4294967296 := h d (by simp)
theorem Wf.tail {d : Int} {l : List Int} (h : Wf (d :: l)) : Wf l := fun x hx => h x (by simp [hx])
theorem Wf.append {a b : List Int} (ha : Wf a) (hb : Wf b) : Wf (a ++ b) := fun x hx => by
  rcases List.mem_append.1 hx with h | h
  · exact ha x h
  · exact hb x h
theorem Wf.left {a b : List Int} (h : Wf (a ++ b)) : Wf a := fun x hx => h x (by simp [hx])
theorem Wf.right {a b : List Int} (h : Wf (a ++ b)) : Wf b := fun x hx => h x (by simp [hx])
theorem Wf.take {l : List Int} (h : Wf l) (k : Nat) : Wf (l.take k) := fun x hx => h x (List.mem_of_mem_take hx)
theorem Wf.drop {l : List Int} (h : Wf l) (k : Nat) : Wf (l.drop k) := fun x hx => h x (List.mem_of_mem_drop hx)
theorem Wf.zeros (k : Nat) : Wf (List.replicate k 0) := fun x hx => by
  rw [List.eq_of_mem_replicate hx]; omega
theorem Wf.set {l : List Int} (h : Wf l) (i : Nat) {z : Int} (h0 : 0 ≤ z) (h1 : z < 4294967296) : Wf (l.set i z) := fun x hx => by
  rcases List.mem_or_eq_of_mem_set hx with hx | rfl
  · exact h x hx
  · exact ⟨h0, h1⟩
theorem Wf.getD {l : List Int} (h : Wf l) (k : Nat) : 0 ≤ l.getD k 0 ∧ l.getD k 0 < 4294967296 := by
  unfold List.getD
  cases hk : l[k]? with
  | none => simp
  | some z => simpa using h z (List.mem_of_getElem? hk)
theorem Wf.get {l : List Int} (h : Wf l) (k : Nat) (hk : k < l.length) : 0 ≤ l[k] ∧ l[k] < 4294967296 := h _ (List.getElem_mem hk)

theorem val_append (a b : List Int) : val (a ++ b) = val a + pw a.length * val b := by
  induction a with
  | nil => simp [val, pw]
  | cons d a ih =>
    simp only [List.cons_append, val, ih, List.length_cons, pw]
    rw [Int.mul_add, Int.mul_assoc]
    omega
theorem val_zeros (k : Nat) : val (List.replicate k 0) = 0 := by
  induction k with
  | zero => rfl
  | succ k ih => simp [List.replicate_succ, val, ih]
theorem val_one (d : Int) : val [d] = d := by simp [val]
theorem val_snoc (a : List Int) (d : Int) : val (a ++ [d]) = val a + pw a.length * d := by rw [val_append, val_one]
theorem val_nonneg {l : List Int} (h : Wf l) : 0 ≤ val l := by
  induction l with
  | nil => simp [val]
  | cons d l ih =>
    have := h.head
    have := ih h.tail
    simp only [val]; omega
theorem val_lt {l : List Int} (h : Wf l) : val l < pw l.length := by
  induction l with
  | nil => simp [val, pw]
  | cons d l ih =>
    have := h.head
    have := ih h.tail
    simp only [val, List.length_cons, pw]; omega
theorem val_take_drop (l : List Int) (k : Nat) (hk : k ≤ l.length) : val l = val (l.take k) + pw k * val (l.drop k) := by
  have h := val_append (l.take k) (l.drop k)
  rw [List.take_append_drop] at h
  rw [h, List.length_take, Nat.min_eq_left hk]
theorem getD_lt {l : List Int} {k : Nat} (h : k < l.length) : l.getD k 0 = l[k] := by simp [List.getD, h]
theorem getD_ge {l : List Int} {k : Nat} (h : l.length ≤ k) : l.getD k 0 = 0 := by simp [List.getD, h]
theorem take_snoc {l : List Int} {k : Nat} (h : k < l.length) : l.take (k + 1) = l.take k ++ [l.getD k 0] := by
  rw [List.take_succ_eq_append_getElem h, getD_lt h]
/-- One word more, 0 behind the last. -/
theorem val_take_succ (l : List Int) (k : Nat) : val (l.take (k + 1)) = val (l.take k) + pw k * l.getD k 0 := by
  rcases Nat.lt_or_ge k l.length with h | h
  · rw [take_snoc h, val_snoc, List.length_take, Nat.min_eq_left (by omega)]
  · rw [List.take_of_length_le (by omega), List.take_of_length_le (by omega), getD_ge h]; simp

/-- The words of a number, none of them 0 at the end. -/
def digsN (n : Nat) : List Int := if h : n = 0 then [] else ((n % 4294967296 : Nat) : Int) :: digsN (n / 4294967296)
  termination_by n
  decreasing_by omega
def digs (z : Int) : List Int := digsN z.toNat

theorem digsN_zero : digsN 0 = [] := by rw [digsN]; simp
theorem digsN_pos {n : Nat} (h : n ≠ 0) : digsN n = ((n % 4294967296 : Nat) : Int) :: digsN (n / 4294967296) := by
  rw [digsN]; simp [h]
theorem digs_zero : digs 0 = [] := digsN_zero
theorem digs_pos {z : Int} (h : 0 < z) : digs z = z % 4294967296 :: digs (z / 4294967296) := by
  unfold digs
  rw [digsN_pos (by omega)]
  congr 1
  · omega
  · congr 1; omega

theorem int_ind {P : Int → Prop} (h0 : P 0) (hs : ∀ z, 0 < z → P (z / 4294967296) → P z) : ∀ z, 0 ≤ z → P z := by
  intro z
  generalize hn : z.toNat = n
  induction n using Nat.strongRecOn generalizing z with
  | _ n ih =>
    intro hz
    by_cases h : z = 0
    · subst h; exact h0
    · exact hs z (by omega) (ih _ (by omega) (z / 4294967296) rfl (by omega))

theorem digs_wf {z : Int} (hz : 0 ≤ z) : Wf (digs z) := by
  refine int_ind (P := fun z => Wf (digs z)) ?_ ?_ z hz
  · rw [digs_zero]; exact Wf.nil
  · intro z h ih
    rw [digs_pos h]
    exact ih.cons (by omega) (by omega)
theorem val_digs {z : Int} (hz : 0 ≤ z) : val (digs z) = z := by
  refine int_ind (P := fun z => val (digs z) = z) ?_ ?_ z hz
  · rw [digs_zero]; rfl
  · intro z h ih
    rw [digs_pos h, val, ih]; omega

/-- Canonical: the last word is not 0. -/
def Can (l : List Int) : Prop := Wf l ∧ l.getLast? ≠ some 0

theorem digs_val {l : List Int} (hw : Wf l) (hl : l.getLast? ≠ some 0) : digs (val l) = l := by
  induction l with
  | nil => simp only [val, digs_zero]
  | cons d l ih =>
    have hd := hw.head
    have hv := val_nonneg hw.tail
    have hl' : l.getLast? ≠ some 0 := by
      cases l with
      | nil => simp
      | cons e l => simpa [List.getLast?_cons_cons] using hl
    have ih := ih hw.tail hl'
    have hpos : 0 < d + 4294967296 * val l := by
      cases l with
      | nil =>
        simp at hl
        simp only [val]; omega
      | cons e l =>
        by_cases h0 : val (e :: l) = 0
        · rw [h0, digs_zero] at ih; cases ih
        · omega
    simp only [val]
    rw [digs_pos hpos]
    have e1 : (d + 4294967296 * val l) % 4294967296 = d := by omega
    have e2 : (d + 4294967296 * val l) / 4294967296 = val l := by omega
    rw [e1, e2, ih]
theorem digs_last {z : Int} (hz : 0 ≤ z) : (digs z).getLast? ≠ some 0 := by
  refine int_ind (P := fun z => (digs z).getLast? ≠ some 0) ?_ ?_ z hz
  · rw [digs_zero]; simp
  · intro z h ih
    rw [digs_pos h]
    cases hd : digs (z / 4294967296) with
    | nil =>
      simp only [List.getLast?_singleton, ne_eq, Option.some.injEq]
      have h1 := val_digs (show 0 ≤ z / 4294967296 by omega)
      rw [hd] at h1
      simp only [val] at h1
      omega
    | cons e l => rw [List.getLast?_cons_cons, ← hd]; exact ih
theorem digs_nil {z : Int} (hz : 0 ≤ z) : digs z = [] ↔ z = 0 := by
  constructor
  · intro h
    have := val_digs hz
    rw [h] at this
    simpa [val] using this.symm
  · rintro rfl; exact digs_zero
theorem digs_inj {a b : Int} (ha : 0 ≤ a) (hb : 0 ≤ b) (h : digs a = digs b) : a = b := by
  rw [← val_digs ha, ← val_digs hb, h]
theorem digs_len_le {z : Int} (hz : 0 ≤ z) {k : Nat} (h : z < pw k) : (digs z).length ≤ k := by
  induction k generalizing z with
  | zero => simp only [pw] at h; have : z = 0 := by omega
            subst this; rw [digs_zero]; simp
  | succ k ih =>
    by_cases h0 : z = 0
    · subst h0; rw [digs_zero]; simp
    · rw [digs_pos (by omega), List.length_cons]
      have := ih (z := z / 4294967296) (by omega) (by simp only [pw] at h; omega)
      omega
theorem digs_len_lt {z : Int} (hz : 0 ≤ z) : z < pw (digs z).length := by
  have := val_lt (digs_wf hz)
  rwa [val_digs hz] at this
theorem digs_len_ge {z : Int} (hz : 0 ≤ z) {k : Nat} (h : pw k ≤ z) : k < (digs z).length := by
  apply Decidable.byContradiction
  intro hn
  have h1 := digs_len_lt hz
  have h2 := pw_le (show (digs z).length ≤ k by omega)
  omega
theorem digs_pos_len {z : Int} (hz : 0 < z) : 0 < (digs z).length := by rw [digs_pos hz]; simp

/-- What stays when the words that are 0 at the end are cut off. -/
theorem take_digs {l : List Int} (hw : Wf l) {n : Nat} (hn : n ≤ l.length) (hz : ∀ i, n ≤ i → l.getD i 0 = 0) (ht : n = 0 ∨ l.getD (n - 1) 0 ≠ 0) : l.take n = digs (val l) := by
  have hd : val (l.drop n) = 0 := by
    have : l.drop n = List.replicate (l.drop n).length 0 := by
      refine List.eq_replicate_iff.2 ⟨rfl, fun x hx => ?_⟩
      obtain ⟨i, hi, rfl⟩ := List.mem_iff_getElem.1 hx
      rw [List.getElem_drop]
      have := hz (n + i) (by omega)
      rw [getD_lt (by simp at hi; omega)] at this
      exact this
    rw [this, val_zeros]
  have hv : val l = val (l.take n) := by
    have := val_take_drop l n hn
    rw [hd] at this
    omega
  rw [hv, digs_val (hw.take n)]
  rcases ht with rfl | ht
  · simp
  · rcases Nat.eq_zero_or_pos n with rfl | hp
    · simp
    intro h
    rw [List.getLast?_eq_getElem?, List.length_take, Nat.min_eq_left hn, List.getElem?_take_of_lt (by omega)] at h
    apply ht
    simp [List.getD, h]

/-- A row of n cells of which the first are written. -/
def fillTo (d : List Int) (n : Nat) : List Int := d ++ List.replicate (n - d.length) 0
theorem fillTo_nil (n : Nat) : fillTo [] n = List.replicate n 0 := by simp [fillTo]
theorem fillTo_full (d : List Int) (n : Nat) (h : d.length = n) : fillTo d n = d := by simp [fillTo, h]
theorem fillTo_set (d : List Int) (n k : Nat) (z : Int) (hk : d.length = k) (hn : k < n) : (fillTo d n).set k z = fillTo (d ++ [z]) n := by
  subst hk
  unfold fillTo
  rw [List.set_append_right _ _ (Nat.le_refl _), Nat.sub_self]
  obtain ⟨m, hm⟩ : ∃ m, n - d.length = m + 1 := ⟨n - d.length - 1, by omega⟩
  rw [hm, List.replicate_succ, List.set_cons_zero]
  simp
  omega
theorem fillTo_length (d : List Int) (n : Nat) (h : d.length ≤ n) : (fillTo d n).length = n := by simp [fillTo]; omega
theorem fillTo_get (d : List Int) (n k : Nat) (h : d.length ≤ k) (hk : k < n) : (fillTo d n)[k]? = some 0 := by
  unfold fillTo
  rw [List.getElem?_append_right h, List.getElem?_replicate, if_pos (by omega)]

/-! ### Addition -/
def addTo (x y : List Int) : Nat → List Int × Int
  | 0 => ([], 0)
  | k + 1 => ((addTo x y k).1 ++ [(x.getD k 0 + y.getD k 0 + (addTo x y k).2) % 4294967296], (x.getD k 0 + y.getD k 0 + (addTo x y k).2) / 4294967296)
theorem addTo_length (x y : List Int) (k : Nat) : (addTo x y k).1.length = k := by
  induction k with
  | zero => rfl
  | succ k ih => simp [addTo, ih]
theorem addTo_carry {x y : List Int} (hx : Wf x) (hy : Wf y) (k : Nat) : 0 ≤ (addTo x y k).2 ∧ (addTo x y k).2 ≤ 1 := by
  induction k with
  | zero => simp [addTo]
  | succ k ih =>
    have h1 := hx.getD k
    have h2 := hy.getD k
    simp only [addTo]
    omega
theorem addTo_wf (x y : List Int) (k : Nat) : Wf (addTo x y k).1 := by
  induction k with
  | zero => exact Wf.nil
  | succ k ih => exact ih.append (Wf.nil.cons (by omega) (by omega))
theorem addTo_val (x y : List Int) (k : Nat) : val (addTo x y k).1 + pw k * (addTo x y k).2 = val (x.take k) + val (y.take k) := by
  induction k with
  | zero => simp [addTo, val]
  | succ k ih =>
    rw [val_take_succ, val_take_succ]
    simp only [addTo]
    rw [val_snoc, addTo_length]
    generalize ht : x.getD k 0 + y.getD k 0 + (addTo x y k).2 = t
    have e : 4294967296 * (t / 4294967296) + t % 4294967296 = t := by omega
    have e2 : pw (k + 1) = pw k * 4294967296 := by simp only [pw]; omega
    have e3 : pw k * (t % 4294967296) + pw k * 4294967296 * (t / 4294967296) = pw k * t := by
      rw [Int.mul_assoc, ← Int.mul_add, Int.add_comm, e]
    have e4 : pw k * t = pw k * x.getD k 0 + pw k * y.getD k 0 + pw k * (addTo x y k).2 := by rw [← ht, Int.mul_add, Int.mul_add]
    rw [e2]
    omega
theorem add_val {x y : List Int} (n : Nat) (hx : x.length ≤ n) (hy : y.length ≤ n) : val ((addTo x y n).1 ++ [(addTo x y n).2]) = val x + val y := by
  rw [val_snoc, addTo_length, addTo_val, List.take_of_length_le hx, List.take_of_length_le hy]

/-! ### Subtraction -/
def subTo (x y : List Int) : Nat → List Int × Int
  | 0 => ([], 0)
  | k + 1 => ((subTo x y k).1 ++ [(x.getD k 0 - y.getD k 0 - (subTo x y k).2) % 4294967296], -((x.getD k 0 - y.getD k 0 - (subTo x y k).2) / 4294967296))
theorem subTo_length (x y : List Int) (k : Nat) : (subTo x y k).1.length = k := by
  induction k with
  | zero => rfl
  | succ k ih => simp [subTo, ih]
theorem subTo_borrow {x y : List Int} (hx : Wf x) (hy : Wf y) (k : Nat) : 0 ≤ (subTo x y k).2 ∧ (subTo x y k).2 ≤ 1 := by
  induction k with
  | zero => simp [subTo]
  | succ k ih =>
    have h1 := hx.getD k
    have h2 := hy.getD k
    simp only [subTo]
    omega
theorem subTo_wf (x y : List Int) (k : Nat) : Wf (subTo x y k).1 := by
  induction k with
  | zero => exact Wf.nil
  | succ k ih => exact ih.append (Wf.nil.cons (by omega) (by omega))
theorem subTo_val (x y : List Int) (k : Nat) : val (subTo x y k).1 - pw k * (subTo x y k).2 = val (x.take k) - val (y.take k) := by
  induction k with
  | zero => simp [subTo, val]
  | succ k ih =>
    rw [val_take_succ, val_take_succ]
    simp only [subTo]
    rw [val_snoc, subTo_length]
    generalize ht : x.getD k 0 - y.getD k 0 - (subTo x y k).2 = t
    have e : 4294967296 * (t / 4294967296) + t % 4294967296 = t := by omega
    have e2 : pw (k + 1) = pw k * 4294967296 := by simp only [pw]; omega
    have e3 : pw k * (t % 4294967296) + pw k * 4294967296 * (t / 4294967296) = pw k * t := by
      rw [Int.mul_assoc, ← Int.mul_add, Int.add_comm, e]
    have e4 : pw k * t = pw k * x.getD k 0 - pw k * y.getD k 0 - pw k * (subTo x y k).2 := by rw [← ht, Int.mul_sub, Int.mul_sub]
    rw [e2, Int.mul_neg]
    omega
theorem sub_val {x y : List Int} (hx : Wf x) (hy : Wf y) (hl : y.length ≤ x.length) (hle : val y ≤ val x) : val (subTo x y x.length).1 = val x - val y := by
  have h := subTo_val x y x.length
  rw [List.take_length, List.take_of_length_le hl] at h
  have hb := subTo_borrow hx hy x.length
  have hlt := val_lt (subTo_wf x y x.length)
  rw [subTo_length] at hlt
  have hp := pw_pos x.length
  have h0 := val_nonneg (subTo_wf x y x.length)
  have : (subTo x y x.length).2 = 0 ∨ (subTo x y x.length).2 = 1 := by omega
  rcases this with e | e <;> rw [e] at h <;> omega

/-! ### Multiplication -/
theorem val_set (l : List Int) (j : Nat) (z : Int) (hj : j < l.length) : val (l.set j z) = val l + pw j * (z - l.getD j 0) := by
  induction l generalizing j with
  | nil => simp at hj
  | cons d l ih =>
    cases j with
    | zero => simp [val, pw]; omega
    | succ j =>
      simp only [List.set_cons_succ, val, pw, List.getD_cons_succ]
      rw [ih j (by simpa using hj), Int.mul_add, Int.mul_assoc]
      omega
theorem getD_set_self (l : List Int) (j : Nat) (z : Int) (hj : j < l.length) : (l.set j z).getD j 0 = z := by simp [List.getD, hj]
theorem getD_set_ne (l : List Int) (i j : Nat) (z : Int) (h : i ≠ j) : (l.set i z).getD j 0 = l.getD j 0 := by simp [List.getD, List.getElem?_set_ne h]

/-- The row and the carry after k steps of adding a times y at place i. -/
def mulIn (L : List Int) (i : Nat) (a : Int) (y : List Int) : Nat → List Int × Int
  | 0 => (L, 0)
  | k + 1 => (((mulIn L i a y k).1).set (i + k) ((a * y.getD k 0 + (mulIn L i a y k).1.getD (i + k) 0 + (mulIn L i a y k).2) % 4294967296),
      (a * y.getD k 0 + (mulIn L i a y k).1.getD (i + k) 0 + (mulIn L i a y k).2) / 4294967296)
theorem mulIn_length (L : List Int) (i : Nat) (a : Int) (y : List Int) (k : Nat) : (mulIn L i a y k).1.length = L.length := by
  induction k with
  | zero => rfl
  | succ k ih => simp [mulIn, ih]
theorem mul32_bound {a b : Int} (ha : 0 ≤ a) (ha' : a < 4294967296) (hb : 0 ≤ b) (hb' : b < 4294967296) : 0 ≤ a * b ∧ a * b ≤ 18446744065119617025 := by
  refine ⟨Int.mul_nonneg ha hb, ?_⟩
  have h1 : a * b ≤ 4294967295 * b := Int.mul_le_mul_of_nonneg_right (by omega) hb
  omega
theorem mulIn_ok {L : List Int} {i : Nat} {a : Int} {y : List Int} (hL : Wf L) (ha : 0 ≤ a) (ha' : a < 4294967296) (hy : Wf y) (k : Nat) :
    Wf (mulIn L i a y k).1 ∧ 0 ≤ (mulIn L i a y k).2 ∧ (mulIn L i a y k).2 < 4294967296 := by
  induction k with
  | zero => exact ⟨hL, by simp [mulIn], by simp [mulIn]⟩
  | succ k ih =>
    have h1 := hy.getD k
    have h2 := ih.1.getD (i + k)
    have h3 := mul32_bound ha ha' h1.1 h1.2
    simp only [mulIn]
    refine ⟨ih.1.set _ (by omega) (by omega), by omega, by omega⟩
theorem mulIn_val {L : List Int} {i : Nat} {a : Int} {y : List Int} {k : Nat} (hk : i + k ≤ L.length) :
    val (mulIn L i a y k).1 + pw (i + k) * (mulIn L i a y k).2 = val L + pw i * (a * val (y.take k)) := by
  induction k with
  | zero => simp [mulIn, val]
  | succ k ih =>
    have ih := ih (by omega)
    simp only [mulIn]
    rw [val_set _ _ _ (by rw [mulIn_length]; omega), val_take_succ]
    generalize (mulIn L i a y k).1 = M at *
    generalize (mulIn L i a y k).2 = c at *
    generalize hm : M.getD (i + k) 0 = m
    generalize y.getD k 0 = b
    generalize ht : a * b + m + c = t
    have e : 4294967296 * (t / 4294967296) + t % 4294967296 = t := by omega
    have e2 : pw (i + (k + 1)) = pw (i + k) * 4294967296 := by rw [← Nat.add_assoc]; simp only [pw]; omega
    have e3 : pw (i + k) * (t % 4294967296) + pw (i + k) * 4294967296 * (t / 4294967296) = pw (i + k) * t := by
      rw [Int.mul_assoc, ← Int.mul_add, Int.add_comm, e]
    have e4 : pw (i + k) * t = pw (i + k) * (a * b) + pw (i + k) * m + pw (i + k) * c := by rw [← ht, Int.mul_add, Int.mul_add]
    have e5 : pw i * (a * (val (List.take k y) + pw k * b)) = pw i * (a * val (List.take k y)) + pw (i + k) * (a * b) := by
      rw [pw_add, Int.mul_add, Int.mul_add]
      congr 1
      rw [Int.mul_assoc, Int.mul_left_comm a (pw k) b]
    rw [e2, e5, Int.mul_sub]
    omega
theorem mulIn_beyond (L : List Int) (i : Nat) (a : Int) (y : List Int) (k j : Nat) (hj : i + k ≤ j) : (mulIn L i a y k).1.getD j 0 = L.getD j 0 := by
  induction k with
  | zero => rfl
  | succ k ih =>
    simp only [mulIn]
    rw [getD_set_ne _ _ _ _ (by omega)]
    exact ih (by omega)
/-- The row after i steps of multiplying x and y. -/
def mulOut (x y : List Int) : Nat → List Int
  | 0 => List.replicate (x.length + y.length) 0
  | i + 1 => (mulIn (mulOut x y i) i (x.getD i 0) y y.length).1.set (i + y.length) (mulIn (mulOut x y i) i (x.getD i 0) y y.length).2
theorem mulOut_length (x y : List Int) (i : Nat) : (mulOut x y i).length = x.length + y.length := by
  induction i with
  | zero => simp [mulOut]
  | succ i ih => simp [mulOut, mulIn_length, ih]
theorem mulOut_wf {x y : List Int} (hx : Wf x) (hy : Wf y) (i : Nat) : Wf (mulOut x y i) := by
  induction i with
  | zero => exact Wf.zeros _
  | succ i ih =>
    have h := mulIn_ok (i := i) ih (hx.getD i).1 (hx.getD i).2 hy y.length
    exact h.1.set _ h.2.1 h.2.2
theorem mulOut_beyond (x y : List Int) (i j : Nat) (hj : i + y.length ≤ j) : (mulOut x y i).getD j 0 = 0 := by
  induction i generalizing j with
  | zero => simp [mulOut, List.getD, List.getElem?_replicate]; split <;> rfl
  | succ i ih =>
    simp only [mulOut]
    rw [getD_set_ne _ _ _ _ (by omega), mulIn_beyond _ _ _ _ _ _ (by omega)]
    exact ih j (by omega)
theorem mulOut_val {x y : List Int} {i : Nat} (hi : i ≤ x.length) : val (mulOut x y i) = val (x.take i) * val y := by
  induction i with
  | zero => simp [mulOut, val_zeros, val]
  | succ i ih =>
    have ih := ih (by omega)
    simp only [mulOut]
    have hl : i + y.length < (mulIn (mulOut x y i) i (x.getD i 0) y y.length).1.length := by rw [mulIn_length, mulOut_length]; omega
    rw [val_set _ _ _ hl, mulIn_beyond _ _ _ _ _ _ (Nat.le_refl _), mulOut_beyond _ _ _ _ (Nat.le_refl _)]
    have h := mulIn_val (L := mulOut x y i) (i := i) (a := x.getD i 0) (y := y) (k := y.length) (by rw [mulOut_length]; omega)
    rw [List.take_length, ih] at h
    rw [val_take_succ, Int.add_mul, Int.sub_zero, h, Int.mul_assoc]
theorem mul_val (x y : List Int) : val (mulOut x y x.length) = val x * val y := by
  rw [mulOut_val (Nat.le_refl _), List.take_length]

attribute [irreducible] pw
end Go.El
