/- Merged texts: Region, RegLib. -/
import Derived.Test.YtddcgojpgdhefaaGreatDoorBase
import Derived.Deep.RegionHeld3
import Derived.Lib.Hide
import Derived.Test.YtddcgojpgdhefaaGreatDoorNatA
/- A law for regions whose order is drawn: an invariant that says, of each operation that has been carried out, what it left. No program. -/
namespace Go.El
open Go.RowKit
set_option linter.unusedVariables false
section
variable {P : Program} {ops : Array Oper} {Q : Exit → Act → World → Prop} {md : Region.Mode}

/-- The operations that this one waits for. -/
def predsOf (md : Region.Mode) (o : Oper) : List Nat := (o.after.toList.filter (Region.binds md)).map (·.on)
def predsAt (md : Region.Mode) (ops : Array Oper) (i : Nat) : List Nat := match ops[i]? with
  | some o => predsOf md o
  | none => []
def closeDown (md : Region.Mode) (ops : Array Oper) : Nat → List Nat → List Nat
  | 0, s => s
  | n + 1, s => closeDown md ops n (if s.contains n then predsAt md ops n ++ s else s)
/-- All that must have been carried out before this one. -/
def closureOf (md : Region.Mode) (ops : Array Oper) (i : Nat) : List Nat := closeDown md ops i (predsAt md ops i)
/-- Each operation waits for earlier ones alone. -/
def downward (md : Region.Mode) (ops : Array Oper) : Bool := (List.range ops.size).all fun i => (predsAt md ops i).all fun j => decide (j < i)

def Closed (md : Region.Mode) (ops : Array Oper) (L : Nat → Bool) : Prop := ∀ i, L i = true → ∀ j ∈ predsAt md ops i, L j = true

theorem Closed.closeDown {L : Nat → Bool} (h : Closed md ops L) : ∀ (n : Nat) (s : List Nat), (∀ j ∈ s, L j = true) → ∀ j ∈ closeDown md ops n s, L j = true
  | 0, s, hs, j, hj => hs j hj
  | n + 1, s, hs, j, hj => by
    simp only [Go.El.closeDown] at hj
    refine Closed.closeDown h n _ ?_ j hj
    intro k hk
    split at hk
    · rename_i hc
      rcases List.mem_append.1 hk with hk | hk
      · exact h n (hs n (by simpa using hc)) k hk
      · exact hs k hk
    · exact hs k hk

def setL (L : Nat → Bool) (i : Nat) : Nat → Bool := fun j => j == i || L j

/-- One operation, from the invariant to the invariant. -/
def StepOk (P : Program) (md : Region.Mode) (ops : Array Oper) (Q : Exit → Act → World → Prop) (I : (Nat → Bool) → Act → World → Prop) (i : Nat) (o : Oper) : Prop :=
  ∀ (L : Nat → Bool) a w, L i = false → (∀ j, (closureOf md ops i).contains j = true → L j = true) → I L a w →
    ∀ K : Act → World → Prop, Hid (∀ a' w', I (setL L i) a' w' → K a' w') → if Region.wanted o (yielded ops a.tmps) = true then Oper.wp P o a w K Q else K (a.put o.dst undef) w

def AllSteps (P : Program) (md : Region.Mode) (ops : Array Oper) (Q : Exit → Act → World → Prop) (I : (Nat → Bool) → Act → World → Prop) : Nat → List Oper → Prop
  | _, [] => True
  | n, o :: os => StepOk P md ops Q I n o ∧ AllSteps P md ops Q I (n + 1) os

theorem AllSteps.get {I : (Nat → Bool) → Act → World → Prop} : ∀ (l : List Oper) (n : Nat), AllSteps P md ops Q I n l → ∀ (k : Nat) (o : Oper), l[k]? = some o → StepOk P md ops Q I (n + k) o
  | [], _, _, _, _, hk => by simp at hk
  | x :: xs, n, h, 0, o, hk => by
    simp at hk; subst hk; exact h.1
  | x :: xs, n, h, k + 1, o, hk => by
    have := AllSteps.get xs (n + 1) h.2 k o (by simpa using hk)
    rwa [Nat.add_assoc, Nat.add_comm 1 k] at this

theorem all_listed {L : Nat → Bool} {listed : Array Bool} (hL : L = fun j => listed.getD j false) (hs : listed.size = ops.size) (hd : downward md ops = true) (hr : Region.ready md ops listed = []) : ∀ i, i < ops.size → L i = true := by
  intro i
  induction i using Nat.strongRecOn with
  | ind i ih =>
    intro hi
    cases hl : L i with
    | true => rfl
    | false =>
      exfalso
      have : i ∈ Region.ready md ops listed := by
        rw [mem_ready]
        refine ⟨?_, ops[i], by simp [hi], ?_⟩
        · rw [hL] at hl
          simp only [Array.getD_eq_getD_getElem?] at hl ⊢
          rw [Array.getElem?_eq_getElem (by omega)] at hl ⊢
          simpa using hl
        · intro e he hb
          have hp : e.on ∈ predsAt md ops i := by
            unfold predsAt
            simp only [Array.getElem?_eq_getElem hi]
            unfold predsOf
            exact List.mem_map.2 ⟨e, List.mem_filter.2 ⟨by simpa using he, hb⟩, rfl⟩
          have hlt : e.on < i := by
            unfold downward at hd
            rw [List.all_eq_true] at hd
            have := hd i (by simpa using hi)
            rw [List.all_eq_true] at this
            simpa using this _ hp
          have := ih e.on hlt (by omega)
          rw [hL] at this
          exact this
      rw [hr] at this
      cases this

theorem wpAny_inv (I : (Nat → Bool) → Act → World → Prop) (hstep : AllSteps P md ops Q I 0 ops.toList) (hd : downward md ops = true)
    (hend : ∀ L a w, (∀ i, i < ops.size → L i = true) → I L a w → Q .normal a w) :
    ∀ (fuel : Nat) (L : Nat → Bool) (listed : Array Bool) (a : Act) (w : World), L = (fun j => listed.getD j false) → listed.size = ops.size → Closed md ops L →
      ((List.range ops.size).filter fun i => !(L i)).length ≤ fuel → I L a w → wpAny P md ops Q fuel listed a w := by
  intro fuel
  induction fuel with
  | zero =>
    intro L listed a w hL hs hc hf hI
    have hall : ∀ i, i < ops.size → L i = true := by
      intro i hi
      have : (List.range ops.size).filter (fun i => !(L i)) = [] := List.eq_nil_of_length_eq_zero (by omega)
      rw [List.filter_eq_nil_iff] at this
      simpa using this i (by simpa using hi)
    refine ⟨?_, hend L a w hall hI⟩
    cases hr : Region.ready md ops listed with
    | nil => rfl
    | cons x xs =>
      exfalso
      have hx : x ∈ Region.ready md ops listed := by rw [hr]; simp
      rw [mem_ready] at hx
      obtain ⟨h0, o, ho, _⟩ := hx
      have hlt : x < ops.size := (Array.getElem?_eq_some_iff.1 ho).1
      have := hall x hlt
      rw [hL] at this
      simp only [Array.getD_eq_getD_getElem?] at h0 this
      rw [Array.getElem?_eq_getElem (by omega)] at h0 this
      simp at h0 this
      rw [h0] at this
      cases this
  | succ fuel ih =>
    intro L listed a w hL hs hc hf hI
    refine ⟨fun hr => hend L a w (all_listed hL hs hd hr) hI, fun i hi => ?_⟩
    obtain ⟨h0, o, ho, hall⟩ := mem_ready.1 hi
    have hlt : i < ops.size := (Array.getElem?_eq_some_iff.1 ho).1
    have hLi : L i = false := by
      rw [hL]
      simp only [Array.getD_eq_getD_getElem?] at h0 ⊢
      rw [Array.getElem?_eq_getElem (by omega)] at h0 ⊢
      simpa using h0
    have hpre : ∀ j ∈ predsAt md ops i, L j = true := by
      intro j hj
      unfold predsAt predsOf at hj
      simp only [ho] at hj
      obtain ⟨e, he, rfl⟩ := List.mem_map.1 hj
      obtain ⟨he1, he2⟩ := List.mem_filter.1 he
      have := hall e (by simpa using he1) he2
      rw [hL]; exact this
    have hst := AllSteps.get ops.toList 0 hstep i o (by simpa using ho)
    rw [Nat.zero_add] at hst
    have h1 := hst L a w hLi (fun j hj => hc.closeDown i _ hpre j (by simpa [closureOf] using hj)) hI (wpAny P md ops Q fuel (listed.setIfInBounds i true))
    refine wpOp_step ho (fun K' hK => ?_)
    refine hst L a w hLi (fun j hj => hc.closeDown i _ hpre j (by simpa [closureOf] using hj)) hI K' (fun a' w' hI' => hK a' w' ?_)
    refine ih (setL L i) _ a' w' ?_ (by simpa using hs) ?_ ?_ hI'
    · funext j
      unfold setL
      rw [hL]
      by_cases hji : j = i
      · subst hji
        simp [Array.getD_eq_getD_getElem?, hs, hlt]
      · have : (j == i) = false := by simp [hji]
        rw [this, Bool.false_or, Go.getD_set_ne false (Ne.symm hji)]
    · intro k hk j hj
      unfold setL at hk ⊢
      by_cases hki : k = i
      · subst hki
        rw [hpre j hj]; simp
      · have : (k == i) = false := by simp [hki]
        rw [this, Bool.false_or] at hk
        rw [hc k hk j hj]; simp
    · have hmem : i ∈ (List.range ops.size).filter (fun i => !(L i)) := List.mem_filter.2 ⟨by simpa using hlt, by simp [hLi]⟩
      have hsub : ((List.range ops.size).filter fun k => !(setL L i k)) = ((List.range ops.size).filter fun k => !(L k)).filter fun k => !(k == i) := by
        rw [List.filter_filter]
        congr 1
        funext k
        unfold setL
        cases (k == i) <;> simp
      rw [hsub]
      have := List.length_filter_lt_length_iff_exists (p := fun k => !(k == i)) (l := (List.range ops.size).filter fun k => !(L k)) |>.2 ⟨i, hmem, by simp⟩
      omega

/-- THE LAW: a region that draws its order. -/
theorem wp_region_inv (I : (Nat → Bool) → Act → World → Prop) {id : Nat} {a : Act} {w : World} (hm : P.follows .mixedOrders = true) (hd : downward .any ops = true)
    (h0 : I (fun _ => false) a w.drew) (hstep : AllSteps P .any ops Q I 0 ops.toList)
    (hend : ∀ L a w, (∀ i, i < ops.size → L i = true) → I L a w → Q .normal a w) : (Code.region id ops true).wp P Q a w := by
  refine wp_region_any hm ?_
  refine wpAny_inv I hstep hd hend ops.size (fun _ => false) _ a _ ?_ (by simp) (fun i hi => by cases hi) ?_ h0
  · funext j
    simp only [Array.getD_eq_getD_getElem?, Array.getElem?_replicate]
    split <;> rfl
  · exact Nat.le_trans (List.length_filter_le _ _) (by simp)

/-- The state with these slots written. -/
def putAll (a : Act) (ds : List Nat) (y : Nat → Value) : Act := ds.foldl (fun a d => a.put (some d) (y d)) a
def upd (y : Nat → Value) (i : Nat) (v : Value) : Nat → Value := fun j => if j = i then v else y j
theorem upd_ne {y : Nat → Value} {i j : Nat} {v : Value} (h : j ≠ i) : upd y i v j = y j := if_neg h
theorem upd_eq {y : Nat → Value} {i : Nat} {v : Value} : upd y i v i = v := if_pos rfl
theorem put_tmps (a : Act) (d : Nat) (v : Value) : a.put (some d) v = { a with tmps := a.tmps.setIfInBounds d v } := rfl
theorem putAll_self (a : Act) : ∀ (ds : List Nat), putAll a ds (fun d => a.tmps.getD d undef) = a := by
  intro ds
  induction ds with
  | nil => rfl
  | cons d ds ih =>
    have : a.put (some d) (a.tmps.getD d undef) = a := by
      rw [put_tmps]
      have : a.tmps.setIfInBounds d (a.tmps.getD d undef) = a.tmps := by
        apply Array.ext_getElem?
        intro i
        rw [Array.getElem?_setIfInBounds]
        split
        · rename_i h
          subst h
          simp only [Array.getD_eq_getD_getElem?]
          split
          · rename_i h; rw [Array.getElem?_eq_getElem h]; rfl
          · rename_i h; rw [Array.getElem?_eq_none (by omega)]
        · rfl
      rw [this]
    show putAll (a.put (some d) (a.tmps.getD d undef)) ds _ = a
    rw [this]; exact ih
theorem putAll_comm (ds : List Nat) (a : Act) (y : Nat → Value) (d : Nat) (v : Value) (hd : d ∉ ds) : putAll (a.put (some d) v) ds y = (putAll a ds y).put (some d) v := by
  induction ds generalizing a with
  | nil => rfl
  | cons e ds ih =>
    show putAll ((a.put (some d) v).put (some e) (y e)) ds y = _
    rw [Act.put_comm a v (y e) (fun k hk => by cases hk; intro h; cases h; exact hd (by simp))]
    rw [ih _ (fun h => hd (List.mem_cons_of_mem _ h))]
    rfl
theorem putAll_congr (ds : List Nat) (a : Act) (y z : Nat → Value) (h : ∀ d ∈ ds, y d = z d) : putAll a ds y = putAll a ds z := by
  induction ds generalizing a with
  | nil => rfl
  | cons e ds ih =>
    show putAll (a.put (some e) (y e)) ds y = putAll (a.put (some e) (z e)) ds z
    rw [h e (by simp), ih _ (fun d hd => h d (List.mem_cons_of_mem _ hd))]
theorem putAll_put {ds : List Nat} {a : Act} {y : Nat → Value} {d : Nat} {v : Value} (hd : d ∈ ds) (hn : ds.Nodup) : (putAll a ds y).put (some d) v = putAll a ds (upd y d v) := by
  induction ds generalizing a with
  | nil => cases hd
  | cons e ds ih =>
    have hn' := List.nodup_cons.1 hn
    by_cases he : d = e
    · subst he
      show (putAll (a.put (some d) (y d)) ds y).put (some d) v = putAll (a.put (some d) (upd y d v d)) ds (upd y d v)
      rw [← putAll_comm ds _ y d v hn'.1, upd_eq, putAll_congr ds _ (upd y d v) y (fun k hk => upd_ne (fun h => hn'.1 (h ▸ hk)))]
      congr 1
      simp [put_tmps]
    · show (putAll (a.put (some e) (y e)) ds y).put (some d) v = putAll (a.put (some e) (upd y d v e)) ds (upd y d v)
      rw [upd_ne (Ne.symm he)]
      exact ih (by simpa [he] using hd) hn'.2
/-- One operation that has no guard. -/
def StepF (P : Program) (md : Region.Mode) (ops : Array Oper) (Q : Exit → Act → World → Prop) (a : Act) (ds : List Nat) (F : (Nat → Bool) → (Nat → Value) → World → Prop) (i : Nat) (o : Oper) : Prop :=
  ∀ (L : Nat → Bool) (y : Nat → Value) w, Hid (L i = false) → Hid (∀ j, (closureOf md ops i).contains j = true → L j = true) → Hid (F L y w) →
    ∀ K : Act → World → Prop, Hid (∀ y' w', F (setL L i) y' w' → K (putAll a ds y') w') → Oper.wp P o (putAll a ds y) w K Q
/-- One operation, guarded or not. -/
def StepG (P : Program) (md : Region.Mode) (ops : Array Oper) (Q : Exit → Act → World → Prop) (a : Act) (ds : List Nat) (F : (Nat → Bool) → (Nat → Value) → World → Prop) (i : Nat) (o : Oper) : Prop :=
  ∀ (L : Nat → Bool) (y : Nat → Value) w, Hid (L i = false) → Hid (∀ j, (closureOf md ops i).contains j = true → L j = true) → Hid (F L y w) →
    ∀ K : Act → World → Prop, Hid (∀ y' w', F (setL L i) y' w' → K (putAll a ds y') w') → if Region.wanted o (yielded ops (putAll a ds y).tmps) = true then Oper.wp P o (putAll a ds y) w K Q else K ((putAll a ds y).put o.dst undef) w
def AllF (P : Program) (md : Region.Mode) (ops : Array Oper) (Q : Exit → Act → World → Prop) (a : Act) (ds : List Nat) (F : (Nat → Bool) → (Nat → Value) → World → Prop) : Nat → List Oper → Prop
  | _, [] => True
  | n, o :: os => StepG P md ops Q a ds F n o ∧ AllF P md ops Q a ds F (n + 1) os
theorem AllF.cons {a : Act} {ds : List Nat} {F : (Nat → Bool) → (Nat → Value) → World → Prop} {n : Nat} {o : Oper} {os : List Oper} (hg : o.guard = none) (h : StepF P md ops Q a ds F n o) (hs : AllF P md ops Q a ds F (n + 1) os) : AllF P md ops Q a ds F n (o :: os) :=
  ⟨fun L y w hi hp hF K hK => by
    rw [if_pos (by unfold Region.wanted; rw [hg])]
    exact h L y w hi hp hF K hK, hs⟩
theorem AllF.steps {a : Act} {ds : List Nat} {F : (Nat → Bool) → (Nat → Value) → World → Prop} : ∀ (os : List Oper) (n : Nat), AllF P md ops Q a ds F n os → AllSteps P md ops Q (fun L a' w' => ∃ y, a' = putAll a ds y ∧ F L y w') n os
  | [], _, _ => trivial
  | o :: os, n, h => ⟨by
      rintro L a' w hi hp ⟨y, rfl, hF⟩ K hK
      exact h.1 L y w (Lib.hid hi) (Lib.hid hp) (Lib.hid hF) K (fun y' w' hF' => hK.out _ _ ⟨y', rfl, hF'⟩), AllF.steps os (n + 1) h.2⟩
theorem putAll_size (ds : List Nat) (a : Act) (y : Nat → Value) : (putAll a ds y).tmps.size = a.tmps.size := by
  induction ds generalizing a with
  | nil => rfl
  | cons e ds ih =>
    show (putAll (a.put (some e) (y e)) ds y).tmps.size = _
    rw [ih, put_tmps]; simp
theorem putAll_get {ds : List Nat} {a : Act} {y : Nat → Value} {d : Nat} (hd : d ∈ ds) (hn : ds.Nodup) (hs : d < a.tmps.size) : (putAll a ds y).tmps[d]? = some (y d) := by
  induction ds generalizing a with
  | nil => cases hd
  | cons e ds ih =>
    have hn' := List.nodup_cons.1 hn
    show (putAll (a.put (some e) (y e)) ds y).tmps[d]? = _
    by_cases he : d = e
    · subst he
      rw [putAll_comm ds _ y d _ hn'.1, put_tmps]
      have := putAll_size ds a y
      simp only [Array.getElem?_setIfInBounds]
      rw [if_pos trivial, if_pos (by omega)]
    · exact ih (by simpa [he] using hd) hn'.2 (by rw [put_tmps]; simpa using hs)
def nodupB : List Nat → Bool
  | [] => true
  | x :: xs => !xs.contains x && nodupB xs
theorem nodupB_spec : ∀ {l : List Nat}, nodupB l = true → l.Nodup
  | [], _ => List.nodup_nil
  | x :: xs, h => by
    simp only [nodupB, Bool.and_eq_true, Bool.not_eq_true'] at h
    exact List.nodup_cons.2 ⟨by simpa using h.1, nodupB_spec h.2⟩
theorem StepF.dst {a : Act} {ds : List Nat} {F : (Nat → Bool) → (Nat → Value) → World → Prop} {i : Nat} {o : Oper} {d : Nat} (hd : ds.contains d = true) (hn : nodupB ds = true)
    (h : ∀ (L : Nat → Bool) (y : Nat → Value) w, Hid (L i = false) → Hid (∀ j, (closureOf md ops i).contains j = true → L j = true) → Hid (F L y w) →
      ∀ K : Act → World → Prop, (∀ v w', F (setL L i) (upd y d v) w' → K ((putAll a ds y).put (some d) v) w') → Oper.wp P o (putAll a ds y) w K Q) : StepF P md ops Q a ds F i o :=
  fun L y w hi hp hF K hK => h L y w hi hp hF K (fun v w' h' => by rw [putAll_put (by simpa using hd) (nodupB_spec hn)]; exact hK.out _ _ h')
theorem StepF.none {a : Act} {ds : List Nat} {F : (Nat → Bool) → (Nat → Value) → World → Prop} {i : Nat} {o : Oper}
    (h : ∀ (L : Nat → Bool) (y : Nat → Value) w, Hid (L i = false) → Hid (∀ j, (closureOf md ops i).contains j = true → L j = true) → Hid (F L y w) →
      ∀ K : Act → World → Prop, (∀ w', F (setL L i) y w' → K (putAll a ds y) w') → Oper.wp P o (putAll a ds y) w K Q) : StepF P md ops Q a ds F i o :=
  fun L y w hi hp hF K hK => h L y w hi hp hF K (fun w' h' => hK.out _ _ h')
/-- A guarded operation whose guard does not want it. -/
theorem AllF.skip {a : Act} {ds : List Nat} {F : (Nat → Bool) → (Nat → Value) → World → Prop} {n g d dg : Nat} {want : Bool} {o : Oper} {os : List Oper} (hg : o.guard = some (g, want)) (ho : o.dst = some d) (hgd : (ops[g]?).bind (·.dst) = some dg)
    (hd : ds.contains d = true) (hdg : ds.contains dg = true) (hn : nodupB ds = true) (hs : decide (dg < a.tmps.size) = true)
    (h : ∀ (L : Nat → Bool) (y : Nat → Value) w, Hid (L n = false) → Hid (∀ j, (closureOf md ops n).contains j = true → L j = true) → Hid (F L y w) → y dg = .bool (!want) ∧ F (setL L n) (upd y d undef) w)
    (hr : AllF P md ops Q a ds F (n + 1) os) : AllF P md ops Q a ds F n (o :: os) :=
  ⟨fun L y w hi hp hF K hK => by
    obtain ⟨h1, h2⟩ := h L y w hi hp hF
    have hy : yielded ops (putAll a ds y).tmps g = some (!want) := by
      unfold yielded
      rw [hgd]
      simp only [Option.bind_some]
      rw [putAll_get (by simpa using hdg) (nodupB_spec hn) (by simpa using hs), h1]
    rw [if_neg (by unfold Region.wanted; rw [hg]; simp only [hy]; cases want <;> simp), ho, putAll_put (by simpa using hd) (nodupB_spec hn)]
    exact hK.out _ _ h2, hr⟩
/-- A guarded operation whose guard wants it. -/
theorem AllF.want {a : Act} {ds : List Nat} {F : (Nat → Bool) → (Nat → Value) → World → Prop} {n g dg : Nat} {want : Bool} {o : Oper} {os : List Oper} (hg : o.guard = some (g, want)) (hgd : (ops[g]?).bind (·.dst) = some dg)
    (hdg : ds.contains dg = true) (hn : nodupB ds = true) (hs : decide (dg < a.tmps.size) = true)
    (h : ∀ (L : Nat → Bool) (y : Nat → Value) w, Hid (L n = false) → Hid (∀ j, (closureOf md ops n).contains j = true → L j = true) → Hid (F L y w) → y dg = .bool want)
    (hf : StepF P md ops Q a ds F n o)
    (hr : AllF P md ops Q a ds F (n + 1) os) : AllF P md ops Q a ds F n (o :: os) :=
  ⟨fun L y w hi hp hF K hK => by
    have h1 := h L y w hi hp hF
    have hy : yielded ops (putAll a ds y).tmps g = some want := by
      unfold yielded
      rw [hgd]
      simp only [Option.bind_some]
      rw [putAll_get (by simpa using hdg) (nodupB_spec hn) (by simpa using hs), h1]
    rw [if_pos (by unfold Region.wanted; rw [hg]; simp only [hy]; simp)]
    exact hf L y w hi hp hF K hK, hr⟩
/-- THE LAW, in slots: 'ds' are the slots that the region writes; 'F' says what is known of them, by what has been carried out. -/
theorem wp_region_facts {id : Nat} {a : Act} {w : World} (ds : List Nat) (F : (Nat → Bool) → (Nat → Value) → World → Prop) (hm : P.follows .mixedOrders = true) (hd : downward .any ops = true)
    (h0 : ∀ y, F (fun _ => false) y w.drew) (hstep : ∀ Q, AllF P .any ops Q a ds F 0 ops.toList)
    (hend : ∀ L y w, (∀ i, i < ops.size → L i = true) → F L y w → Q .normal (putAll a ds y) w) : (Code.region id ops true).wp P Q a w :=
  wp_region_inv _ hm hd ⟨_, (putAll_self a ds).symm, h0 _⟩ (AllF.steps _ _ (hstep Q)) (fun L a' w' hL h => by
    obtain ⟨y, rfl, hF⟩ := h
    exact hend L y w' hL hF)
/-- Each number in memory stays. -/
def Stay (w w' : World) : Prop := ∀ p z, w.cell? p = some (.int .u32 z) → w'.cell? p = some (.int .u32 z)
theorem Below.drewExt (w : World) : Ext w w.drew := (Ext.refl w).drew
theorem Stay.refl (w : World) : Stay w w := fun _ _ h => h
theorem Stay.trans {a b c : World} (h : Stay a b) (k : Stay b c) : Stay a c := fun p z hp => k p z (h p z hp)
theorem Ext.stay {w w' : World} (h : Ext w w') : Stay w w' := fun p z hp => h.cell hp
theorem Stay.store {w : World} {p : Addr} {vp : Value} (hp : w.cell? p = some vp) (hne : ∀ z, vp ≠ .int .u32 z) (v : Value) : Stay w (w.setCell p v) := fun q z hq =>
  (World.cell?_setCell_other w p q v (by rintro rfl; rw [hp] at hq; exact hne z (Option.some.inj hq))).trans hq
theorem Words.stay {w w' : World} {a : Option Addr} {len cap : Nat} {l : List Int} (h : Words w a len cap l) (he : Stay w w') : Words w' a len cap l :=
  ⟨h.hlen, h.le, h.max, h.nil, h.wf, fun i z hz => by
    obtain ⟨b, off, ha, hc⟩ := h.cells i z hz
    exact ⟨b, off, ha, he _ _ hc⟩⟩
end
end Go.El
/- Places of integers in memory: what the walks of drawn regions share. -/
namespace Go.Proofs.YtddcgojpgdhefaaGreatDoor
open Go.RowKit Go.El
set_option linter.unusedVariables false
theorem IntW.stay {w w' : World} {s : Bool} {a : Option Addr} {n c : Nat} {z : Int} (h : IntW w s a n c z) (he : Stay w w') : IntW w' s a n c z := ⟨h.1, h.2.stay he⟩
theorem IntV.stay {w w' : World} {v : Value} {z : Int} (h : IntV w v z) (he : Stay w w') : IntV w' v z := by
  obtain ⟨s, a, n, c, rfl, hw⟩ := h
  exact ⟨s, a, n, c, rfl, IntW.stay hw he⟩
theorem intW_zero (w : World) : IntW w false none 0 0 0 := ⟨by simp, by rw [Int.natAbs_zero, Int.ofNat_zero, digs_zero]; exact Words.nil' _⟩
theorem fits_le {z b : Int} {k : Nat} (h : Fits b k) (hz : z.natAbs ≤ b.natAbs) : Fits z k := by unfold Fits at *; omega
/-- Two cells stored. -/
def st2 (w : World) (P : Nat) (x0 x1 : Value) : World := (w.setCell ⟨P, 0, none⟩ x0).setCell ⟨P, 1, none⟩ x1
theorem Blk.st2 {w : World} {P : Nat} {E : TypeId} {p q : Value} (h : Blk w P E [p, q]) (x0 x1 : Value) : Blk (st2 w P x0 x1) P E [x0, x1] := (h.set 0 x0).set 1 x1
theorem stay_st2 {w : World} {P : Nat} {E : TypeId} {s0 : Bool} {a0 : Option Addr} {n0 c0 : Nat} (h : Blk w P E [.bool s0, .slice a0 n0 c0]) (x0 x1 : Value) : Stay w (st2 w P x0 x1) :=
  (Stay.store (h.cell (i := 0) rfl) (by simp) x0).trans (Stay.store ((h.set 0 x0).cell (i := 1) rfl) (by simp) x1)
theorem ext_st2 {w0 w : World} {P : Nat} (h : Ext w0 w) (hP : w0.heap.size ≤ P) (x0 x1 : Value) : Ext w0 (st2 w P x0 x1) := (h.setCell (p := ⟨P, 0, none⟩) hP x0).setCell (p := ⟨P, 1, none⟩) hP x1
/-- A place for an integer. -/
def RoomI (w : World) (v : Value) (m : Nat) : Prop := ∃ G s a n c, v = .pointer (some ⟨G, 0, none⟩) ∧ Blk w G 24 [.bool s, .slice a n c] ∧ m ≤ G
theorem RoomI.ext {w w' : World} {v : Value} {m : Nat} (h : RoomI w v m) (he : Ext w w') : RoomI w' v m := by
  obtain ⟨G, s, a, n, c, rfl, hb, hm⟩ := h
  exact ⟨G, s, a, n, c, rfl, hb.ext he, hm⟩
theorem roomI_new {w0 w : World} (he : Ext w0 w) : RoomI (w.alloc (.cells #[.bool false, .slice none 0 0] 24)) (.pointer (some ⟨w.heap.size, 0, none⟩)) w0.heap.size :=
  ⟨_, _, _, _, _, rfl, Blk.new w _ [_, _], he.size⟩
/-- A place where an integer lies. -/
def AtI (w : World) (v : Value) (m : Nat) (z : Int) : Prop := ∃ G s a n c, v = .pointer (some ⟨G, 0, none⟩) ∧ Blk w G 24 [.bool s, .slice a n c] ∧ m ≤ G ∧ IntW w s a n c z
theorem AtI.ext {w w' : World} {v : Value} {m : Nat} {z : Int} (h : AtI w v m z) (he : Ext w w') : AtI w' v m z := by
  obtain ⟨G, s, a, n, c, rfl, hb, hm, hi⟩ := h
  exact ⟨G, s, a, n, c, rfl, hb.ext he, hm, hi.ext he⟩
theorem Blk.st2_other {w : World} {P Q : Nat} {E : TypeId} {cs : List Value} (h : Blk w Q E cs) (hne : P ≠ Q) (x0 x1 : Value) : Blk (Proofs.YtddcgojpgdhefaaGreatDoor.st2 w P x0 x1) Q E cs := (h.other (p := ⟨P, 0, none⟩) hne x0).other (p := ⟨P, 1, none⟩) hne x1
def PlaceI (w : World) (P : Nat) : Prop := ∃ s a n c, Blk w P 24 [.bool s, .slice a n c]
theorem PlaceI.ext {w w' : World} {P : Nat} (h : PlaceI w P) (he : Ext w w') : PlaceI w' P := by
  obtain ⟨s, a, n, c, hb⟩ := h
  exact ⟨s, a, n, c, hb.ext he⟩
theorem PlaceI.st2_other {w : World} {P Q : Nat} (h : PlaceI w Q) (hne : P ≠ Q) (x0 x1 : Value) : PlaceI (st2 w P x0 x1) Q := by
  obtain ⟨s, a, n, c, hb⟩ := h
  exact ⟨s, a, n, c, Blk.st2_other hb hne x0 x1⟩
def HoldI (w : World) (P : Nat) (z : Int) : Prop := ∃ s a n c, Blk w P 24 [.bool s, .slice a n c] ∧ IntW w s a n c z
theorem HoldI.ext {w w' : World} {P : Nat} {z : Int} (h : HoldI w P z) (he : Ext w w') : HoldI w' P z := by
  obtain ⟨s, a, n, c, hb, hi⟩ := h
  exact ⟨s, a, n, c, hb.ext he, hi.ext he⟩
theorem HoldI.st2_other {w : World} {P Q : Nat} {z : Int} (h : HoldI w Q z) (hne : P ≠ Q) {x0 x1 : Value} (hs : Stay w (st2 w P x0 x1)) : HoldI (st2 w P x0 x1) Q z := by
  obtain ⟨s, a, n, c, hb, hi⟩ := h
  exact ⟨s, a, n, c, Blk.st2_other hb hne x0 x1, IntW.stay hi hs⟩
def PairT (w : World) (y : Value) (u v : Int) : Prop := ∃ a b, y = .tuple #[a, b, .int .i64 0] ∧ IntV w a u ∧ IntV w b v
theorem PairT.ext {w w' : World} {y : Value} {u v : Int} (h : PairT w y u v) (he : Ext w w') : PairT w' y u v := by
  obtain ⟨a, b, rfl, h1, h2⟩ := h
  exact ⟨a, b, rfl, h1.ext he, h2.ext he⟩
theorem PairT.stay {w w' : World} {y : Value} {u v : Int} (h : PairT w y u v) (he : Stay w w') : PairT w' y u v := by
  obtain ⟨a, b, rfl, h1, h2⟩ := h
  exact ⟨a, b, rfl, IntV.stay h1 he, IntV.stay h2 he⟩
theorem roomI_ne {w : World} {v u : Value} {m : Nat} (h : RoomI w v m) (hu : u = .pointer (some ⟨w.heap.size, 0, none⟩)) : u ≠ v := by
  obtain ⟨P, s, a, n, c, rfl, hb, hm⟩ := h
  rw [hu]
  have := hb.lt
  intro e
  injection e with e
  injection e with e
  injection e with e
  omega
theorem RoomI.st2_other {w : World} {P m : Nat} {v : Value} (h : RoomI w v m) (hv : .pointer (some ⟨P, 0, none⟩) ≠ v) (x0 x1 : Value) : RoomI (st2 w P x0 x1) v m := by
  obtain ⟨Q, s, a, n, c, rfl, hb, hm⟩ := h
  exact ⟨Q, s, a, n, c, rfl, Blk.st2_other hb (by rintro rfl; exact hv rfl) _ _, hm⟩
theorem AtI.st2_other {w : World} {P m : Nat} {v : Value} {z : Int} (h : AtI w v m z) (hv : .pointer (some ⟨P, 0, none⟩) ≠ v) {x0 x1 : Value} (hs : Stay w (st2 w P x0 x1)) : AtI (st2 w P x0 x1) v m z := by
  obtain ⟨Q, s, a, n, c, rfl, hb, hm, hi⟩ := h
  exact ⟨Q, s, a, n, c, rfl, Blk.st2_other hb (by rintro rfl; exact hv rfl) _ _, hm, IntW.stay hi hs⟩
theorem intV_W2 {w : World} {s : Bool} {a : Option Addr} {n c : Nat} {z : Int} (h : IntV w (.agg #[.bool s, .slice a n c]) z) : IntW w s a n c z := by
  obtain ⟨s', a', n', c', e, hi⟩ := h
  cases e
  exact hi
theorem intW_len {w : World} {s : Bool} {a : Option Addr} {n c : Nat} {z : Int} (h : IntW w s a n c z) (hz : z ≠ 0) : ((n : Int) == 0) = false := by
  have h1 := digs_pos_len (show 0 < (z.natAbs : Int) by omega)
  rw [h.2.hlen] at h1
  simp; omega
theorem intW_len0 {w : World} {s : Bool} {a : Option Addr} {n c : Nat} {z : Int} (h : IntW w s a n c z) (hz : z = 0) : n = 0 := by
  subst hz
  rw [← h.2.hlen, Int.natAbs_zero, Int.ofNat_zero, digs_zero]; rfl
theorem intW_abs {w : World} {s : Bool} {a : Option Addr} {n c : Nat} {z : Int} (h : IntW w s a n c z) : IntW w false a n c (z.natAbs : Int) :=
  ⟨by simp, by rw [Int.natAbs_natCast]; exact h.2⟩
theorem intV_abs {w : World} {s : Bool} {a : Option Addr} {n c : Nat} {z : Int} (h : IntV w (.agg #[.bool s, .slice a n c]) z) : IntV w (.agg #[.bool false, .slice a n c]) (z.natAbs : Int) := by
  obtain ⟨s', a', n', c', e, hi⟩ := h
  cases e
  exact ⟨_, _, _, _, rfl, intW_abs hi⟩
end Go.Proofs.YtddcgojpgdhefaaGreatDoor
