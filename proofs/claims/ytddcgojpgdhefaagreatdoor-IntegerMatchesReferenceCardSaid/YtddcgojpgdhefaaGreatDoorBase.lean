/- Reading words and owned blocks in memory; worlds that extend each other. No program. -/
import Derived.Test.YtddcgojpgdhefaaGreatDoorMathA
import Derived.WalkKit
import Derived.Deep.Draws
namespace Go.El
open Go.RowKit
set_option linter.unusedVariables false

/-- Nothing that was in w has turned in w'. -/
def Ext (w w' : World) : Prop := Below w.heap.size w w'

theorem Ext.refl (w : World) : Ext w w := Below.refl _ _
theorem Ext.size {w w' : World} (h : Ext w w') : w.heap.size ≤ w'.heap.size := Below.size h
theorem Ext.trans {a b c : World} (h : Ext a b) (k : Ext b c) : Ext a c :=
  Below.trans h (Below.mono k h.size)
theorem Ext.drew {a w : World} (h : Ext a w) : Ext a w.drew := Below.drew h
theorem Ext.drewN {a w : World} (h : Ext a w) (n : Nat) : Ext a (w.drewN n) := by
  obtain ⟨h1, h2, h3, h4, h5⟩ := h
  exact ⟨h1, h2, h3, h4, h5⟩
theorem Ext.alloc {a w : World} (h : Ext a w) (o : Obj) : Ext a (w.alloc o) := Below.alloc h h.size o
theorem Ext.setCell {a w : World} (h : Ext a w) {p : Addr} (hp : a.heap.size ≤ p.block) (u : Value) : Ext a (w.setCell p u) := Below.setCell h hp u
theorem Ext.store {a w : World} (h : Ext a w) {b : Nat} (hb : Hid (b = a.heap.size)) (i : Nat) (u : Value) : Ext a (w.setCell ⟨b, i, none⟩ u) := Below.setCell h (by rw [← hb.out]; exact Nat.le_refl _) u
theorem Ext.cell {w w' : World} (h : Ext w w') {p : Addr} {v : Value} (hc : w.cell? p = some v) : w'.cell? p = some v :=
  (Below.cell h (World.block_lt_of_cell? w p hc)).trans hc
theorem Ext.blk {w w' : World} (h : Ext w w') {k : Nat} {o : Obj} (hk : w.heap[k]? = some o) : w'.heap[k]? = some o :=
  (Below.block h k (Array.getElem?_eq_some_iff.1 hk).1).trans hk

/-- Block b is a row of just these cells, none of them frozen. -/
def Blk (w : World) (b : Nat) (E : TypeId) (cs : List Value) : Prop := w.heap[b]? = some (.cells cs.toArray E (0, 0))

theorem Blk.lt {w : World} {b : Nat} {E : TypeId} {cs : List Value} (h : Blk w b E cs) : b < w.heap.size := (Array.getElem?_eq_some_iff.1 h).1
theorem Blk.cell {w : World} {b : Nat} {E : TypeId} {cs : List Value} (h : Blk w b E cs) {i : Nat} {v : Value} (hi : cs[i]? = some v) : w.cell? ⟨b, i, none⟩ = some v := by
  unfold Blk at h
  simp [World.cell?, h, hi]
theorem Blk.free {w : World} {b : Nat} {E : TypeId} {cs : List Value} (h : Blk w b E cs) (i : Nat) : w.frozen? ⟨b, i, none⟩ = false := by
  unfold Blk at h
  simp [World.frozen?, h]
theorem Blk.ext {w w' : World} {b : Nat} {E : TypeId} {cs : List Value} (h : Blk w b E cs) (he : Ext w w') : Blk w' b E cs := he.blk h
theorem Blk.set {w : World} {b : Nat} {E : TypeId} {cs : List Value} (h : Blk w b E cs) (i : Nat) (v : Value) : Blk (w.setCell ⟨b, i, none⟩ v) b E (cs.set i v) := by
  unfold Blk at *
  simp [World.setCell, Array.getElem?_modify, h]
theorem Blk.set2 {w : World} {b : Nat} {E : TypeId} {p q : Value} (h : Blk w b E [p, q]) (x y : Value) : Blk ((w.setCell ⟨b, 0, none⟩ x).setCell ⟨b, 1, none⟩ y) b E [x, y] := (h.set 0 x).set 1 y
theorem Blk.other {w : World} {b : Nat} {E : TypeId} {cs : List Value} (h : Blk w b E cs) {p : Addr} (hp : p.block ≠ b) (v : Value) : Blk (w.setCell p v) b E cs := by
  unfold Blk at *
  rw [Below.heap_setCell _ _ _ _ (Ne.symm hp)]; exact h
theorem Blk.alloc {w : World} {b : Nat} {E : TypeId} {cs : List Value} (h : Blk w b E cs) (o : Obj) : Blk (w.alloc o) b E cs := h.ext ((Ext.refl w).alloc o)
theorem Blk.drew {w : World} {b : Nat} {E : TypeId} {cs : List Value} (h : Blk w b E cs) : Blk w.drew b E cs := h
theorem Blk.below {w w' : World} {b B : Nat} {E : TypeId} {cs : List Value} (h : Blk w b E cs) (hb : Below B w w') (hB : b < B) : Blk w' b E cs := (hb.block b hB).trans h
theorem Blk.new (w : World) (E : TypeId) (cs : List Value) : Blk (w.alloc (.cells cs.toArray E)) w.heap.size E cs := heap_alloc_new w _

/-- Words: numbers of 32 bits. -/
def u32s (l : List Int) : List Value := l.map (Value.int .u32)

theorem u32s_get {l : List Int} {i : Nat} {z : Int} (h : l[i]? = some z) : (u32s l)[i]? = some (.int .u32 z) := by simp [u32s, h]
theorem u32s_length (l : List Int) : (u32s l).length = l.length := by simp [u32s]
theorem u32s_set (l : List Int) (i : Nat) (z : Int) : (u32s l).set i (.int .u32 z) = u32s (l.set i z) := by simp [u32s, List.map_set]

/-- A slice value that reads as these words. -/
structure Words (w : World) (a : Option Addr) (len cap : Nat) (l : List Int) : Prop where
  hlen : l.length = len
  le : len ≤ cap
  max : cap ≤ 9223372036854775807
  nil : a = none → cap = 0
  wf : Wf l
  cells : ∀ i z, l[i]? = some z → ∃ b off, a = some ⟨b, off, none⟩ ∧ w.cell? ⟨b, off + i, none⟩ = some (.int .u32 z)

theorem Words.ext {w w' : World} {a : Option Addr} {len cap : Nat} {l : List Int} (h : Words w a len cap l) (he : Ext w w') : Words w' a len cap l :=
  ⟨h.hlen, h.le, h.max, h.nil, h.wf, fun i z hz => by
    obtain ⟨b, off, ha, hc⟩ := h.cells i z hz
    exact ⟨b, off, ha, he.cell hc⟩⟩
theorem Words.take {w : World} {a : Option Addr} {len cap : Nat} {l : List Int} (h : Words w a len cap l) {n : Nat} (hn : n ≤ len) : Words w a n n (l.take n) :=
  ⟨by rw [List.length_take, h.hlen, Nat.min_eq_left hn], Nat.le_refl _, by have := h.le; have := h.max; omega, fun e => by have := h.nil e; have := h.le; omega, h.wf.take n, fun i z hz => by
    rw [List.getElem?_take] at hz
    split at hz
    · exact h.cells i z hz
    · cases hz⟩
/-- A store into a cell that holds no word leaves the words. -/
theorem Words.keep {w : World} {a : Option Addr} {len cap : Nat} {l : List Int} (h : Words w a len cap l) {p : Addr} {vp : Value} (hp : w.cell? p = some vp) (hne : ∀ z, vp ≠ .int .u32 z) (v : Value) : Words (w.setCell p v) a len cap l :=
  ⟨h.hlen, h.le, h.max, h.nil, h.wf, fun i z hz => by
    obtain ⟨b, off, ha, hc⟩ := h.cells i z hz
    refine ⟨b, off, ha, (World.cell?_setCell_other w p _ v ?_).trans hc⟩
    rintro rfl
    rw [hp] at hc
    exact hne z (Option.some.inj hc)⟩
theorem Words.keep2 {w : World} {a : Option Addr} {len cap : Nat} {l : List Int} (h : Words w a len cap l) {b : Nat} {E : TypeId} {p q : Value} (hb : Blk w b E [p, q]) (hp : ∀ z, p ≠ .int .u32 z) (hq : ∀ z, q ≠ .int .u32 z) (x y : Value) : Words ((w.setCell ⟨b, 0, none⟩ x).setCell ⟨b, 1, none⟩ y) a len cap l :=
  (h.keep (hb.cell (i := 0) rfl) hp x).keep ((hb.set 0 x).cell (i := 1) rfl) hq y
theorem Words.grown {w w' : World} {bv ov len cap : Nat} {l : List Int} {bu : Nat} (h : Words w (some ⟨bv, ov, none⟩) len cap l) (hg : w.grownBy w' (some bu)) (hne : bv ≠ bu) : Words w' (some ⟨bv, ov, none⟩) len cap l :=
  ⟨h.hlen, h.le, h.max, h.nil, h.wf, fun i z hz => by
    obtain ⟨b, off, ha, hc⟩ := h.cells i z hz
    cases ha
    exact ⟨bv, ov, rfl, hg.cell hc (by simpa using hne)⟩⟩
theorem Blk.grown {w w' : World} {b bu : Nat} {E : TypeId} {cs : List Value} (h : Blk w b E cs) (hg : w.grownBy w' (some bu)) (hne : b ≠ bu) : Blk w' b E cs :=
  (hg.block b h.lt (by simpa using hne)).trans h
theorem grownBy.refl (w : World) (b : Nat) : w.grownBy w (some b) := ⟨rfl, rfl, rfl, Nat.le_refl _, fun _ _ _ => rfl⟩
theorem grownBy.store {w w' : World} {b : Nat} (h : w.grownBy w' (some b)) (i : Nat) (u : Value) : w.grownBy (w'.setCell ⟨b, i, none⟩ u) (some b) := by
  obtain ⟨h1, h2, h3, h4, h5⟩ := h
  refine ⟨h1, h2, h3, by simpa [World.setCell] using h4, fun k hk hne => ?_⟩
  rw [Below.heap_setCell _ _ _ _ (fun e => hne (by rw [e]))]
  exact h5 k hk hne
theorem grownBy.drewN {w w' : World} {b : Nat} (h : w.grownBy w' (some b)) (n : Nat) : w.grownBy (w'.drewN n) (some b) := by
  obtain ⟨h1, h2, h3, h4, h5⟩ := h
  exact ⟨h1, h2, h3, h4, h5⟩
theorem grownBy.drew {w w' : World} {b : Nat} (h : w.grownBy w' (some b)) : w.grownBy w'.drew (some b) := by
  obtain ⟨h1, h2, h3, h4, h5⟩ := h
  exact ⟨h1, h2, h3, h4, h5⟩
theorem Words.of_blk {w : World} {b : Nat} {E : TypeId} {l : List Int} (h : Blk w b E (u32s l)) (hw : Wf l) (hm : l.length ≤ 9223372036854775807) : Words w (some ⟨b, 0, none⟩) l.length l.length l :=
  ⟨rfl, Nat.le_refl _, hm, (fun e => by cases e), hw, fun i z hz => ⟨b, 0, rfl, by rw [Nat.zero_add]; exact h.cell (u32s_get hz)⟩⟩
theorem Words.nil' (w : World) : Words w none 0 0 [] := ⟨rfl, Nat.le_refl _, by omega, fun _ => rfl, (fun x h => by cases h), fun i z h => by simp at h⟩

/-- 'make([]T, n)' of numbers: the new row, whole. -/
theorem wpList_make_ints {P : Program} (w : World) {ops : Array Oper} {rest : List Oper} {o : Oper} {a : Act} {Q : Exit → Act → World → Prop}
    (hg : o.guard = none) (l c : Operand) (t : TypeId) (hop : o.op = Op.makeSlice t l c)
    (e : TypeId) (i : TypeInfo) (kd : IntKind) (h1 : P.underlying t = some (.slice e)) (h2 : P.info? e = some i) (h3 : i.zero = some (.int kd 0)) (h4 : i.size = 1)
    (kl kc : IntKind) (L C : Int) (n : Nat) (hl : a.eval l = .int kl L) (hc : a.eval c = .int kc C) (hL : L = (n : Int)) (hC : C = (n : Int)) (b2 : i.bytes * n ≤ 281474976710656) (b3 : n ≤ 9223372036854775807)
    (hK : ∀ w' b, Hid (b = w.heap.size) → Ext w w' → Blk w' b e ((List.replicate n 0).map (Value.int kd)) → wpList P ops Q rest (a.put o.dst (.slice (some ⟨b, 0, none⟩) n n)) w') :
    wpList P ops Q (o :: rest) a w := by
  refine wpList_plain hg fun K hK' => ?_
  subst hL
  subst hC
  have hb' : (i.bytes : Int) * (n : Int) ≤ 281474976710656 := by
    have h : ((i.bytes * n : Nat) : Int) ≤ 281474976710656 := by omega
    rwa [Int.natCast_mul] at h
  have hr := run_make (P := P) w t e i _ h1 h2 h3 kl kc n n (by omega) (Int.le_refl _) hb' (by omega)
  simp only [Int.toNat_natCast, h4, Nat.mul_one] at hr
  have hm : madeCells (Value.int kd 0).cells n = ((List.replicate n (0 : Int)).map (Value.int kd)).toArray := by
    apply Array.ext
    · simp [size_madeCells]
    · intro k h1 h2
      simp [madeCells, Value.cells, Nat.mod_one]
  rw [hm] at hr
  unfold Oper.wp
  simp only [execOp, hop, hl, hc, Sem.run_bind, hr, Result.andThen_ok, Sem.run_pure]
  exact hK' _ _ (hK _ _ rfl ((Ext.refl w).alloc _) (Blk.new w e _))
theorem run_max_int {P : Program} (ts : Array TypeId) (t : TypeId) (x y : Nat) (w : World) : (Builtin.max_ ts t #[.int .i64 (x : Int), .int .i64 (y : Int)]).run P w = .ok (.int .i64 ((max x y : Nat) : Int)) w := by
  have e : ((max x y : Nat) : Int) = if (y : Int) > (x : Int) then (y : Int) else (x : Int) := by split <;> omega
  rw [e]
  simp [Builtin.max_, Builtin.max2, List.foldlM]
/-- What an append leaves reads as words. -/
theorem Words.of_own {w : World} {base : Nat} {e : TypeId} {v : Value} {n : Nat} {l : List Int} (h : w.ownsRow base e 1 v n (u32s l)) (hw : Wf l) : ∃ a c, v = .slice a n c ∧ Words w a n c l := by
  obtain ⟨hl, hr⟩ := h
  rw [u32s_length, Nat.mul_one] at hl
  rcases hr with ⟨rfl, rfl⟩ | ⟨g, cap, cur, rfl, hb, hg, hc, hm, hs, ht⟩
  · have : l = [] := List.eq_nil_of_length_eq_zero hl
    subst this
    exact ⟨none, 0, rfl, Words.nil' w⟩
  · refine ⟨some ⟨g, 0, none⟩, cap, rfl, ⟨hl, hc, by simpa [maxLen] using hm, (fun e => by cases e), hw, fun i z hz => ⟨g, 0, rfl, ?_⟩⟩⟩
    rw [Nat.zero_add]
    have h1 := u32s_get hz
    rw [← ht, Nat.mul_one, List.getElem?_take] at h1
    split at h1
    · have h2 : cur[i]? = some (.int .u32 z) := by simpa using h1
      simp [World.cell?, hg, h2]
    · cases h1
theorem Ext.grown {w w' w'' : World} {row : Option Nat} (h : Ext w w') (hg : w'.grownBy w'' row) (hr : ∀ k, row = some k → w.heap.size ≤ k) : Ext w w'' := Below.grown h hg h.size hr
set_option linter.unusedSimpArgs false
section
variable {P : Program} {fn : Func} {tmps : Array Value} {w : World}
theorem results_c {p : Tmp} {ty : TypeId} {A : Addr} {v : Value} (h : fn.results = #[.cell p ty]) (hp : tmps.getD p undef = .pointer (some A)) (hl : (loadVar ty A).run P w = .ok v w) : (results fn tmps).run P w = .ok v w := by
  simp only [Array.getD_eq_getD_getElem?] at hp
  simp only [results, h]
  simp [Sem.run_bind, Result.andThen, hp, hl, asAddr]
theorem results_ct {p q : Tmp} {ty : TypeId} {A : Addr} {v : Value} (h : fn.results = #[.cell p ty, .tmp q]) (hp : tmps.getD p undef = .pointer (some A)) (hl : (loadVar ty A).run P w = .ok v w) : (results fn tmps).run P w = .ok (.tuple #[v, tmps.getD q undef]) w := by
  simp only [Array.getD_eq_getD_getElem?] at hp
  simp only [results, h]
  simp [Sem.run_bind, Result.andThen, hp, hl, asAddr]
theorem results_cct {p p' q : Tmp} {ty ty' : TypeId} {A A' : Addr} {v v' : Value} (h : fn.results = #[.cell p ty, .cell p' ty', .tmp q]) (hp : tmps.getD p undef = .pointer (some A)) (hl : (loadVar ty A).run P w = .ok v w)
    (hp' : tmps.getD p' undef = .pointer (some A')) (hl' : (loadVar ty' A').run P w = .ok v' w) : (results fn tmps).run P w = .ok (.tuple #[v, v', tmps.getD q undef]) w := by
  simp only [Array.getD_eq_getD_getElem?] at hp hp'
  simp only [results, h]
  simp [Sem.run_bind, Result.andThen, hp, hl, hp', hl', asAddr]
theorem results_ccc {p p' p'' : Tmp} {ty ty' ty'' : TypeId} {A A' A'' : Addr} {v v' v'' : Value} (h : fn.results = #[.cell p ty, .cell p' ty', .cell p'' ty'']) (hp : tmps.getD p undef = .pointer (some A)) (hl : (loadVar ty A).run P w = .ok v w)
    (hp' : tmps.getD p' undef = .pointer (some A')) (hl' : (loadVar ty' A').run P w = .ok v' w) (hp'' : tmps.getD p'' undef = .pointer (some A'')) (hl'' : (loadVar ty'' A'').run P w = .ok v'' w) : (results fn tmps).run P w = .ok (.tuple #[v, v', v'']) w := by
  simp only [Array.getD_eq_getD_getElem?] at hp hp' hp''
  simp only [results, h]
  simp [Sem.run_bind, Result.andThen, hp, hl, hp', hl', hp'', hl'', asAddr]
end
end Go.El
