/- What the cards share: an integer's description that comes in reads as words. -/
import Derived.Test.YtddcgojpgdhefaaGreatDoorLawLib
import Derived.Test.YtddcgojpgdhefaaGreatDoorCards
import Derived.Test.YtddcgojpgdhefaaGreatDoorTie
import Derived.ProofKit
import Derived.OpenShut
import Derived.Lay
import Derived.LaidOnce
import Derived.SevenTiedAt
import Derived.Lib.SmallJoins
import Derived.ChangeSlices
import Derived.Carry
namespace Go.Proofs.YtddcgojpgdhefaaGreatDoor
open Go.ChangeShapes Go.WideShapes Go.ChangeAt Go.RowKit Go.El Go.Joins Go.Deep
set_option linter.unusedVariables false
theorem ownKnobNone : ownKnob Tryz.prog.godebug = none := by kernel_rfl
theorem laidOutAll : laidOutB Tryz.prog = true := by kernel_rfl
theorem cell_none {w : World} {a : Addr} {v : Value} (h : w.cell? a = some v) : a = ⟨a.block, a.off, none⟩ := by
  obtain ⟨b, o, s⟩ := a
  unfold World.cell? at h
  cases s with
  | none => rfl
  | some k =>
    exfalso
    simp at h
    split at h <;> simp at h
theorem words_of_cells {w : World} {a : Addr} {len cap : Nat} {zs : List Int} (hl : len ≤ cap) (hm : cap ≤ maxLen) (hz : zs.length = cap) (hc : ∀ i, i < zs.length → w.cell? (a.add i) = some (.int .u32 (zs.getD i 0))) (hw : ∀ n ∈ zs, (Lit.int .u32 n).wf = true) :
    Words w (some a) len cap (zs.take len) := by
  refine ⟨by rw [List.length_take]; omega, hl, by simpa [maxLen] using hm, (fun e => by cases e), ?_, ?_⟩
  · intro x hx
    have := hw x (List.mem_of_mem_take hx)
    simp [Lit.wf, IntKind.min, IntKind.max, IntKind.signed, IntKind.bits] at this
    omega
  · intro i z hiz
    rw [List.getElem?_take] at hiz
    split at hiz
    · rename_i hlt
      have h0 := hc 0 (by omega)
      have e : a = ⟨a.block, a.off, none⟩ := cell_none (by simpa [Addr.add] using h0)
      have hi := hc i (by omega)
      have hg : zs.getD i 0 = z := by rw [List.getD, hiz]; rfl
      rw [hg] at hi
      refine ⟨a.block, a.off, by rw [← e], ?_⟩
      by_cases hi0 : i = 0
      · subst hi0
        rw [Nat.add_zero, ← e]
        simpa [Addr.add] using hi
      · simpa [Addr.add, hi0] using hi
    · cases hiz
set_option maxRecDepth 100000 in
theorem open_mag {H : Type} {enc : TypeId × Value → H} {t e : TypeId} {f0 f1 : Field} {W : World} {base b0 : Nat} {v : Value} {d : DataW H} {p : List MemPlace} (hs : Tryz.prog.underlying t = some (.struct #[f0, f1])) (hone : oneCellFields Tryz.prog #[f0, f1] = true) (hC : Tryz.prog.cellsOf t = 2)
    (h0 : Tryz.prog.underlying f0.type = some .bool) (h1 : Tryz.prog.underlying f1.type = some (.slice e)) (he : Tryz.prog.underlying e = some (.int .u32)) (hc : Tryz.prog.cellsOf e = 1)
    (hv : Value.okWide Tryz.prog W .any b0 t v) (h : DataW.Trod enc Tryz.prog W base (fun _ => true) true t v d p) :
    ∃ (n : Bool) (a : Option Addr) (k c : Nat) (l : List Int), v = .agg #[.bool n, .slice a k c] ∧ Words W a k c l := by
  obtain ⟨v0, v1, y0, y1, m, rfl, -, -, k0, k1⟩ := Joins.open_agg2 hs hone hC hv h
  obtain ⟨b, e0, -⟩ := DataW.trod_bool h0 k0
  obtain rfl : v0 = .bool b := by simpa using e0
  rcases open_ints h1 he hc k1 with ⟨e1, -⟩ | ⟨a, len, cap, zs, e1, -, hl, hm, hz, -, hcell, hwf⟩
  · obtain rfl : v1 = .slice none 0 0 := by simpa using e1
    exact ⟨_, _, _, _, [], rfl, Words.nil' _⟩
  · obtain rfl : v1 = .slice (some a) len cap := by simpa using e1
    exact ⟨_, _, _, _, _, rfl, words_of_cells hl hm (by simpa using hz) hcell hwf⟩
theorem u16_bd {x : Int} (h : (Lit.int .u16 x).wf = true) : 0 ≤ x ∧ x < 65536 := by
  simp [Lit.wf, IntKind.min, IntKind.max, IntKind.signed, IntKind.bits] at h
  omega
theorem i64_bd {x : Int} (h : (Lit.int .i64 x).wf = true) : -9223372036854775808 ≤ x ∧ x < 9223372036854775808 := by
  simp [Lit.wf, IntKind.min, IntKind.max, IntKind.signed, IntKind.bits] at h
  omega
end Go.Proofs.YtddcgojpgdhefaaGreatDoor
