/- What more cards share: an argument that is a row of three numbers. -/
import Derived.Test.YtddcgojpgdhefaaGreatDoorCard
namespace Go.Proofs.YtddcgojpgdhefaaGreatDoor
open Go.ChangeShapes Go.WideShapes Go.ChangeAt Go.RowKit Go.El Go.Joins Go.Deep
set_option linter.unusedVariables false
set_option maxRecDepth 100000 in
theorem open_arr3 {H : Type} {enc : TypeId × Value → H} {t e : TypeId} {k : IntKind} {W : World} {base b0 : Nat} {v : Value} {d : DataW H} {p : List MemPlace} (ht : Tryz.prog.underlying t = some (.array 3 e)) (hC : Tryz.prog.cellsOf t = 3) (hE : Tryz.prog.cellsOf e = 1)
    (he : Tryz.prog.underlying e = some (.int k)) (hv : Value.okWide Tryz.prog W .any b0 t v) (h : DataW.Trod enc Tryz.prog W base (fun _ => true) true t v d p) :
    ∃ x y z : Int, v = .agg #[.int k x, .int k y, .int k z] ∧ (Lit.int k x).wf = true ∧ (Lit.int k y).wf = true ∧ (Lit.int k z).wf = true := by
  obtain ⟨cs, rfl, hsz⟩ : ∃ cs, v = .agg cs ∧ cs.size = Tryz.prog.cellsOf t := by
    simp only [Value.okWide, ht] at hv
    obtain ⟨cs, h1, h2, _⟩ := hv
    exact ⟨cs, h1, h2⟩
  obtain ⟨l⟩ := cs
  match l, hsz.trans hC with
  | [c0, c1, c2], _ =>
    obtain ⟨fuel, hf⟩ := h
    obtain ⟨xs, m, _, hx, _, hlen, hg⟩ := DataW.trod_array ht hf
    match xs, hlen with
    | [y0, y1, y2], _ =>
      have h0 := hg 0 (by omega)
      have h1 := hg 1 (by omega)
      have h2 := hg 2 (by omega)
      rw [hE] at h0 h1 h2
      simp [Value.cells] at h0 h1 h2
      obtain ⟨x, e0, -, w0⟩ := DataW.trod_int he h0
      obtain ⟨y, e1, -, w1⟩ := DataW.trod_int he h1
      obtain ⟨z, e2, -, w2⟩ := DataW.trod_int he h2
      simp at e0 e1 e2
      subst e0
      subst e1
      subst e2
      exact ⟨x, y, z, rfl, w0, w1, w2⟩
theorem u8_bd {x : Int} (h : (Lit.int .u8 x).wf = true) : 0 ≤ x ∧ x < 256 := by
  simp [Lit.wf, IntKind.min, IntKind.max, IntKind.signed, IntKind.bits] at h
  omega
end Go.Proofs.YtddcgojpgdhefaaGreatDoor
