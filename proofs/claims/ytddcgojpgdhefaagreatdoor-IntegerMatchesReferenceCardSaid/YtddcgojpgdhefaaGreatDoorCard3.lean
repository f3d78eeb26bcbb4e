/- What more cards share: an argument that is a row of two numbers. -/
import Derived.Test.YtddcgojpgdhefaaGreatDoorCard
namespace Go.Proofs.YtddcgojpgdhefaaGreatDoor
open Go.ChangeShapes Go.WideShapes Go.ChangeAt Go.RowKit Go.El Go.Joins Go.Deep
set_option linter.unusedVariables false
set_option maxRecDepth 100000 in
theorem open_arr2 {H : Type} {enc : TypeId × Value → H} {t e : TypeId} {k : IntKind} {W : World} {base b0 : Nat} {v : Value} {d : DataW H} {p : List MemPlace} (ht : Tryz.prog.underlying t = some (.array 2 e)) (hC : Tryz.prog.cellsOf t = 2) (hE : Tryz.prog.cellsOf e = 1)
    (he : Tryz.prog.underlying e = some (.int k)) (hv : Value.okWide Tryz.prog W .any b0 t v) (h : DataW.Trod enc Tryz.prog W base (fun _ => true) true t v d p) :
    ∃ x y : Int, v = .agg #[.int k x, .int k y] ∧ (Lit.int k x).wf = true ∧ (Lit.int k y).wf = true := by
  obtain ⟨cs, rfl, hsz⟩ : ∃ cs, v = .agg cs ∧ cs.size = Tryz.prog.cellsOf t := by
    simp only [Value.okWide, ht] at hv
    obtain ⟨cs, h1, h2, _⟩ := hv
    exact ⟨cs, h1, h2⟩
  obtain ⟨l⟩ := cs
  match l, hsz.trans hC with
  | [c0, c1], _ =>
    obtain ⟨fuel, hf⟩ := h
    obtain ⟨xs, m, _, hx, _, hlen, hg⟩ := DataW.trod_array ht hf
    match xs, hlen with
    | [y0, y1], _ =>
      have h0 := hg 0 (by omega)
      have h1 := hg 1 (by omega)
      rw [hE] at h0 h1
      simp [Value.cells] at h0 h1
      obtain ⟨x, e0, -, w0⟩ := DataW.trod_int he h0
      obtain ⟨y, e1, -, w1⟩ := DataW.trod_int he h1
      simp at e0 e1
      subst e0
      subst e1
      exact ⟨x, y, rfl, w0, w1⟩
end Go.Proofs.YtddcgojpgdhefaaGreatDoor
