/- The library's part of Text: Reverse, Join at a row of the call's own. -/
import Derived.Test.YtddcgojpgdhefaaGreatDoorDec
import Derived.Test.YtddcgojpgdhefaaGreatDoorBase
import Derived.Test.YtddcgojpgdhefaaGreatDoorShelfText
import Derived.Sort.OwnSorted
namespace Go.El
open Go.RowKit
theorem ownsRow_ext {w w' : World} {base : Nat} {e : TypeId} {size : Nat} {v : Value} {n : Nat} {xs : List Value} (h : w.ownsRow base e size v n xs) (he : Ext w w') : w'.ownsRow base e size v n xs := by
  refine ⟨h.1, ?_⟩
  rcases h.2 with hn | ⟨g, cap, cur, rfl, hb, hg, rest⟩
  · exact .inl hn
  · exact .inr ⟨g, cap, cur, rfl, hb, he.blk hg, rest⟩
end Go.El
namespace Go.Proofs.YtddcgojpgdhefaaGreatDoor
open Go.RowKit Go.El Go.Sort
set_option linter.unusedVariables false
theorem rev_own (w : World) (base : Nat) (v : Value) (j : Nat) (cs : List (List UInt8)) (h : w.ownsRow base 9 1 v j (cs.map encStr)) (hj : cs.length = j) (hb : j ≤ 1000000) :
    Calls Tryz.prog 63 #[v] w fun e w' => e = .returned (.tuple #[]) ∧ w'.ownsRow base 9 1 v j (cs.reverse.map encStr) ∧ w.grownBy w' v.ownBlock := by
  subst hj
  rcases h.2 with ⟨rfl, hnil⟩ | ⟨g, cap, cur, rfl, hbase, hg, h1, h2, h3, h4⟩
  · have hc : cs = [] := by simpa using hnil
    subst hc
    refine (Tryz.slices_Reverse_string_empty none 0 w).mono ?_
    rintro e w' ⟨rfl, rfl⟩
    exact ⟨rfl, h, ⟨rfl, rfl, rfl, Nat.le_refl _, fun _ _ _ => rfl⟩⟩
  · refine (Tryz.slices_Reverse_string g 0 cap cs w (holds_of_block hg (by simpa using h4)) (by omega)).mono ?_
    rintro e w' ⟨rfl, n, rfl⟩
    have e1 : putRow encStr (Sort.ahead w n) g 0 cs.reverse.toArray = grow (putRow encStr (Sort.ahead w n) g 0 cs.reverse.toArray) #[] := (grow_empty _).symm
    rw [e1]
    exact ⟨rfl, ownsRow_sorted (by simp) hbase hg h1 h2 h3, grownBy_sorted _⟩
theorem join_own (w : World) (base : Nat) (v : Value) (j : Nat) (cs : List (List UInt8)) (h : w.ownsRow base 9 1 v j (cs.map encStr)) (hj : cs.length = j) (hb : j ≤ 1000000) (hl : cs.flatten.length ≤ 1000000000) :
    Calls Tryz.prog 65 #[v, .string ⟨#[]⟩] w fun e w' => e = .returned (.string ⟨cs.flatten.toArray⟩) ∧ Ext w w' := by
  subst hj
  rcases h.2 with ⟨rfl, hnil⟩ | ⟨g, cap, cur, rfl, hbase, hg, h1, h2, h3, h4⟩
  · have hc : cs = [] := by simpa using hnil
    subst hc
    refine (Tryz.strings_Join_none none 0 ⟨#[]⟩ w).mono ?_
    rintro e w' ⟨rfl, rfl⟩
    exact ⟨rfl, Ext.refl _⟩
  · have hcells := h.cells (g := g) rfl
    have hj2 : Lib.join ((cs.map fun l => (⟨l.toArray⟩ : ByteArray)).map (·.data.toList)) (ByteArray.mk #[]).data.toList = cs.flatten := by
      rw [List.map_map]
      show Lib.join (List.map (fun l => l) cs) [] = _
      rw [List.map_id', join_flat]
    have := Tryz.strings_Join g 0 cap (cs.map fun l => (⟨l.toArray⟩ : ByteArray)) ⟨#[]⟩ w (fun i x hi => by
      have h5 := hcells i (.string x) (by
        rw [List.getElem?_map] at hi ⊢
        cases hc : cs[i]? with
        | none => rw [hc] at hi; cases hi
        | some l => rw [hc] at hi; cases hi; rfl)
      have e : (⟨g, 0, none⟩ : Addr).add i = ⟨g, 0 + i, none⟩ := by unfold Addr.add; split <;> simp_all
      rw [e] at h5; exact h5) (Array.getElem?_eq_some_iff.1 hg).1 (by rw [List.length_map]; omega) (by rw [List.length_map]; exact h1) (by rw [hj2]; omega)
    rw [hj2, List.length_map] at this
    exact this
theorem trim0 (l : List UInt8) (w : World) :
    Calls Tryz.prog 64 #[.string ⟨l.toArray⟩, .string ⟨#[48]⟩] w fun e w' => e = .returned (.string ⟨(Lib.trimLeftB l 48).toArray⟩) ∧ w' = w :=
  Tryz.strings_TrimLeft_one ⟨l.toArray⟩ 48 (by decide) w
end Go.Proofs.YtddcgojpgdhefaaGreatDoor
