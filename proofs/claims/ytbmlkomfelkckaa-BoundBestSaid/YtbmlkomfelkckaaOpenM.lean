/- A matrix that is read, with its capacity. -/
import Derived.Test.YtbmlkomfelkckaaOpen
namespace Go.Proofs.Ytbmlkomfelkckaa
open Go Go.ChangeShapes Go.WideShapes Go.RowKit
set_option maxRecDepth 100000

section
variable {H : Type} {enc : TypeId × Value → H} {W : World} {base : Nat}

/-- A matrix' one cell that is read: its rows. -/
theorem open_matrixC_cell {fuel : Nat} {x : Value} {y : DataW H × List MemPlace} (h : DataW.trod enc Try.prog W 0 (fun _ => true) true fuel 36 [x] = some y) :
    ∃ A n c rows, x = .slice A n c ∧ RdRows W A rows ∧ rows.length = n ∧ n ≤ c ∧ c ≤ 9223372036854775807 := by
  obtain ⟨y0, n, _, _, h1⟩ := trod_struct1 Try.underlying36 h
  have h2 : DataW.trod enc Try.prog W 0 (fun _ => true) true n 34 [x] = some y0 := h1
  rcases Deep.open_int_rows Try.underlying34 Try.underlying43 Try.underlying3 (by kernel_rfl) (by kernel_rfl) h2 with ⟨hx, _⟩ | ⟨a, len, cap, A, L, C, Z, hx, _, hl, hm, _, hall⟩
  · obtain rfl := List.head_eq_of_cons_eq hx
    exact ⟨none, 0, 0, [], rfl, fun i x hi => by simp at hi, rfl, by omega, by omega⟩
  · obtain rfl := List.head_eq_of_cons_eq hx
    refine ⟨some a, len, cap, (List.range len).map fun i => (Z i).take (L i), rfl, fun i r hi => ?_, by simp, hl, maxLen_le hm⟩
    have hil : i < len := by
      have := (List.getElem?_eq_some_iff.1 hi).1
      simpa using this
    simp [hil] at hi
    subst hi
    obtain ⟨k0, k1, k2, k3, k4, k5, k6⟩ := hall i (by omega)
    have hlen : ((Z i).take (L i)).length = L i := by rw [List.length_take]; omega
    refine ⟨a, A i, C i, rfl, by rw [hlen]; exact k0, fun j x hj => ?_, by rw [hlen]; exact k1, maxLen_le k2⟩
    obtain ⟨hjl, hjx⟩ := List.getElem?_eq_some_iff.1 hj
    rw [hlen] at hjl
    cases hA : A i with
    | none => have := k5 hA; omega
    | some a' =>
      refine ⟨a', rfl, ?_⟩
      rw [(k6 a' hA).2 j (by omega), List.getD_eq_getElem?_getD, List.getElem?_eq_getElem (by omega)]
      rw [List.getElem_take] at hjx
      rw [hjx]; rfl

/-- A matrix that is read. -/
theorem open_matrixC {r : Reach} {v : Value} {d : DataW H} {p : List MemPlace} (hv : Value.okWide Try.prog W r base 36 v) (h : DataW.Trod enc Try.prog W 0 (fun _ => true) true 36 v d p) :
    ∃ A n c rows, v = .agg #[.slice A n c] ∧ RdRows W A rows ∧ rows.length = n ∧ n ≤ c ∧ c ≤ 9223372036854775807 := by
  obtain ⟨cs, rfl, hcs⟩ := okWide_struct Try.underlying36 hv
  have hc1 : Try.prog.cellsOf 36 = 1 := by kernel_rfl
  rw [hc1] at hcs
  obtain ⟨x, rfl⟩ : ∃ x, cs = #[x] := by
    obtain ⟨l⟩ := cs
    match l, hcs with
    | [x], _ => exact ⟨x, rfl⟩
  obtain ⟨fuel, h⟩ := h
  obtain ⟨A, n, c, rows, rfl, h1, h2, h3, h4⟩ := open_matrixC_cell h
  exact ⟨A, n, c, rows, rfl, h1, h2, h3, h4⟩

end
end Go.Proofs.Ytbmlkomfelkckaa
