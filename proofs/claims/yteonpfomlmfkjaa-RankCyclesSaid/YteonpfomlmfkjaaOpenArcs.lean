/- Arcs that are read. -/
import Derived.Test.YteonpfomlmfkjaaRkWeb
import Derived.ProofKit
import Derived.OpenShut
import Derived.Deep.Slices
namespace Go.Proofs.Yteonpfomlmfkjaa
open Go Go.ChangeShapes Go.WideShapes Go.RowKit
set_option maxRecDepth 100000

section
variable {H : Type} {enc : TypeId × Value → H} {W : World} {base : Nat}

theorem open_arcs_cell {fuel : Nat} {x : Value} {y : DataW H × List MemPlace} (h : DataW.trod enc Try.prog W 0 (fun _ => true) true fuel 22 [x] = some y) :
    ∃ A n c l, x = .slice A n c ∧ RdArcs W A l ∧ l.length = n ∧ n ≤ c ∧ c ≤ 9223372036854775807 := by
  rcases Deep.open_slice Try.underlying22 h with ⟨hx, _⟩ | ⟨a, len, cap, m, n', D, Pl, hx, _, hl, hm, hmm, _, hall⟩
  · obtain rfl := List.head_eq_of_cons_eq hx
    exact ⟨none, 0, 0, [], rfl, fun i x hi => by simp at hi, rfl, by omega, by omega⟩
  · obtain rfl := List.head_eq_of_cons_eq hx
    simp only [if_true] at hmm
    obtain rfl := hmm.symm
    have hc2 : Try.prog.cellsOf 34 = 2 := by kernel_rfl
    have hci : Try.prog.cellsOf 3 = 1 := by kernel_rfl
    have each : ∀ i, i < len → ∃ b : Int × Int, W.cell? (a.add (i * 2)) = some (.int .i64 b.1) ∧ W.cell? ⟨(a.add (i * 2)).block, (a.add (i * 2)).off + 1, none⟩ = some (.int .i64 b.2) := by
      intro i hi
      obtain ⟨cs', hc, ht⟩ := hall i (by omega)
      rw [hc2] at hc
      obtain ⟨_, hlen, hcell⟩ := World.cells?_some hc
      obtain ⟨ys, k, _, _, _, hl2, hel⟩ := DataW.trod_array Try.underlying34 ht
      obtain ⟨c0, c1, rfl⟩ : ∃ c0 c1, cs' = [c0, c1] := by
        match cs', hlen with
        | [a, b], _ => exact ⟨a, b, rfl⟩
      have h0 := hel 0 (by omega)
      have h1 := hel 1 (by omega)
      rw [hci, List.getElem?_eq_getElem (by omega)] at h0 h1
      obtain ⟨z0, e0, _, _⟩ := DataW.trod_int Try.underlying3 h0
      obtain ⟨z1, e1, _, _⟩ := DataW.trod_int Try.underlying3 h1
      simp at e0 e1
      subst e0 e1
      have g0 := hcell 0 (by omega)
      have g1 := hcell 1 (by omega)
      exact ⟨(z0, z1), by simpa [Addr.add] using g0, by simpa [Addr.add] using g1⟩
    haveI : Inhabited (Int × Int) := ⟨(0, 0)⟩
    obtain ⟨f, hf⟩ := Deep.choose_lt each
    refine ⟨some a, len, cap, (List.range len).map f, rfl, fun i x hi => ?_, by simp, hl, hm⟩
    have hil : i < len := by
      have := (List.getElem?_eq_some_iff.1 hi).1
      simpa using this
    simp [hil] at hi
    subst hi
    exact ⟨a, rfl, hf i hil⟩

/-- Arcs that are read. -/
theorem open_arcs {r : Reach} {v : Value} {d : DataW H} {p : List MemPlace} (hv : Value.okWide Try.prog W r base 22 v) (h : DataW.Trod enc Try.prog W 0 (fun _ => true) true 22 v d p) :
    ∃ A n c l, v = .slice A n c ∧ RdArcs W A l ∧ l.length = n ∧ n ≤ c ∧ c ≤ 9223372036854775807 := by
  obtain ⟨a0, len, cap, rfl⟩ := okWide_slice Try.underlying22 hv
  obtain ⟨fuel, h⟩ := h
  exact open_arcs_cell h
end
end Go.Proofs.Yteonpfomlmfkjaa
