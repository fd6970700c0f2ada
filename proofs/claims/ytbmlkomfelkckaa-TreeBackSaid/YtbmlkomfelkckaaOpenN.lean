/- The law's argument opened: a list of names. -/
import Derived.Test.YtbmlkomfelkckaaOpen
import Derived.Test.YtbmlkomfelkckaaStr
import Derived.SliceStrings
namespace Go.Proofs.Ytbmlkomfelkckaa
open Go Go.ChangeShapes Go.WideShapes Go.RowKit
set_option maxRecDepth 100000

/-- Names that are read. -/
theorem open_names {H : Type} {enc : TypeId × Value → H} {W : World} {base : Nat} {r : Reach} {v : Value} {d : DataW H} {p : List MemPlace} (hv : Value.okWide Try.prog W r base 22 v) (h : DataW.Trod enc Try.prog W 0 (fun _ => true) true 22 v d p) :
    ∃ A n c ns, v = .slice A n c ∧ RdStr W A ns ∧ ns.length = n ∧ n ≤ c ∧ n ≤ 9223372036854775807 ∧ ∀ s ∈ ns, s.size ≤ 9223372036854775807 := by
  obtain ⟨a0, len, cap, rfl⟩ := okWide_slice Try.underlying22 hv
  obtain ⟨fuel, hf⟩ := h
  rcases open_strings Try.underlying22 Try.underlying9 (by kernel_rfl) hf with ⟨hcs, _⟩ | ⟨a, len', cap', ss, hcs, _, hl, hm, hz, _, hcell, hsz⟩
  · obtain ⟨rfl, rfl, rfl⟩ : a0 = none ∧ len = 0 ∧ cap = 0 := by simpa [Value.cells] using hcs
    exact ⟨none, 0, 0, [], rfl, fun i x hi => by simp at hi, rfl, by omega, by omega, fun s hs => by simp at hs⟩
  · obtain ⟨rfl, rfl, rfl⟩ : a0 = some a ∧ len = len' ∧ cap = cap' := by simpa [Value.cells] using hcs
    simp only [if_true] at hz
    have hmx := maxLen_le hm
    refine ⟨some a, len, cap, ss.take len, rfl, fun i s hi => ?_, by rw [List.length_take]; omega, hl, by omega, fun s hs => maxLen_le (hsz s (List.mem_of_mem_take hs))⟩
    have hi1 := (List.getElem?_eq_some_iff.1 hi).1
    rw [List.length_take] at hi1
    refine ⟨a, rfl, ?_⟩
    rw [hcell i (by omega)]
    rw [List.getElem?_take, if_pos (by omega)] at hi
    rw [List.getD_eq_getElem?_getD, hi]
    rfl
end Go.Proofs.Ytbmlkomfelkckaa
