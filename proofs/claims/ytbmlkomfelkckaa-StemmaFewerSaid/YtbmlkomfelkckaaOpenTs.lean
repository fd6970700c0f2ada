/- Trees that are read. -/
import Derived.Test.YtbmlkomfelkckaaOpen
namespace Go.Proofs.Ytbmlkomfelkckaa
open Go Go.ChangeShapes Go.WideShapes Go.RowKit
set_option maxRecDepth 100000

/-- A row of trees: each one's branches can be read. -/
def RdTrees (w : World) (A : Option Addr) (l : List (List Br)) : Prop :=
  ∀ (k : Nat) bs, l[k]? = some bs → ∃ ad A' c', A = some ad ∧ w.cell? (ad.add k) = some (.slice A' bs.length c') ∧ RdBr w A' bs ∧ bs.length ≤ 9223372036854775807

theorem RdTrees.below {w w' : World} {A : Option Addr} {l : List (List Br)} (h : RdTrees w A l) (hb : Below w.heap.size w w') : RdTrees w' A l := by
  intro k bs hk
  obtain ⟨ad, A', c', h1, h2, h3, h4⟩ := h k bs hk
  exact ⟨ad, A', c', h1, (hb.cell (World.block_lt_of_cell? w _ h2)).trans h2, h3.below hb, h4⟩

section
variable {H : Type} {enc : TypeId × Value → H} {W : World} {base : Nat}

theorem open_trees_cell {fuel : Nat} {x : Value} {y : DataW H × List MemPlace} (h : DataW.trod enc Try.prog W 0 (fun _ => true) true fuel 38 [x] = some y) :
    ∃ A n c l, x = .slice A n c ∧ RdTrees W A l ∧ l.length = n ∧ n ≤ c ∧ c ≤ 9223372036854775807 := by
  rcases Deep.open_slice1 Try.underlying38 (by kernel_rfl) h with ⟨hx, _⟩ | ⟨a, len, cap, m, n, V, D, Pl, hx, _, hl, hm, hmm, _, hall⟩
  · obtain rfl := List.head_eq_of_cons_eq hx
    exact ⟨none, 0, 0, [], rfl, fun i x hi => by simp at hi, rfl, by omega, by omega⟩
  · obtain rfl := List.head_eq_of_cons_eq hx
    simp only [if_true] at hmm
    obtain rfl := hmm.symm
    have each : ∀ i, i < len → ∃ bs : List Br, ∃ A' c', W.cell? (a.add i) = some (.slice A' bs.length c') ∧ RdBr W A' bs ∧ bs.length ≤ 9223372036854775807 := by
      intro i hi
      obtain ⟨hc, ht⟩ := hall i (by omega)
      obtain ⟨A', n', c', bs, hV, h1, h2, h3⟩ := open_tree_cell ht
      subst h2
      rw [hV] at hc
      exact ⟨bs, A', c', hc, h1, h3⟩
    haveI : Inhabited (List Br) := ⟨[]⟩
    obtain ⟨f, hf⟩ := Deep.choose_lt each
    refine ⟨some a, len, cap, (List.range len).map f, rfl, fun i x hi => ?_, by simp, hl, maxLen_le hm⟩
    have hil : i < len := by
      have := (List.getElem?_eq_some_iff.1 hi).1
      simpa using this
    simp [hil] at hi
    subst hi
    obtain ⟨A', c', k1, k2, k3⟩ := hf i hil
    exact ⟨a, A', c', rfl, k1, k2, k3⟩

/-- Trees that are read. -/
theorem open_trees {r : Reach} {v : Value} {d : DataW H} {p : List MemPlace} (hv : Value.okWide Try.prog W r base 38 v) (h : DataW.Trod enc Try.prog W 0 (fun _ => true) true 38 v d p) :
    ∃ A n c l, v = .slice A n c ∧ RdTrees W A l ∧ l.length = n ∧ n ≤ c ∧ c ≤ 9223372036854775807 := by
  obtain ⟨a0, len, cap, rfl⟩ := okWide_slice Try.underlying38 hv
  obtain ⟨fuel, h⟩ := h
  exact open_trees_cell h
end
end Go.Proofs.Ytbmlkomfelkckaa
