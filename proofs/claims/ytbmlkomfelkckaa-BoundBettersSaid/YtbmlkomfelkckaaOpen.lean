/- The law's arguments opened: a tree's branches, a matrix' rows, out of what the world reads as. -/
import Derived.Test.YtbmlkomfelkckaaMat
import Derived.ProofKit
import Derived.Deep.Strs
import Derived.Deep.Matrix
namespace Go.Proofs.Ytbmlkomfelkckaa
open Go Go.ChangeShapes Go.WideShapes Go.RowKit
set_option maxRecDepth 100000

theorem maxLen_le {n : Nat} (h : n ≤ maxLen) : n ≤ 9223372036854775807 := by
  unfold maxLen at h
  exact h

section
variable {H : Type} {enc : TypeId × Value → H} {W : World} {base : Nat}

/-- A tree's one cell that is read: its branches, one behind the other. -/
theorem open_tree_cell {fuel : Nat} {x : Value} {y : DataW H × List MemPlace} (h : DataW.trod enc Try.prog W 0 (fun _ => true) true fuel 26 [x] = some y) :
    ∃ A n c bs, x = .slice A n c ∧ RdBr W A bs ∧ bs.length = n ∧ n ≤ 9223372036854775807 := by
  obtain ⟨y0, n, _, _, h1⟩ := trod_struct1 Try.underlying26 h
  have h2 : DataW.trod enc Try.prog W 0 (fun _ => true) true n 24 [x] = some y0 := h1
  rcases Deep.open_slice Try.underlying24 h2 with ⟨hx, _⟩ | ⟨a, len, cap, m, n', D, Pl, hx, _, hl, hm, hmm, _, hall⟩
  · obtain rfl := List.head_eq_of_cons_eq hx
    exact ⟨none, 0, 0, [], rfl, fun i x hi => by simp at hi, rfl, by omega⟩
  · obtain rfl := List.head_eq_of_cons_eq hx
    simp only [if_true] at hmm
    obtain rfl := hmm.symm
    have hc3 : Try.prog.cellsOf 64 = 3 := by kernel_rfl
    have each : ∀ i, i < len → ∃ b : Br, W.cell? (a.add (i * 3)) = some (.int .i64 b.leaf) ∧ W.cell? ⟨(a.add (i * 3)).block, (a.add (i * 3)).off + 1, none⟩ = some (.int .i64 b.a) ∧ W.cell? ⟨(a.add (i * 3)).block, (a.add (i * 3)).off + 2, none⟩ = some (.int .i64 b.b) := by
      intro i hi
      obtain ⟨cs', hc, ht⟩ := hall i (by omega)
      rw [hc3] at hc
      obtain ⟨_, hlen, hcell⟩ := World.cells?_some hc
      obtain ⟨y0, y1, y2, k, _, _, t0, t1, t2⟩ := Deep.trod_struct3 Try.underlying64 ht
      obtain ⟨z0, e0, _, _⟩ := DataW.trod_int Try.underlying3 t0
      obtain ⟨z1, e1, _, _⟩ := DataW.trod_int Try.underlying3 t1
      obtain ⟨z2, e2, _, _⟩ := DataW.trod_int Try.underlying3 t2
      obtain ⟨c0, c1, c2, rfl⟩ : ∃ c0 c1 c2, cs' = [c0, c1, c2] := by
        match cs', hlen with
        | [a, b, c], _ => exact ⟨a, b, c, rfl⟩
      have hci : Try.prog.cellsOf 3 = 1 := by kernel_rfl
      rw [hci] at e0 e1 e2
      simp at e0 e1 e2
      subst e0 e1 e2
      have g0 := hcell 0 (by omega)
      have g1 := hcell 1 (by omega)
      have g2 := hcell 2 (by omega)
      exact ⟨⟨z0, z1, z2⟩, by simpa [Addr.add] using g0, by simpa [Addr.add] using g1, by simpa [Addr.add] using g2⟩
    haveI : Inhabited Br := ⟨⟨0, 0, 0⟩⟩
    obtain ⟨f, hf⟩ := Deep.choose_lt each
    refine ⟨some a, len, cap, (List.range len).map f, rfl, fun i x hi => ?_, by simp, by have := maxLen_le hm; omega⟩
    have hil : i < len := by
      have := (List.getElem?_eq_some_iff.1 hi).1
      simpa using this
    simp [hil] at hi
    subst hi
    exact ⟨a, rfl, hf i hil⟩

/-- A tree that is read. -/
theorem open_tree {r : Reach} {v : Value} {d : DataW H} {p : List MemPlace} (hv : Value.okWide Try.prog W r base 26 v) (h : DataW.Trod enc Try.prog W 0 (fun _ => true) true 26 v d p) :
    ∃ A n c bs, v = .agg #[.slice A n c] ∧ RdBr W A bs ∧ bs.length = n ∧ n ≤ 9223372036854775807 := by
  obtain ⟨cs, rfl, hcs⟩ := okWide_struct Try.underlying26 hv
  have hc1 : Try.prog.cellsOf 26 = 1 := by kernel_rfl
  rw [hc1] at hcs
  obtain ⟨x, rfl⟩ : ∃ x, cs = #[x] := by
    obtain ⟨l⟩ := cs
    match l, hcs with
    | [x], _ => exact ⟨x, rfl⟩
  obtain ⟨fuel, h⟩ := h
  obtain ⟨A, n, c, bs, rfl, h1, h2, h3⟩ := open_tree_cell h
  exact ⟨A, n, c, bs, rfl, h1, h2, h3⟩

/-- A matrix' one cell that is read: its rows. -/
theorem open_matrix_cell {fuel : Nat} {x : Value} {y : DataW H × List MemPlace} (h : DataW.trod enc Try.prog W 0 (fun _ => true) true fuel 36 [x] = some y) :
    ∃ A n c rows, x = .slice A n c ∧ RdRows W A rows ∧ rows.length = n ∧ n ≤ 9223372036854775807 := by
  obtain ⟨y0, n, _, _, h1⟩ := trod_struct1 Try.underlying36 h
  have h2 : DataW.trod enc Try.prog W 0 (fun _ => true) true n 34 [x] = some y0 := h1
  rcases Deep.open_int_rows Try.underlying34 Try.underlying43 Try.underlying3 (by kernel_rfl) (by kernel_rfl) h2 with ⟨hx, _⟩ | ⟨a, len, cap, A, L, C, Z, hx, _, hl, hm, _, hall⟩
  · obtain rfl := List.head_eq_of_cons_eq hx
    exact ⟨none, 0, 0, [], rfl, fun i x hi => by simp at hi, rfl, by omega⟩
  · obtain rfl := List.head_eq_of_cons_eq hx
    refine ⟨some a, len, cap, (List.range len).map fun i => (Z i).take (L i), rfl, fun i r hi => ?_, by simp, by have := maxLen_le hm; omega⟩
    have hil : i < len := by
      have := (List.getElem?_eq_some_iff.1 hi).1
      simpa using this
    simp [hil] at hi
    subst hi
    obtain ⟨k0, k1, k2, k3, k4, k5, k6⟩ := hall i (by omega)
    have hlen : ((Z i).take (L i)).length = L i := by rw [List.length_take]; omega
    refine ⟨a, A i, C i, rfl, by rw [hlen]; exact k0, fun j x hj => ?_, by rw [hlen]; exact k1, maxLen_le k2⟩
    obtain ⟨hjl, hjx⟩ := List.getElem?_eq_some_iff.1 hj
    rw [hlen] at hjl
    cases hA : A i with
    | none => have := k5 hA; omega
    | some a' =>
      refine ⟨a', rfl, ?_⟩
      rw [(k6 a' hA).2 j (by omega), List.getD_eq_getElem?_getD, List.getElem?_eq_getElem (by omega)]
      rw [List.getElem_take] at hjx
      rw [hjx]; rfl

/-- A matrix that is read. -/
theorem open_matrix {r : Reach} {v : Value} {d : DataW H} {p : List MemPlace} (hv : Value.okWide Try.prog W r base 36 v) (h : DataW.Trod enc Try.prog W 0 (fun _ => true) true 36 v d p) :
    ∃ A n c rows, v = .agg #[.slice A n c] ∧ RdRows W A rows ∧ rows.length = n ∧ n ≤ 9223372036854775807 := by
  obtain ⟨cs, rfl, hcs⟩ := okWide_struct Try.underlying36 hv
  have hc1 : Try.prog.cellsOf 36 = 1 := by kernel_rfl
  rw [hc1] at hcs
  obtain ⟨x, rfl⟩ : ∃ x, cs = #[x] := by
    obtain ⟨l⟩ := cs
    match l, hcs with
    | [x], _ => exact ⟨x, rfl⟩
  obtain ⟨fuel, h⟩ := h
  obtain ⟨A, n, c, rows, rfl, h1, h2, h3⟩ := open_matrix_cell h
  exact ⟨A, n, c, rows, rfl, h1, h2, h3⟩

/-- Whole numbers' one cell that is read. -/
theorem open_ints_cell {fuel : Nat} {x : Value} {y : DataW H × List MemPlace} (h : DataW.trod enc Try.prog W 0 (fun _ => true) true fuel 43 [x] = some y) :
    ∃ A n c l, x = .slice A n c ∧ RdInt W A l ∧ l.length = n ∧ n ≤ 9223372036854775807 := by
  rcases open_ints Try.underlying43 Try.underlying3 (by kernel_rfl) h with ⟨hx, _⟩ | ⟨a, len, cap, zs, hx, _, hl, hm, hz, _, hc, _⟩
  · obtain rfl := List.head_eq_of_cons_eq hx
    exact ⟨none, 0, 0, [], rfl, fun i x hi => by simp at hi, rfl, by omega⟩
  · obtain rfl := List.head_eq_of_cons_eq hx
    simp only [if_true] at hz
    refine ⟨some a, len, cap, zs.take len, rfl, fun i x hi => ⟨a, rfl, ?_⟩, by rw [List.length_take]; omega, by have := maxLen_le hm; omega⟩
    have hi2 := (List.getElem?_eq_some_iff.1 hi).1
    rw [List.length_take] at hi2
    rw [hc i (by omega)]
    rw [List.getElem?_take, if_pos (by omega)] at hi
    rw [List.getD_eq_getElem?_getD, hi]
    rfl
end
end Go.Proofs.Ytbmlkomfelkckaa
