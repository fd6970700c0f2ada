/- A graph with two places of its order, read. -/
import Derived.Test.YteonpfomlmfkjaaOpenArcs
import Derived.Lib.SmallJoins
namespace Go.Proofs.Yteonpfomlmfkjaa
open Go Go.ChangeShapes Go.WideShapes Go.RowKit
set_option maxRecDepth 100000

theorem open_more {H : Type} {enc : TypeId × Value → H} {W : World} {base : Nat} {r : Reach} {v : Value} {d : DataW H} {p : List MemPlace} (hv : Value.okWide Try.prog W r base 33 v) (h : DataW.Trod enc Try.prog W 0 (fun _ => true) true 33 v d p) :
    ∃ z A n c l i j, v = .agg #[.int .i64 z, .slice A n c, .int .i64 i, .int .i64 j] ∧ RdArcs W A l ∧ l.length = n ∧ n ≤ c ∧ c ≤ 9223372036854775807 ∧ (Lit.int .i64 z).wf = true := by
  obtain ⟨cs, rfl, hcs⟩ := okWide_struct Try.underlying33 hv
  have hc4 : Try.prog.cellsOf 33 = 4 := by kernel_rfl
  rw [hc4] at hcs
  obtain ⟨x0, x1, x2, x3, rfl⟩ : ∃ a b c d, cs = #[a, b, c, d] := by
    obtain ⟨l⟩ := cs
    match l, hcs with
    | [a, b, c, d], _ => exact ⟨a, b, c, d, rfl⟩
  obtain ⟨fuel, h⟩ := h
  obtain ⟨y0, y1, y2, y3, k, _, _, t0, t1, t2, t3⟩ := Go.Joins.trod_struct4 Try.underlying33 h
  have hci : Try.prog.cellsOf 3 = 1 := by kernel_rfl
  have hcs' : Try.prog.cellsOf 22 = 1 := by kernel_rfl
  obtain ⟨z0, e0, _, w0⟩ := DataW.trod_int Try.underlying3 t0
  obtain ⟨z2, e2, _, _⟩ := DataW.trod_int Try.underlying3 t2
  obtain ⟨z3, e3, _, _⟩ := DataW.trod_int Try.underlying3 t3
  simp only [hci, hcs'] at e0 e2 e3 t1
  simp [Value.cells] at e0 e2 e3
  subst e0 e2 e3
  obtain ⟨A, n, c, l, hx, h1, h2, h3, h4⟩ := open_arcs_cell (x := x1) t1
  subst hx
  exact ⟨z0, A, n, c, l, z2, z3, rfl, h1, h2, h3, h4, w0⟩
end Go.Proofs.Yteonpfomlmfkjaa
