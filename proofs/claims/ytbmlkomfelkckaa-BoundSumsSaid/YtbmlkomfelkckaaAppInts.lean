/- Whole numbers that are read, appended to a row of the call's own: none of them too. -/
import Derived.Test.YtbmlkomfelkckaaConcat
import Derived.Test.YtbmlkomfelkckaaMat
import Derived.Deep.Upon
import Derived.Deep.AppendLies
namespace Go.Proofs.Ytbmlkomfelkckaa
open Go Go.RowKit
set_option maxRecDepth 100000

theorem step_appendInts {ops : Array Oper} {o : Oper} {a : Act} {K : Act → World → Prop} {Q : Exit → Act → World → Prop} {E : Prop} {W : World} {base n m c2 : Nat} {v : Value} {A2 : Option Addr} {l r : List Int}
    (HO : W.ownsRow base 3 1 v n (intCells l)) (HR : RdInt W A2 r) (hr : r.length = m) (hbase : base ≤ W.heap.size) (hl : n + m ≤ 1000000000)
    {s x : Operand} (hop : o.guard = none ∧ o.op = .call { callee := .builtin .append, args := #[s, x], argTypes := #[43, 43] } ∧ a.eval s = v ∧ a.eval x = .slice A2 m c2)
    (h : ∀ v1 w1, w1.ownsRow base 3 1 v1 (n + m) (intCells (l ++ r)) → Upd W w1 v v1 → K (a.put o.dst v1) w1) :
    if Region.wanted o (yielded ops a.tmps) = true then Oper.wp Try.prog o a W K Q else E := by
  obtain ⟨hgd, ho, hs, hx⟩ := hop
  obtain ⟨i0, hi, hz0, hz1, hz2⟩ := info_parts info_intB
  by_cases hm : 0 < m
  · obtain ⟨x0, hx0⟩ : ∃ x0, r[0]? = some x0 := ⟨_, List.getElem?_eq_getElem (by omega)⟩
    obtain ⟨ad, rfl, -⟩ := HR 0 x0 hx0
    refine step_append_lies W hgd s x 43 ho base 3 i0 (.int .i64 0) 1 8 Try.underlying43 hi hz0 hz1 hz2 rfl (by decide) v n (intCells l) hs HO ad m c2 (intCells r) hx (by rw [intCells_length]; omega)
      (fun j u hu => ?_) (intCells_one _) hm (by simp only [maxLen]; omega) (by omega) hbase _ rfl ?_
    · rw [intCells, List.getElem?_map] at hu
      obtain ⟨y, hy, rfl⟩ := Option.map_eq_some_iff.1 hu
      obtain ⟨ad', he, hc⟩ := HR j y hy
      obtain rfl : ad = ad' := by simpa using he
      exact hc
    · intro g cap w1 hown hg hat _
      rw [← intCells_append] at hown
      refine h _ w1 hown ⟨hg, ?_⟩
      rcases hat with hat | hat
      · exact .inl hat.symm
      · exact .inr ⟨g, rfl, Nat.le_of_eq hat.symm⟩
  · obtain rfl : m = 0 := by omega
    obtain rfl : r = [] := by cases r with | nil => rfl | cons => simp at hr
    have hw : Region.wanted o (yielded ops a.tmps) = true := by simp [Region.wanted, hgd]
    rw [if_pos hw]
    obtain ⟨A', c', rfl, hc'⟩ := own_slice HO
    have hsrc : Src Try.prog i0.size 43 (.slice A2 0 c2) 0 [] W := by
      cases A2 with
      | none => exact Src.ofNil W Try.underlying43 c2
      | some ad => exact Src.ofSlice W Try.underlying43 ad 0 c2 [] (by simp) (fun j u hu => by simp at hu) (fun u hu => by cases hu)
    have hrun := run_append_nothing (P := Try.prog) W 43 43 o.type 3 i0 Try.underlying43 hi A' n c' hc' (.slice A2 0 c2) hsrc
    unfold Oper.wp execOp
    simp only [ho, resolve, invoke, builtin, Sem.run_bind, Sem.run_pure, Result.andThen_ok, List.map_toArray, List.map_cons, List.map_nil, hs, hx, hrun]
    refine h _ W ?_ (Upd.refl _ _)
    simpa using HO
end Go.Proofs.Ytbmlkomfelkckaa
