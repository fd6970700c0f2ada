/- Arcs that are read, copied by append; own rows of arcs. -/
import Derived.Test.YteonpfomlmfkjaaRkRound
import Derived.Deep.Upon
import Derived.Deep.AppendLies
namespace Go.Proofs.Yteonpfomlmfkjaa
open Go Go.RowKit
set_option maxRecDepth 100000

theorem info_arc : (Try.prog.info? 34).map (fun i => (i.zero, i.size, i.bytes)) = some (some (.agg #[.int .i64 0, .int .i64 0]), 2, 16) := by kernel_rfl

theorem stopCells_length (l : List (Int × Int)) : (stopCells l).length = l.length * 2 := by
  induction l with
  | nil => rfl
  | cons a l ih =>
    have e : stopCells (a :: l) = [.int .i64 a.1, .int .i64 a.2] ++ stopCells l := rfl
    rw [e, List.length_append, ih]
    simp
    omega

theorem stopCells_one (l : List (Int × Int)) : ∀ u ∈ stopCells l, u.oneCell' = true := by
  intro u hu
  unfold stopCells at hu
  obtain ⟨a, _, ha⟩ := List.mem_flatMap.1 hu
  simp at ha
  rcases ha with rfl | rfl <;> rfl

theorem arc_cells {w : World} {A : Option Addr} {l : List (Int × Int)} (h : RdArcs w A l) (j : Nat) (u : Value) (hj : (stopCells l)[j]? = some u) : ∃ ad, A = some ad ∧ w.cell? (ad.add j) = some u := by
  have hl := (List.getElem?_eq_some_iff.1 hj).1
  rw [stopCells_length] at hl
  obtain ⟨a, ha⟩ : ∃ a, l[j / 2]? = some a := ⟨_, List.getElem?_eq_getElem (by omega)⟩
  obtain ⟨h1, h2⟩ := stop_get l _ a ha
  obtain ⟨ad, rfl, e0, e1⟩ := h _ a ha
  refine ⟨ad, rfl, ?_⟩
  rcases Nat.mod_two_eq_zero_or_one j with hm | hm
  · have e : j / 2 * 2 = j := by omega
    rw [e] at h1 e0
    rw [h1] at hj
    rw [← Option.some.inj hj]
    exact e0
  · have e : j / 2 * 2 + 1 = j := by omega
    rw [e] at h2
    rw [h2] at hj
    rw [← Option.some.inj hj]
    have e3 : ad.add j = ⟨(ad.add (j / 2 * 2)).block, (ad.add (j / 2 * 2)).off + 1, none⟩ := by
      unfold Addr.add
      rw [if_neg (by omega)]
      by_cases h0 : j / 2 * 2 = 0
      · rw [if_pos h0]
        simp
      · rw [if_neg h0]
        simp
        omega
    rw [e3]
    exact e1

theorem rdArcs_own {w : World} {base n c : Nat} {A : Option Addr} {l : List (Int × Int)} (h : w.ownsRow base 34 2 (.slice A n c) n (stopCells l)) : RdArcs w A l ∧ l.length = n := by
  have hl : l.length = n := by have := h.1; rw [stopCells_length] at this; omega
  refine ⟨fun i a hi => ?_, hl⟩
  have hin := (List.getElem?_eq_some_iff.1 hi).1
  obtain ⟨g, rfl, _, _, hc⟩ := own_at h (by omega)
  obtain ⟨h1, h2⟩ := stop_get l i a hi
  have e1 := hc _ _ h1
  have e2 := hc _ _ h2
  rw [add_plain] at e1 e2
  exact ⟨_, rfl, by rw [add_plain]; exact e1, by rw [add_plain]; exact e2⟩

theorem step_copyArcs {ops : Array Oper} {o : Oper} {a : Act} {K : Act → World → Prop} {Q : Exit → Act → World → Prop} {E : Prop} {W : World} {m c2 : Nat} {A2 : Option Addr} {l : List (Int × Int)}
    (HR : RdArcs W A2 l) (hr : l.length = m) (hl : m ≤ 1000000) {s x : Operand}
    (hop : o.guard = none ∧ o.op = .call { callee := .builtin .append, args := #[s, x], argTypes := #[22, 22] } ∧ a.eval s = .slice none 0 0 ∧ a.eval x = .slice A2 m c2)
    (h : ∀ v1 w1, w1.ownsRow W.heap.size 34 2 v1 m (stopCells l) → Upd W w1 (.slice none 0 0) v1 → K (a.put o.dst v1) w1) :
    if Region.wanted o (yielded ops a.tmps) = true then Oper.wp Try.prog o a W K Q else E := by
  obtain ⟨hgd, ho, hs, hx⟩ := hop
  obtain ⟨i0, hi, hz0, hz1, hz2⟩ := info_parts info_arc
  have HO := World.ownsRow_nil W W.heap.size 34 2
  by_cases hm : 0 < m
  · obtain ⟨ad, rfl, -⟩ := HR 0 l[0] (List.getElem?_eq_getElem (by omega))
    refine step_append_lies W hgd s x 22 ho W.heap.size 34 i0 (.agg #[.int .i64 0, .int .i64 0]) 2 16 Try.underlying22 hi hz0 hz1 hz2 rfl (by decide) (.slice none 0 0) 0 [] hs HO ad m c2 (stopCells l) hx (by rw [stopCells_length]; omega)
      (fun j u hu => ?_) (stopCells_one _) hm (by simp only [maxLen]; omega) (by omega) (Nat.le_refl _) _ rfl ?_
    · obtain ⟨ad', he, hc⟩ := arc_cells HR j u hu
      obtain rfl : ad = ad' := by simpa using he
      exact hc
    · intro g cap w1 hown hg hat _
      rw [List.nil_append] at hown
      rw [Nat.zero_add] at hown ⊢
      refine h _ w1 hown ⟨hg, ?_⟩
      rcases hat with hat | hat
      · exact .inl hat.symm
      · exact .inr ⟨g, rfl, Nat.le_of_eq hat.symm⟩
  · obtain rfl : m = 0 := by omega
    obtain rfl : l = [] := by cases l with | nil => rfl | cons => simp at hr
    have hw : Region.wanted o (yielded ops a.tmps) = true := by simp [Region.wanted, hgd]
    rw [if_pos hw]
    have hsrc : Src Try.prog i0.size 22 (.slice A2 0 c2) 0 [] W := by
      cases A2 with
      | none => exact Src.ofNil W Try.underlying22 c2
      | some ad => exact Src.ofSlice W Try.underlying22 ad 0 c2 [] (by simp) (fun j u hu => by simp at hu) (fun u hu => by cases hu)
    have hrun := run_append_nothing (P := Try.prog) W 22 22 o.type 34 i0 Try.underlying22 hi none 0 0 (Nat.le_refl _) (.slice A2 0 c2) hsrc
    unfold Oper.wp execOp
    simp only [ho, resolve, invoke, builtin, Sem.run_bind, Sem.run_pure, Result.andThen_ok, List.map_toArray, List.map_cons, List.map_nil, hs, hx, hrun]
    exact h _ W HO (Upd.refl _ _)

theorem step_appendArc {ops : Array Oper} {o : Oper} {a : Act} {K : Act → World → Prop} {Q : Exit → Act → World → Prop} {E : Prop} {W : World} {base n q : Nat} {v : Value} {l : List (Int × Int)} {y z : Int}
    (HO : W.ownsRow base 34 2 v n (stopCells l)) (h0 : W.cell? ⟨q, 0, none⟩ = some (.int .i64 y)) (h1 : W.cell? ⟨q, 1, none⟩ = some (.int .i64 z)) (hbase : base ≤ W.heap.size) (hl : n + 1 ≤ 1000000) {s x : Operand}
    (hop : o.guard = none ∧ o.op = .call { callee := .builtin .append, args := #[s, x], argTypes := #[22, 22] } ∧ a.eval s = v ∧ a.eval x = .slice (some ⟨q, 0, none⟩) 1 1)
    (h : ∀ v1 w1, w1.ownsRow base 34 2 v1 (n + 1) (stopCells (l ++ [(y, z)])) → Upd W w1 v v1 → K (a.put o.dst v1) w1) :
    if Region.wanted o (yielded ops a.tmps) = true then Oper.wp Try.prog o a W K Q else E := by
  obtain ⟨hgd, ho, hs, hx⟩ := hop
  obtain ⟨i0, hi, hz0, hz1, hz2⟩ := info_parts info_arc
  refine step_append_lies W hgd s x 22 ho base 34 i0 (.agg #[.int .i64 0, .int .i64 0]) 2 16 Try.underlying22 hi hz0 hz1 hz2 rfl (by decide) v n (stopCells l) hs HO ⟨q, 0, none⟩ 1 1 [.int .i64 y, .int .i64 z] hx rfl
    (fun j u hu => ?_) (fun u hu => ?_) (by decide) (by simp only [maxLen]; omega) (by omega) hbase _ rfl ?_
  · rw [add_plain]
    match j, hu with
    | 0, hu => rw [h0]; exact hu
    | 1, hu => rw [h1]; exact hu
  · simp at hu
    rcases hu with rfl | rfl <;> rfl
  · intro g cap w1 hown hg hat _
    have e : stopCells l ++ [Value.int .i64 y, .int .i64 z] = stopCells (l ++ [(y, z)]) := (stopCells_snoc l (y, z)).symm
    rw [e] at hown
    refine h _ w1 hown ⟨hg, ?_⟩
    rcases hat with hat | hat
    · exact .inl hat.symm
    · exact .inr ⟨g, rfl, Nat.le_of_eq hat.symm⟩

/-- Two may come up. -/
theorem wpAnyL_two {P : Program} {ops : Array Oper} {Q : Exit → Act → World → Prop} {md : Region.Mode} {S : World → Prop} {st i j : Nat} {oi oj : Oper} {fuel : Nat} {listed : Array Bool} {a : Act} {w : World} (hr : Region.ready md ops listed = [i, j]) (hi : ops[i]? = some oi) (hj : ops[j]? = some oj)
    (h : ∀ (K : Act → World → Prop), (∀ a' w', ((i ≠ st → S w') ∧ wpAnyL P md ops Q S st fuel (listed.setIfInBounds i true) a' w') → K a' w') → if Region.wanted oi (yielded ops a.tmps) = true then Oper.wp P oi a w K Q else K (a.put oi.dst undef) w)
    (k : ∀ (K : Act → World → Prop), (∀ a' w', ((j ≠ st → S w') ∧ wpAnyL P md ops Q S st fuel (listed.setIfInBounds j true) a' w') → K a' w') → if Region.wanted oj (yielded ops a.tmps) = true then Oper.wp P oj a w K Q else K (a.put oj.dst undef) w) :
    wpAnyL P md ops Q S st (fuel + 1) listed a w := by
  refine ⟨fun h0 => (by rw [hr] at h0; cases h0), fun x hx => ?_⟩
  rw [hr] at hx
  have hx' : x = i ∨ x = j := by simpa using hx
  rcases hx' with rfl | rfl
  · have h1 := h _ (fun a' w' h => h)
    unfold wpOp
    simp only [hi]
    split
    · rename_i hw
      rw [if_pos hw] at h1
      exact .inl h1
    · rename_i hw
      rw [if_neg hw] at h1
      exact h1
  · have h1 := k _ (fun a' w' h => h)
    unfold wpOp
    simp only [hj]
    split
    · rename_i hw
      rw [if_pos hw] at h1
      exact .inl h1
    · rename_i hw
      rw [if_neg hw] at h1
      exact h1
end Go.Proofs.Yteonpfomlmfkjaa
