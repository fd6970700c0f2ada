/- slices.Clone, slices.Sort and slices.Reverse at rows of no, one and more numbers. -/
import Derived.Test.YteonpfomlmfkjaaRkMem
import Derived.BigRegion
namespace Go.Proofs.Yteonpfomlmfkjaa
open Go Go.RowKit
set_option maxRecDepth 100000

theorem clone_nil (w : World) : Calls Try.prog 23 #[.slice none 0 0] w fun e w' => e = .returned (.slice none 0 0) ∧ w' = w := by
  have hsl := fun (W : World) (k q : Nat) => Lib.run_eql_slice_nil (P := Try.prog) W 25 3 none k q 0 0 Try.underlying25
  simp only [Option.isNone_none] at hsl
  go_enter Try.func23, Try.ntmps23
  go_wp2_with fail
  go_ret
  exact ⟨rfl, rfl⟩

theorem sort_nil (w : World) : Calls Try.prog 24 #[.slice none 0 0] w fun e w' => e = .returned (.tuple #[]) ∧ ∃ k, w' = w.drewN k := by
  go_enter Try.func24, Try.ntmps24
  go_wp2
  go_loopg [1, 2] 0 (fun _ v1 v2 wr => v1 = .int .i64 0 ∧ v2 = .int .i64 0 ∧ wr = w)
  case atStart => exact ⟨rfl, rfl, rfl⟩
  case round =>
    obtain ⟨rfl, rfl, hw⟩ := hrel
    go_wp2
    go_loopg [6] 0 (fun _ v6 wr => v6 = .int .i64 1 ∧ wr = w)
    case atStart => exact ⟨rfl, rfl⟩
    case round =>
      obtain ⟨rfl, rfl⟩ := hrel
      go_wp2
      first | go_end0 | refine bodyPost_ret (results_none rfl _ _ _) rfl ?_
      go_wp2
      first | go_end0 | refine bodyPost_ret (results_none rfl _ _ _) rfl ?_
      go_wp2
      first | go_end0 | refine bodyPost_ret (results_none rfl _ _ _) rfl ?_
      exact ⟨rfl, 0, rfl⟩

theorem clone_any (A : Option Addr) (n c b : Nat) (l : List Int) (w : World) (o : w.ownsRow b 3 1 (.slice A n c) n (intCells l)) (h : n = 0 → A = none ∧ c = 0) (k : n ≤ 1000000000) :
    Calls Try.prog 23 #[.slice A n c] w fun e w' => ∃ A' c', e = .returned (.slice A' n c') ∧ w'.ownsRow w.heap.size 3 1 (.slice A' n c') n (intCells l) ∧ Below w.heap.size w w' ∧ (n = 0 → A' = none ∧ c' = 0) := by
  by_cases h0 : n = 0
  · subst h0
    obtain ⟨rfl, rfl⟩ := h rfl
    refine (clone_nil w).mono ?_
    rintro e w' ⟨rfl, rfl⟩
    have hl : l = [] := by have := o.1; rw [intCells_length] at this; exact List.length_eq_zero_iff.1 (by omega)
    subst hl
    exact ⟨none, 0, rfl, World.ownsRow_nil _ _ _ _, Below.refl _ _, fun _ => ⟨rfl, rfl⟩⟩
  · refine (clone_calls A n c b l w o (by omega) k).mono ?_
    rintro e w' ⟨A', c', rfl, h1, h2⟩
    exact ⟨A', c', rfl, h1, h2, fun h => absurd h h0⟩

theorem sort_any (A : Option Addr) (n c base : Nat) (l : List Int) (w : World) (o : w.ownsRow base 3 1 (.slice A n c) n (intCells l)) (h : n = 0 → A = none ∧ c = 0) (k : n ≤ 1000000000) :
    Calls Try.prog 24 #[.slice A n c] w fun e w' => e = .returned (.tuple #[]) ∧ w'.ownsRow base 3 1 (.slice A n c) n (intCells (sortI l)) ∧ w.grownBy w' (Value.slice A n c).ownBlock := by
  by_cases h0 : n = 0
  · subst h0
    obtain ⟨rfl, rfl⟩ := h rfl
    refine (sort_nil w).mono ?_
    rintro e w' ⟨rfl, q, rfl⟩
    have hl : l = [] := by have := o.1; rw [intCells_length] at this; exact List.length_eq_zero_iff.1 (by omega)
    subst hl
    have hs : sortI [] = [] := List.length_eq_zero_iff.1 (by rw [sortI_length]; rfl)
    rw [hs]
    exact ⟨rfl, World.ownsRow_nil _ _ _ _, below_grown (below_drewN _ _) _⟩
  · refine (sort_calls A n c base l w o (by omega) k).mono ?_
    rintro e w' ⟨rfl, h1, h2⟩
    exact ⟨rfl, h1, h2.1⟩

/-- The numbers of a row, the last i and the first i exchanged. -/
def turnTo (xs ys : List Int) (i : Nat) : Prop := ys.length = xs.length ∧ ∀ t, t < xs.length → ys.getD t 0 = if t < i ∨ xs.length ≤ t + i then xs.getD (xs.length - 1 - t) 0 else xs.getD t 0

theorem turnTo_zero (xs : List Int) : turnTo xs xs 0 := ⟨rfl, fun t ht => by rw [if_neg (by omega)]⟩

theorem turnTo_done {xs ys : List Int} {i : Nat} (h : turnTo xs ys i) (hi : xs.length ≤ 2 * i + 1) : ys = xs.reverse := by
  apply List.ext_getElem?
  intro t
  by_cases ht : t < xs.length
  · have := h.2 t ht
    rw [List.getElem?_reverse ht, List.getElem?_eq_getElem (show t < ys.length by rw [h.1]; exact ht), List.getElem?_eq_getElem (show xs.length - 1 - t < xs.length by omega)]
    rw [List.getD_eq_getElem?_getD, List.getElem?_eq_getElem (show t < ys.length by rw [h.1]; exact ht), Option.getD_some] at this
    rw [this]
    congr 1
    split
    · rw [List.getD_eq_getElem?_getD, List.getElem?_eq_getElem (by omega), Option.getD_some]
    · have e : xs.length - 1 - t = t := by omega
      rw [List.getD_eq_getElem?_getD, List.getElem?_eq_getElem ht, Option.getD_some]
      simp only [e]
  · rw [List.getElem?_eq_none (by rw [h.1]; omega), List.getElem?_eq_none (by simp; omega)]

theorem turnTo_step {xs ys : List Int} {i : Nat} (h : turnTo xs ys i) (hi : 2 * i + 1 < xs.length) : turnTo xs ((ys.set i (ys.getD (xs.length - 1 - i) 0)).set (xs.length - 1 - i) (ys.getD i 0)) (i + 1) := by
  refine ⟨by simp [h.1], fun t ht => ?_⟩
  have hi1 := h.2 i (by omega)
  have hj1 := h.2 (xs.length - 1 - i) (by omega)
  rw [if_neg (by omega)] at hi1 hj1
  have hl := h.1
  by_cases e1 : t = xs.length - 1 - i
  · subst e1
    rw [List.getD_eq_getElem?_getD, List.getElem?_set_self (by simp; omega), Option.getD_some, hi1, if_pos (.inr (by omega))]
    congr 1
    omega
  · rw [List.getD_eq_getElem?_getD, List.getElem?_set_ne (by omega)]
    by_cases e2 : t = i
    · subst e2
      rw [List.getElem?_set_self (by omega), Option.getD_some, hj1, if_pos (.inl (by omega))]
    · rw [List.getElem?_set_ne (by omega), ← List.getD_eq_getElem?_getD, h.2 t ht]
      by_cases e3 : t < i ∨ xs.length ≤ t + i
      · rw [if_pos e3, if_pos (by omega)]
      · rw [if_neg e3, if_neg (by omega)]

theorem intCells_set (l : List Int) (i : Nat) (x : Int) : (intCells l).set i (.int .i64 x) = intCells (l.set i x) := by
  simp [intCells, List.map_set]

set_option maxHeartbeats 4000000 in
theorem reverse_calls (A : Option Addr) (n c base : Nat) (xs : List Int) (w : World) (ho : w.ownsRow base 3 1 (.slice A n c) n (intCells xs)) (h0 : 0 < n) (hn : n ≤ 1000000) :
    Calls Try.prog 25 #[.slice A n c] w fun e w' => e = .returned (.tuple #[]) ∧ w'.ownsRow base 3 1 (.slice A n c) n (intCells xs.reverse) ∧ w.grownBy w' (Value.slice A n c).ownBlock := by
  obtain ⟨g, rfl, hg, hb, -⟩ := own_at ho h0
  have HO := Lib.hid ho
  have HN : Hid (xs.length = n) := by have := ho.1; rw [intCells_length] at this; show xs.length = n; omega
  clear ho
  go_enter Try.func25, Try.ntmps25
  go_wp2_with fail
  go_loopg [2, 3] n (fun gk v2 v3 wr => ∃ (i : Nat) (ys : List Int), v2 = .int .i64 i ∧ v3 = .int .i64 ((n : Int) - 1 - i) ∧ i ≤ n ∧ n - i ≤ gk ∧ Hid (wr.ownsRow base 3 1 (.slice (some ⟨g, 0, none⟩) n c) n (intCells ys)) ∧ Hid (w.grownBy wr (some g)) ∧ Hid (turnTo xs ys i))
  case atStart => exact ⟨0, xs, rfl, by simp, Nat.zero_le _, by omega, HO.out, below_grown (Below.refl _ _) _, turnTo_zero xs⟩
  case round =>
    clear HO
    obtain ⟨i, ys, rfl, rfl, hi, hgk, HO, HG, HT⟩ := hrel
    by_cases hij : 2 * i + 1 < n
    · obtain ⟨j, hj⟩ : ∃ j : Nat, n - 1 - i = j := ⟨_, rfl⟩
      have hjI : (n : Int) - 1 - (i : Int) = (j : Int) := by omega
      rw [hjI]
      have i1 : (i : Int) < (j : Int) := by omega
      have i2 : (i : Int) < (n : Int) := by omega
      have i3 : (j : Int) < (n : Int) := by omega
      have hin : i < n := by omega
      have hjn : j < n := by omega
      have hne : ¬ i = j := by omega
      obtain ⟨x, hx⟩ : ∃ x, ys.getD i 0 = x := ⟨_, rfl⟩
      obtain ⟨y, hy⟩ : ∃ y, ys.getD j 0 = y := ⟨_, rfl⟩
      have hyl : ys.length = n := by rw [HT.out.1]; exact HN.out
      have e1 : wr.cell? ⟨g, i, none⟩ = some (.int .i64 x) := by
        rw [HO.out.cellAt i (by omega), ← hx, List.getD_eq_getElem?_getD]
        simp [intCells, show i < ys.length by omega]
      have e2 : wr.cell? ⟨g, j, none⟩ = some (.int .i64 y) := by
        rw [HO.out.cellAt j (by omega), ← hy, List.getD_eq_getElem?_getD]
        simp [intCells, show j < ys.length by omega]
      have f1 := HO.out.frozenAt i
      have f2 := HO.out.frozenAt j
      obtain ⟨h1, h2⟩ := HO.out.stored i (.int .i64 y)
      obtain ⟨h3, h4⟩ := h1.stored j (.int .i64 x)
      rw [intCells_set, intCells_set] at h3
      have HO2 := Lib.hid h3
      have HG2 := Lib.hid ((HG.out.trans h2).trans h4)
      have HT2 : Hid (turnTo xs ((ys.set i y).set j x) (i + 1)) := by
        have := turnTo_step HT.out (by have := HN.out; omega)
        rw [HN.out, hj, hx, hy] at this
        exact this
      clear hx hy hyl h1 h2 h3 h4 HO HG HT hjI
      go_wp2_with fail
      go_region
      all_goals
        go_wp2_with fail
        go_roundg (gk - 1)
        case measure => omega
        case rel => exact ⟨i + 1, _, by go_num, by congr 1; omega, by omega, by omega, HO2.out.drew, ⟨HG2.out.os, HG2.out.tape, HG2.out.output, HG2.out.size, HG2.out.block⟩, HT2.out⟩
    · have i1 : ¬ (i : Int) < (n : Int) - 1 - (i : Int) := by omega
      have hr := turnTo_done HT.out (by have := HN.out; omega)
      go_wp2_with fail
      first | go_end0 | refine bodyPost_ret (results_none rfl _ _ _) rfl ?_
      exact ⟨rfl, by rw [← hr]; exact HO.out, HG.out⟩
end Go.Proofs.Yteonpfomlmfkjaa
