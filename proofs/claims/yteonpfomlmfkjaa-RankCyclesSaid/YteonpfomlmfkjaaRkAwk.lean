/- Law 15's awake. -/
import Derived.Test.YteonpfomlmfkjaaRkCyc
namespace Go.Proofs.Yteonpfomlmfkjaa
open Go Go.RowKit
set_option maxRecDepth 100000

def awkA : List (Int × Int) := [(2, 0)]
def awkB : List (Int × Int) := [(1, 2), (2, 3), (3, 1), (2, 1)]

theorem awkA_ok : arcsOk 3 awkA := ⟨by decide, by decide, by decide, by decide⟩
theorem awkB_ok : arcsOk 4 awkB := ⟨by decide, by decide, by decide, by decide⟩
theorem awkA_order : orderOf 3 awkA = (0, [1, 2, 0]) := by
  have h : kahn (3 : Int).toNat awkA (3 : Int).toNat = [1, 2, 0] := by kernel_rfl
  unfold orderOf
  rw [if_pos awkA_ok, h]
  rfl

theorem awkB_cycle : cycleOf 4 awkB = (0, [1, 2]) := by
  have hc : cycUp 4 awkB 4 = some [1, 2] := by
    have hok : Ranged 4 awkB := awkB_ok.2.2.2
    have hcirc : Circ awkB ((1 : Nat) : Int) ([1] ++ [2]) := ⟨.step .start (by decide) (by decide), by decide⟩
    rcases cycUp_spec hok 4 (Nat.le_refl _) with ⟨_, h⟩ | ⟨s, P, hs, hP, hB, hl⟩
    · exact absurd hcirc (h 1 (by omega) _)
    · rw [hP]
      obtain ⟨h1, h2⟩ := hl 1 _ (by omega) hcirc
      have hlen : P.length ≤ 2 := h1
      have harcs : ∀ x y : Int, (x, y) ∈ awkB → (x = 1 ∧ y = 2) ∨ (x = 2 ∧ y = 3) ∨ (x = 3 ∧ y = 1) ∨ (x = 2 ∧ y = 1) := by
        intro x y h
        simpa [awkB] using h
      obtain ⟨hw, hm⟩ := hB.circ
      have hl1 : ∀ x : Int, lastOf [x] = x := fun _ => rfl
      cases hw with
      | start =>
        rw [hl1] at hm
        have := harcs _ _ hm
        omega
      | @step Q x hQ hx hsx =>
        have hq := hQ.pos
        rw [List.length_append, List.length_singleton] at hlen
        have h3 : s ≤ 1 := h2 (by rw [List.length_append, List.length_singleton]; simp; omega)
        cases hQ with
        | start =>
          rw [hl1] at hx
          have := harcs _ _ hx
          obtain rfl : s = 1 := by omega
          obtain rfl : x = 2 := by omega
          rfl
        | @step R y hR _ _ =>
          have := hR.pos
          rw [List.length_append, List.length_singleton] at hlen
          omega
  have h2 : cycUp (4 : Int).toNat awkB (4 : Int).toNat = some [1, 2] := hc
  unfold cycleOf
  rw [if_pos awkB_ok, h2]
  rfl

/-- Arcs just laid. -/
theorem rdArcs_new (w : World) (arcs : List (Int × Int)) (cs : Array Value) (h : ∀ (i : Nat) a, arcs[i]? = some a → cs[i * 2]? = some (.int .i64 a.1) ∧ cs[i * 2 + 1]? = some (.int .i64 a.2)) : RdArcs (w.alloc (.cells cs 34)) (some ⟨w.heap.size, 0, none⟩) arcs := by
  intro i a hi
  obtain ⟨h1, h2⟩ := h i a hi
  refine ⟨_, rfl, ?_, ?_⟩
  · rw [add_plain, new_cell]; exact h1
  · rw [add_plain, new_cell]; exact h2

set_option maxHeartbeats 2000000 in
theorem awake15 (w : World) : Calls Try.prog 8 #[] w fun e w' => e = .returned (.bool true) ∧ Below w.heap.size w w' := by
  have HA := Lib.hid (orderf_calls (some ⟨w.heap.size, 0, none⟩) 1 1 awkA 3 (w.alloc (.cells #[.int .i64 2, .int .i64 0] 34)) (rdArcs_new w awkA _ (fun i a hi => by
    match i, hi with
    | 0, hi => obtain rfl : (2, 0) = a := by simpa [awkA] using hi
               exact ⟨rfl, rfl⟩)) rfl (by omega) (by omega) (by omega))
  rw [awkA_order] at HA
  have HB1 := Lib.hid (below_alloc w (.cells #[.int .i64 2, .int .i64 0] 34))
  have HC := Lib.hid (fun (W : World) => cycle_calls (some ⟨W.heap.size, 0, none⟩) 4 4 awkB 4 (W.alloc (.cells #[.int .i64 1, .int .i64 2, .int .i64 2, .int .i64 3, .int .i64 3, .int .i64 1, .int .i64 2, .int .i64 1] 34)) (rdArcs_new W awkB _ (fun i a hi => by
    match i, hi with
    | 0, hi => obtain rfl : (1, 2) = a := by simpa [awkB] using hi
               exact ⟨rfl, rfl⟩
    | 1, hi => obtain rfl : (2, 3) = a := by simpa [awkB] using hi
               exact ⟨rfl, rfl⟩
    | 2, hi => obtain rfl : (3, 1) = a := by simpa [awkB] using hi
               exact ⟨rfl, rfl⟩
    | 3, hi => obtain rfl : (2, 1) = a := by simpa [awkB] using hi
               exact ⟨rfl, rfl⟩)) rfl (by omega) (by omega) (by omega))
  rw [awkB_cycle] at HC
  go_enter Try.func8, Try.ntmps8
  go_wp2_with fail
  (with_reducible refine HA.out.mono ?_)
  rintro e w2 ⟨hb2, A2, c2, rfl, ho2⟩
  obtain ⟨g2, rfl, hg2, _, hc2⟩ := own_at ho2 (by decide)
  have e0 := hc2 0 (.int .i64 1) rfl
  have e1 := hc2 1 (.int .i64 2) rfl
  have e2 := hc2 2 (.int .i64 0) rfl
  rw [add_plain] at e0 e1 e2
  have HB2 := Lib.hid (Below.then HB1.out HB1.out.size hb2)
  have hbx := below_alloc w2 (.cells #[.int .i64 1, .int .i64 2, .int .i64 2, .int .i64 3, .int .i64 3, .int .i64 1, .int .i64 2, .int .i64 1] 34)
  have HBX := Lib.hid hbx
  clear hc2 ho2 hb2 hbx
  go_wp2_with fail
  (with_reducible refine (HC.out w2).mono ?_)
  rintro e w3 ⟨hb3, A3, c3, rfl, ho3⟩
  obtain ⟨g3, rfl, hg3, _, hc3⟩ := own_at ho3 (by decide)
  have e0 := cell_below hb3 (by simp; omega) (cell_below HBX.out hg2 e0)
  have e1 := cell_below hb3 (by simp; omega) (cell_below HBX.out hg2 e1)
  have e2 := cell_below hb3 (by simp; omega) (cell_below HBX.out hg2 e2)
  have q0 := hc3 0 (.int .i64 1) rfl
  have q1 := hc3 1 (.int .i64 2) rfl
  rw [add_plain] at q0 q1
  have HB3 := Lib.hid (Below.then (Below.then HB2.out HB2.out.size HBX.out) (Nat.le_trans HB2.out.size HBX.out.size) hb3)
  clear hc3 ho3 hb3
  simp only [List.length_cons, List.length_nil]
  go_wp2_with fail
  go_ret
  exact ⟨rfl, HB3.out⟩
end Go.Proofs.Yteonpfomlmfkjaa
