/- siglumref21.best and differs: what a branch costs below a fork of a state. -/
import Derived.Test.YtbmlkomfelkckaaSankP
import Derived.Deep.OwnRows
namespace Go.Proofs.Ytbmlkomfelkckaa
open Go Go.RowKit
set_option maxRecDepth 100000

/-- A row of costs. -/
def CostRow (w : World) (g : Nat) (row : List Nat) : Prop := w.rowIs g 3 12 (fun q => .int .i64 ((row.getD q 0 : Nat) : Int))

theorem CostRow.below {w w' : World} {g : Nat} {row : List Nat} (h : CostRow w g row) (hb : Below w.heap.size w w') : CostRow w' g row :=
  World.rowIs.of_block h (hb.block _ (World.rowIs.lt h))

set_option maxHeartbeats 1000000 in
theorem best_calls (g : Nat) (row : List Nat) (s : Nat) (W : World) (hs : s < 12) (hr : CostRow W g row) (hf : ∀ q, q < 12 → row.getD q 0 ≤ 1000000000) :
    Calls Try.prog 127 #[.slice (some ⟨g, 0, none⟩) 12 12, .int .i64 (s : Int)] W fun e w' => e = .returned (.int .i64 ((bstUp row s 12 : Nat) : Int)) ∧ w' = W := by
  have HR : Hid (W.rowIs g 3 12 (fun q => .int .i64 ((row.getD q 0 : Nat) : Int))) := hr
  have HF := Lib.hid hf
  have r0 := HR.out.cell (i := s) hs
  have b0 := hf s hs
  have HB : Hid (∀ k, bstUp row s k ≤ row.getD s 0) := bstUp_self row s
  obtain ⟨x, hx⟩ : ∃ x, row.getD s 0 = x := ⟨_, rfl⟩
  rw [hx] at r0 b0 HB
  have HX : Hid (bstUp row s 0 = x) := hx
  clear hr hf hx
  go_enter Try.func127, Try.ntmps127
  go_wp2_with fail
  go_loopg [5, 6] 12 (fun gk v5 v6 wr => ∃ k : Nat, v5 = .int .i64 ((bstUp row s k : Nat) : Int) ∧ v6 = .int .i64 k ∧ k ≤ 12 ∧ Hid (gk + k = 12) ∧ wr = W)
  case atStart => exact ⟨0, by rw [HX.out], rfl, Nat.zero_le _, rfl, rfl⟩
  case round =>
    obtain ⟨k, rfl, rfl, hk, HG, rfl⟩ := hrel
    have b1 := HB.out k
    obtain ⟨y, hy⟩ : ∃ y, bstUp row s k = y := ⟨_, rfl⟩
    rw [hy] at b1 ⊢
    have HY := Lib.hid hy
    clear hy
    by_cases hk12 : k < 12
    · have r1 := HR.out.cell (i := k) hk12
      have b2 := HF.out k hk12
      obtain ⟨z, hz⟩ : ∃ z, row.getD k 0 = z := ⟨_, rfl⟩
      rw [hz] at r1 b2
      have HZ := Lib.hid hz
      clear hz
      by_cases hks : k = s
      · have HE : Hid (bstUp row s (k + 1) = y) := by show bstUp row s (k + 1) = y; rw [bstUp, if_pos hks]; exact HY.out
        have f0 : ((k : Int) != (s : Int)) = false := by rw [bne_eq_false_iff_eq]; omega
        clear hks
        go_wp2_with fail
        go_roundg (gk - 1)
        case measure => have := HG.out; omega
        case rel => exact ⟨k + 1, by rw [HE.out], by go_num, by omega, by have := HG.out; show gk - 1 + (k + 1) = 12; omega, rfl⟩
      · have HE : Hid (bstUp row s (k + 1) = min y (z + 1)) := by show bstUp row s (k + 1) = min y (z + 1); rw [bstUp, if_neg hks, HY.out, HZ.out]
        have f0 : ((k : Int) != (s : Int)) = true := by rw [bne_iff_ne]; omega
        clear hks
        go_wp2_with fail
        all_goals
          go_roundg (gk - 1)
          case measure => have := HG.out; omega
          case rel => exact ⟨k + 1, by rw [HE.out]; congr 1; omega, by go_num, by omega, by have := HG.out; show gk - 1 + (k + 1) = 12; omega, rfl⟩
    · obtain rfl : k = 12 := by omega
      go_wp2_with fail
      go_ret
      exact ⟨by rw [HY.out]; rfl, rfl⟩

/-- One more for another state than the fork's above; none at the root. -/
def dfr (s : Nat) (up : Int) : Nat := if up < 0 ∨ (s : Int) = up then 0 else 1

end Go.Proofs.Ytbmlkomfelkckaa
