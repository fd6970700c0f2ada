/- A box: a block of one cell. -/
import Derived.Test.YtbmlkomfelkckaaMem
import Derived.Deep.QuietTactic
import Derived.BigQuiet
namespace Go.Proofs.Ytbmlkomfelkckaa
open Go Go.RowKit
set_option maxRecDepth 100000

set_option maxHeartbeats 1000000 in
theorem same_calls (A B : Option Addr) (n c d : Nat) (xs : List Br) (w : World) (hx : RdBr w A xs) (hy : RdBr w B xs) (hn : xs.length = n) (hcn : n ≤ 9223372036854775807) :
    Calls Try.prog 24 #[.agg #[.slice A n c], .agg #[.slice B n d]] w fun e w' => e = .returned (.bool true) ∧ Below w.heap.size w w' := by
  have HX := Lib.hid hx
  have HY := Lib.hid hy
  have HN := Lib.hid hn
  have f0 : ((n : Int) != (n : Int)) = false := by simp
  have b1 := below_alloc w (.cells #[.slice A n c] 26)
  have b2 := below_alloc (w.alloc (.cells #[.slice A n c] 26)) (.cells #[.slice B n d] 26)
  have c0 := cell_below b2 (by simp) (new_cell w #[.slice A n c] 26 0)
  have c1 := new_cell (w.alloc (.cells #[.slice A n c] 26)) #[.slice B n d] 26 0
  have hz : w.heap.size + 1 < ((w.alloc (.cells #[.slice A n c] 26)).alloc (.cells #[.slice B n d] 26)).heap.size := by simp
  have HB0 := Lib.hid (Below.then b1 b1.size b2)
  rw [World.size_alloc] at c1
  clear hx hy hn b1 b2
  go_enter Try.func24, Try.ntmps24
  go_wp2_with fail
  go_loopg [5] n (fun gk v5 wr => ∃ k : Nat, v5 = .int .i64 k ∧ k ≤ n ∧ Hid (gk + k = n) ∧ Hid (Below w.heap.size w wr) ∧ wr.cell? ⟨w.heap.size, 0, none⟩ = some (.slice A n c) ∧ wr.cell? ⟨w.heap.size + 1, 0, none⟩ = some (.slice B n d))
  case atStart => exact ⟨0, rfl, Nat.zero_le _, rfl, HB0.out, c0, c1⟩
  case round =>
    obtain ⟨k, rfl, hk, HG, HB, g0, g1⟩ := hrel
    by_cases hkn : k < n
    · have h1 : k < xs.length := by have := HN.out; omega
      obtain ⟨ad1, rfl, p0, p1, p2⟩ := HX.out.below HB.out k xs[k] (by simp [h1])
      obtain ⟨ad2, rfl, q0, q1, q2⟩ := HY.out.below HB.out k xs[k] (by simp [h1])
      generalize xs[k] = x at *
      clear h1
      go_wp2_with fail
      go_quiet (fail)
      go_wp2_with fail
      go_roundg (gk - 1)
      case measure => have := HG.out; omega
      case rel => exact ⟨k + 1, by go_num, by omega, by have := HG.out; show gk - 1 + (k + 1) = n; omega, Below.then HB.out HB.out.size (below_drewN _ _), g0, g1⟩
    · go_wp2_with fail
      go_ret
      exact ⟨rfl, HB.out⟩
end Go.Proofs.Ytbmlkomfelkckaa

namespace Go.Proofs.Ytbmlkomfelkckaa
open Go Go.RowKit

theorem box_cell {w : World} {b : Nat} {v : Value} {t : TypeId} (h : w.heap[b]? = some (.cells #[v] t (0, 0))) : w.cell? ⟨b, 0, none⟩ = some v := by
  rw [cell_of_row w b 0 _ _ _ h]
  rfl

theorem box_frozen {w : World} {b : Nat} {v : Value} {t : TypeId} (h : w.heap[b]? = some (.cells #[v] t (0, 0))) : w.frozen? ⟨b, 0, none⟩ = false := by
  unfold World.frozen?
  simp [h]
end Go.Proofs.Ytbmlkomfelkckaa
