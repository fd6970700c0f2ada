/- tree.Count of four leaves. -/
import Derived.Test.YtbmlkomfelkckaaMem
namespace Go.Proofs.Ytbmlkomfelkckaa
open Go Go.RowKit
set_option maxRecDepth 100000

theorem count4_calls (w : World) : Calls Try.prog 36 #[.int .i64 4] w fun e w' => e = .returned (.tuple #[.int .i64 15, .int .i64 0]) ∧ w' = w := by
  go_enter Try.func36, Try.ntmps36
  go_wp2_with fail
  go_loopg [4, 5] 3 (fun gk v4 v5 wr => wr = w ∧ ((gk = 3 ∧ v4 = .int .i64 1 ∧ v5 = .int .i64 1) ∨ (gk = 2 ∧ v4 = .int .i64 1 ∧ v5 = .int .i64 3) ∨ (gk = 1 ∧ v4 = .int .i64 3 ∧ v5 = .int .i64 5) ∨ (gk = 0 ∧ v4 = .int .i64 15 ∧ v5 = .int .i64 7)))
  case atStart => exact ⟨rfl, .inl ⟨rfl, rfl, rfl⟩⟩
  case round =>
    obtain ⟨rfl, ⟨rfl, rfl, rfl⟩ | ⟨rfl, rfl, rfl⟩ | ⟨rfl, rfl, rfl⟩ | ⟨rfl, rfl, rfl⟩⟩ := hrel
    · go_wp2_with fail
      go_roundg 2
      case measure => omega
      case rel => exact ⟨rfl, .inr (.inl ⟨rfl, rfl, rfl⟩)⟩
    · go_wp2_with fail
      go_roundg 1
      case measure => omega
      case rel => exact ⟨rfl, .inr (.inr (.inl ⟨rfl, rfl, rfl⟩))⟩
    · go_wp2_with fail
      go_roundg 0
      case measure => omega
      case rel => exact ⟨rfl, .inr (.inr (.inr ⟨rfl, rfl, rfl⟩))⟩
    · go_wp2_with fail
      exact bodyPost_ret (v := .tuple #[.int .i64 15, .int .i64 0]) (by simp [results, Try.results36, go_sem]) rfl ⟨rfl, rfl⟩
end Go.Proofs.Ytbmlkomfelkckaa
