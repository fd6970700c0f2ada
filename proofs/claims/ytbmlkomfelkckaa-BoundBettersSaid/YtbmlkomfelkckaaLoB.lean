/- The least state of a set. In plain Lean. -/
import Derived.Test.YtbmlkomfelkckaaMem
namespace Go.Proofs.Ytbmlkomfelkckaa

/-- The least state of a set. -/
def low (x : Nat) : Nat := ((List.range 12).find? fun k => x.testBit k).getD 0

theorem low_lt (x : Nat) : low x < 12 := by
  unfold low
  cases h : (List.range 12).find? fun k => x.testBit k with
  | none => decide
  | some k => exact List.mem_range.1 (List.mem_of_find?_eq_some h)
end Go.Proofs.Ytbmlkomfelkckaa
