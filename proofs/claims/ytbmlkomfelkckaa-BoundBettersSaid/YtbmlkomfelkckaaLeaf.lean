/- siglumref20.Leaf. -/
import Derived.Test.YtbmlkomfelkckaaMem
import Derived.BigQuiet
namespace Go.Proofs.Ytbmlkomfelkckaa
open Go Go.RowKit
set_option maxRecDepth 100000

/-- A world that has all that was there. -/
structure Later (w : World) where
  W : World
  below : Below w.heap.size w W

instance (w : World) : Nonempty (Later w) := ⟨⟨w, Below.refl _ _⟩⟩

/-- A region that draws its order and only reads, at the class of the worlds that have all that was there. -/
theorem wp_quiet_below {P : Program} {id : Nat} {Q : Exit → Act → World → Prop} {a : Act} {w : World} {l : List Oper} (hm : P.follows .mixedOrders = true) (hB : Region.lexB .any l.toArray = true)
    (h : wpQuiet P l.toArray (fun w' => ∃ s : Later w, w' = s.W) (fun a' => ∀ w', (∃ s : Later w, w' = s.W) → Q .normal a' w') l a) : (Code.region id l.toArray true).wp P Q a w :=
  wp_region_quiet (C := fun w' => ∃ s : Later w, w' = s.W) hm hB ⟨⟨_, below_drewN w 1⟩, rfl⟩ (by simpa using h)

theorem leaf_calls (x : Br) (w : World) : Calls Try.prog 86 #[.agg #[.int .i64 x.leaf, .int .i64 x.a, .int .i64 x.b]] w fun e w' => e = .returned (.bool (x.a == 0 && x.b == 0)) ∧ Below w.heap.size w w' := by
  by_cases ha : x.a = 0
  · have f1 : (x.a == 0) = true := by rw [beq_iff_eq]; exact ha
    rw [f1]
    clear ha
    by_cases hb : x.b = 0
    · have f2 : (x.b == 0) = true := by rw [beq_iff_eq]; exact hb
      rw [f2]
      clear hb
      go_enter Try.func86, Try.ntmps86
      go_wp2_with fail
      go_ret
      exact ⟨rfl, below_alloc _ _⟩
    · have f2 : (x.b == 0) = false := by rw [beq_eq_false_iff_ne]; exact hb
      rw [f2]
      clear hb
      go_enter Try.func86, Try.ntmps86
      go_wp2_with fail
      go_ret
      exact ⟨rfl, below_alloc _ _⟩
  · have f1 : (x.a == 0) = false := by rw [beq_eq_false_iff_ne]; exact ha
    rw [f1]
    clear ha
    go_enter Try.func86, Try.ntmps86
    go_wp2_with fail
    go_ret
    exact ⟨rfl, below_alloc _ _⟩
end Go.Proofs.Ytbmlkomfelkckaa
