/- What the rows' laid tables give a walk, and a world in which they lie. -/
import Derived.Test.YtbmlkomfelkckaaDoorRows
import Derived.Test.YtbmlkomfelkckaaDoorTz
import Derived.Lib.LaidU8
import Derived.LaidLaws
import Derived.JoinedOf
import Derived.Stop.Joined
namespace Go.Proofs.YtbmlkomfelkckaaDoor
open Go Go.RowKit
set_option maxRecDepth 100000

/-- The tables as a row lists them. -/
def laidTabs : List (String × DataW Unit) := [("math/bits.deBruijn32tab", Rows.laid_math_bits_deBruijn32tab), ("math/bits.deBruijn64tab", Rows.laid_math_bits_deBruijn64tab)]

theorem laid64 : (Rows.laid_math_bits_deBruijn64tab : DataW Unit) = Lib.tabData .u8 tzTab := by kernel_rfl

theorem tz_of_laid {W : World} (h : laidMet Tryd.prog laidTabs W) : Tz W := by
  obtain ⟨g, t, cs, fuel, p, hg, ht, hvar, hd⟩ := Lib.laidMet.reads h (n := "math/bits.deBruijn64tab") (d := Rows.laid_math_bits_deBruijn64tab) (by unfold laidTabs; simp)
  obtain rfl := Option.some.inj ((show Tryd.prog.globalNamed "math/bits.deBruijn64tab" = some 1 by kernel_rfl).symm.trans hg)
  obtain rfl := Option.some.inj ((show (Tryd.prog.globals[1]?).map (·.type) = some 90 by kernel_rfl).symm.trans ht)
  rw [laid64] at hd
  have hcs := Lib.cells_of_tab (n := 64) Tryd.underlying90 Tryd.underlying5 (by kernel_rfl) (by kernel_rfl) hd
  intro j v hj
  have := World.var?_cell hg hvar j
  rw [this, ← Array.getElem?_toList, hcs, List.getElem?_map, hj]
  rfl

def cells32 : Array Value := #[0, 1, 28, 2, 29, 14, 24, 3, 30, 22, 20, 15, 25, 17, 4, 8, 31, 27, 13, 23, 21, 19, 16, 7, 26, 12, 18, 6, 11, 5, 10, 9].map (Value.int .u8)
def cells64 : Array Value := (tzTab.map (Value.int .u8)).toArray

/-- A block with other cells. -/
def relaid (cs : Array Value) : Obj → Obj
  | .cells _ t frozen => .cells cs t frozen
  | o => o

/-- A world in which the tables lie. -/
noncomputable def laidWorld (os : Os) : World :=
  { World.holding Tryd.prog os ⟨#[], #[], []⟩ with heap := ((World.holding Tryd.prog os ⟨#[], #[], []⟩).heap.modify 0 (relaid cells32)).modify 1 (relaid cells64) }

theorem laidWorld_met (os : Os) (args : Array Value) : laidMet Tryd.prog laidTabs ((laidWorld os).forCall (fun _ _ => 0) ⟨#[], args, []⟩).memory :=
  laidMet_of_run' 8 (by kernel_rfl) (by kernel_rfl)
end Go.Proofs.YtbmlkomfelkckaaDoor
