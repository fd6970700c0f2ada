/- The memory of siglumref20.reader. -/
import Derived.Test.YtbmlkomfelkckaaStack
import Derived.Test.YtbmlkomfelkckaaParseP
import Derived.Deep.OwnRows
namespace Go.Proofs.Ytbmlkomfelkckaa
open Go Go.RowKit
set_option maxRecDepth 100000

/-- A reader's cells. -/
def rcell (s : ByteArray) (i : Nat) (v : Value) (sg n : Nat) : Nat → Value := fun j =>
  if j = 0 then .string s else if j = 1 then .int .i64 (i : Int) else if j = 2 then v else .slice (some ⟨sg, 0, none⟩) n n

structure RInv (w0 : World) (g sg b2 : Nat) (s : ByteArray) (n : Nat) (W : World) (i : Nat) (had : List Nat) (xs : List Br) (v : Value) : Prop where
  low : Below w0.heap.size w0 W
  hg : w0.heap.size ≤ g ∧ w0.heap.size ≤ sg ∧ g ≠ sg ∧ g < b2 ∧ sg < b2 ∧ b2 ≤ W.heap.size
  row : W.rowIs g 104 4 (rcell s i v sg n)
  seen : W.rowIs sg 4 n (fun k => .bool (decide (k ∈ had)))
  tree : W.ownsRow b2 64 3 v xs.length (brs xs)

variable {w0 W : World} {g sg b2 n i : Nat} {s : ByteArray} {had : List Nat} {xs : List Br} {v : Value}

theorem RInv.cells (h : RInv w0 g sg b2 s n W i had xs v) :
    W.cell? ⟨g, 0, none⟩ = some (.string s) ∧ W.cell? ⟨g, 1, none⟩ = some (.int .i64 (i : Int)) ∧ W.cell? ⟨g, 2, none⟩ = some v ∧ W.cell? ⟨g, 3, none⟩ = some (.slice (some ⟨sg, 0, none⟩) n n) ∧ W.frozen? ⟨g, 1, none⟩ = false ∧ W.frozen? ⟨g, 2, none⟩ = false :=
  ⟨h.row.cell (by decide), h.row.cell (by decide), h.row.cell (by decide), h.row.cell (by decide), h.row.frozen 1, h.row.frozen 2⟩

theorem RInv.seen_cell (h : RInv w0 g sg b2 s n W i had xs v) {k : Nat} (hk : k < n) : W.cell? ⟨sg, k, none⟩ = some (.bool (decide (k ∈ had))) ∧ W.frozen? ⟨sg, k, none⟩ = false :=
  ⟨h.seen.cell hk, h.seen.frozen k⟩

theorem RInv.drew (h : RInv w0 g sg b2 s n W i had xs v) (q : Nat) : RInv w0 g sg b2 s n (W.drewN q) i had xs v :=
  ⟨h.low.trans ((below_drewN W q).mono h.low.size), h.hg, h.row.of_block rfl, h.seen.of_block rfl, own_below h.tree (below_drewN W q)⟩

theorem RInv.setAt (h : RInv w0 g sg b2 s n W i had xs v) {p : Int} {j : Nat} (hp : p = (j : Int)) : RInv w0 g sg b2 s n (W.setCell ⟨g, 1, none⟩ (.int .i64 p)) j had xs v := by
  subst hp
  have hz : (W.setCell ⟨g, 1, none⟩ (.int .i64 (j : Int))).heap.size = W.heap.size := by simp
  refine ⟨below_set h.low h.hg.1 1 _, by rw [hz]; exact h.hg, (h.row.set 1 _).congr fun k hk => ?_, h.seen.setOther (Ne.symm h.hg.2.2.1) _, own_keep h.tree fun k hk => ?_⟩
  · have : k = 0 ∨ k = 1 ∨ k = 2 ∨ k = 3 := by omega
    rcases this with rfl | rfl | rfl | rfl <;> rfl
  · have := h.tree.lt k hk
    have h1 := h.hg.2.2.2.1
    exact Go.Deep.blk_setCell_other _ _ _ _ (by show k ≠ g; omega)

theorem RInv.setSeen (h : RInv w0 g sg b2 s n W i had xs v) (k : Nat) : RInv w0 g sg b2 s n (W.setCell ⟨sg, k, none⟩ (.bool true)) i (had ++ [k]) xs v := by
  have hz : (W.setCell ⟨sg, k, none⟩ (.bool true)).heap.size = W.heap.size := by simp
  refine ⟨below_set h.low h.hg.2.1 k _, by rw [hz]; exact h.hg, h.row.setOther h.hg.2.2.1 _, (h.seen.set k _).congr fun j hj => ?_, own_keep h.tree fun j hj => ?_⟩
  · by_cases hjk : j = k
    · subst hjk; simp
    · rw [if_neg hjk]; simp [hjk]
  · have := h.tree.lt j hj
    have h1 := h.hg.2.2.2.2.1
    exact Go.Deep.blk_setCell_other _ _ _ _ (by show j ≠ sg; omega)

/-- Behind an append, and the store of the row. -/
theorem RInv.upd (h : RInv w0 g sg b2 s n W i had xs v) {w1 : World} {v1 : Value} {x : Br} (ho : w1.ownsRow b2 64 3 v1 (xs.length + 1) (brs xs ++ x.cells)) (hu : Upd W w1 v v1) :
    (w1.rowIs g 104 4 (rcell s i v sg n)) ∧ RInv w0 g sg b2 s n (w1.setCell ⟨g, 2, none⟩ v1) i had (xs ++ [x]) v1 := by
  have hz : (w1.setCell ⟨g, 2, none⟩ v1).heap.size = w1.heap.size := by simp
  have hv := h.tree.lt
  have hb := hu.below (B := b2) h.hg.2.2.2.2.2 (own_base h.tree)
  have hr1 : w1.rowIs g 104 4 (rcell s i v sg n) := h.row.of_block (hb.block g h.hg.2.2.2.1)
  have hs1 : w1.rowIs sg 4 n (fun k => .bool (decide (k ∈ had))) := h.seen.of_block (hb.block sg h.hg.2.2.2.2.1)
  refine ⟨hr1, below_set (h.low.trans (hb.mono (by have := h.hg; omega))) h.hg.1 2 _, ?_, (hr1.set 2 _).congr fun k hk => ?_, hs1.setOther (Ne.symm h.hg.2.2.1) _, own_keep (w := w1) ?_ fun k hk => ?_⟩
  · rw [hz]
    have := hb.size
    have := h.hg
    omega
  · have : k = 0 ∨ k = 1 ∨ k = 2 ∨ k = 3 := by omega
    rcases this with rfl | rfl | rfl | rfl <;> rfl
  · rw [brs_snoc, List.length_append]
    exact ho
  · have := ho.lt k hk
    have h1 := h.hg.2.2.2.1
    exact Go.Deep.blk_setCell_other _ _ _ _ (by show k ≠ g; omega)
/-- What read leaves. -/
def RetRd (w0 : World) (g sg b2 : Nat) (s : ByteArray) (n : Nat) (xs : List Br) (r : PR) (e : Ending) (w' : World) : Prop :=
  match r with
  | .err a => e = .returned (.tuple #[.int .i64 0, .bool false]) ∧ Below w0.heap.size w0 w' ∧ b2 ≤ w'.heap.size ∧ w'.cell? ⟨g, 1, none⟩ = some (.int .i64 (a : Int))
  | .ok a T h => ∃ v, e = .returned (.tuple #[.int .i64 ((xs.length : Int) + (T.size : Int) - 1), .bool true]) ∧ RInv w0 g sg b2 s n w' a h (xs ++ T.form xs.length) v

end Go.Proofs.Ytbmlkomfelkckaa
