/- The rows that the law makes, side by side: what holds while it makes them. -/
import Derived.Test.YtbmlkomfelkckaaCladeM
import Derived.Test.YtbmlkomfelkckaaMat
namespace Go.Proofs.Ytbmlkomfelkckaa
open Go Go.RowKit
set_option maxRecDepth 100000

structure SInv (W4 W : World) (b : Nat) (J : List (List Int)) (v : Value) : Prop where
  low : b < W4.heap.size
  below : Below b W4 W
  size : W4.heap.size ≤ W.heap.size
  blk : W.heap[b]? = some (.cells #[v] 36 (0, 0))
  out : ∃ vs, W.ownsRow W4.heap.size 43 1 v J.length vs ∧ RowsAt W.heap.size W W4.heap.size vs J

theorem SInv.beside {W4 W W2 : World} {b : Nat} {J : List (List Int)} {v : Value} (h : SInv W4 W b J v) (hb : Below W.heap.size W W2) : SInv W4 W2 b J v := by
  obtain ⟨vs, h4, h5⟩ := h.out
  have hz := h.size
  have hl := h.low
  have hk : KI W.heap.size W W2 := KI.below hb (Nat.le_refl _)
  exact ⟨hl, Below.then h.below (by omega) hb, Nat.le_trans hz hb.size, (hb.block b (by omega)).trans h.blk, vs, own_below h4 hb, (h5.ki hk).mono hb.size (Nat.le_refl _)⟩

theorem SInv.next {W4 W W' : World} {b : Nat} {J : List (List Int)} {v v' x : Value} {vs : List Value} {l : List Int} (h : SInv W4 W b J v) (h4 : W.ownsRow W4.heap.size 43 1 v J.length vs) (h5 : RowsAt W.heap.size W W4.heap.size vs J)
    (hx : RowAt W.heap.size W W4.heap.size x l) (ho : W'.ownsRow W4.heap.size 43 1 v' (J.length + 1) (vs ++ [x])) (hu : Upd W W' v v') : SInv W4 (W'.setCell ⟨b, 0, none⟩ v') b (J ++ [l]) v' := by
  have hz := h.size
  have hl := h.low
  have hbk : W'.heap[b]? = W.heap[b]? := hu.1.block b (by omega) (fun e => by have := own_base h4 b e.symm; omega)
  have hb' := hbk.trans h.blk
  have hk1 : KI W.heap.size W W' := KI.grown hu.1 (Nat.le_refl _) (fun g e => .inr (by rw [own_elem h4 g e]; simp))
  have hk2 : KI W.heap.size W' (W'.setCell ⟨b, 0, none⟩ v') := fun k hk he => Below.heap_setCell _ _ _ _ (fun e => by
    obtain rfl : k = b := e
    unfold elemAt at he
    rw [hb'] at he
    simp at he)
  have hk := hk1.trans hk2
  refine ⟨hl, below_set (h.below.trans (hu.below (by omega) (fun g e => by have := own_base h4 g e; omega))) (Nat.le_refl _) _ _, by simpa using Nat.le_trans hz hu.1.size, one_setCell hb', vs ++ [x], ?_, ?_⟩
  · rw [List.length_append]
    exact ownsRow_setCell_below ho hl _
  · refine ((h5.snoc hx).ki hk).mono ?_ (Nat.le_refl _)
    simpa using hu.1.size

theorem SInv.cell {W4 W : World} {b : Nat} {J : List (List Int)} {v : Value} (h : SInv W4 W b J v) : W.cell? ⟨b, 0, none⟩ = some v := by
  rw [cell_of_row W b 0 _ _ _ h.blk]
  rfl

theorem SInv.frozen {W4 W : World} {b : Nat} {J : List (List Int)} {v : Value} (h : SInv W4 W b J v) : W.frozen? ⟨b, 0, none⟩ = false := by
  unfold World.frozen?
  simp [h.blk]

theorem SInv.slice {W4 W : World} {b : Nat} {J : List (List Int)} {v : Value} (h : SInv W4 W b J v) : ∃ A c, v = .slice A J.length c ∧ J.length ≤ c := by
  obtain ⟨vs, h4, -⟩ := h.out
  exact own_slice h4

theorem SInv.rows {W4 W : World} {b : Nat} {J : List (List Int)} {A : Option Addr} {n c : Nat} (h : SInv W4 W b J (.slice A n c)) : RdRows W A J := by
  obtain ⟨vs, h4, h5⟩ := h.out
  intro i r hi
  have hil := (List.getElem?_eq_some_iff.1 hi).1
  obtain ⟨A', c', he, -⟩ := own_slice h4
  obtain ⟨rfl, rfl, rfl⟩ : A = A' ∧ n = J.length ∧ c = c' := by simpa using he
  obtain ⟨g, rfl, -, -, hc⟩ := own_at h4 (by omega)
  obtain ⟨u, hu, hr⟩ := h5.2 i r hi
  obtain ⟨A1, d1, rfl, o1, hB⟩ := hr
  have hrd := (RowAt.rd (B := W.heap.size) (base := W4.heap.size) ⟨A1, d1, rfl, o1, hB⟩)
  refine ⟨_, A1, d1, rfl, hc i _ hu, hrd.1, hrd.2.2, ?_⟩
  rcases o1.2 with ⟨h0, _⟩ | ⟨g', cap, cur, h1, _, _, _, h2, _⟩
  · obtain ⟨-, -, rfl⟩ : A1 = none ∧ r.length = 0 ∧ d1 = 0 := by simpa using h0
    omega
  · obtain ⟨-, rfl⟩ : A1 = some ⟨g', 0, none⟩ ∧ d1 = cap := by simpa using h1
    simp only [maxLen] at h2
    omega
end Go.Proofs.Ytbmlkomfelkckaa
