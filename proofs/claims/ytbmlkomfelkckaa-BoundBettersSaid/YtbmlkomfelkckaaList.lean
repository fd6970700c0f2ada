/- (*node).list appends the form of a part; (*node).tree makes the form's tree. -/
import Derived.Test.YtbmlkomfelkckaaMem
namespace Go.Proofs.Ytbmlkomfelkckaa
open Go Go.RowKit
set_option maxRecDepth 100000

theorem info_br : (Try.prog.info? 64).map (fun i => (i.zero, i.size, i.bytes)) = some (some (.agg #[.int .i64 0, .int .i64 0, .int .i64 0]), 3, 24) := by kernel_rfl

/-- What a call that appends branches to a row leaves. -/
def RetRow (base : Nat) (w : World) (v : Value) (n : Nat) (ys : List Br) (e : Ending) (w' : World) : Prop :=
  ∃ v', e = .returned v' ∧ w'.ownsRow base 64 3 v' n (brs ys) ∧ Upd w w' v v'

set_option maxHeartbeats 400000 in
theorem list_calls (T : NT) : ∀ (w : World) (b : Nat) (v : Value) (n : Nat) (xs : List Br) (base : Nat), Nd w T (.pointer (some ⟨b, 0, none⟩)) → w.ownsRow base 64 3 v n (brs xs) →
    base ≤ w.heap.size → n + T.size ≤ 1000 → Calls Try.prog 94 #[.pointer (some ⟨b, 0, none⟩), v] w (RetRow base w v (n + T.size) (xs ++ T.form n)) := by
  induction T with
  | leaf k =>
    intro w b v n xs base hn ho hb hs
    obtain ⟨b', hp, hc⟩ := hn
    obtain rfl : b = b' := by simpa using hp
    have c0 : w.cell? ⟨b, 0, none⟩ = some (.int .i64 (k : Int)) := Nd.cell hc 0
    have c1 : w.cell? ⟨b, 1, none⟩ = some (.pointer none) := Nd.cell hc 1
    clear hp hc
    obtain ⟨A, c, rfl, hcap⟩ := own_slice ho
    simp only [NT.size] at hs
    go_enter Try.func94, Try.ntmps94
    go_wp2_with (at_builtin; refine walk_append1 ho hb (by omega) 24 Try.underlying24 info_br ⟨rfl, by decide, by decide⟩ _ (one3 _ _ _) (by exact ⟨rfl, rfl, rfl, rfl, rfl⟩) ?_; intro v1 w1 ho1 hu1)
    go_ret
    exact ⟨v1, rfl, by simpa [NT.form, NT.size, brs_snoc, Br.cells] using ho1, hu1⟩
  | fork x y ihx ihy =>
    intro w b v n xs base hn ho hb hs
    obtain ⟨b', px, py, hp, hc, hx, hy⟩ := hn
    obtain rfl : b = b' := by simpa using hp
    obtain ⟨bx, _, _, rfl, _⟩ := hx.top
    obtain ⟨bz, _, _, rfl, _⟩ := hy.top
    have c1 : w.cell? ⟨b, 1, none⟩ = some (.pointer (some ⟨bx, 0, none⟩)) := Nd.cell hc 1
    have hs0 := hs
    simp only [NT.size] at hs
    have hxs := x.size_pos
    have hys := y.size_pos
    clear hp
    go_enter Try.func94, Try.ntmps94
    go_wp2_with fail
    refine (ihx w bx v n xs base hx ho hb (by omega)).mono ?_
    rintro e w1 ⟨v1, rfl, ho1, hu1⟩
    have hy1 : Nd w1 y (.pointer (some ⟨bz, 0, none⟩)) := hy.upd hu1 ho (by decide)
    have hb1 : base ≤ w1.heap.size := Nat.le_trans hb hu1.1.size
    have c2 : w1.cell? ⟨b, 2, none⟩ = some (.pointer (some ⟨bz, 0, none⟩)) := by
      have h0 : w1.heap[b]? = w.heap[b]? := hu1.1.block b (Array.getElem?_eq_some_iff.1 hc).1 (fun e => by
        have := own_elem ho b e.symm
        simp [elemAt, hc] at this)
      exact Nd.cell (h0.trans hc) 2
    obtain ⟨A1, k1, rfl, hcap1⟩ := own_slice ho1
    have hu1' := Lib.hid hu1
    have ho1' := Lib.hid ho1
    clear hu1 ho1 c1 ho hc hx hy ihx
    go_wp2_with fail
    refine (ihy w1 bz _ (n + x.size) (xs ++ x.form n) base hy1 ho1'.out hb1 (by omega)).mono ?_
    rintro e w2 ⟨v2, rfl, ho2, hu2⟩
    have hb2 : base ≤ w2.heap.size := Nat.le_trans hb1 hu2.1.size
    obtain ⟨A2, k2, rfl, hcap2⟩ := own_slice ho2
    have hu2' := Lib.hid hu2
    clear hu2 ihy c2
    go_wp2_with (at_builtin; refine walk_append1 ho2 hb2 (by omega) 24 Try.underlying24 info_br ⟨rfl, by decide, by decide⟩ _ (one3 _ _ _) (by exact ⟨rfl, rfl, rfl, rfl, rfl⟩) ?_; intro v3 w3 ho3 hu3)
    go_ret
    refine ⟨v3, rfl, ?_, (hu1'.out.trans hu2'.out).trans hu3⟩
    have e1 : brs (xs ++ (NT.fork x y).form n) = brs (xs ++ x.form n ++ y.form (n + x.size)) ++ (Br.cells ⟨0, ((n + x.size : Nat) : Int) - 1, ((n + x.size + y.size : Nat) : Int) - 1⟩) := by
      rw [← brs_snoc]; simp [NT.form]
    rw [e1, show n + (NT.fork x y).size = n + x.size + y.size + 1 by simp [NT.size]; omega]
    simpa [Br.cells] using ho3

/-- What a call that makes a tree of these branches leaves. -/
def RetTree (w : World) (n : Nat) (xs : List Br) (e : Ending) (w' : World) : Prop :=
  ∃ A c, e = .returned (.agg #[.slice A n c]) ∧ w'.ownsRow w.heap.size 64 3 (.slice A n c) n (brs xs) ∧ Below w.heap.size w w'

set_option maxHeartbeats 400000 in
theorem tree_calls (T : NT) (w : World) (b : Nat) (hn : Nd w T (.pointer (some ⟨b, 0, none⟩))) (hs : T.size ≤ 900) :
    Calls Try.prog 58 #[.pointer (some ⟨b, 0, none⟩)] w (RetTree w T.size (T.form 0)) := by
  go_enter Try.func58, Try.ntmps58
  go_wp2_with fail
  refine (list_calls T _ b _ 0 [] (w.heap.size + 1) (hn.alloc _) (World.ownsRow_nil _ _ _ _) (by simp) (by omega)).mono ?_
  rintro e w1 ⟨v1, rfl, ho1, hu1⟩
  have hb1 := hu1.below_nil
  simp only [World.size_alloc] at hb1
  have c0 : w1.cell? ⟨w.heap.size, 0, none⟩ = some (.slice none 0 0) := cell_below hb1 (by omega) (new_cell _ _ _ 0)
  have f0 : w1.frozen? ⟨w.heap.size, 0, none⟩ = false := frozen_below hb1 (by omega) (new_frozen _ _ _ 0)
  have hz : w.heap.size < w1.heap.size := by have := hb1.size; simp at this; omega
  obtain ⟨A, c, rfl, hcap⟩ := own_slice ho1
  have hb1' := Lib.hid hb1
  clear hb1 hu1 hn
  go_wp2_with fail
  have hcell := set_cell_eq c0 (.slice A T.size c)
  refine bodyPost_ret (v := .agg #[.slice A T.size c]) (by simp [results, Try.results58, hcell, go_sem]) rfl ⟨A, c, rfl, ?_, ?_⟩
  · simp only [Nat.zero_add, List.nil_append] at ho1
    exact own_mono (ownsRow_setCell_below ho1 (by simp) _) (by omega)
  · exact below_set (Below.trans (below_alloc w _) (hb1'.out.mono (by omega))) (Nat.le_refl _) _ _
end Go.Proofs.Ytbmlkomfelkckaa
