/- slices.Grow, Concat of two rows, Clone at whole numbers, in the words of own rows. -/
import Derived.Test.YtbmlkomfelkckaaBelow
import Derived.Lib.AppendZerosOnto
import Derived.Lib.SliceRun
namespace Go.Proofs.Ytbmlkomfelkckaa
open Go Go.RowKit
set_option maxRecDepth 100000

/-- Whole numbers as cells. -/
def intCells (l : List Int) : List Value := l.map (Value.int .i64)

theorem intCells_one (l : List Int) : ∀ u ∈ intCells l, u.oneCell' = true := by
  intro u hu
  obtain ⟨k, _, rfl⟩ := List.mem_map.1 hu
  rfl

theorem intCells_append (l m : List Int) : intCells (l ++ m) = intCells l ++ intCells m := List.map_append
theorem intCells_length (l : List Int) : (intCells l).length = l.length := by simp [intCells]

set_option maxHeartbeats 1000000 in
theorem grow_calls (n : Nat) (w : World) (h0 : 0 < n) (hn : n ≤ 1000000000) :
    Calls Try.prog 109 #[.slice none 0 0, .int .i64 n] w fun e w' => ∃ A c, e = .returned (.slice A 0 c) ∧ w'.ownsRow w.heap.size 3 1 (.slice A 0 c) 0 [] ∧ Below w.heap.size w w' := by
  obtain ⟨i0, hi, hz0, hz1, hz2⟩ := info_parts info_intB
  have hold : (Builtin.firstCells i0.size 0 (.slice none 0 0)).run Try.prog w.drew = .ok ([] : List Value).toArray w.drew := by simp [Builtin.firstCells]
  have hb8 : n * 8 ≤ 140737488355328 := by omega
  have hrz : ∀ ty, (Builtin.append_ #[43, 3] ty #[.slice none 0 0, .int .i64 n]).run Try.prog w =
      .ok (.slice (some ⟨w.heap.size, 0, none⟩) n (grownCap w n 0 3)) (w.drew.alloc (.cells (Builtin.zeroCells #[.int .i64 0] n ++ Builtin.zeroCells #[.int .i64 0] (grownCap w n 0 3 - n)) 3)) := fun ty => by
    have h := Lib.run_append_grow_zeros w 43 3 ty 3 i0 (.int .i64 0) .i64 .i64 Try.underlying43 Try.underlying3 hi hz0 none 0 0 [] hold n h0 (by omega) (by omega) (by omega)
      (by rw [hz2]; omega)
      (growslice_fits (by omega) (by rw [hz2]; omega))
    simpa [Value.cells] using h
  have hGn : n ≤ grownCap w n 0 3 := grownCap_ge w _ _ _
  obtain ⟨G, hG⟩ : ∃ G, G = grownCap w n 0 3 := ⟨_, rfl⟩
  have hG63 : G ≤ maxLen := by
    have := grownCap_le_maxLen w n 0 3 (by unfold maxLen; omega)
    rwa [← hG] at this
  rw [← hG] at hrz hGn
  have HM := Lib.hid hG63
  have hG9 : G ≤ 9223372036854775807 := by unfold maxLen at hG63; omega
  clear hold hG hi hz0 hz1 hz2 hG63
  go_enter Try.func109, Try.ntmps109
  go_wp2_with (at_builtin; refine Lib.wpList_append_run _ rfl _ _ _ _ rfl _ _ rfl rfl _ _ (hrz _) ?_)
  go_ret
  refine ⟨_, _, rfl, ?_, ?_⟩
  · have h := World.ownsRow_made (base := w.heap.size) (e := 3) (size := 1) w.drew (Builtin.zeroCells #[.int .i64 0] n ++ Builtin.zeroCells #[.int .i64 0] (G - n)) G (Nat.le_refl _) HM.out (by simp [Builtin.zeroCells]; omega)
    exact h
  · exact (below_drewN w 1).alloc (Nat.le_refl _) _

/-- What a call that makes a row of these whole numbers leaves. -/
def RetInts (w : World) (n : Nat) (l : List Int) (e : Ending) (w' : World) : Prop :=
  ∃ A c, e = .returned (.slice A n c) ∧ w'.ownsRow w.heap.size 3 1 (.slice A n c) n (intCells l) ∧ Below w.heap.size w w'

set_option maxHeartbeats 2000000 in
theorem concat_calls (g c0 : Nat) (A1 A2 : Option Addr) (n1 n2 c1 c2 b1 b2 : Nat) (l m : List Int) (w : World) (d0 : w.cell? ⟨g, 0, none⟩ = some (.slice A1 n1 c1)) (d1 : w.cell? ⟨g, 1, none⟩ = some (.slice A2 n2 c2))
    (o1 : w.ownsRow b1 3 1 (.slice A1 n1 c1) n1 (intCells l)) (o2 : w.ownsRow b2 3 1 (.slice A2 n2 c2) n2 (intCells m)) (h1 : 0 < n1) (h2 : 0 < n2) (k1 : n1 ≤ 100000000) (k2 : n2 ≤ 100000000) :
    Calls Try.prog 82 #[.slice (some ⟨g, 0, none⟩) 2 c0] w (RetInts w (n1 + n2) (l ++ m)) := by
  have hlt := World.block_lt_of_cell? w _ d0
  have O1 := Lib.hid o1
  have O2 := Lib.hid o2
  obtain ⟨i0, hi, hz0, hz1, hz2⟩ := info_parts info_intB
  clear o1 o2
  go_enter Try.func82, Try.ntmps82
  go_wp2_with fail
  go_loopg [3, 11] 2 (fun gk v3 v11 wr => wr = w ∧ ((gk = 2 ∧ v11 = .int .i64 0 ∧ v3 = .int .i64 0) ∨ (gk = 1 ∧ v11 = .int .i64 1 ∧ v3 = .int .i64 n1) ∨ (gk = 0 ∧ v11 = .int .i64 2 ∧ v3 = .int .i64 ((n1 : Int) + n2))))
  case atStart => exact ⟨rfl, .inl ⟨rfl, rfl, rfl⟩⟩
  case round =>
    obtain ⟨rfl, hrel⟩ := hrel
    rcases hrel with ⟨rfl, rfl, rfl⟩ | ⟨rfl, rfl, rfl⟩ | ⟨rfl, rfl, rfl⟩
    · go_wp2_with fail
      go_roundg 1
      case measure => omega
      case rel => exact ⟨rfl, .inr (.inl ⟨rfl, rfl, by go_num⟩)⟩
    · go_wp2_with fail
      go_roundg 0
      case measure => omega
      case rel => exact ⟨rfl, .inr (.inr ⟨rfl, rfl, by go_num⟩)⟩
    · obtain ⟨wo, rfl⟩ : ∃ wo : World, wo = wr := ⟨_, rfl⟩
      have HG := Lib.hid (fun W => grow_calls (n1 + n2) W (by omega) (by omega))
      rw [show ((n1 + n2 : Nat) : Int) = (n1 : Int) + n2 by omega] at HG
      go_wp2_with fail
      refine (HG.out _).mono ?_
      rintro e w1 ⟨A, c, rfl, ho, hb⟩
      obtain ⟨z, hz⟩ : ∃ z, z = wo.heap.size := ⟨_, rfl⟩
      have HB : Hid (∀ wr : World, Below z w1 wr → Below wo.heap.size wo wr) := fun wr h => hb.trans (by rw [← hz]; exact h)
      rw [← hz] at ho hb hlt
      have HS : Hid (z ≤ w1.heap.size) := by have := hb.size; show _ ≤ _; omega
      have D0 := Lib.hid d0
      have D1 := Lib.hid d1
      have HT : Hid (g < z) := hlt
      have HZ := Lib.hid hz
      clear hb hz HG d0 d1 hlt
      go_wp2_with fail
      go_loopg [6, 27] 2 (fun gk v6 v27 wr => ∃ A c q xs, v6 = .slice A q c ∧ Hid (wr.ownsRow z 3 1 (.slice A q c) q xs) ∧ Hid (Below z w1 wr) ∧ ((gk = 2 ∧ v27 = .int .i64 0 ∧ q = 0 ∧ xs = []) ∨ (gk = 1 ∧ v27 = .int .i64 1 ∧ q = n1 ∧ xs = intCells l) ∨ (gk = 0 ∧ v27 = .int .i64 2 ∧ q = n1 + n2 ∧ xs = intCells l ++ intCells m)))
      case atStart => exact ⟨A, c, 0, [], rfl, ho, Below.refl _ _, .inl ⟨rfl, rfl, rfl, rfl⟩⟩
      case round =>
        obtain ⟨A', c', q, xs, rfl, HO, HB1, hrel⟩ := hrel
        have hbw := HB.out _ HB1.out
        have d0 := cell_below hbw (by rw [← HZ.out]; exact HT.out) D0.out
        have d1 := cell_below hbw (by rw [← HZ.out]; exact HT.out) D1.out
        have p1 := Lib.hid (own_below O1.out hbw)
        have p2 := Lib.hid (own_below O2.out hbw)
        have hbase : Hid (z ≤ wr.heap.size) := by have := HS.out; have := HB1.out.size; show _ ≤ _; omega
        clear hbw
        rcases hrel with ⟨rfl, rfl, rfl, rfl⟩ | ⟨rfl, rfl, rfl, rfl⟩ | ⟨rfl, rfl, rfl, rfl⟩
        · go_wp2_with (at_builtin; refine walk_appendRow HO.out p1.out h1 hbase.out (by omega) 43 Try.underlying43 info_intB ⟨rfl, by decide, by decide⟩ (intCells_one _) (by exact ⟨rfl, rfl, rfl, rfl⟩) ?_; intro v1 w2 ho2 hu2)
          obtain ⟨A3, c3, rfl, _⟩ := own_slice ho2
          go_roundg 1
          case measure => omega
          case rel => exact ⟨A3, c3, n1, intCells l, by rw [Nat.zero_add], Lib.hid (by simpa using ho2), HB1.out.trans (hu2.below hbase.out (own_base HO.out)), .inr (.inl ⟨rfl, rfl, rfl, rfl⟩)⟩
        · go_wp2_with (at_builtin; refine walk_appendRow HO.out p2.out h2 hbase.out (by omega) 43 Try.underlying43 info_intB ⟨rfl, by decide, by decide⟩ (intCells_one _) (by exact ⟨rfl, rfl, rfl, rfl⟩) ?_; intro v1 w2 ho2 hu2)
          obtain ⟨A3, c3, rfl, _⟩ := own_slice ho2
          go_roundg 0
          case measure => omega
          case rel => exact ⟨A3, c3, _, _, rfl, ho2, HB1.out.trans (hu2.below hbase.out (own_base HO.out)), .inr (.inr ⟨rfl, rfl, rfl, rfl⟩)⟩
        · go_wp2_with fail
          go_ret
          refine ⟨A', c', rfl, ?_, HB.out _ HB1.out⟩
          rw [intCells_append, ← HZ.out]
          exact HO.out

set_option maxHeartbeats 1000000 in
theorem clone_calls (A : Option Addr) (n c b : Nat) (l : List Int) (w : World) (o : w.ownsRow b 3 1 (.slice A n c) n (intCells l)) (h : 0 < n) (k : n ≤ 1000000000) :
    Calls Try.prog 84 #[.slice A n c] w (RetInts w n l) := by
  have hsl := fun (W : World) (a : Addr) (k q : Nat) => Lib.run_eql_slice_nil (P := Try.prog) W 43 3 (some a) k q 0 0 Try.underlying43
  simp only [Option.isNone_some] at hsl
  obtain ⟨g, rfl, hg, _, _⟩ := own_at o h
  have O := Lib.hid o
  clear o
  go_enter Try.func84, Try.ntmps84
  go_wp2_with (at_builtin; refine walk_appendRow (own_new w #[] 3 1 0 w.heap.size (Nat.le_refl _) rfl (by omega)) (O.out.alloc _) h (by simp) (by omega) 43 Try.underlying43 info_intB ⟨rfl, by decide, by decide⟩ (intCells_one _) (by exact ⟨rfl, rfl, rfl, rfl⟩) ?_; intro v1 w2 ho2 hu2)
  simp only [Nat.zero_add, List.nil_append] at ho2
  obtain ⟨A3, c3, rfl, _⟩ := own_slice ho2
  go_ret
  refine ⟨A3, c3, rfl, ho2, (below_alloc w _).trans (hu2.below (by simp) (by simp [Value.ownBlock]))⟩
end Go.Proofs.Ytbmlkomfelkckaa
