/- rank.read: the arcs as a web. -/
import Derived.Test.YteonpfomlmfkjaaRkWeb
import Derived.Test.YteonpfomlmfkjaaDrawn
import Derived.BigRegion
import Derived.Deep.DeepCutAuto
import Derived.Deep.CutRange
namespace Go.Proofs.Yteonpfomlmfkjaa
open Go Go.RowKit
set_option maxRecDepth 100000

theorem info_rowK : (Try.prog.info? 25).map (fun i => (i.zero, i.size, i.bytes)) = some (some (.slice none 0 0), 1, 24) := by kernel_rfl

/-- What read leaves. -/
def RetRead (w : World) (z : Int) (arcs : List (Int × Int)) (e : Ending) (w' : World) : Prop :=
  Below w.heap.size w w' ∧ (arcsOk z arcs → ∃ p gT gW f, e = .returned (.tuple #[.pointer (some ⟨p, 0, none⟩), .int .i64 0]) ∧ Web w' w.heap.size p gT gW z.toNat (fun v => outs arcs v) (fun v => into arcs v) f) ∧
    (¬ arcsOk z arcs → e = .returned (.tuple #[.pointer none, .int .i64 2]))

set_option maxHeartbeats 4000000 in
theorem read_calls (A : Option Addr) (n c : Nat) (arcs : List (Int × Int)) (z : Int) (w : World) (hr : RdArcs w A arcs) (hn : arcs.length = n) (hcap : n ≤ 9223372036854775807) (hz1 : -9223372036854775808 ≤ z) (hz2 : z ≤ 9223372036854775807) :
    Calls Try.prog 17 #[.int .i64 z, .slice A n c] w (RetRead w z arcs) := by
  have HR := Lib.hid hr
  have HN := Lib.hid hn
  by_cases g1 : z < 0
  · have hno : ¬ arcsOk z arcs := fun h => by have := h.1; omega
    clear hr hn
    go_enter Try.func17, Try.ntmps17
    go_wp2_with fail
    go_ret2
    exact ⟨Below.refl _ _, fun h => absurd h hno, fun _ => rfl⟩
  by_cases g2 : 4096 < z
  · have hno : ¬ arcsOk z arcs := fun h => by have := h.2.1; omega
    clear hr hn
    go_enter Try.func17, Try.ntmps17
    go_wp2_with fail
    go_ret2
    exact ⟨Below.refl _ _, fun h => absurd h hno, fun _ => rfl⟩
  by_cases g3 : (16384 : Int) < (n : Int)
  · have hno : ¬ arcsOk z arcs := fun h => by have := h.2.2.1; omega
    clear hr hn
    go_enter Try.func17, Try.ntmps17
    go_wp2_with fail
    go_ret2
    exact ⟨Below.refl _ _, fun h => absurd h hno, fun _ => rfl⟩
  obtain ⟨m, rfl⟩ : ∃ m : Nat, z = (m : Int) := ⟨z.toNat, by omega⟩
  have hm : m ≤ 4096 := by omega
  have hn4 : n ≤ 16384 := by omega
  have hmk1 := run_make_row' (P := Try.prog) 46 25 (.slice none 0 0) 24 Try.underlying46 info_rowK rfl .i64 .i64 m (by omega) (by omega)
  have hmk2 := run_make_row' (P := Try.prog) 25 3 (.int .i64 0) 8 Try.underlying25 info_intB rfl .i64 .i64 m (by omega) (by omega)
  clear hr hn
  go_enter Try.func17, Try.ntmps17
  go_wp2_with fail
  go_cut [6] (fun v6 wc => ∃ p gT gW : Nat, v6 = .pointer (some ⟨p, 0, none⟩) ∧ Hid (Below w.heap.size w wc) ∧ Hid (Web wc w.heap.size p gT gW m (fun _ => []) (fun _ => 0) (fun _ => .slice none 0 0)))
  case first =>
    go_wp2_with fail
    go_region
    all_goals
      go_wp2_with fail
      go_meet
    · have h1 := ((World.rowIs_made w (.slice none 0 0) m 25).alloc (.cells (madeCells #[.int .i64 0] m) 3)).alloc (.cells #[.slice (some ⟨w.heap.size, 0, none⟩) m m, .slice (some ⟨w.heap.size + 1, 0, none⟩) m m] 48)
      have h2 := (World.rowIs_made (w.alloc (.cells (madeCells #[.slice none 0 0] m) 25)) (.int .i64 0) m 3).alloc (.cells #[.slice (some ⟨w.heap.size, 0, none⟩) m m, .slice (some ⟨w.heap.size + 1, 0, none⟩) m m] 48)
      rw [World.size_alloc] at h2
      refine ⟨_, w.heap.size, w.heap.size + 1, rfl, (Below.then (Below.then (below_alloc w _) (by simp) (below_alloc _ _)) (by simp; omega) (below_alloc _ _)).drew, ?_⟩
      exact Web.start (Nat.le_refl _) (by omega) (by omega) (by simp) (by omega) (by omega) (by omega) (by have := new_cell ((w.alloc (.cells (madeCells #[.slice none 0 0] m) 25)).alloc (.cells (madeCells #[.int .i64 0] m) 3)) #[.slice (some ⟨w.heap.size, 0, none⟩) m m, .slice (some ⟨w.heap.size + 1, 0, none⟩) m m] 48 0; simpa using this) (by have := new_cell ((w.alloc (.cells (madeCells #[.slice none 0 0] m) 25)).alloc (.cells (madeCells #[.int .i64 0] m) 3)) #[.slice (some ⟨w.heap.size, 0, none⟩) m m, .slice (some ⟨w.heap.size + 1, 0, none⟩) m m] 48 1; simpa using this) h1.drew h2.drew
    · have h1 := ((World.rowIs_made w (.int .i64 0) m 3).alloc (.cells (madeCells #[.slice none 0 0] m) 25)).alloc (.cells #[.slice (some ⟨w.heap.size + 1, 0, none⟩) m m, .slice (some ⟨w.heap.size, 0, none⟩) m m] 48)
      have h2 := (World.rowIs_made (w.alloc (.cells (madeCells #[.int .i64 0] m) 3)) (.slice none 0 0) m 25).alloc (.cells #[.slice (some ⟨w.heap.size + 1, 0, none⟩) m m, .slice (some ⟨w.heap.size, 0, none⟩) m m] 48)
      rw [World.size_alloc] at h2
      refine ⟨_, w.heap.size + 1, w.heap.size, rfl, (Below.then (Below.then (below_alloc w _) (by simp) (below_alloc _ _)) (by simp; omega) (below_alloc _ _)).drew, ?_⟩
      exact Web.start (by omega) (Nat.le_refl _) (by omega) (by simp) (by omega) (by omega) (by omega) (by have := new_cell ((w.alloc (.cells (madeCells #[.int .i64 0] m) 3)).alloc (.cells (madeCells #[.slice none 0 0] m) 25)) #[.slice (some ⟨w.heap.size + 1, 0, none⟩) m m, .slice (some ⟨w.heap.size, 0, none⟩) m m] 48 0; simpa using this) (by have := new_cell ((w.alloc (.cells (madeCells #[.int .i64 0] m) 3)).alloc (.cells (madeCells #[.slice none 0 0] m) 25)) #[.slice (some ⟨w.heap.size + 1, 0, none⟩) m m, .slice (some ⟨w.heap.size, 0, none⟩) m m] 48 1; simpa using this) h2.drew h1.drew
  case rest =>
    obtain ⟨p, gT, gW, rfl, HB, HW⟩ := hcut
    clear hmk1 hmk2
    go_wp2_with fail
    go_loopg [28] n (fun gk v28 wr => ∃ (k : Nat) (f : Nat → Value), v28 = .int .i64 k ∧ k ≤ n ∧ Hid (n - k ≤ gk) ∧ Hid (Below w.heap.size w wr) ∧ Hid (Web wr w.heap.size p gT gW m (fun v => outs (arcs.take k) v) (fun v => into (arcs.take k) v) f) ∧ Hid (∀ a ∈ arcs.take k, 0 ≤ a.1 ∧ a.1 < (m : Int) ∧ 0 ≤ a.2 ∧ a.2 < (m : Int)))
    case atStart => exact ⟨0, _, rfl, Nat.zero_le _, by show n - 0 ≤ n; omega, HB.out, HW.out, fun a ha => by cases ha⟩
    case round =>
      obtain ⟨k, f, rfl, hk, HG, HB, HW, HOK⟩ := hrel
      by_cases hkn : k < n
      · have k1 : (k : Int) < (n : Int) := by omega
        obtain ⟨⟨a, b⟩, ha⟩ : ∃ a, arcs[k]? = some a := ⟨_, List.getElem?_eq_getElem (by have := HN.out; omega)⟩
        obtain ⟨ad, rfl, e0, e1⟩ := (HR.out.below HB.out) k _ ha
        have q0 := new_cell wr #[.int .i64 a, .int .i64 b] 34 0
        have q1 := new_cell wr #[.int .i64 a, .int .i64 b] 34 1
        have hma : (a, b) ∈ arcs := List.mem_of_getElem? ha
        have htk : Hid (arcs.take (k + 1) = arcs.take k ++ [(a, b)]) := by
          obtain ⟨h1, h2⟩ := List.getElem?_eq_some_iff.1 ha
          show _ = _
          rw [List.take_succ_eq_append_getElem h1, h2]
        have hno : ¬ (0 ≤ a ∧ a < (m : Int) ∧ 0 ≤ b ∧ b < (m : Int)) → ¬ arcsOk (m : Int) arcs := fun h k => h (k.2.2.2 _ hma)
        have HBX := Lib.hid (Below.then HB.out HB.out.size (below_alloc wr (.cells #[.int .i64 a, .int .i64 b] 34)))
        by_cases hbad : min a b < 0
        · have hn0 := hno (fun h => by omega)
          clear hno
          go_wp2_with fail
          go_ret2
          exact ⟨HBX.out, fun h => absurd h hn0, fun _ => rfl⟩
        by_cases hbig : (m : Int) ≤ max a b
        · have hn0 := hno (fun h => by omega)
          clear hno
          go_wp2_with fail
          go_ret2
          exact ⟨HBX.out, fun h => absurd h hn0, fun _ => rfl⟩
        have HOK2 : Hid (∀ x ∈ arcs.take (k + 1), 0 ≤ x.1 ∧ x.1 < (m : Int) ∧ 0 ≤ x.2 ∧ x.2 < (m : Int)) := by
          intro x hx
          rw [htk.out] at hx
          rcases List.mem_append.1 hx with hx | hx
          · exact HOK.out x hx
          · obtain rfl := List.mem_singleton.1 hx
            exact ⟨by simp only; omega, by simp only; omega, by simp only; omega, by simp only; omega⟩
        obtain ⟨a, rfl⟩ : ∃ a' : Nat, a = (a' : Int) := ⟨a.toNat, by omega⟩
        obtain ⟨b, rfl⟩ : ∃ b' : Nat, b = (b' : Int) := ⟨b.toNat, by omega⟩
        have ham : a < m := by omega
        have hbm : b < m := by omega
        have aI : (a : Int) < (m : Int) := by omega
        have bI : (b : Int) < (m : Int) := by omega
        clear hno hma ha
        go_wp2_with fail
        have hbx := below_alloc wr (.cells #[.int .i64 (a : Int), .int .i64 (b : Int)] 34)
        have HW2 := Lib.hid (HW.out.below hbx)
        obtain ⟨B, hB⟩ : ∃ B, wr.heap.size = B := ⟨_, rfl⟩
        have hB2 : B < (wr.alloc (.cells #[.int .i64 (a : Int), .int .i64 (b : Int)] 34)).heap.size := by rw [← hB]; simp
        have hgB : gT < B := by rw [← hB]; exact HW.out.to.lt
        have hwB : w.heap.size ≤ B := by rw [← hB]; exact HB.out.size
        have HOB : Hid (∀ v, v < m → ∀ g, (f v).ownBlock = some g → g < B) := fun v hv g hg => by rw [← hB]; exact ((HW.out.row v hv).1.lt g hg).2
        rw [hB] at q0 q1 ⊢
        generalize wr.alloc (.cells #[.int .i64 (a : Int), .int .i64 (b : Int)] 34) = W2 at *
        obtain ⟨ho, hne⟩ := HW2.out.row a ham
        obtain ⟨A7, c7, he7, -⟩ := own_slice ho
        have s0 := HW2.out.b0
        have s1 := HW2.out.b1
        have s2 := HW2.out.to.cell ham
        rw [he7] at s2 ho
        have q0 : W2.cell? ⟨B, 0, none⟩ = some (.int .i64 (a : Int)) := q0
        have q1 : W2.cell? ⟨B, 1, none⟩ = some (.int .i64 (b : Int)) := q1
        obtain ⟨L, hL⟩ : ∃ L, outs (arcs.take k) (a : Int) = L := ⟨_, rfl⟩
        have hLl : L.length ≤ 16384 := by
          rw [← hL]
          unfold outs
          rw [List.length_map]
          have h1 := List.length_filter_le (fun x : Int × Int => x.1 == (a : Int)) (arcs.take k)
          have h2 := List.length_take_le k arcs
          omega
        rw [hL] at s2 ho he7
        have HL := Lib.hid hL
        have HOW := Lib.hid ho
        have HNE := Lib.hid hne
        have HE7 := Lib.hid he7
        have hBne : ∀ g, (f a).ownBlock = some g → g ≠ B := fun g hg => by have := HOB.out a ham g hg; omega
        have HBNE := Lib.hid hBne
        have hS : (fun W' : World => W'.cell? ⟨p, 0, none⟩ = some (.slice (some ⟨gT, 0, none⟩) m m) ∧ W'.cell? ⟨B, 0, none⟩ = some (.int .i64 (a : Int)) ∧ W'.cell? ⟨B, 1, none⟩ = some (.int .i64 (b : Int)) ∧ W'.cell? ⟨gT, a, none⟩ = some (.slice A7 L.length c7)) W2.drew := ⟨s0, q0, q1, s2⟩
        have HZ2 : Hid (w.heap.size ≤ W2.heap.size) := HBX.out.size
        clear s0 s1 s2 q0 hL hne he7 ho hbx hBne hB
        refine wp_region_last (S := fun W' : World => W'.cell? ⟨p, 0, none⟩ = some (.slice (some ⟨gT, 0, none⟩) m m) ∧ W'.cell? ⟨B, 0, none⟩ = some (.int .i64 (a : Int)) ∧ W'.cell? ⟨B, 1, none⟩ = some (.int .i64 (b : Int)) ∧ W'.cell? ⟨gT, a, none⟩ = some (.slice A7 L.length c7)) (st := 19) (by kernel_rfl) (fun hsh => ?_)
        change wpAnyL _ _ _ _ _ _ 20 (Array.replicate 20 false) _ W2.drew
        replace hsh : Shut .any _ (Array.replicate 20 false) := hsh
        refine wpAnyL_take (i := 0) (oi := { dst := some 47, op := Op.move (Operand.tmp 6), type := 37, pos := "rank.go:26", after := #[], guard := none }) (fuel := 19) (v := ?_) rfl (by kernel_rfl) (by kernel_rfl) (by kernel_rfl) (by kernel_rfl) hsh (fun _ _ _ h => h) (Or.inl ⟨by rfl, ?_⟩) hS (fun hsh => ?_)
        rotate_left
        · intro W' hW
          obtain ⟨g1, g2, g3, g4⟩ := hW
          go_simp <;> with_reducible rfl
        simp only [Act.put, List.setIfInBounds_toArray, List.set_cons_zero, List.set_cons_succ] at hsh ⊢
        refine wpAnyL_take (i := 1) (oi := { dst := some 48, op := Op.nilCheck (Operand.tmp 47), type := 0, pos := "rank.go:26", after := #[{ on := 0, ground := Ground.data }], guard := none }) (fuel := 18) (v := ?_) rfl (by kernel_rfl) (by kernel_rfl) (by kernel_rfl) (by kernel_rfl) hsh (fun _ _ _ h => h) (Or.inl ⟨by rfl, ?_⟩) hS (fun hsh => ?_)
        rotate_left
        · intro W' hW
          obtain ⟨g1, g2, g3, g4⟩ := hW
          go_simp <;> with_reducible rfl
        simp only [Act.put, List.setIfInBounds_toArray, List.set_cons_zero, List.set_cons_succ] at hsh ⊢
        refine wpAnyL_take (i := 2) (oi := { dst := some 49, op := Op.fieldAddr 48 (Operand.tmp 48) 0, type := 0, pos := "rank.go:26", after := #[{ on := 1, ground := Ground.data }], guard := none }) (fuel := 17) (v := ?_) rfl (by kernel_rfl) (by kernel_rfl) (by kernel_rfl) (by kernel_rfl) hsh (fun _ _ _ h => h) (Or.inl ⟨by rfl, ?_⟩) hS (fun hsh => ?_)
        rotate_left
        · intro W' hW
          obtain ⟨g1, g2, g3, g4⟩ := hW
          go_simp <;> with_reducible rfl
        simp only [Act.put, List.setIfInBounds_toArray, List.set_cons_zero, List.set_cons_succ] at hsh ⊢
        refine wpAnyL_take (i := 3) (oi := { dst := some 50, op := Op.load 46 (Operand.tmp 49), type := 46, pos := "rank.go:26", after := #[{ on := 2, ground := Ground.data }], guard := none }) (fuel := 16) (v := ?_) rfl (by kernel_rfl) (by kernel_rfl) (by kernel_rfl) (by kernel_rfl) hsh (fun _ _ _ h => h) (Or.inl ⟨by rfl, ?_⟩) hS (fun hsh => ?_)
        rotate_left
        · intro W' hW
          obtain ⟨g1, g2, g3, g4⟩ := hW
          go_simp <;> with_reducible rfl
        simp only [Act.put, List.setIfInBounds_toArray, List.set_cons_zero, List.set_cons_succ] at hsh ⊢
        refine wpAnyL_take (i := 4) (oi := { dst := some 51, op := Op.indexAddr 34 (Operand.tmp 8) (Operand.const (Value.int IntKind.i64 0)), type := 0, pos := "rank.go:26", after := #[], guard := none }) (fuel := 15) (v := ?_) rfl (by kernel_rfl) (by kernel_rfl) (by kernel_rfl) (by kernel_rfl) hsh (fun _ _ _ h => h) (Or.inl ⟨by rfl, ?_⟩) hS (fun hsh => ?_)
        rotate_left
        · intro W' hW
          obtain ⟨g1, g2, g3, g4⟩ := hW
          go_simp <;> with_reducible rfl
        simp only [Act.put, List.setIfInBounds_toArray, List.set_cons_zero, List.set_cons_succ] at hsh ⊢
        refine wpAnyL_take (i := 5) (oi := { dst := some 52, op := Op.load 3 (Operand.tmp 51), type := 3, pos := "rank.go:26", after := #[{ on := 4, ground := Ground.data }], guard := none }) (fuel := 14) (v := ?_) rfl (by kernel_rfl) (by kernel_rfl) (by kernel_rfl) (by kernel_rfl) hsh (fun _ _ _ h => h) (Or.inl ⟨by rfl, ?_⟩) hS (fun hsh => ?_)
        rotate_left
        · intro W' hW
          obtain ⟨g1, g2, g3, g4⟩ := hW
          go_simp <;> with_reducible rfl
        simp only [Act.put, List.setIfInBounds_toArray, List.set_cons_zero, List.set_cons_succ] at hsh ⊢
        refine wpAnyL_take (i := 6) (oi := { dst := some 53, op := Op.move (Operand.tmp 6), type := 37, pos := "rank.go:26", after := #[], guard := none }) (fuel := 13) (v := ?_) rfl (by kernel_rfl) (by kernel_rfl) (by kernel_rfl) (by kernel_rfl) hsh (fun _ _ _ h => h) (Or.inl ⟨by rfl, ?_⟩) hS (fun hsh => ?_)
        rotate_left
        · intro W' hW
          obtain ⟨g1, g2, g3, g4⟩ := hW
          go_simp <;> with_reducible rfl
        simp only [Act.put, List.setIfInBounds_toArray, List.set_cons_zero, List.set_cons_succ] at hsh ⊢
        refine wpAnyL_take (i := 7) (oi := { dst := some 54, op := Op.nilCheck (Operand.tmp 53), type := 0, pos := "rank.go:26", after := #[{ on := 6, ground := Ground.data }], guard := none }) (fuel := 12) (v := ?_) rfl (by kernel_rfl) (by kernel_rfl) (by kernel_rfl) (by kernel_rfl) hsh (fun _ _ _ h => h) (Or.inl ⟨by rfl, ?_⟩) hS (fun hsh => ?_)
        rotate_left
        · intro W' hW
          obtain ⟨g1, g2, g3, g4⟩ := hW
          go_simp <;> with_reducible rfl
        simp only [Act.put, List.setIfInBounds_toArray, List.set_cons_zero, List.set_cons_succ] at hsh ⊢
        refine wpAnyL_take (i := 8) (oi := { dst := some 55, op := Op.fieldAddr 48 (Operand.tmp 54) 0, type := 0, pos := "rank.go:26", after := #[{ on := 7, ground := Ground.data }], guard := none }) (fuel := 11) (v := ?_) rfl (by kernel_rfl) (by kernel_rfl) (by kernel_rfl) (by kernel_rfl) hsh (fun _ _ _ h => h) (Or.inl ⟨by rfl, ?_⟩) hS (fun hsh => ?_)
        rotate_left
        · intro W' hW
          obtain ⟨g1, g2, g3, g4⟩ := hW
          go_simp <;> with_reducible rfl
        simp only [Act.put, List.setIfInBounds_toArray, List.set_cons_zero, List.set_cons_succ] at hsh ⊢
        refine wpAnyL_take (i := 9) (oi := { dst := some 56, op := Op.load 46 (Operand.tmp 55), type := 46, pos := "rank.go:26", after := #[{ on := 8, ground := Ground.data }], guard := none }) (fuel := 10) (v := ?_) rfl (by kernel_rfl) (by kernel_rfl) (by kernel_rfl) (by kernel_rfl) hsh (fun _ _ _ h => h) (Or.inl ⟨by rfl, ?_⟩) hS (fun hsh => ?_)
        rotate_left
        · intro W' hW
          obtain ⟨g1, g2, g3, g4⟩ := hW
          go_simp <;> with_reducible rfl
        simp only [Act.put, List.setIfInBounds_toArray, List.set_cons_zero, List.set_cons_succ] at hsh ⊢
        refine wpAnyL_take (i := 10) (oi := { dst := some 57, op := Op.indexAddr 34 (Operand.tmp 8) (Operand.const (Value.int IntKind.i64 0)), type := 0, pos := "rank.go:26", after := #[], guard := none }) (fuel := 9) (v := ?_) rfl (by kernel_rfl) (by kernel_rfl) (by kernel_rfl) (by kernel_rfl) hsh (fun _ _ _ h => h) (Or.inl ⟨by rfl, ?_⟩) hS (fun hsh => ?_)
        rotate_left
        · intro W' hW
          obtain ⟨g1, g2, g3, g4⟩ := hW
          go_simp <;> with_reducible rfl
        simp only [Act.put, List.setIfInBounds_toArray, List.set_cons_zero, List.set_cons_succ] at hsh ⊢
        refine wpAnyL_take (i := 11) (oi := { dst := some 58, op := Op.load 3 (Operand.tmp 57), type := 3, pos := "rank.go:26", after := #[{ on := 10, ground := Ground.data }], guard := none }) (fuel := 8) (v := ?_) rfl (by kernel_rfl) (by kernel_rfl) (by kernel_rfl) (by kernel_rfl) hsh (fun _ _ _ h => h) (Or.inl ⟨by rfl, ?_⟩) hS (fun hsh => ?_)
        rotate_left
        · intro W' hW
          obtain ⟨g1, g2, g3, g4⟩ := hW
          go_simp <;> with_reducible rfl
        simp only [Act.put, List.setIfInBounds_toArray, List.set_cons_zero, List.set_cons_succ] at hsh ⊢
        refine wpAnyL_take (i := 12) (oi := { dst := some 59, op := Op.indexAddr 46 (Operand.tmp 56) (Operand.tmp 58), type := 0, pos := "rank.go:26", after := #[{ on := 9, ground := Ground.data }, { on := 11, ground := Ground.data }], guard := none }) (fuel := 7) (v := ?_) rfl (by kernel_rfl) (by kernel_rfl) (by kernel_rfl) (by kernel_rfl) hsh (fun _ _ _ h => h) (Or.inl ⟨by rfl, ?_⟩) hS (fun hsh => ?_)
        rotate_left
        · intro W' hW
          obtain ⟨g1, g2, g3, g4⟩ := hW
          go_simp <;> with_reducible rfl
        simp only [Act.put, List.setIfInBounds_toArray, List.set_cons_zero, List.set_cons_succ] at hsh ⊢
        refine wpAnyL_take (i := 13) (oi := { dst := some 60, op := Op.load 25 (Operand.tmp 59), type := 25, pos := "rank.go:26", after := #[{ on := 12, ground := Ground.data }], guard := none }) (fuel := 6) (v := ?_) rfl (by kernel_rfl) (by kernel_rfl) (by kernel_rfl) (by kernel_rfl) hsh (fun _ _ _ h => h) (Or.inl ⟨by rfl, ?_⟩) hS (fun hsh => ?_)
        rotate_left
        · intro W' hW
          obtain ⟨g1, g2, g3, g4⟩ := hW
          go_simp <;> with_reducible rfl
        simp only [Act.put, List.setIfInBounds_toArray, List.set_cons_zero, List.set_cons_succ] at hsh ⊢
        refine wpAnyL_take (i := 14) (oi := { dst := some 61, op := Op.indexAddr 34 (Operand.tmp 8) (Operand.const (Value.int IntKind.i64 1)), type := 0, pos := "rank.go:26", after := #[], guard := none }) (fuel := 5) (v := ?_) rfl (by kernel_rfl) (by kernel_rfl) (by kernel_rfl) (by kernel_rfl) hsh (fun _ _ _ h => h) (Or.inl ⟨by rfl, ?_⟩) hS (fun hsh => ?_)
        rotate_left
        · intro W' hW
          obtain ⟨g1, g2, g3, g4⟩ := hW
          go_simp <;> with_reducible rfl
        simp only [Act.put, List.setIfInBounds_toArray, List.set_cons_zero, List.set_cons_succ] at hsh ⊢
        refine wpAnyL_take (i := 15) (oi := { dst := some 62, op := Op.load 3 (Operand.tmp 61), type := 3, pos := "rank.go:26", after := #[{ on := 14, ground := Ground.data }], guard := none }) (fuel := 4) (v := ?_) rfl (by kernel_rfl) (by kernel_rfl) (by kernel_rfl) (by kernel_rfl) hsh (fun _ _ _ h => h) (Or.inl ⟨by rfl, ?_⟩) hS (fun hsh => ?_)
        rotate_left
        · intro W' hW
          obtain ⟨g1, g2, g3, g4⟩ := hW
          go_simp <;> with_reducible rfl
        simp only [Act.put, List.setIfInBounds_toArray, List.set_cons_zero, List.set_cons_succ] at hsh ⊢
        refine wpAnyL_one (i := 16) (oi := { dst := some 63, op := Op.buildSlice 25 1 #[(0, Operand.tmp 62)], type := 25, pos := "rank.go:26", after := #[{ on := 15, ground := Ground.data }], guard := none }) (fuel := 3) (by kernel_rfl) rfl (fun K hK => ?_)
        go_simp
        refine hK _ _ ⟨fun _ => ⟨cell_below (below_alloc W2.drew _) HW2.out.lP hS.1, cell_below (below_alloc W2.drew _) hB2 hS.2.1, cell_below (below_alloc W2.drew _) hB2 hS.2.2.1, cell_below (below_alloc W2.drew _) HW2.out.to.lt hS.2.2.2⟩, ?_⟩
        refine wpAnyL_one (i := 17) (oi := { dst := some 64, op := Op.call { callee := Callee.builtin Builtin.append, args := #[Operand.tmp 60, Operand.tmp 63], argTypes := #[25, 25] }, type := 25, pos := "rank.go:26", after := #[{ on := 13, ground := Ground.data }, { on := 16, ground := Ground.data }], guard := none }) (fuel := 2) (by kernel_rfl) rfl (fun K hK => ?_)
        refine step_append1 HOW.out.drew HZ2.out (by omega) 25 Try.underlying25 info_intB ⟨rfl, by decide, by decide⟩ _ (oneI _) (by exact ⟨rfl, rfl, rfl, rfl, rfl⟩) ?_
        intro v3 w3 ho3 hu3
        obtain ⟨A8, c8, rfl, -⟩ := own_slice ho3
        have hk3 : ∀ (g j : Nat) v, (∀ g', (f a).ownBlock = some g' → g' ≠ g) → W2.cell? ⟨g, j, none⟩ = some v → w3.cell? ⟨g, j, none⟩ = some v := fun g j v h1 h2 => hu3.1.cell (a := ⟨g, j, none⟩) h2 (fun e => by
          have e2 : (Value.slice A7 L.length c7).ownBlock = some g := e.symm
          rw [← HE7.out] at e2
          exact h1 g e2 rfl)
        have y0 := hk3 p 0 _ (fun g' hg => (HNE.out g' hg).2.2) hS.1
        have y1 := hk3 B 0 _ HBNE.out hS.2.1
        have y2 := hk3 B 1 _ HBNE.out hS.2.2.1
        have y3 := hk3 gT a _ (fun g' hg => (HNE.out g' hg).2.1) hS.2.2.2
        refine hK _ _ ⟨fun _ => ⟨y0, y1, y2, y3⟩, ?_⟩
        have y4 : w3.frozen? ⟨gT, a, none⟩ = false := by
          have h1 : w3.heap[gT]? = W2.heap[gT]? := hu3.1.block gT HW2.out.to.lt (fun e => by
            have e2 : (Value.slice A7 L.length c7).ownBlock = some gT := e.symm
            rw [← HE7.out] at e2
            exact (HNE.out gT e2).2.1 rfl)
          exact (World.frozen?_of_block (a := ⟨gT, a, none⟩) h1).trans (HW2.out.to.frozen a)
        have hW3 := Web.push (b := (b : Int)) (HW2.out.below (W' := W2.drew) (Below.refl _ _).drew) HZ2.out ham (v' := .slice A8 (L.length + 1) c8) (W1 := w3) (by simp only [HL.out]; exact ho3) (by rw [HE7.out]; exact hu3)
        simp only [Act.put, List.setIfInBounds_toArray, List.set_cons_zero, List.set_cons_succ]
        refine wpAnyL_one (i := 18) (oi := { dst := some 65, op := Op.indexAddr 46 (Operand.tmp 50) (Operand.tmp 52), type := 0, pos := "rank.go:26", after := #[{ on := 3, ground := Ground.data }, { on := 5, ground := Ground.data }, { on := 0, ground := Ground.phase }, { on := 1, ground := Ground.phase }, { on := 2, ground := Ground.phase }, { on := 3, ground := Ground.phase }, { on := 4, ground := Ground.phase }, { on := 5, ground := Ground.phase }, { on := 6, ground := Ground.phase }, { on := 7, ground := Ground.phase }, { on := 8, ground := Ground.phase }, { on := 9, ground := Ground.phase }, { on := 10, ground := Ground.phase }, { on := 11, ground := Ground.phase }, { on := 12, ground := Ground.phase }, { on := 13, ground := Ground.phase }, { on := 14, ground := Ground.phase }, { on := 15, ground := Ground.phase }, { on := 16, ground := Ground.phase }, { on := 17, ground := Ground.phase }], guard := none }) (fuel := 1) (by kernel_rfl) rfl (fun K hK => ?_)
        go_simp
        refine hK _ _ ⟨fun _ => ⟨y0, y1, y2, y3⟩, ?_⟩
        refine wpAnyL_one (i := 19) (oi := { dst := none, op := Op.store 25 (Operand.tmp 65) (Operand.tmp 64), type := 0, pos := "rank.go:26", after := #[{ on := 18, ground := Ground.data }, { on := 17, ground := Ground.data }, { on := 17, ground := Ground.chain }, { on := 0, ground := Ground.phase }, { on := 1, ground := Ground.phase }, { on := 2, ground := Ground.phase }, { on := 3, ground := Ground.phase }, { on := 4, ground := Ground.phase }, { on := 5, ground := Ground.phase }, { on := 6, ground := Ground.phase }, { on := 7, ground := Ground.phase }, { on := 8, ground := Ground.phase }, { on := 9, ground := Ground.phase }, { on := 10, ground := Ground.phase }, { on := 11, ground := Ground.phase }, { on := 12, ground := Ground.phase }, { on := 13, ground := Ground.phase }, { on := 14, ground := Ground.phase }, { on := 15, ground := Ground.phase }, { on := 16, ground := Ground.phase }, { on := 17, ground := Ground.phase }], guard := none }) (fuel := 0) (by kernel_rfl) rfl (fun K hK => ?_)
        go_simp
        refine hK _ _ ⟨fun h => absurd rfl h, ?_⟩
        refine wpAnyL_done (by kernel_rfl) ?_ _
        have HB3 : Hid (Below w.heap.size w (w3.setCell ⟨gT, a, none⟩ (.slice A8 (L.length + 1) c8))) := by
          refine below_set ?_ HW2.out.pT _ _
          have h1 : Below w.heap.size W2.drew w3 := hu3.below HZ2.out (own_base HOW.out.drew)
          exact (HBX.out.drew).trans h1
        have q1 : (w3.setCell ⟨gT, a, none⟩ (.slice A8 (L.length + 1) c8)).cell? ⟨B, 1, none⟩ = some (.int .i64 (b : Int)) := mem_ne (.inl (by omega)) y2
        generalize w3.setCell ⟨gT, a, none⟩ (.slice A8 (L.length + 1) c8) = W3 at *
        obtain ⟨z, hz⟩ : ∃ z, into (arcs.take k) (b : Int) = z := ⟨_, rfl⟩
        have hz0 : 0 ≤ z ∧ z ≤ 16384 := by
          rw [← hz]
          unfold into
          have h1 := List.countP_le_length (p := fun x : Int × Int => x.2 == (b : Int)) (l := arcs.take k)
          have h2 := List.length_take_le k arcs
          omega
        have c1 := hW3.b1
        have c2 := hW3.wait.cell hbm
        have c3 := hW3.wait.frozen b
        rw [hz] at c2
        have hW4 := (hW3.count b (z + 1)).below (below_drewN _ 1)
        have HB4 := Lib.hid ((below_set HB3.out HW2.out.pW b (.int .i64 (z + 1))).drew)
        have HW4 : Hid (Web ((W3.setCell ⟨gW, b, none⟩ (.int .i64 (z + 1))).drew) w.heap.size p gT gW m (fun v => outs (arcs.take (k + 1)) v) (fun v => into (arcs.take (k + 1)) v) _) := hW4.congr (fun v hv => by
          simp only [htk.out, outs_snoc]
          by_cases e : v = a
          · subst e; simp
          · rw [if_neg e, if_neg (by omega)]) (fun v hv => by
          simp only [htk.out, into_snoc]
          by_cases e : v = b
          · subst e; rw [if_pos rfl, if_pos rfl, hz]
          · rw [if_neg e, if_neg (by omega)])
        have hz1' : -9223372036854775808 ≤ z + 1 ∧ z + 1 ≤ 9223372036854775807 := by omega
        clear hW3 hW4 hz y0 y1 y2 y3 y4 ho3 hu3 hk3 hS
        go_wp2_with fail
        go_region
        all_goals
          go_wp2_with fail
          go_roundg (gk - 1)
          case measure => have := HG.out; omega
          case rel => exact ⟨k + 1, _, by go_num, by omega, by have := HG.out; show n - (k + 1) ≤ gk - 1; omega, HB4.out, HW4.out, HOK2.out⟩
      · obtain rfl : k = n := by omega
        have k1 : ¬ (k : Int) < (k : Int) := by omega
        have hall : arcs.take k = arcs := List.take_of_length_le (by have := HN.out; omega)
        rw [hall] at HW HOK
        have hok : arcsOk (m : Int) arcs := ⟨by omega, by omega, by have := HN.out; omega, HOK.out⟩
        clear hall
        go_wp2_with fail
        go_ret2
        exact ⟨HB.out, fun _ => ⟨p, gT, gW, f, rfl, HW.out⟩, fun h => absurd hok h⟩
end Go.Proofs.Yteonpfomlmfkjaa
