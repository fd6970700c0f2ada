/- Law RankMore: one arc more. -/
import Derived.Test.YteonpfomlmfkjaaRkAwk
import Derived.Test.YteonpfomlmfkjaaAppArcs
import Derived.Test.YteonpfomlmfkjaaRankMoreP
import Derived.Test.YteonpfomlmfkjaaRkRef2
namespace Go.Proofs.Yteonpfomlmfkjaa
open Go Go.RowKit
set_option maxRecDepth 100000

theorem order_code (z : Int) (arcs : List (Int × Int)) : ((orderOf z arcs).1 = 0 ∧ arcsOk z arcs ∧ (kahn z.toNat arcs z.toNat).length = z.toNat ∧ (orderOf z arcs).2 = kahn z.toNat arcs z.toNat) ∨ ((orderOf z arcs).1 ≠ 0 ∧ (orderOf z arcs).2 = []) := by
  unfold orderOf
  split
  · rename_i hok
    split
    · rename_i hf
      exact .inl ⟨rfl, hok, hf, rfl⟩
    · exact .inr ⟨by decide, rfl⟩
  · exact .inr ⟨by decide, rfl⟩

theorem more_order {m : Nat} {arcs : List (Int × Int)} {i j : Nat} {u v : Int} (hok : arcsOk (m : Int) arcs) (hl : arcs.length ≤ 16382) (hf : (kahn m arcs m).length = m) (hi : (kahn m arcs m)[i]? = some u) (hj : (kahn m arcs m)[j]? = some v) (hij : i < j) :
    orderOf (m : Int) (arcs ++ [(u, v)]) = (0, kahn m arcs m) ∧ orderOf (m : Int) (arcs ++ [(u, v)] ++ [(v, u)]) = (150, []) ∧ ∃ P, cycleOf (m : Int) (arcs ++ [(u, v)] ++ [(v, u)]) = (0, P) ∧ 0 < P.length ∧ P.length ≤ 2 := by
  have hu := (kahn_nodup m arcs m).2 u (List.mem_of_getElem? hi)
  have hv := (kahn_nodup m arcs m).2 v (List.mem_of_getElem? hj)
  have hne : u ≠ v := by
    intro e
    obtain ⟨a1, a2⟩ := List.getElem?_eq_some_iff.1 hi
    obtain ⟨b1, b2⟩ := List.getElem?_eq_some_iff.1 hj
    exact List.pairwise_iff_getElem.1 (kahn_nodup m arcs m).1 i j a1 b1 hij (a2.trans (e.trans b2.symm))
  have hr1 : ∀ a ∈ arcs ++ [(u, v)], 0 ≤ a.1 ∧ a.1 < (m : Int) ∧ 0 ≤ a.2 ∧ a.2 < (m : Int) := by
    intro a ha
    rcases List.mem_append.1 ha with ha | ha
    · exact hok.2.2.2 a ha
    · rw [List.mem_singleton.1 ha]; exact ⟨hu.1, hu.2, hv.1, hv.2⟩
  have hr2 : ∀ a ∈ arcs ++ [(u, v)] ++ [(v, u)], 0 ≤ a.1 ∧ a.1 < (m : Int) ∧ 0 ≤ a.2 ∧ a.2 < (m : Int) := by
    intro a ha
    rcases List.mem_append.1 ha with ha | ha
    · exact hr1 a ha
    · rw [List.mem_singleton.1 ha]; exact ⟨hv.1, hv.2, hu.1, hu.2⟩
  have hok1 : arcsOk (m : Int) (arcs ++ [(u, v)]) := ⟨hok.1, hok.2.1, by rw [List.length_append]; simp; omega, hr1⟩
  have hok2 : arcsOk (m : Int) (arcs ++ [(u, v)] ++ [(v, u)]) := ⟨hok.1, hok.2.1, by rw [List.length_append, List.length_append]; simp; omega, hr2⟩
  have hk := (kahn_more hf hi hj hij m (Nat.le_refl _)).1
  obtain ⟨h1, P, h2, h3, h4⟩ := two_circle (n := m) (arcs := arcs ++ [(u, v)] ++ [(v, u)]) hr2 hne (by simp) (by simp)
  refine ⟨?_, ?_, P, ?_, h3, h4⟩
  · unfold orderOf
    rw [if_pos hok1]
    show (if (kahn m (arcs ++ [(u, v)]) m).length = m then (0, kahn m (arcs ++ [(u, v)]) m) else (150, [])) = _
    rw [hk, if_pos hf]
  · unfold orderOf
    rw [if_pos hok2]
    exact if_neg h1
  · unfold cycleOf
    rw [if_pos hok2]
    show (0, (cycUp m (arcs ++ [(u, v)] ++ [(v, u)]) m).getD []) = _
    rw [h2]
    rfl

set_option maxHeartbeats 8000000 in
theorem rkmore_calls (A : Option Addr) (n c : Nat) (arcs : List (Int × Int)) (z i j : Int) (w : World) (hr : RdArcs w A arcs) (hn : arcs.length = n) (hcap : n ≤ 9223372036854775807) (hz1 : -9223372036854775808 ≤ z) (hz2 : z ≤ 9223372036854775807) :
    Calls Try.prog 4 #[.agg #[.int .i64 z, .slice A n c, .int .i64 i, .int .i64 j]] w fun e w' => e = .returned (.bool true) ∧ Below w.heap.size w w' := by
  have hb0 := below_alloc w (.cells #[.int .i64 z, .slice A n c, .int .i64 i, .int .i64 j] 33)
  have q0 := new_cell w #[.int .i64 z, .slice A n c, .int .i64 i, .int .i64 j] 33 0
  have q1 := new_cell w #[.int .i64 z, .slice A n c, .int .i64 i, .int .i64 j] 33 1
  have q2 := new_cell w #[.int .i64 z, .slice A n c, .int .i64 i, .int .i64 j] 33 2
  have q3 := new_cell w #[.int .i64 z, .slice A n c, .int .i64 i, .int .i64 j] 33 3
  have HB0 := Lib.hid hb0
  have HA := Lib.hid (fun (W : World) => awake15 W)
  have HP := Lib.hid (fun (W : World) (h : Below w.heap.size w W) => orderf_calls A n c arcs z W (hr.below h) hn hcap hz1 hz2)
  have HCODE := Lib.hid (order_code z arcs)
  obtain ⟨code, L, hag⟩ : ∃ code L, orderOf z arcs = (code, L) := ⟨_, _, rfl⟩
  rw [hag] at HP HCODE
  have HR := Lib.hid hr
  have HN := Lib.hid hn
  clear hr hn hag hb0
  go_enter Try.func4, Try.ntmps4
  go_wp2_with fail
  go_quiet (fail)
  have HB1 := Lib.hid (Below.then HB0.out HB0.out.size (below_drewN _ nq))
  clear q0 q1 q2 q3
  generalize (w.alloc (.cells #[.int .i64 z, .slice A n c, .int .i64 i, .int .i64 j] 33)).drewN nq = W1 at *
  go_wp2_with fail
  refine (HA.out W1).mono ?_
  rintro _ w1 ⟨rfl, hb1⟩
  have HB2 := Lib.hid (Below.then HB1.out HB1.out.size hb1)
  clear hb1 HA
  go_wp2_with fail
  (with_reducible refine (HP.out _ HB2.out).mono ?_)
  rintro _ w2 ⟨hb2, A2, c2, rfl, ho2⟩
  have HB3 := Lib.hid (Below.then HB2.out HB2.out.size hb2)
  clear hb2
  rcases HCODE.out with ⟨h1, h2, h3, h4⟩ | ⟨h1, h2⟩
  rotate_left
  · change code ≠ 0 at h1
    have f1 : (code != 0) = true := by rw [bne_iff_ne]; exact h1
    clear h1 ho2
    go_wp2_with fail
    go_ret
    exact ⟨rfl, HB3.out⟩
  change code = 0 at h1
  change L = _ at h4
  subst h1
  obtain ⟨m, rfl⟩ : ∃ m : Nat, z = (m : Int) := ⟨z.toNat, by have := h2.1; omega⟩
  have h3 : (kahn m arcs m).length = m := h3
  have h4 : L = kahn m arcs m := h4
  have hL : L.length = m := by rw [h4]; exact h3
  have HMO := Lib.hid (fun (i j : Nat) (u v : Int) (hl : n ≤ 16382) (hi : L[i]? = some u) (hj : L[j]? = some v) (hij : i < j) => more_order h2 (by have := HN.out; omega) h3 (by rw [← h4]; exact hi) (by rw [← h4]; exact hj) hij)
  rw [← h4] at HMO
  simp only [hL] at ho2 ⊢
  have HO2 := Lib.hid ho2
  have HL := Lib.hid hL
  have hm : m ≤ 4096 := by have := h2.2.1; omega
  clear h2 h3 h4 hL ho2 HCODE HP
  by_cases k1 : i < 0
  · go_wp2_with fail
    go_ret
    exact ⟨rfl, HB3.out⟩
  by_cases k2 : j ≤ i
  · go_wp2_with fail
    go_ret
    exact ⟨rfl, HB3.out⟩
  by_cases k3 : (m : Int) ≤ j
  · go_wp2_with fail
    go_ret
    exact ⟨rfl, HB3.out⟩
  by_cases k4 : (16383 : Int) ≤ (n : Int)
  · go_wp2_with fail
    go_ret
    exact ⟨rfl, HB3.out⟩
  obtain ⟨i, rfl⟩ : ∃ k : Nat, i = (k : Int) := ⟨i.toNat, by omega⟩
  obtain ⟨j, rfl⟩ : ∃ k : Nat, j = (k : Int) := ⟨j.toNat, by omega⟩
  have hij : i < j := by omega
  have hjm : j < m := by omega
  have him : i < m := by omega
  have iI : (i : Int) < (m : Int) := by omega
  have jI : (j : Int) < (m : Int) := by omega
  obtain ⟨u, hu⟩ : ∃ u, L[i]? = some u := ⟨_, List.getElem?_eq_getElem (by have := HL.out; omega)⟩
  obtain ⟨v, hv⟩ : ∃ v, L[j]? = some v := ⟨_, List.getElem?_eq_getElem (by have := HL.out; omega)⟩
  obtain ⟨g2, rfl, hg2, _, hc2⟩ := own_at HO2.out (by omega)
  have e1 := hc2 i (.int .i64 u) (by simp [intCells, hu])
  have e2 := hc2 j (.int .i64 v) (by simp [intCells, hv])
  rw [add_plain] at e1 e2
  have HMX := Lib.hid (HMO.out i j u v (by omega) hu hv hij)
  clear hc2 hu hv HMO
  have HRB := Lib.hid (HR.out.below HB3.out)
  have hn6 : n ≤ 1000000 := by omega
  go_wp2_with fail
  go_cut [9] (fun v9 wc => Hid (wc.ownsRow w2.heap.size 34 2 v9 (n + 1) (stopCells (arcs ++ [(u, v)]))) ∧ Hid (Below w2.heap.size w2 wc))
  case first =>
    clear HMX HB0 HB1 HB2
    go_wp2_with fail
    have HE := Lib.hid (fun (W' : World) (h : Below w2.heap.size w2 W') => (⟨cell_below h hg2 e1, cell_below h hg2 e2⟩ : W'.cell? ⟨g2, i, none⟩ = some (.int .i64 u) ∧ W'.cell? ⟨g2, j, none⟩ = some (.int .i64 v)))
    have hS : Below w2.heap.size w2 w2.drew := (Below.refl _ _).drew
    clear e1 e2
    refine wp_region_last (S := fun W' : World => Below w2.heap.size w2 W') (st := 13) (by kernel_rfl) (fun hsh => ?_)
    change wpAnyL _ _ _ _ _ _ 14 (Array.replicate 14 false) _ w2.drew
    replace hsh : Shut .any _ (Array.replicate 14 false) := hsh
    refine wpAnyL_take (i := 0) (oi := { dst := some 54, op := Op.move (Operand.tmp 4), type := 22, pos := "law.go:134", after := #[], guard := none }) (fuel := 13) (v := ?_) rfl (by kernel_rfl) (by kernel_rfl) (by kernel_rfl) (by kernel_rfl) hsh (fun _ _ _ h => h) (Or.inl ⟨by rfl, ?_⟩) hS (fun hsh => ?_)
    rotate_left
    · intro W' hW
      obtain ⟨g1, g2⟩ := HE.out W' hW
      go_simp <;> with_reducible rfl
    simp only [Act.put, List.setIfInBounds_toArray, List.set_cons_zero, List.set_cons_succ] at hsh ⊢
    refine wpAnyL_take (i := 2) (oi := { dst := some 56, op := Op.move (Operand.tmp 7), type := 25, pos := "law.go:134", after := #[], guard := none }) (fuel := 12) (v := ?_) rfl (by kernel_rfl) (by kernel_rfl) (by kernel_rfl) (by kernel_rfl) hsh (fun _ _ _ h => h) (Or.inl ⟨by rfl, ?_⟩) hS (fun hsh => ?_)
    rotate_left
    · intro W' hW
      obtain ⟨g1, g2⟩ := HE.out W' hW
      go_simp <;> with_reducible rfl
    simp only [Act.put, List.setIfInBounds_toArray, List.set_cons_zero, List.set_cons_succ] at hsh ⊢
    refine wpAnyL_take (i := 3) (oi := { dst := some 57, op := Op.move (Operand.tmp 5), type := 3, pos := "law.go:134", after := #[], guard := none }) (fuel := 11) (v := ?_) rfl (by kernel_rfl) (by kernel_rfl) (by kernel_rfl) (by kernel_rfl) hsh (fun _ _ _ h => h) (Or.inl ⟨by rfl, ?_⟩) hS (fun hsh => ?_)
    rotate_left
    · intro W' hW
      obtain ⟨g1, g2⟩ := HE.out W' hW
      go_simp <;> with_reducible rfl
    simp only [Act.put, List.setIfInBounds_toArray, List.set_cons_zero, List.set_cons_succ] at hsh ⊢
    refine wpAnyL_take (i := 4) (oi := { dst := some 58, op := Op.indexAddr 25 (Operand.tmp 56) (Operand.tmp 57), type := 0, pos := "law.go:134", after := #[{ on := 2, ground := Ground.data }, { on := 3, ground := Ground.data }], guard := none }) (fuel := 10) (v := ?_) rfl (by kernel_rfl) (by kernel_rfl) (by kernel_rfl) (by kernel_rfl) hsh (fun _ _ _ h => h) (Or.inl ⟨by rfl, ?_⟩) hS (fun hsh => ?_)
    rotate_left
    · intro W' hW
      obtain ⟨g1, g2⟩ := HE.out W' hW
      go_simp <;> with_reducible rfl
    simp only [Act.put, List.setIfInBounds_toArray, List.set_cons_zero, List.set_cons_succ] at hsh ⊢
    refine wpAnyL_take (i := 5) (oi := { dst := some 59, op := Op.load 3 (Operand.tmp 58), type := 3, pos := "law.go:134", after := #[{ on := 4, ground := Ground.data }], guard := none }) (fuel := 9) (v := ?_) rfl (by kernel_rfl) (by kernel_rfl) (by kernel_rfl) (by kernel_rfl) hsh (fun _ _ _ h => h) (Or.inl ⟨by rfl, ?_⟩) hS (fun hsh => ?_)
    rotate_left
    · intro W' hW
      obtain ⟨g1, g2⟩ := HE.out W' hW
      go_simp <;> with_reducible rfl
    simp only [Act.put, List.setIfInBounds_toArray, List.set_cons_zero, List.set_cons_succ] at hsh ⊢
    refine wpAnyL_take (i := 6) (oi := { dst := some 60, op := Op.move (Operand.tmp 7), type := 25, pos := "law.go:134", after := #[], guard := none }) (fuel := 8) (v := ?_) rfl (by kernel_rfl) (by kernel_rfl) (by kernel_rfl) (by kernel_rfl) hsh (fun _ _ _ h => h) (Or.inl ⟨by rfl, ?_⟩) hS (fun hsh => ?_)
    rotate_left
    · intro W' hW
      obtain ⟨g1, g2⟩ := HE.out W' hW
      go_simp <;> with_reducible rfl
    simp only [Act.put, List.setIfInBounds_toArray, List.set_cons_zero, List.set_cons_succ] at hsh ⊢
    refine wpAnyL_take (i := 7) (oi := { dst := some 61, op := Op.move (Operand.tmp 6), type := 3, pos := "law.go:134", after := #[], guard := none }) (fuel := 7) (v := ?_) rfl (by kernel_rfl) (by kernel_rfl) (by kernel_rfl) (by kernel_rfl) hsh (fun _ _ _ h => h) (Or.inl ⟨by rfl, ?_⟩) hS (fun hsh => ?_)
    rotate_left
    · intro W' hW
      obtain ⟨g1, g2⟩ := HE.out W' hW
      go_simp <;> with_reducible rfl
    simp only [Act.put, List.setIfInBounds_toArray, List.set_cons_zero, List.set_cons_succ] at hsh ⊢
    refine wpAnyL_take (i := 8) (oi := { dst := some 62, op := Op.indexAddr 25 (Operand.tmp 60) (Operand.tmp 61), type := 0, pos := "law.go:134", after := #[{ on := 6, ground := Ground.data }, { on := 7, ground := Ground.data }], guard := none }) (fuel := 6) (v := ?_) rfl (by kernel_rfl) (by kernel_rfl) (by kernel_rfl) (by kernel_rfl) hsh (fun _ _ _ h => h) (Or.inl ⟨by rfl, ?_⟩) hS (fun hsh => ?_)
    rotate_left
    · intro W' hW
      obtain ⟨g1, g2⟩ := HE.out W' hW
      go_simp <;> with_reducible rfl
    simp only [Act.put, List.setIfInBounds_toArray, List.set_cons_zero, List.set_cons_succ] at hsh ⊢
    refine wpAnyL_take (i := 9) (oi := { dst := some 63, op := Op.load 3 (Operand.tmp 62), type := 3, pos := "law.go:134", after := #[{ on := 8, ground := Ground.data }], guard := none }) (fuel := 5) (v := ?_) rfl (by kernel_rfl) (by kernel_rfl) (by kernel_rfl) (by kernel_rfl) hsh (fun _ _ _ h => h) (Or.inl ⟨by rfl, ?_⟩) hS (fun hsh => ?_)
    rotate_left
    · intro W' hW
      obtain ⟨g1, g2⟩ := HE.out W' hW
      go_simp <;> with_reducible rfl
    simp only [Act.put, List.setIfInBounds_toArray, List.set_cons_zero, List.set_cons_succ] at hsh ⊢
    refine wpAnyL_take (i := 10) (oi := { dst := some 64, op := Op.build 34 #[(0, Operand.tmp 59), (1, Operand.tmp 63)], type := 34, pos := "law.go:134", after := #[{ on := 5, ground := Ground.data }, { on := 9, ground := Ground.data }], guard := none }) (fuel := 4) (v := ?_) rfl (by kernel_rfl) (by kernel_rfl) (by kernel_rfl) (by kernel_rfl) hsh (fun _ _ _ h => h) (Or.inl ⟨by rfl, ?_⟩) hS (fun hsh => ?_)
    rotate_left
    · intro W' hW
      obtain ⟨g1, g2⟩ := HE.out W' hW
      go_simp <;> with_reducible rfl
    simp only [Act.put, List.setIfInBounds_toArray, List.set_cons_zero, List.set_cons_succ] at hsh ⊢
    refine wpAnyL_two (i := 1) (j := 11) (oi := { dst := some 55, op := Op.call { callee := Callee.builtin Builtin.append, args := #[Operand.const (Value.slice none 0 0), Operand.tmp 54], argTypes := #[22, 22] }, type := 22, pos := "law.go:134", after := #[{ on := 0, ground := Ground.data }], guard := none }) (oj := { dst := some 65, op := Op.buildSlice 22 1 #[(0, Operand.tmp 64)], type := 22, pos := "law.go:134", after := #[{ on := 10, ground := Ground.data }], guard := none }) (fuel := 3) (by kernel_rfl) rfl rfl (fun K hK => ?_) (fun K hK => ?_)
    · refine step_copyArcs (HRB.out.below hS) HN.out hn6 (by exact ⟨rfl, rfl, rfl, rfl⟩) ?_
      intro v1 a1 ho1 hu1
      have hb1 : Below w2.heap.size w2 a1 := hS.trans hu1.below_nil
      refine hK _ _ ⟨fun _ => hb1, ?_⟩
      simp only [Act.put, List.setIfInBounds_toArray, List.set_cons_zero, List.set_cons_succ]
      refine wpAnyL_one (i := 11) (oi := { dst := some 65, op := Op.buildSlice 22 1 #[(0, Operand.tmp 64)], type := 22, pos := "law.go:134", after := #[{ on := 10, ground := Ground.data }], guard := none }) (fuel := 2) (by kernel_rfl) rfl (fun K hK => ?_)
      go_simp
      refine hK _ _ ⟨fun _ => hb1.trans ((below_alloc a1 _).mono hb1.size), ?_⟩
      refine wpAnyL_one (i := 12) (oi := { dst := some 66, op := Op.call { callee := Callee.builtin Builtin.append, args := #[Operand.tmp 55, Operand.tmp 65], argTypes := #[22, 22] }, type := 22, pos := "law.go:134", after := #[{ on := 1, ground := Ground.data }, { on := 11, ground := Ground.data }, { on := 1, ground := Ground.chain }], guard := none }) (fuel := 1) (by kernel_rfl) rfl (fun K hK => ?_)
      refine step_appendArc (own_below (own_mono ho1 (Nat.le_refl _)) (below_alloc a1 _)) (new_cell a1 _ _ 0) (new_cell a1 _ _ 1) (Nat.le_trans hb1.size (below_alloc a1 _).size) (by omega) (by exact ⟨rfl, rfl, rfl, rfl⟩) ?_
      intro v3 a3 ho3 hu3
      have HM := Lib.hid ho3
      have HBM : Hid (Below w2.heap.size w2 a3) := (hb1.trans ((below_alloc a1 _).mono hb1.size)).trans (hu3.below (Nat.le_trans hb1.size (below_alloc a1 _).size) (own_base ho1))
      refine hK _ _ ⟨fun _ => HBM.out, ?_⟩
      simp only [Act.put, List.setIfInBounds_toArray, List.set_cons_zero, List.set_cons_succ]
      refine wpAnyL_one (i := 13) (oi := { dst := some 9, op := Op.assign (Operand.tmp 66), type := 22, pos := "law.go:134", after := #[{ on := 12, ground := Ground.data }, { on := 12, ground := Ground.chain }, { on := 0, ground := Ground.phase }, { on := 1, ground := Ground.phase }, { on := 2, ground := Ground.phase }, { on := 3, ground := Ground.phase }, { on := 4, ground := Ground.phase }, { on := 5, ground := Ground.phase }, { on := 6, ground := Ground.phase }, { on := 7, ground := Ground.phase }, { on := 8, ground := Ground.phase }, { on := 9, ground := Ground.phase }, { on := 10, ground := Ground.phase }, { on := 11, ground := Ground.phase }, { on := 12, ground := Ground.phase }], guard := none }) (fuel := 0) (by kernel_rfl) rfl (fun K hK => ?_)
      go_simp
      refine hK _ _ ⟨fun h => absurd rfl h, ?_⟩
      refine wpAnyL_done (by kernel_rfl) ?_ _
      go_wp2_with fail
      go_meet
      exact ⟨HM.out, HBM.out⟩
    · go_simp
      refine hK _ _ ⟨fun _ => hS.trans (below_alloc w2.drew _), ?_⟩
      refine wpAnyL_one (i := 1) (oi := { dst := some 55, op := Op.call { callee := Callee.builtin Builtin.append, args := #[Operand.const (Value.slice none 0 0), Operand.tmp 54], argTypes := #[22, 22] }, type := 22, pos := "law.go:134", after := #[{ on := 0, ground := Ground.data }], guard := none }) (fuel := 2) (by kernel_rfl) rfl (fun K hK => ?_)
      refine step_copyArcs (HRB.out.below (hS.trans (below_alloc w2.drew _))) HN.out hn6 (by exact ⟨rfl, rfl, rfl, rfl⟩) ?_
      intro v1 a1 ho1 hu1
      have hba := hu1.below_nil
      have hb1 : Below w2.heap.size w2 a1 := (hS.trans (below_alloc w2.drew _)).trans (hba.mono (by simp))
      refine hK _ _ ⟨fun _ => hb1, ?_⟩
      simp only [Act.put, List.setIfInBounds_toArray, List.set_cons_zero, List.set_cons_succ]
      refine wpAnyL_one (i := 12) (oi := { dst := some 66, op := Op.call { callee := Callee.builtin Builtin.append, args := #[Operand.tmp 55, Operand.tmp 65], argTypes := #[22, 22] }, type := 22, pos := "law.go:134", after := #[{ on := 1, ground := Ground.data }, { on := 11, ground := Ground.data }, { on := 1, ground := Ground.chain }], guard := none }) (fuel := 1) (by kernel_rfl) rfl (fun K hK => ?_)
      refine step_appendArc (own_mono ho1 (by simp)) (cell_below hba (by simp) (new_cell w2.drew _ _ 0)) (cell_below hba (by simp) (new_cell w2.drew _ _ 1)) hb1.size (by omega) (by exact ⟨rfl, rfl, rfl, rfl⟩) ?_
      intro v3 a3 ho3 hu3
      have HM := Lib.hid ho3
      have HBM : Hid (Below w2.heap.size w2 a3) := hb1.trans (hu3.below hb1.size (fun g e => by have := own_base ho1 g e; simp at this; omega))
      refine hK _ _ ⟨fun _ => HBM.out, ?_⟩
      simp only [Act.put, List.setIfInBounds_toArray, List.set_cons_zero, List.set_cons_succ]
      refine wpAnyL_one (i := 13) (oi := { dst := some 9, op := Op.assign (Operand.tmp 66), type := 22, pos := "law.go:134", after := #[{ on := 12, ground := Ground.data }, { on := 12, ground := Ground.chain }, { on := 0, ground := Ground.phase }, { on := 1, ground := Ground.phase }, { on := 2, ground := Ground.phase }, { on := 3, ground := Ground.phase }, { on := 4, ground := Ground.phase }, { on := 5, ground := Ground.phase }, { on := 6, ground := Ground.phase }, { on := 7, ground := Ground.phase }, { on := 8, ground := Ground.phase }, { on := 9, ground := Ground.phase }, { on := 10, ground := Ground.phase }, { on := 11, ground := Ground.phase }, { on := 12, ground := Ground.phase }], guard := none }) (fuel := 0) (by kernel_rfl) rfl (fun K hK => ?_)
      go_simp
      refine hK _ _ ⟨fun h => absurd rfl h, ?_⟩
      refine wpAnyL_done (by kernel_rfl) ?_ _
      go_wp2_with fail
      go_meet
      exact ⟨HM.out, HBM.out⟩
  case rest =>
    obtain ⟨HM, HBM⟩ := hcut
    have HG2 := Lib.hid hg2
    obtain ⟨A9, c9, rfl, -⟩ := own_slice HM.out
    have HOC := Lib.hid (orderf_calls A9 (n + 1) c9 (arcs ++ [(u, v)]) (m : Int) wc (rdArcs_own HM.out).1 (rdArcs_own HM.out).2 (by omega) hz1 hz2)
    rw [HMX.out.1] at HOC
    have e1 := cell_below HBM.out hg2 e1
    have e2 := cell_below HBM.out hg2 e2
    have HBC := Lib.hid (Below.then HB3.out HB3.out.size HBM.out)
    have HO2 := Lib.hid (own_below HO2.out HBM.out)
    have hg2 := Nat.lt_of_lt_of_le hg2 HBM.out.size
    have hwc : w2.heap.size ≤ wc.heap.size := HBM.out.size
    go_wp2_with fail
    (with_reducible refine HOC.out.mono ?_)
    rintro _ w5 ⟨hb5, A5, c5, rfl, ho5⟩
    simp only [HL.out] at ho5 ⊢
    have HSM := Lib.hid (list_same _ _ _ _ _ _ _ L w5 ho5 (own_below HO2.out hb5))
    have e1 := cell_below hb5 hg2 e1
    have e2 := cell_below hb5 hg2 e2
    have HM := Lib.hid (own_below HM.out hb5)
    have HBC := Lib.hid (Below.then HBC.out HBC.out.size hb5)
    have hwc : w2.heap.size ≤ w5.heap.size := Nat.le_trans hwc hb5.size
    have hg2 := Nat.lt_of_lt_of_le hg2 hb5.size
    clear hb5 ho5
    go_wp2_with fail
    (with_reducible refine HSM.out.mono ?_)
    rintro _ _ ⟨rfl, q, rfl⟩
    have e1 := cell_below (below_drewN w5 q) hg2 e1
    have e2 := cell_below (below_drewN w5 q) hg2 e2
    have HM := Lib.hid (own_below HM.out (below_drewN w5 q))
    have HBC := Lib.hid (Below.then HBC.out HBC.out.size (below_drewN w5 q))
    have hwc : w2.heap.size ≤ (w5.drewN q).heap.size := hwc
    have hg2 : g2 < (w5.drewN q).heap.size := hg2
    generalize w5.drewN q = W6 at *
    have hn2 : n + 1 + 1 ≤ 1000000 := by omega
    go_wp2_with fail
    go_cut [9] (fun v9 wc => Hid (wc.ownsRow w2.heap.size 34 2 v9 (n + 1 + 1) (stopCells (arcs ++ [(u, v)] ++ [(v, u)]))) ∧ Hid (Below w2.heap.size W6 wc))
    case first =>
      clear HMX HB0 HB1 HB2
      go_wp2_with fail
      have HE := Lib.hid (fun (W' : World) (h : Below w2.heap.size W6 W') => (⟨cell_below h HG2.out e1, cell_below h HG2.out e2⟩ : W'.cell? ⟨g2, i, none⟩ = some (.int .i64 u) ∧ W'.cell? ⟨g2, j, none⟩ = some (.int .i64 v)))
      have hS : Below w2.heap.size W6 W6.drew := (Below.refl _ _).drew
      clear e1 e2
      refine wp_region_last (S := fun W' : World => Below w2.heap.size W6 W') (st := 12) (by kernel_rfl) (fun hsh => ?_)
      change wpAnyL _ _ _ _ _ _ 13 (Array.replicate 13 false) _ W6.drew
      replace hsh : Shut .any _ (Array.replicate 13 false) := hsh
      refine wpAnyL_take (i := 0) (oi := { dst := some 81, op := Op.move (Operand.tmp 9), type := 22, pos := "law.go:139", after := #[], guard := none }) (fuel := 12) (v := ?_) rfl (by kernel_rfl) (by kernel_rfl) (by kernel_rfl) (by kernel_rfl) hsh (fun _ _ _ h => h) (Or.inl ⟨by rfl, ?_⟩) hS (fun hsh => ?_)
      rotate_left
      · intro W' hW
        obtain ⟨g1, g2⟩ := HE.out W' hW
        go_simp <;> with_reducible rfl
      simp only [Act.put, List.setIfInBounds_toArray, List.set_cons_zero, List.set_cons_succ] at hsh ⊢
      refine wpAnyL_take (i := 1) (oi := { dst := some 82, op := Op.move (Operand.tmp 7), type := 25, pos := "law.go:139", after := #[], guard := none }) (fuel := 11) (v := ?_) rfl (by kernel_rfl) (by kernel_rfl) (by kernel_rfl) (by kernel_rfl) hsh (fun _ _ _ h => h) (Or.inl ⟨by rfl, ?_⟩) hS (fun hsh => ?_)
      rotate_left
      · intro W' hW
        obtain ⟨g1, g2⟩ := HE.out W' hW
        go_simp <;> with_reducible rfl
      simp only [Act.put, List.setIfInBounds_toArray, List.set_cons_zero, List.set_cons_succ] at hsh ⊢
      refine wpAnyL_take (i := 2) (oi := { dst := some 83, op := Op.move (Operand.tmp 6), type := 3, pos := "law.go:139", after := #[], guard := none }) (fuel := 10) (v := ?_) rfl (by kernel_rfl) (by kernel_rfl) (by kernel_rfl) (by kernel_rfl) hsh (fun _ _ _ h => h) (Or.inl ⟨by rfl, ?_⟩) hS (fun hsh => ?_)
      rotate_left
      · intro W' hW
        obtain ⟨g1, g2⟩ := HE.out W' hW
        go_simp <;> with_reducible rfl
      simp only [Act.put, List.setIfInBounds_toArray, List.set_cons_zero, List.set_cons_succ] at hsh ⊢
      refine wpAnyL_take (i := 3) (oi := { dst := some 84, op := Op.indexAddr 25 (Operand.tmp 82) (Operand.tmp 83), type := 0, pos := "law.go:139", after := #[{ on := 1, ground := Ground.data }, { on := 2, ground := Ground.data }], guard := none }) (fuel := 9) (v := ?_) rfl (by kernel_rfl) (by kernel_rfl) (by kernel_rfl) (by kernel_rfl) hsh (fun _ _ _ h => h) (Or.inl ⟨by rfl, ?_⟩) hS (fun hsh => ?_)
      rotate_left
      · intro W' hW
        obtain ⟨g1, g2⟩ := HE.out W' hW
        go_simp <;> with_reducible rfl
      simp only [Act.put, List.setIfInBounds_toArray, List.set_cons_zero, List.set_cons_succ] at hsh ⊢
      refine wpAnyL_take (i := 4) (oi := { dst := some 85, op := Op.load 3 (Operand.tmp 84), type := 3, pos := "law.go:139", after := #[{ on := 3, ground := Ground.data }], guard := none }) (fuel := 8) (v := ?_) rfl (by kernel_rfl) (by kernel_rfl) (by kernel_rfl) (by kernel_rfl) hsh (fun _ _ _ h => h) (Or.inl ⟨by rfl, ?_⟩) hS (fun hsh => ?_)
      rotate_left
      · intro W' hW
        obtain ⟨g1, g2⟩ := HE.out W' hW
        go_simp <;> with_reducible rfl
      simp only [Act.put, List.setIfInBounds_toArray, List.set_cons_zero, List.set_cons_succ] at hsh ⊢
      refine wpAnyL_take (i := 5) (oi := { dst := some 86, op := Op.move (Operand.tmp 7), type := 25, pos := "law.go:139", after := #[], guard := none }) (fuel := 7) (v := ?_) rfl (by kernel_rfl) (by kernel_rfl) (by kernel_rfl) (by kernel_rfl) hsh (fun _ _ _ h => h) (Or.inl ⟨by rfl, ?_⟩) hS (fun hsh => ?_)
      rotate_left
      · intro W' hW
        obtain ⟨g1, g2⟩ := HE.out W' hW
        go_simp <;> with_reducible rfl
      simp only [Act.put, List.setIfInBounds_toArray, List.set_cons_zero, List.set_cons_succ] at hsh ⊢
      refine wpAnyL_take (i := 6) (oi := { dst := some 87, op := Op.move (Operand.tmp 5), type := 3, pos := "law.go:139", after := #[], guard := none }) (fuel := 6) (v := ?_) rfl (by kernel_rfl) (by kernel_rfl) (by kernel_rfl) (by kernel_rfl) hsh (fun _ _ _ h => h) (Or.inl ⟨by rfl, ?_⟩) hS (fun hsh => ?_)
      rotate_left
      · intro W' hW
        obtain ⟨g1, g2⟩ := HE.out W' hW
        go_simp <;> with_reducible rfl
      simp only [Act.put, List.setIfInBounds_toArray, List.set_cons_zero, List.set_cons_succ] at hsh ⊢
      refine wpAnyL_take (i := 7) (oi := { dst := some 88, op := Op.indexAddr 25 (Operand.tmp 86) (Operand.tmp 87), type := 0, pos := "law.go:139", after := #[{ on := 5, ground := Ground.data }, { on := 6, ground := Ground.data }], guard := none }) (fuel := 5) (v := ?_) rfl (by kernel_rfl) (by kernel_rfl) (by kernel_rfl) (by kernel_rfl) hsh (fun _ _ _ h => h) (Or.inl ⟨by rfl, ?_⟩) hS (fun hsh => ?_)
      rotate_left
      · intro W' hW
        obtain ⟨g1, g2⟩ := HE.out W' hW
        go_simp <;> with_reducible rfl
      simp only [Act.put, List.setIfInBounds_toArray, List.set_cons_zero, List.set_cons_succ] at hsh ⊢
      refine wpAnyL_take (i := 8) (oi := { dst := some 89, op := Op.load 3 (Operand.tmp 88), type := 3, pos := "law.go:139", after := #[{ on := 7, ground := Ground.data }], guard := none }) (fuel := 4) (v := ?_) rfl (by kernel_rfl) (by kernel_rfl) (by kernel_rfl) (by kernel_rfl) hsh (fun _ _ _ h => h) (Or.inl ⟨by rfl, ?_⟩) hS (fun hsh => ?_)
      rotate_left
      · intro W' hW
        obtain ⟨g1, g2⟩ := HE.out W' hW
        go_simp <;> with_reducible rfl
      simp only [Act.put, List.setIfInBounds_toArray, List.set_cons_zero, List.set_cons_succ] at hsh ⊢
      refine wpAnyL_take (i := 9) (oi := { dst := some 90, op := Op.build 34 #[(0, Operand.tmp 85), (1, Operand.tmp 89)], type := 34, pos := "law.go:139", after := #[{ on := 4, ground := Ground.data }, { on := 8, ground := Ground.data }], guard := none }) (fuel := 3) (v := ?_) rfl (by kernel_rfl) (by kernel_rfl) (by kernel_rfl) (by kernel_rfl) hsh (fun _ _ _ h => h) (Or.inl ⟨by rfl, ?_⟩) hS (fun hsh => ?_)
      rotate_left
      · intro W' hW
        obtain ⟨g1, g2⟩ := HE.out W' hW
        go_simp <;> with_reducible rfl
      simp only [Act.put, List.setIfInBounds_toArray, List.set_cons_zero, List.set_cons_succ] at hsh ⊢
      refine wpAnyL_one (i := 10) (oi := { dst := some 91, op := Op.buildSlice 22 1 #[(0, Operand.tmp 90)], type := 22, pos := "law.go:139", after := #[{ on := 9, ground := Ground.data }], guard := none }) (fuel := 2) (by kernel_rfl) rfl (fun K hK => ?_)
      go_simp
      refine hK _ _ ⟨fun _ => hS.trans ((below_alloc W6.drew _).mono hwc), ?_⟩
      refine wpAnyL_one (i := 11) (oi := { dst := some 92, op := Op.call { callee := Callee.builtin Builtin.append, args := #[Operand.tmp 81, Operand.tmp 91], argTypes := #[22, 22] }, type := 22, pos := "law.go:139", after := #[{ on := 0, ground := Ground.data }, { on := 10, ground := Ground.data }], guard := none }) (fuel := 1) (by kernel_rfl) rfl (fun K hK => ?_)
      refine step_appendArc (own_below HM.out.drew (below_alloc W6.drew _)) (new_cell W6.drew _ _ 0) (new_cell W6.drew _ _ 1) (Nat.le_trans hwc (below_alloc W6.drew _).size) hn2 (by exact ⟨rfl, rfl, rfl, rfl⟩) ?_
      intro v3 a3 ho3 hu3
      have HM3 := Lib.hid ho3
      have HBM3 : Hid (Below w2.heap.size W6 a3) := (hS.trans ((below_alloc W6.drew _).mono hwc)).trans (hu3.below (Nat.le_trans hwc (below_alloc W6.drew _).size) (own_base HM.out))
      refine hK _ _ ⟨fun _ => HBM3.out, ?_⟩
      simp only [Act.put, List.setIfInBounds_toArray, List.set_cons_zero, List.set_cons_succ]
      refine wpAnyL_one (i := 12) (oi := { dst := some 9, op := Op.assign (Operand.tmp 92), type := 22, pos := "law.go:139", after := #[{ on := 11, ground := Ground.data }, { on := 11, ground := Ground.chain }, { on := 0, ground := Ground.phase }, { on := 1, ground := Ground.phase }, { on := 2, ground := Ground.phase }, { on := 3, ground := Ground.phase }, { on := 4, ground := Ground.phase }, { on := 5, ground := Ground.phase }, { on := 6, ground := Ground.phase }, { on := 7, ground := Ground.phase }, { on := 8, ground := Ground.phase }, { on := 9, ground := Ground.phase }, { on := 10, ground := Ground.phase }, { on := 11, ground := Ground.phase }], guard := none }) (fuel := 0) (by kernel_rfl) rfl (fun K hK => ?_)
      go_simp
      refine hK _ _ ⟨fun h => absurd rfl h, ?_⟩
      refine wpAnyL_done (by kernel_rfl) ?_ _
      go_wp2_with fail
      go_meet
      exact ⟨HM3.out, HBM3.out⟩
    case rest =>
      obtain ⟨HM3, HBM3⟩ := hcut
      obtain ⟨A9, c9, rfl, -⟩ := own_slice HM3.out
      obtain ⟨P, hP, hP0, hP2⟩ := HMX.out.2.2
      have hlen2 : (arcs ++ [(u, v)] ++ [(v, u)]).length = n + 1 + 1 := (rdArcs_own HM3.out).2
      have hrd := (rdArcs_own HM3.out).1
      have HOC := Lib.hid (fun (W : World) (h : Below wc.heap.size wc W) => orderf_calls A9 (n + 1 + 1) c9 (arcs ++ [(u, v)] ++ [(v, u)]) (m : Int) W (hrd.below h) hlen2 (by omega) hz1 hz2)
      have HCY := Lib.hid (fun (W : World) (h : Below wc.heap.size wc W) => cycle_calls A9 (n + 1 + 1) c9 (arcs ++ [(u, v)] ++ [(v, u)]) (m : Int) W (hrd.below h) hlen2 (by omega) hz1 hz2)
      rw [HMX.out.2.1] at HOC
      rw [hP] at HCY
      have HBC := Lib.hid (HBC.out.trans (HBM3.out.mono HB3.out.size))
      obtain ⟨pl, hpl⟩ : ∃ pl, P.length = pl := ⟨_, rfl⟩
      have HPL := Lib.hid hpl
      rw [hpl] at hP0 hP2
      have p0 : (0 : Int) < (pl : Int) := by omega
      have p2 : (pl : Int) ≤ 2 := by omega
      clear hP hlen2 hrd hpl e1 e2
      go_wp2_with fail
      (with_reducible refine (HOC.out _ (Below.refl _ _)).mono ?_)
      rintro _ w7 ⟨hb7, A7, c7, rfl, -⟩
      have HB7 := Lib.hid hb7
      clear hb7
      go_wp2_with fail
      (with_reducible refine (HCY.out _ HB7.out).mono ?_)
      rintro _ w8 ⟨hb8, A8, c8, rfl, -⟩
      simp only [HPL.out]
      go_wp2_with fail
      go_ret
      exact ⟨rfl, Below.then HBC.out HBC.out.size (Below.then HB7.out HB7.out.size hb8)⟩
end Go.Proofs.Yteonpfomlmfkjaa
