/- (*rank.web).order: the least free node first. -/
import Derived.Test.YteonpfomlmfkjaaRkRead
import Derived.Test.YteonpfomlmfkjaaRankQ
import Derived.Test.YteonpfomlmfkjaaRkIns
namespace Go.Proofs.Yteonpfomlmfkjaa
open Go Go.RowKit
set_option maxRecDepth 100000

/-- The two rows of order while it goes on, and how many arcs still lead to each node. -/
structure OrdSt (W0 W : World) (gW n : Nat) (c : Int → Int) (v4 : Value) (R : List Int) (v5 : Value) (out : List Int) : Prop where
  lt : gW < W0.heap.size
  grown : W0.grownBy W (some gW)
  wait : W.rowIs gW 3 n fun v => .int .i64 (c v)
  ready : W.ownsRow W0.heap.size 3 1 v4 R.length (intCells R)
  out : W.ownsRow W0.heap.size 3 1 v5 out.length (intCells out)
  sep : ∀ g, v4.ownBlock = some g → v5.ownBlock ≠ some g

theorem OrdSt.keep {W0 W : World} {gW n : Nat} {c : Int → Int} {v4 v5 : Value} {R out : List Int} (h : OrdSt W0 W gW n c v4 R v5 out) {g : Nat} (hg : g < W0.heap.size) (hne : g ≠ gW) : W.heap[g]? = W0.heap[g]? :=
  h.grown.block g hg (fun e => hne (Option.some.inj e))

theorem OrdSt.cell {W0 W : World} {gW n : Nat} {c : Int → Int} {v4 v5 : Value} {R out : List Int} (h : OrdSt W0 W gW n c v4 R v5 out) {g j : Nat} {v : Value} (hne : g ≠ gW) (hc : W0.cell? ⟨g, j, none⟩ = some v) : W.cell? ⟨g, j, none⟩ = some v :=
  (World.cell?_of_block (a := ⟨g, j, none⟩) (h.keep (World.block_lt_of_cell? W0 _ hc) hne)).trans hc

theorem OrdSt.below {W0 W W' : World} {gW n : Nat} {c : Int → Int} {v4 v5 : Value} {R out : List Int} (h : OrdSt W0 W gW n c v4 R v5 out) (k : Below W.heap.size W W') : OrdSt W0 W' gW n c v4 R v5 out :=
  ⟨h.lt, h.grown.trans (below_grown k _), h.wait.of_block (k.block _ h.wait.lt), own_below h.ready k, own_below h.out k, h.sep⟩

theorem OrdSt.updReady {W0 W W' : World} {gW n : Nat} {c : Int → Int} {v4 v4' v5 : Value} {R R' out : List Int} (h : OrdSt W0 W gW n c v4 R v5 out) (ho : W'.ownsRow W0.heap.size 3 1 v4' R'.length (intCells R')) (hu : Upd W W' v4 v4') : OrdSt W0 W' gW n c v4' R' v5 out := by
  obtain ⟨hg, hn⟩ := hu
  have hb : ∀ g, v4.ownBlock = some g → W0.heap.size ≤ g := fun g e => (h.ready.lt g e).1
  refine ⟨h.lt, ⟨hg.os.trans h.grown.os, hg.tape.trans h.grown.tape, hg.output.trans h.grown.output, Nat.le_trans h.grown.size hg.size, fun k hk hne => (hg.block k (Nat.lt_of_lt_of_le hk h.grown.size) (fun e => by have := hb k e.symm; omega)).trans (h.grown.block k hk hne)⟩,
    h.wait.of_block (hg.block _ h.wait.lt (fun e => by have := hb gW e.symm; have := h.lt; omega)), ho, h.out.kept hg ?_, fun g e e2 => ?_⟩
  · cases hb5 : v5.ownBlock with
    | none => exact .inl rfl
    | some g => exact .inr fun e => h.sep g e.symm hb5
  · rcases hn with e3 | ⟨g', e3, hge⟩
    · rw [e3] at e; exact h.sep g e e2
    · rw [e3] at e
      have := (h.out.lt g e2).2
      have : g' = g := Option.some.inj e
      omega

theorem OrdSt.updOut {W0 W W' : World} {gW n : Nat} {c : Int → Int} {v4 v5 v5' : Value} {R out out' : List Int} (h : OrdSt W0 W gW n c v4 R v5 out) (ho : W'.ownsRow W0.heap.size 3 1 v5' out'.length (intCells out')) (hu : Upd W W' v5 v5') : OrdSt W0 W' gW n c v4 R v5' out' := by
  obtain ⟨hg, hn⟩ := hu
  have hb : ∀ g, v5.ownBlock = some g → W0.heap.size ≤ g := fun g e => (h.out.lt g e).1
  refine ⟨h.lt, ⟨hg.os.trans h.grown.os, hg.tape.trans h.grown.tape, hg.output.trans h.grown.output, Nat.le_trans h.grown.size hg.size, fun k hk hne => (hg.block k (Nat.lt_of_lt_of_le hk h.grown.size) (fun e => by have := hb k e.symm; omega)).trans (h.grown.block k hk hne)⟩,
    h.wait.of_block (hg.block _ h.wait.lt (fun e => by have := hb gW e.symm; have := h.lt; omega)), h.ready.kept hg ?_, ho, fun g e e2 => ?_⟩
  · cases hb4 : v4.ownBlock with
    | none => exact .inl rfl
    | some g => exact .inr fun e => h.sep g hb4 e.symm
  · rcases hn with e3 | ⟨g', e3, hge⟩
    · rw [e3] at e2; exact h.sep g e e2
    · rw [e3] at e2
      have := (h.ready.lt g e).2
      have : g' = g := Option.some.inj e2
      omega

theorem OrdSt.set {W0 W : World} {gW n : Nat} {c c' : Int → Int} {v4 v5 : Value} {R out : List Int} (h : OrdSt W0 W gW n c v4 R v5 out) (b : Nat) (z : Int) (hc : ∀ v : Nat, v < n → c' v = if v = b then z else c v) : OrdSt W0 (W.setCell ⟨gW, b, none⟩ (.int .i64 z)) gW n c' v4 R v5 out := by
  refine ⟨h.lt, h.grown.trans ⟨rfl, rfl, rfl, by simp, fun k _ hk => heap_setCell_other W ⟨gW, b, none⟩ k _ (fun e => hk (by simp [e]))⟩, (h.wait.set b _).congr fun v hv => ?_, ownsRow_setCell_other h.ready (fun e => ?_) _, ownsRow_setCell_other h.out (fun e => ?_) _, h.sep⟩
  · simp only [hc v hv]
    by_cases e : v = b <;> simp [e]
  · have := (h.ready.lt _ e).1; have := h.lt; simp at *; omega
  · have := (h.out.lt _ e).1; have := h.lt; simp at *; omega

theorem OrdSt.congr {W0 W : World} {gW n : Nat} {c c' : Int → Int} {v4 v5 : Value} {R out : List Int} (h : OrdSt W0 W gW n c v4 R v5 out) (hc : ∀ v : Nat, v < n → c v = c' v) : OrdSt W0 W gW n c' v4 R v5 out :=
  ⟨h.lt, h.grown, h.wait.congr fun v hv => by rw [hc v hv], h.ready, h.out, h.sep⟩

theorem into_waitN (arcs : List (Int × Int)) (v : Int) : into arcs v = (waitN arcs [] v : Nat) := by simp [into, waitN]

/-- What order leaves. -/
def RetOrd (w : World) (gW n : Nat) (arcs : List (Int × Int)) (e : Ending) (w' : World) : Prop :=
  w.grownBy w' (some gW) ∧ ∃ A c, e = .returned (.tuple #[.slice A (kahn n arcs n).length c, .bool (decide ((kahn n arcs n).length = n))]) ∧ w'.ownsRow w.heap.size 3 1 (.slice A (kahn n arcs n).length c) (kahn n arcs n).length (intCells (kahn n arcs n))

set_option maxHeartbeats 8000000 in
theorem order_calls (base p gT gW n : Nat) (arcs : List (Int × Int)) (f : Nat → Value) (w : World) (hw : Web w base p gT gW n (fun v => outs arcs v) (fun v => into arcs v) f) (hn : n ≤ 4096) (hl : arcs.length ≤ 16384) (hok : ∀ a ∈ arcs, 0 ≤ a.1 ∧ a.1 < (n : Int) ∧ 0 ≤ a.2 ∧ a.2 < (n : Int)) :
    Calls Try.prog 21 #[.pointer (some ⟨p, 0, none⟩)] w (RetOrd w gW n arcs) := by
  have HW := Lib.hid hw
  have HOK := Lib.hid hok
  have HLA := Lib.hid hl
  have s0 := hw.b0
  have s1 := hw.b1
  have HNE : Hid (p ≠ gW ∧ gT ≠ gW) := ⟨Ne.symm hw.neWP, hw.neTW⟩
  have HS0 : Hid (OrdSt w w gW n (fun v => waitN arcs [] v) (.slice none 0 0) [] (.slice none 0 0) []) := by
    refine ⟨hw.wait.lt, below_grown (Below.refl _ _) _, hw.wait.congr fun v _ => by rw [into_waitN], World.ownsRow_nil _ _ _ _, World.ownsRow_nil _ _ _ _, fun g e => by cases e⟩
  clear hw hok hl
  go_enter Try.func21, Try.ntmps21
  go_wp2_with fail
  go_loopg [4, 6] n (fun gk v4 v6 wr => ∃ (i : Nat) (R : List Int), v6 = .int .i64 ((i : Int) - 1) ∧ i ≤ n ∧ i ≤ gk ∧ Hid (OrdSt w wr gW n (fun v => waitN arcs [] v) v4 R (.slice none 0 0) []) ∧ Hid (Ready n (fun u => (i : Int) ≤ u ∧ waitN arcs [] u = 0) R))
  case atStart => exact ⟨n, [], rfl, Nat.le_refl _, Nat.le_refl _, HS0.out, List.Pairwise.nil, fun u => ⟨fun h => (by cases h), fun h => by omega⟩⟩
  case round =>
    clear s0 s1
    obtain ⟨i, R, rfl, hi, hig, HS, HRY⟩ := hrel
    have s0 := HS.out.cell HNE.out.1 HW.out.b0
    have s1 := HS.out.cell HNE.out.1 HW.out.b1
    cases i with
    | zero =>
      have HR2 : Hid (Ready n (fun u => u ∉ kahn n arcs 0 ∧ waitN arcs (kahn n arcs 0) u = 0) R) := HRY.out.congr fun u h1 _ => ⟨fun h => ⟨by simp [kahn], h.2⟩, fun h => ⟨h1, h.2⟩⟩
      have HS2 : Hid (OrdSt w wr gW n (fun v => waitN arcs (kahn n arcs 0) v) _ R (.slice none 0 0) (kahn n arcs 0)) := HS.out
      clear HS HRY s0 s1 HS0
      go_wp2_with fail
      go_loopg [4, 5] n (fun gk v4 v5 wr => ∃ (k : Nat) (R : List Int), k ≤ n ∧ n - k ≤ gk ∧ (kahn n arcs k).length = k ∧ Hid (OrdSt w wr gW n (fun v => waitN arcs (kahn n arcs k) v) v4 R v5 (kahn n arcs k)) ∧ Hid (Ready n (fun u => u ∉ kahn n arcs k ∧ waitN arcs (kahn n arcs k) u = 0) R))
      case atStart => exact ⟨0, R, Nat.zero_le _, by omega, rfl, HS2.out, HR2.out⟩
      case round =>
        clear HS2 HR2
        obtain ⟨k, R, hk, hg, hkl, HS, HRY⟩ := hrel
        have HKL := Lib.hid hkl
        clear hkl
        rcases List.eq_nil_or_concat R with rfl | ⟨R, v, rfl⟩
        · have hnone := ready_none HRY.out
          have hst := kahn_stop hnone n hk
          have HKN := Lib.hid hst
          clear hst hnone
          have ho5 := HS.out.out
          rw [HKL.out] at ho5
          obtain ⟨A5, c5, rfl, -⟩ := own_slice ho5
          obtain ⟨A4, c4, rfl, -⟩ := own_slice HS.out.ready
          have s1 := HS.out.cell HNE.out.1 HW.out.b1
          have HO5 := Lib.hid ho5
          clear ho5
          have hkn : ((k : Int) == (n : Int)) = decide (k = n) := by
            by_cases e : k = n
            · subst e; simp
            · rw [decide_eq_false e, beq_eq_false_iff_ne]; omega
          simp only [List.length_nil]
          go_wp2_with fail
          go_region
          all_goals
            go_wp2_with fail
            go_ret2
            refine ⟨?_, A5, c5, ?_, ?_⟩
            · exact grown_below HS.out.grown (below_drewN _ 1)
            · rw [HKN.out, HKL.out]; rfl
            · rw [HKN.out, HKL.out]; exact own_below HO5.out (below_drewN _ 1)
        · rw [List.concat_eq_append] at HS HRY
          have hnx := ready_next HRY.out
          have hstep := kahn_step hnx
          obtain ⟨hv0, hv1, hv2⟩ := next_mem hnx
          obtain ⟨a, rfl⟩ : ∃ a : Nat, v = (a : Int) := ⟨v.toNat, by omega⟩
          have han : a < n := by omega
          have aI : (a : Int) < (n : Int) := by omega
          have hkm := kahn_most n arcs (k + 1)
          rw [hstep, List.length_append, HKL.out, List.length_singleton] at hkm
          obtain ⟨m, hm⟩ : ∃ m, R.length = m := ⟨_, rfl⟩
          have ho4 := HS.out.ready
          rw [List.length_append, List.length_singleton, hm] at ho4
          obtain ⟨g4, c4, rfl⟩ : ∃ g4 c4, _ = Value.slice (some ⟨g4, 0, none⟩) (m + 1) c4 := by
            rcases ho4.2 with ⟨_, h⟩ | ⟨g, c, _, h, _⟩
            · omega
            · exact ⟨g, c, h⟩
          have e4 : wr.cell? ⟨g4, m, none⟩ = some (.int .i64 (a : Int)) := by
            rw [ho4.cellAt m (by omega), intCells_append, List.getElem?_append_right (by rw [intCells_length]; omega), intCells_length, hm, Nat.sub_self]
            rfl
          have ho4' := own_take ho4 (Nat.le_succ m)
          have htk : (intCells (R ++ [(a : Int)])).take m = intCells R := by
            rw [intCells_append, List.take_append_of_le_length (by rw [intCells_length]; omega), List.take_of_length_le (by rw [intCells_length]; omega)]
          rw [htk] at ho4'
          have HS1 : Hid (OrdSt w wr gW n (fun v => waitN arcs (kahn n arcs k) v) (.slice (some ⟨g4, 0, none⟩) m c4) R _ (kahn n arcs k)) := HS.out.updReady (R' := R) (by rw [hm]; exact ho4') ⟨below_grown (Below.refl _ _) _, .inl rfl⟩
          have HRP : Hid (Ready n (fun u => u ∉ kahn n arcs (k + 1) ∧ still arcs (kahn n arcs k) (a : Int) 0 u = 0) R) := by
            refine HRY.out.pop.congr fun u _ _ => ?_
            rw [hstep, still_zero, List.mem_append, List.mem_singleton]
            constructor
            · rintro ⟨⟨h1, h2⟩, h3⟩; exact ⟨by simp [h1, h3], by omega⟩
            · rintro ⟨h1, h2⟩; exact ⟨⟨fun h => h1 (.inl h), by omega⟩, fun h => h1 (.inr h)⟩
          have ho5 := HS1.out.out
          rw [HKL.out] at ho5
          obtain ⟨A5, c5, rfl, -⟩ := own_slice ho5
          have HO5 := Lib.hid ho5
          have HST := Lib.hid hstep
          have HNX := Lib.hid hnx
          have HV := Lib.hid hv1
          have HM := Lib.hid hm
          have hbz := HS1.out.grown.size
          have t1 : (((m + 1 : Nat) : Int) - 1).toNat = m := by omega
          have t2 : (0 : Int) < ((m + 1 : Nat) : Int) := by omega
          have t3 : ((m + 1 : Nat) : Int) - 1 = (m : Int) := by omega
          have hc4 : m + 1 ≤ c4 ∧ c4 ≤ 9223372036854775807 := by
            rcases ho4.2 with ⟨h, _⟩ | ⟨_, _, _, h, _, _, h1, h2, _⟩
            · cases h
            · cases h; exact ⟨h1, h2⟩
          obtain ⟨hc41, hc42⟩ := hc4
          have hmn : m ≤ n := by have := HRP.out.length; omega
          clear HS HRY hnx hstep hv0 hv1 hv2 hm ho4 ho4' htk ho5
          obtain ⟨hro, hrn⟩ := HW.out.row a han
          obtain ⟨l6, hl6⟩ : ∃ l6, (outs arcs (a : Int)).length = l6 := ⟨_, rfl⟩
          rw [hl6] at hro
          obtain ⟨A6, c6, he6, -⟩ := own_slice hro
          have hT0 := HW.out.to.cell han
          rw [he6] at hT0 hro
          have HT0 := Lib.hid hT0
          have HCE : Hid (∀ j, j < l6 → ∃ g6 x, A6 = some ⟨g6, 0, none⟩ ∧ (outs arcs (a : Int))[j]? = some ((x : Nat) : Int) ∧ x < n ∧ g6 ≠ gW ∧ w.cell? ⟨g6, j, none⟩ = some (.int .i64 (x : Int))) := by
            intro j hj
            obtain ⟨g6, rfl, hg6, _, hc6⟩ := own_at hro (by omega)
            have hx : (outs arcs (a : Int))[j]? = some ((outs arcs (a : Int))[j]'(by omega)) := List.getElem?_eq_getElem _
            have hmem := List.mem_of_getElem? hx
            generalize (outs arcs (a : Int))[j]'(by omega) = x at hx hmem
            obtain ⟨y, hy, rfl⟩ := List.mem_map.1 hmem
            obtain ⟨_, _, h3, h4⟩ := HOK.out y (List.mem_filter.1 hy).1
            obtain ⟨b, hb⟩ : ∃ b : Nat, y.2 = (b : Int) := ⟨y.2.toNat, by omega⟩
            rw [hb] at hx h4
            refine ⟨g6, b, rfl, hx, by omega, (hrn g6 (by rw [he6]; rfl)).1, ?_⟩
            have := hc6 j (.int .i64 (b : Int)) (by simp [intCells, hx])
            rwa [add_plain] at this
          have HL6 := Lib.hid hl6
          have hl6m : l6 ≤ 9223372036854775807 := own_max hro
          have HCO : Hid (intCells (kahn n arcs k) ++ (#[Value.int .i64 (a : Int)] : Array Value).toList = intCells (kahn n arcs (k + 1))) := by show _ = _; rw [HST.out, intCells_append]; rfl
          have HK1 : Hid ((kahn n arcs (k + 1)).length = k + 1) := by show _ = _; rw [HST.out, List.length_append, HKL.out]; rfl
          clear hro hrn he6 hl6 hT0
          go_wp2_with (at_builtin; refine walk_append1 HO5.out hbz (by omega) 25 Try.underlying25 info_intB ⟨rfl, by decide, by decide⟩ _ (oneI _) (by exact ⟨rfl, rfl, rfl, rfl, rfl⟩) ?_; intro v10 w10 ho10 hu10; obtain ⟨A10, c10, rfl, -⟩ := own_slice ho10; rw [HCO.out] at ho10; have HS2 := Lib.hid (HS1.out.updOut (out' := kahn n arcs (k + 1)) (by rw [HK1.out]; exact ho10) hu10); clear ho10 hu10; have s0 := HS2.out.cell HNE.out.1 HW.out.b0; have s2 := HS2.out.cell HNE.out.2 HT0.out)
          have HS3 : Hid (OrdSt w w10 gW n (fun u => still arcs (kahn n arcs k) (a : Int) 0 u) (.slice (some ⟨g4, 0, none⟩) m c4) R (.slice A10 (k + 1) c10) (kahn n arcs (k + 1))) := HS2.out.congr fun v _ => by rw [still_zero]
          clear HS1 HS2
          obtain ⟨gk1, rfl⟩ : ∃ gk1 : Nat, gk1 = gk := ⟨_, rfl⟩
          go_loopg [4, 60] l6 (fun gk v4 v60 wr => ∃ (j : Nat) (R : List Int), v60 = .int .i64 j ∧ j ≤ l6 ∧ l6 - j ≤ gk ∧ Hid (OrdSt w wr gW n (fun u => still arcs (kahn n arcs k) (a : Int) j u) v4 R (.slice A10 (k + 1) c10) (kahn n arcs (k + 1))) ∧ Hid (Ready n (fun u => u ∉ kahn n arcs (k + 1) ∧ still arcs (kahn n arcs k) (a : Int) j u = 0) R))
          case atStart => exact ⟨0, R, rfl, Nat.zero_le _, by omega, HS3.out, HRP.out⟩
          case round =>
            clear HS3 HRP s0 s2
            obtain ⟨j, R, rfl, hj, hgj, HS, HRY⟩ := hrel
            by_cases hjl : j < l6
            · have j1 : (j : Int) < (l6 : Int) := by omega
              obtain ⟨g6, x, rfl, hx, hxn, hg6, e6⟩ := HCE.out j hjl
              have e6 := HS.out.cell hg6 e6
              have s1 := HS.out.cell HNE.out.1 HW.out.b1
              have c1 := HS.out.wait.cell hxn
              have c2 := HS.out.wait.frozen x
              have xI : (x : Int) < (n : Int) := by omega
              have hpos := still_pos HV.out hx
              have hle := still_le arcs (kahn n arcs k) (a : Int) j (x : Int)
              have hla := HLA.out
              obtain ⟨z, hz⟩ : ∃ z, still arcs (kahn n arcs k) (a : Int) j (x : Int) = z := ⟨_, rfl⟩
              have HSS := Lib.hid (fun u => still_succ (out := kahn n arcs k) hx u)
              have HRS := Lib.hid (ready_step HNX.out hx)
              rw [hz] at hpos hle
              simp only [hz] at c1
              have HZ := Lib.hid hz
              have HS4 := Lib.hid (HS.out.set (c' := fun u => still arcs (kahn n arcs k) (a : Int) (j + 1) u) x (z - 1) (fun v _ => by
                rw [HSS.out]
                by_cases e : v = x
                · subst e; rw [if_pos rfl, if_pos rfl, hz]
                · rw [if_neg (by omega), if_neg e]))
              have s1' := HS4.out.cell HNE.out.1 HW.out.b1
              have c1' := set_cell_eq c1 (.int .i64 (z - 1))
              have z1 : -9223372036854775808 ≤ z - 1 ∧ z - 1 ≤ 9223372036854775807 := by omega
              clear hz hx hla
              by_cases hz0 : z - 1 = 0
              · have hz2 : (z - 1 == 0) = true := by simp [hz0]
                have HSZ : Hid (still arcs (kahn n arcs k) (a : Int) (j + 1) (x : Int) = 0) := by
                  show _ = _
                  rw [HSS.out, if_pos rfl, HZ.out]; exact hz0
                have HNW : Hid (Ready n (fun u => u ∉ kahn n arcs (k + 1) ∧ still arcs (kahn n arcs k) (a : Int) (j + 1) u = 0) (insAt R (ahead R (x : Int)) (x : Int))) := by
                  have h1 := HRS.out.2.2 HSZ.out
                  have h2 := HRS.out.1
                  have h3 := HZ.out
                  rw [← HST.out] at h1 h2
                  exact (HRY.out.ins ⟨by omega, xI⟩ (fun h => by have := h.2; omega)).congr fun u _ _ => h1 u
                have hap : ahead R (x : Int) ≤ R.length := List.countP_le_length
                obtain ⟨A4, c44, rfl, -⟩ := own_slice HS4.out.ready
                have hrl := HRY.out.length
                clear hz0
                have HSR := Lib.hid HRY.out.sorted
                have HRB : Hid (∀ y ∈ R, 0 ≤ y ∧ y < 4096) := fun y hy => by have := ((HRY.out.mem y).1 hy).1; omega
                go_wp2_with fail
                generalize wr.setCell ⟨gW, x, none⟩ (.int .i64 (z - 1)) = W4 at *
                have hS := search_calls (.pointer (some ⟨p, 0, none⟩)) A4 R.length c44 w.heap.size R (x : Int) W4 HS4.out.ready rfl HSR.out HRB.out ⟨by omega, by omega⟩ (by omega)
                have HI := Lib.hid (insert_calls A4 R.length c44 w.heap.size (ahead R (x : Int)) R (x : Int) W4 HS4.out.ready rfl hap (by omega) HS4.out.grown.size)
                clear e6 s1 c1 c2 s1' c1'
                (with_reducible refine hS.mono ?_)
                rintro e w' ⟨rfl, u, rfl⟩
                go_wp2_with fail
                (with_reducible refine HI.out.mono ?_)
                rintro e w7 ⟨A7, c7, rfl, ho7, hu7⟩
                have HS5 := Lib.hid (HS4.out.updReady (R' := insAt R (ahead R (x : Int)) (x : Int)) (by rw [insAt_length _ hap]; exact ho7) hu7)
                clear ho7 hu7 hS
                go_wp2_with fail
                go_roundg (gk - 1)
                case measure => omega
                case rel => exact ⟨j + 1, _, by go_num, by omega, by omega, HS5.out, HNW.out⟩
              · have hz2 : (z - 1 == 0) = false := by simp [hz0]
                go_wp2_with fail
                go_roundg (gk - 1)
                case measure => omega
                case rel => exact ⟨j + 1, R, by go_num, by omega, by omega, HS4.out, by
                  have h1 := HRS.out.2.1 (by rw [HSS.out, if_pos rfl, HZ.out]; exact hz0)
                  rw [← HST.out] at h1
                  exact HRY.out.congr fun u _ _ => h1 u⟩
            · obtain rfl : j = l6 := by omega
              have j1 : ¬ (j : Int) < (j : Int) := by omega
              have HS5 : Hid (OrdSt w wr gW n (fun u => waitN arcs (kahn n arcs (k + 1)) u) _ R (.slice A10 (k + 1) c10) (kahn n arcs (k + 1))) := HS.out.congr fun v _ => by rw [still_all HV.out (by have := HL6.out; omega), ← HST.out]
              have HR5 : Hid (Ready n (fun u => u ∉ kahn n arcs (k + 1) ∧ waitN arcs (kahn n arcs (k + 1)) u = 0) R) := HRY.out.congr fun u _ _ => by
                rw [still_all HV.out (by have := HL6.out; omega), ← HST.out]
                constructor
                · rintro ⟨h1, h2⟩; exact ⟨h1, by omega⟩
                · rintro ⟨h1, h2⟩; exact ⟨h1, by omega⟩
              clear HS HRY
              go_wp2_with fail
              go_roundg (gk1 - 1)
              case measure => omega
              case rel => exact ⟨k + 1, R, hkm, by omega, HK1.out, HS5.out, HR5.out⟩
    | succ i =>
      have e1 : (((i + 1 : Nat) : Int) - 1) = (i : Int) := by omega
      rw [e1]
      clear e1
      have c1 := HS.out.wait.cell (i := i) (by omega)
      have i0 : ¬ (i : Int) < 0 := by omega
      have i1 : (i : Int) < (n : Int) := by omega
      obtain ⟨z, hz⟩ : ∃ z, ((waitN arcs [] (i : Int) : Nat) : Int) = z := ⟨_, rfl⟩
      simp only [hz] at c1
      by_cases hz0 : z = 0
      · have hz1 : (z == 0) = true := by simp [hz0]
        obtain ⟨A4, c4, rfl, -⟩ := own_slice HS.out.ready
        have hRl := HRY.out.length
        go_wp2_with (at_builtin; refine walk_append1 HS.out.ready HS.out.grown.size (by omega) 25 Try.underlying25 info_intB ⟨rfl, by decide, by decide⟩ _ (oneI _) (by exact ⟨rfl, rfl, rfl, rfl, rfl⟩) ?_; intro v10 w10 ho10 hu10)
        have hco : intCells R ++ (#[Value.int .i64 (i : Int)] : Array Value).toList = intCells (R ++ [(i : Int)]) := by rw [intCells_append]; rfl
        rw [hco] at ho10
        have HS2 := Lib.hid (HS.out.updReady (R' := R ++ [(i : Int)]) (by rw [List.length_append]; exact ho10) hu10)
        clear ho10 hu10
        go_wp2_with fail
        go_roundg (gk - 1)
        case measure => omega
        case rel =>
          refine ⟨i, R ++ [(i : Int)], rfl, by omega, by omega, HS2.out, ?_, fun u => ?_⟩
          · refine List.pairwise_append.2 ⟨HRY.out.sorted, List.pairwise_singleton _ _, fun u hu x hx => ?_⟩
            obtain rfl := List.mem_singleton.1 hx
            have := ((HRY.out.mem u).1 hu).2.1
            omega
          · rw [List.mem_append, List.mem_singleton, HRY.out.mem u]
            constructor
            · rintro (⟨h1, h2, h3⟩ | rfl)
              · exact ⟨h1, by omega, h3⟩
              · exact ⟨⟨by omega, i1⟩, Int.le_refl _, by omega⟩
            · rintro ⟨h1, h2, h3⟩
              by_cases e : u = (i : Int)
              · exact .inr e
              · exact .inl ⟨h1, by omega, h3⟩
      · have hz1 : (z == 0) = false := by simp [hz0]
        go_wp2_with fail
        go_roundg (gk - 1)
        case measure => omega
        case rel =>
          refine ⟨i, R, rfl, by omega, by omega, HS.out, HRY.out.congr fun u _ _ => ⟨fun ⟨h1, h2⟩ => ⟨by omega, h2⟩, fun ⟨h1, h2⟩ => ⟨?_, h2⟩⟩⟩
          by_cases e : u = (i : Int)
          · subst e; omega
          · omega
end Go.Proofs.Yteonpfomlmfkjaa
