/- siglumref15: wrong, free, Order, Ranks; siglumlaw15.same. -/
import Derived.Test.YteonpfomlmfkjaaRkRanks
namespace Go.Proofs.Yteonpfomlmfkjaa
open Go Go.RowKit
set_option maxRecDepth 100000

theorem arc_get {w : World} {A : Option Addr} {arcs : List (Int × Int)} (h : RdArcs w A arcs) {k : Nat} (hk : k < arcs.length) : ∃ a b ad, arcs[k]? = some (a, b) ∧ A = some ad ∧ w.cell? (ad.add (k * 2)) = some (.int .i64 a) ∧ w.cell? ⟨(ad.add (k * 2)).block, (ad.add (k * 2)).off + 1, none⟩ = some (.int .i64 b) := by
  obtain ⟨ad, h1, h2, h3⟩ := h k arcs[k] (List.getElem?_eq_getElem hk)
  exact ⟨_, _, ad, List.getElem?_eq_getElem hk, h1, h2, h3⟩

theorem take_mem_succ {arcs : List (Int × Int)} {k : Nat} {a : Int × Int} (h : arcs[k]? = some a) {P : Int × Int → Prop} (h1 : ∀ x ∈ arcs.take k, P x) (h2 : P a) : ∀ x ∈ arcs.take (k + 1), P x := by
  obtain ⟨hk, he⟩ := List.getElem?_eq_some_iff.1 h
  intro x hx
  rw [List.take_succ_eq_append_getElem hk, he] at hx
  rcases List.mem_append.1 hx with hx | hx
  · exact h1 x hx
  · rw [List.mem_singleton.1 hx]; exact h2

/-- May it not be? -/
def RetWrong (w : World) (P : Prop) (e : Ending) (w' : World) : Prop := w' = w ∧ (P → e = .returned (.bool false)) ∧ (¬ P → e = .returned (.bool true))

set_option maxHeartbeats 4000000 in
theorem wrong_calls (A : Option Addr) (n c : Nat) (arcs : List (Int × Int)) (z : Int) (w : World) (hr : RdArcs w A arcs) (hn : arcs.length = n) (hcap : n ≤ 9223372036854775807) (hz1 : -9223372036854775808 ≤ z) (hz2 : z ≤ 9223372036854775807) :
    Calls Try.prog 19 #[.int .i64 z, .slice A n c] w (RetWrong w (arcsOk z arcs)) := by
  have HR := Lib.hid hr
  have HN := Lib.hid hn
  by_cases g1 : z < 0
  · have HNO : Hid (¬ arcsOk z arcs) := fun h => by have := h.1; omega
    clear hr hn
    go_enter Try.func19, Try.ntmps19
    go_wp2_with fail
    go_ret
    exact ⟨rfl, fun h => absurd h HNO.out, fun _ => rfl⟩
  by_cases g2 : 4096 < z
  · have HNO : Hid (¬ arcsOk z arcs) := fun h => by have := h.2.1; omega
    clear hr hn
    go_enter Try.func19, Try.ntmps19
    go_wp2_with fail
    go_ret
    exact ⟨rfl, fun h => absurd h HNO.out, fun _ => rfl⟩
  by_cases g3 : (16384 : Int) < (n : Int)
  · have HNO : Hid (¬ arcsOk z arcs) := fun h => by have := h.2.2.1; omega
    clear hr hn
    go_enter Try.func19, Try.ntmps19
    go_wp2_with fail
    go_ret
    exact ⟨rfl, fun h => absurd h HNO.out, fun _ => rfl⟩
  clear hr hn
  go_enter Try.func19, Try.ntmps19
  go_wp2_with fail
  go_loopg [5] n (fun gk v5 wr => ∃ k : Nat, v5 = .int .i64 k ∧ k ≤ n ∧ n - k ≤ gk ∧ wr = w ∧ Hid (∀ a ∈ arcs.take k, 0 ≤ a.1 ∧ a.1 < z ∧ 0 ≤ a.2 ∧ a.2 < z))
  case atStart => exact ⟨0, rfl, Nat.zero_le _, by omega, rfl, fun a ha => (by cases ha)⟩
  case round =>
    obtain ⟨k, rfl, hk, hg, rfl, HP⟩ := hrel
    by_cases hkn : k < n
    · have k1 : (k : Int) < (n : Int) := by omega
      obtain ⟨a, b, ad, ha, rfl, e0, e1⟩ := arc_get HR.out (k := k) (by have := HN.out; omega)
      have hno : ¬ (0 ≤ a ∧ a < z ∧ 0 ≤ b ∧ b < z) → ¬ arcsOk z arcs := fun h h' => h (h'.2.2.2 _ (List.mem_of_getElem? ha))
      by_cases h1 : a < 0
      · have HN0 := Lib.hid (hno (fun h => by omega))
        clear hno
        go_wp2_with fail
        go_ret
        exact ⟨rfl, fun h => absurd h HN0.out, fun _ => rfl⟩
      by_cases h2 : z ≤ a
      · have HN0 := Lib.hid (hno (fun h => by omega))
        clear hno
        go_wp2_with fail
        go_ret
        exact ⟨rfl, fun h => absurd h HN0.out, fun _ => rfl⟩
      by_cases h3 : b < 0
      · have HN0 := Lib.hid (hno (fun h => by omega))
        clear hno
        go_wp2_with fail
        go_ret
        exact ⟨rfl, fun h => absurd h HN0.out, fun _ => rfl⟩
      by_cases h4 : z ≤ b
      · have HN0 := Lib.hid (hno (fun h => by omega))
        clear hno
        go_wp2_with fail
        go_ret
        exact ⟨rfl, fun h => absurd h HN0.out, fun _ => rfl⟩
      have HP2 : Hid (∀ a ∈ arcs.take (k + 1), 0 ≤ a.1 ∧ a.1 < z ∧ 0 ≤ a.2 ∧ a.2 < z) := take_mem_succ ha HP.out ⟨by simp only; omega, by simp only; omega, by simp only; omega, by simp only; omega⟩
      clear hno ha
      go_wp2_with fail
      go_roundg (gk - 1)
      case measure => omega
      case rel => exact ⟨k + 1, by go_num, by omega, by omega, rfl, HP2.out⟩
    · obtain rfl : k = n := by omega
      have k1 : ¬ (k : Int) < (k : Int) := by omega
      have HOK : Hid (arcsOk z arcs) := ⟨by omega, by omega, by have := HN.out; omega, by have := HP.out; rwa [List.take_of_length_le (by have := HN.out; omega)] at this⟩
      go_wp2_with fail
      go_ret
      exact ⟨rfl, fun _ => rfl, fun h => absurd HOK.out h⟩

set_option maxHeartbeats 4000000 in
theorem free_calls (A : Option Addr) (n c m gS : Nat) (arcs : List (Int × Int)) (v : Nat) (out : List Int) (w : World) (hr : RdArcs w A arcs) (hn : arcs.length = n) (hcap : n ≤ 9223372036854775807) (hok : ∀ a ∈ arcs, 0 ≤ a.1 ∧ a.1 < (m : Int) ∧ 0 ≤ a.2 ∧ a.2 < (m : Int)) (_hm : m ≤ 4096)
    (hs : w.rowIs gS 4 m fun u => .bool (out.contains (u : Int))) (_hv : v < m) :
    Calls Try.prog 22 #[.int .i64 v, .slice A n c, .slice (some ⟨gS, 0, none⟩) m m] w fun e w' => w' = w ∧ e = .returned (.bool (waitN arcs out (v : Int) == 0)) := by
  have HR := Lib.hid hr
  have HN := Lib.hid hn
  have HS := Lib.hid hs
  have HOK := Lib.hid hok
  obtain ⟨r, hrr⟩ : ∃ r, (waitN arcs out (v : Int) == 0) = r := ⟨_, rfl⟩
  have HRR := Lib.hid hrr
  rw [hrr]
  clear hr hn hs hok hrr
  go_enter Try.func22, Try.ntmps22
  go_wp2_with fail
  go_loopg [7] n (fun gk v7 wr => ∃ k : Nat, v7 = .int .i64 k ∧ k ≤ n ∧ n - k ≤ gk ∧ wr = w ∧ Hid (∀ a ∈ arcs.take k, a.2 = (v : Int) → a.1 ∈ out))
  case atStart => exact ⟨0, rfl, Nat.zero_le _, by omega, rfl, fun a ha => (by cases ha)⟩
  case round =>
    obtain ⟨k, rfl, hk, hg, rfl, HP⟩ := hrel
    by_cases hkn : k < n
    · have k1 : (k : Int) < (n : Int) := by omega
      obtain ⟨a, b, ad, ha, rfl, e0, e1⟩ := arc_get HR.out (k := k) (by have := HN.out; omega)
      obtain ⟨a0, a1, b0, b1⟩ := HOK.out _ (List.mem_of_getElem? ha)
      obtain ⟨a, rfl⟩ : ∃ a' : Nat, a = (a' : Int) := ⟨a.toNat, by simp only at a0; omega⟩
      have ham : a < m := by simp only at a1; omega
      have aI : (a : Int) < (m : Int) := by omega
      have s1 := HS.out.cell ham
      by_cases hb : b = (v : Int)
      · subst hb
        have f1 : ((v : Int) == (v : Int)) = true := by simp
        obtain ⟨q, hq⟩ : ∃ q, out.contains (a : Int) = q := ⟨_, rfl⟩
        rw [hq] at s1
        cases q with
        | true =>
          have HP2 : Hid (∀ a ∈ arcs.take (k + 1), a.2 = (v : Int) → a.1 ∈ out) := take_mem_succ ha HP.out (fun _ => by simpa using hq)
          clear ha hq a0 a1 b0 b1
          go_wp2_with fail
          go_roundg (gk - 1)
          case measure => omega
          case rel => exact ⟨k + 1, by go_num, by omega, by omega, rfl, HP2.out⟩
        | false =>
          have hrf : Hid (r = false) := by
            show r = false
            rw [← HRR.out, beq_eq_false_iff_ne]
            intro h
            have := waitN_zero.1 h _ (List.mem_of_getElem? ha) rfl
            simp at hq
            exact hq this
          clear ha hq a0 a1 b0 b1
          go_wp2_with fail
          go_ret
          rw [hrf.out]
          exact ⟨rfl, rfl⟩
      · have f1 : (b == (v : Int)) = false := by rw [beq_eq_false_iff_ne]; exact hb
        have HP2 : Hid (∀ a ∈ arcs.take (k + 1), a.2 = (v : Int) → a.1 ∈ out) := take_mem_succ ha HP.out (fun h => absurd h hb)
        clear ha a0 a1 b0 b1 hb
        go_wp2_with fail
        go_roundg (gk - 1)
        case measure => omega
        case rel => exact ⟨k + 1, by go_num, by omega, by omega, rfl, HP2.out⟩
    · obtain rfl : k = n := by omega
      have k1 : ¬ (k : Int) < (k : Int) := by omega
      have hrt : Hid (r = true) := by
        show r = true
        rw [← HRR.out, beq_iff_eq]
        refine waitN_zero.2 ?_
        have := HP.out
        rwa [List.take_of_length_le (by have := HN.out; omega)] at this
      go_wp2_with fail
      go_ret
      rw [hrt.out]
      exact ⟨rfl, rfl⟩

theorem next_at {n : Nat} {arcs : List (Int × Int)} {out : List Int} {i : Nat} (hi : i < n) (hf : freeB arcs out (i : Int) = true) (h : ∀ j : Nat, j < i → freeB arcs out (j : Int) = false) : nextFree n arcs out = some (i : Int) := by
  unfold nextFree
  rw [List.find?_eq_some_iff_getElem]
  refine ⟨hf, i, by rw [nodes_length]; exact hi, by simp [nodes], fun j hj => ?_⟩
  have := h j hj
  simp [nodes, this]

theorem next_not {n : Nat} {arcs : List (Int × Int)} {out : List Int} (h : ∀ j : Nat, j < n → freeB arcs out (j : Int) = false) : nextFree n arcs out = none := by
  unfold nextFree
  rw [List.find?_eq_none]
  intro v hv
  obtain ⟨h1, h2⟩ := mem_nodes.1 hv
  obtain ⟨j, rfl⟩ : ∃ j : Nat, v = (j : Int) := ⟨v.toNat, by omega⟩
  rw [h j (by omega)]
  decide

set_option maxHeartbeats 8000000 in
theorem rorder_calls (A : Option Addr) (n c : Nat) (arcs : List (Int × Int)) (z : Int) (w : World) (hr : RdArcs w A arcs) (hn : arcs.length = n) (hcap : n ≤ 9223372036854775807) (hz1 : -9223372036854775808 ≤ z) (hz2 : z ≤ 9223372036854775807) :
    Calls Try.prog 14 #[.int .i64 z, .slice A n c] w (RetList w (orderOf z arcs)) := by
  have HWR := Lib.hid (wrong_calls A n c arcs z w hr hn hcap hz1 hz2)
  have HR := Lib.hid hr
  clear hr
  by_cases hok : arcsOk z arcs
  rotate_left
  · have HE : Hid (orderOf z arcs = (2, [])) := by show _ = _; unfold orderOf; rw [if_neg hok]
    clear hn
    go_enter Try.func14, Try.ntmps14
    go_wp2_with fail
    (with_reducible refine HWR.out.mono ?_)
    rintro e w1 ⟨rfl, hyes, hno⟩
    obtain rfl := hno hok
    clear hyes hno hok
    go_wp2_with fail
    go_ret2
    rw [HE.out]
    exact RetList.nil (Below.refl _ _)
  obtain ⟨m, rfl⟩ : ∃ m : Nat, z = (m : Int) := ⟨z.toNat, by have := hok.1; omega⟩
  have hm : m ≤ 4096 := by have := hok.2.1; omega
  have HOK := Lib.hid hok
  have HN := Lib.hid hn
  have hmk := run_make_row' (P := Try.prog) 44 4 (.bool false) 1 Try.underlying44 (by kernel_rfl) rfl .i64 .i64 m (by omega) (by omega)
  have HE : Hid (orderOf (m : Int) arcs = if (kahn m arcs m).length = m then (0, kahn m arcs m) else (150, [])) := by show _ = _; unfold orderOf; rw [if_pos hok]; rfl
  clear hok hn
  go_enter Try.func14, Try.ntmps14
  go_wp2_with fail
  (with_reducible refine HWR.out.mono ?_)
  rintro e w1 ⟨rfl, hyes, hno⟩
  obtain rfl := hyes HOK.out
  clear hyes hno HWR
  have HB1 := Lib.hid (below_alloc w1 (.cells (madeCells #[.bool false] m) 4))
  have HR1 := Lib.hid (World.rowIs_made w1 (.bool false) m 4)
  obtain ⟨gS, hgS⟩ : ∃ g, w1.heap.size = g := ⟨_, rfl⟩
  have HGS := Lib.hid hgS
  go_wp2_with fail
  generalize w1.alloc (.cells (madeCells #[.bool false] m) 4) = W1 at *
  have HR2 : Hid (W1.rowIs gS 4 m fun u => .bool ((kahn m arcs 0).contains (u : Int))) := by rw [← hgS]; exact HR1.out.congr fun u _ => by simp [kahn]
  clear hgS HR1 hmk
  have HLT := Lib.hid HR2.out.lt
  go_loopg [7] m (fun gk v7 wr => ∃ k : Nat, k ≤ m ∧ m - k ≤ gk ∧ Hid ((kahn m arcs k).length = k) ∧ Hid (Below w1.heap.size w1 wr) ∧ Hid (wr.ownsRow W1.heap.size 3 1 v7 k (intCells (kahn m arcs k))) ∧ Hid (wr.rowIs gS 4 m fun u => .bool ((kahn m arcs k).contains (u : Int))) ∧ Hid (W1.heap.size ≤ wr.heap.size))
  case atStart => exact ⟨0, Nat.zero_le _, by omega, rfl, HB1.out, World.ownsRow_nil _ _ _ _, HR2.out, Nat.le_refl _⟩
  case round =>
    obtain ⟨k, hk, hg, HKL, HB, HO, HS, HSZ⟩ := hrel
    obtain ⟨A7, c7, rfl, -⟩ := own_slice HO.out
    by_cases hkm : k < m
    · have k1 : (k : Int) < (m : Int) := by omega
      obtain ⟨wo, rfl⟩ : ∃ wo : World, wo = wr := ⟨_, rfl⟩
      obtain ⟨gk1, rfl⟩ : ∃ gk1 : Nat, gk1 = gk := ⟨_, rfl⟩
      have HFR := Lib.hid (fun (i : Nat) (hi : i < m) => free_calls A n c m gS arcs i (kahn m arcs k) wo (HR.out.below HB.out) HN.out hcap HOK.out.2.2.2 hm HS.out hi)
      go_wp2_with fail
      go_loopg [8, 9] m (fun gk v8 v9 wr => ∃ i : Nat, v9 = .int .i64 i ∧ i ≤ m ∧ m - i ≤ gk ∧ wr = wo ∧ ((v8 = .int .i64 (-1) ∧ Hid (∀ j : Nat, j < i → freeB arcs (kahn m arcs k) (j : Int) = false)) ∨ ∃ u : Nat, v8 = .int .i64 (u : Int) ∧ u < m ∧ Hid (nextFree m arcs (kahn m arcs k) = some (u : Int))))
      case atStart => exact ⟨0, rfl, Nat.zero_le _, by omega, rfl, .inl ⟨rfl, fun j hj => by omega⟩⟩
      case round =>
        obtain ⟨i, rfl, hi, hgi, rfl, hcase⟩ := hrel
        rcases hcase with ⟨rfl, HNF⟩ | ⟨u, rfl, hu, HNX⟩
        · by_cases him : i < m
          · have i1 : (i : Int) < (m : Int) := by omega
            have s1 := HS.out.cell him
            have hfr := HFR.out i him
            obtain ⟨q, hq⟩ : ∃ q, (kahn m arcs k).contains (i : Int) = q := ⟨_, rfl⟩
            obtain ⟨r, hr⟩ : ∃ r, (waitN arcs (kahn m arcs k) (i : Int) == 0) = r := ⟨_, rfl⟩
            simp only [hq] at s1
            rw [hr] at hfr
            have HFB : Hid (freeB arcs (kahn m arcs k) (i : Int) = (!q && r)) := by show _ = _; unfold freeB; rw [hq, hr]
            have HF := Lib.hid hfr
            clear hq hr hfr
            cases q with
            | true =>
              have HNF2 : Hid (∀ j : Nat, j < i + 1 → freeB arcs (kahn m arcs k) (j : Int) = false) := fun j hj => by
                by_cases e : j = i
                · subst e; rw [HFB.out]; rfl
                · exact HNF.out j (by omega)
              go_wp2_with fail
              go_roundg (gk - 1)
              case measure => omega
              case rel => exact ⟨i + 1, by go_num, by omega, by omega, rfl, .inl ⟨rfl, HNF2.out⟩⟩
            | false =>
              cases r with
              | false =>
                have HNF2 : Hid (∀ j : Nat, j < i + 1 → freeB arcs (kahn m arcs k) (j : Int) = false) := fun j hj => by
                  by_cases e : j = i
                  · subst e; rw [HFB.out]; rfl
                  · exact HNF.out j (by omega)
                go_wp2_with fail
                (with_reducible refine HF.out.mono ?_)
                rintro e w5 ⟨rfl, rfl⟩
                go_wp2_with fail
                go_roundg (gk - 1)
                case measure => omega
                case rel => exact ⟨i + 1, by go_num, by omega, by omega, rfl, .inl ⟨rfl, HNF2.out⟩⟩
              | true =>
                have HNX := Lib.hid (next_at him (by rw [HFB.out]; rfl) HNF.out)
                go_wp2_with fail
                (with_reducible refine HF.out.mono ?_)
                rintro e w5 ⟨rfl, rfl⟩
                go_wp2_with fail
                go_roundg (gk - 1)
                case measure => omega
                case rel => exact ⟨i + 1, by go_num, by omega, by omega, rfl, .inr ⟨i, rfl, him, HNX.out⟩⟩
          · obtain rfl : i = m := by omega
            have i1 : ¬ (i : Int) < (i : Int) := by omega
            have HE2 : Hid (orderOf (i : Int) arcs = (150, [])) := by
              show _ = _
              have h1 := kahn_stop (next_not HNF.out) i hk
              rw [HE.out, h1, HKL.out, if_neg (by omega)]
            go_wp2_with fail
            go_ret2
            rw [HE2.out]
            exact RetList.nil HB.out
        · have u0 : ¬ (u : Int) < 0 := by omega
          have uI : (u : Int) < (m : Int) := by omega
          have s2 := HS.out.frozen u
          have s3 := HS.out.cell hu
          have hst := kahn_step HNX.out
          have hkm1 := kahn_most m arcs (k + 1)
          have HST := Lib.hid hst
          have HKL2 : Hid ((kahn m arcs (k + 1)).length = k + 1) := by show _ = _; rw [hst, List.length_append, HKL.out]; rfl
          rw [HKL2.out] at hkm1
          have HS2 : Hid ((wr.setCell ⟨gS, u, none⟩ (.bool true)).rowIs gS 4 m fun x => .bool ((kahn m arcs (k + 1)).contains (x : Int))) := (HS.out.set u (.bool true)).congr fun x _ => by
            rw [HST.out]
            by_cases e : x = u
            · subst e; rw [if_pos rfl]; simp
            · rw [if_neg e]
              have : (x : Int) ≠ (u : Int) := by omega
              simp [this]
          have hgw : gS ≥ w1.heap.size := by have := HGS.out; omega
          have HB2 := Lib.hid (below_set HB.out hgw u (.bool true))
          have HO2 : Hid ((wr.setCell ⟨gS, u, none⟩ (.bool true)).ownsRow W1.heap.size 3 1 (.slice A7 k c7) k (intCells (kahn m arcs k))) := ownsRow_setCell_below HO.out (a := ⟨gS, u, none⟩) HLT.out _
          have hsz2 : W1.heap.size ≤ (wr.setCell ⟨gS, u, none⟩ (.bool true)).heap.size := by simpa using HSZ.out
          have HLT2 := Lib.hid (show gS < (wr.setCell ⟨gS, u, none⟩ (.bool true)).heap.size by have := HLT.out; omega)
          have HWZ : Hid (w1.heap.size ≤ W1.heap.size) := HB1.out.size
          clear hst hgw
          by_cases him : i < m
          · have i1 : (i : Int) < (m : Int) := by omega
            go_wp2_with (at_builtin; refine walk_append1 HO2.out hsz2 (by omega) 25 Try.underlying25 info_intB ⟨rfl, by decide, by decide⟩ _ (oneI _) (by refine ⟨rfl, rfl, rfl, rfl, ?_⟩; simp) ?_; intro v10 w10 ho10 hu10)
            have hco : intCells (kahn m arcs k) ++ (#[Value.int .i64 (u : Int)] : Array Value).toList = intCells (kahn m arcs (k + 1)) := by rw [HST.out, intCells_append]; rfl
            rw [hco] at ho10
            obtain ⟨hg10, hn10⟩ := hu10
            have hob := own_base HO2.out
            have hoe := own_elem HO2.out
            have HS3 : Hid (w10.rowIs gS 4 m fun x => .bool ((kahn m arcs (k + 1)).contains (x : Int))) := HS2.out.of_block (hg10.block gS HLT2.out (fun e => by have := hob gS e.symm; have := HLT.out; omega))
            have HB3 : Hid (Below w1.heap.size w1 w10) := HB2.out.trans ⟨hg10.os, hg10.tape, hg10.output, hg10.size, fun x hx => hg10.block x (Nat.lt_of_lt_of_le hx HB2.out.size) (fun e => by have := hob x e.symm; have := HWZ.out; omega)⟩
            have HO3 := Lib.hid ho10
            have HZ3 : Hid (W1.heap.size ≤ w10.heap.size) := Nat.le_trans hsz2 hg10.size
            clear ho10 hg10 hn10 hob hoe
            go_roundg (gk1 - 1)
            case measure => omega
            case rel => exact ⟨k + 1, hkm1, by omega, HKL2.out, HB3.out, HO3.out, HS3.out, HZ3.out⟩
          · have i1 : ¬ (i : Int) < (m : Int) := by omega
            go_wp2_with (at_builtin; refine walk_append1 HO2.out hsz2 (by omega) 25 Try.underlying25 info_intB ⟨rfl, by decide, by decide⟩ _ (oneI _) (by refine ⟨rfl, rfl, rfl, rfl, ?_⟩; simp) ?_; intro v10 w10 ho10 hu10)
            have hco : intCells (kahn m arcs k) ++ (#[Value.int .i64 (u : Int)] : Array Value).toList = intCells (kahn m arcs (k + 1)) := by rw [HST.out, intCells_append]; rfl
            rw [hco] at ho10
            obtain ⟨hg10, hn10⟩ := hu10
            have hob := own_base HO2.out
            have hoe := own_elem HO2.out
            have HS3 : Hid (w10.rowIs gS 4 m fun x => .bool ((kahn m arcs (k + 1)).contains (x : Int))) := HS2.out.of_block (hg10.block gS HLT2.out (fun e => by have := hob gS e.symm; have := HLT.out; omega))
            have HB3 : Hid (Below w1.heap.size w1 w10) := HB2.out.trans ⟨hg10.os, hg10.tape, hg10.output, hg10.size, fun x hx => hg10.block x (Nat.lt_of_lt_of_le hx HB2.out.size) (fun e => by have := hob x e.symm; have := HWZ.out; omega)⟩
            have HO3 := Lib.hid ho10
            have HZ3 : Hid (W1.heap.size ≤ w10.heap.size) := Nat.le_trans hsz2 hg10.size
            clear ho10 hg10 hn10 hob hoe
            go_roundg (gk1 - 1)
            case measure => omega
            case rel => exact ⟨k + 1, hkm1, by omega, HKL2.out, HB3.out, HO3.out, HS3.out, HZ3.out⟩
    · obtain rfl : k = m := by omega
      have k1 : ¬ (k : Int) < (k : Int) := by omega
      have HE2 : Hid (orderOf (k : Int) arcs = (0, kahn k arcs k)) := by
        show _ = _
        rw [HE.out, if_pos HKL.out]
      go_wp2_with fail
      go_ret2
      rw [HE2.out]
      have h1 := HB1.out.size
      have h2 := HGS.out
      exact ⟨HB.out, A7, c7, by rw [HKL.out]; rfl, by show World.ownsRow wr _ _ _ (.slice A7 (kahn k arcs k).length c7) (kahn k arcs k).length _; rw [HKL.out]; exact own_mono HO.out h1⟩
end Go.Proofs.Yteonpfomlmfkjaa
