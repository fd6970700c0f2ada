/- Law BoundBest: low, best, better, grown, in this order. -/
import Derived.Test.YtbmlkomfelkckaaAwk23
import Derived.Test.YtbmlkomfelkckaaHoldsP
import Derived.Test.YtbmlkomfelkckaaBestT
import Derived.Test.YtbmlkomfelkckaaAllP
namespace Go.Proofs.Ytbmlkomfelkckaa
open Go Go.RowKit
set_option maxRecDepth 100000

/-- What law BoundBest asks. -/
theorem best_order {rows : List (List Int)} (hm : matOk rows = true) (h12 : rows.length ≤ 12) (h1 : 1 ≤ rows.length) : ∃ m, (bestAll rows).low = some m ∧ lowNum rows ≤ m ∧
    m ≤ sumNum ((better (fun T => sumNum (T.form 0) rows) (growN rows (rows.length - 1))).form 0) rows ∧ sumNum ((better (fun T => sumNum (T.form 0) rows) (growN rows (rows.length - 1))).form 0) rows ≤ sumNum ((growN rows (rows.length - 1)).form 0) rows ∧
    (growN rows (rows.length - 1)).On rows.length ∧ (growN rows (rows.length - 1)).Norm := by
  obtain ⟨hg, hn⟩ := grow_on rows (rows.length - 1) (by omega)
  rw [show rows.length - 1 + 1 = rows.length by omega] at hg
  have hb := better_all (cost := fun T => sumNum (T.form 0) rows) hg hn
  obtain ⟨m, hlo, ⟨T, t1, t2, t3⟩, hle, -⟩ := least_got (fun T => sumNum (T.form 0) rows) h1 h12
  refine ⟨m, hlo, ?_, hle _ hb.on hb.norm, hb.le, hg, hn⟩
  rw [← t3]
  exact low_sum (errBoth_on hm t1)

set_option maxHeartbeats 4000000 in
theorem bests_calls (A2 : Option Addr) (n2 c2 : Nat) (rows : List (List Int)) (w : World) (hr : RdRows w A2 rows) (hn : rows.length = n2) (hnc : n2 ≤ c2) (hcap : c2 ≤ 9223372036854775807) :
    Calls Try.prog 16 #[.agg #[.slice A2 n2 c2]] w fun e w' => e = .returned (.bool true) ∧ Below w.heap.size w w' := by
  have b0 := below_alloc w (.cells #[.slice A2 n2 c2] 36)
  have i1 := new_cell w #[.slice A2 n2 c2] 36 0
  have hz : w.heap.size < (w.alloc (.cells #[.slice A2 n2 c2] 36)).heap.size := by simp
  have HB0 := Lib.hid b0
  have HA := Lib.hid (awake23 (w.alloc (.cells #[.slice A2 n2 c2] 36)))
  have HL1 := Lib.hid (fun (W : World) (h : Below w.heap.size w W) => low_calls A2 n2 c2 rows W (hr.below h) hn (by omega))
  have HG := Lib.hid (fun (W : World) (h : Below w.heap.size w W) => grow_all A2 n2 c2 rows W (hr.below h) hn hnc hcap)
  have HT := Lib.hid (fun (W : World) (h : Below w.heap.size w W) => best_calls A2 n2 c2 rows W (hr.below h) hn (by omega))
  have HR := Lib.hid hr
  have HN := Lib.hid hn
  clear hr hn b0
  by_cases h5 : ¬ n2 ≤ 5
  · have h5I : (n2 : Int) > 5 := by omega
    clear h5 HL1 HG HT
    go_enter Try.func16, Try.ntmps16
    go_wp2_with fail
    refine HA.out.mono ?_
    rintro _ w1 ⟨rfl, hb1⟩
    have i1 := cell_below hb1 hz i1
    have HB1 := Lib.hid (Below.then HB0.out HB0.out.size hb1)
    clear hb1
    go_wp2_with fail
    go_ret
    exact ⟨rfl, HB1.out⟩
  have h5 := Decidable.not_not.1 h5
  have h5I : ¬ (n2 : Int) > 5 := by omega
  by_cases hm : ¬ matOk rows = true
  · have he : errMat rows = 190 := by unfold errMat; rw [if_neg hm]
    have HG1 : Hid (∀ W, Below w.heap.size w W → Calls Try.prog 42 #[.agg #[.slice A2 n2 c2]] W fun e w' => Below W.heap.size W w' ∧ e = .returned (.tuple #[.agg #[.slice none 0 0], .int .i64 0, .int .i64 190])) :=
      fun W h => (HG.out W h).mono fun e w' h => by unfold RetGrow at h; rw [if_neg hm] at h; exact h
    have HT1 : Hid (∀ W, Below w.heap.size w W → Calls Try.prog 27 #[.agg #[.slice A2 n2 c2]] W fun e w' => Below W.heap.size W w' ∧ e = .returned (.tuple #[.slice none 0 0, .int .i64 0, .int .i64 190])) :=
      fun W h => (HT.out W h).mono fun e w' h => by unfold RetBestT at h; rw [if_neg hm] at h; exact h
    rw [he] at HL1
    clear he hm h5 HG HT
    go_enter Try.func16, Try.ntmps16
    go_wp2_with fail
    refine HA.out.mono ?_
    rintro _ w1 ⟨rfl, hb1⟩
    have i1 := cell_below hb1 hz i1
    have HB1 := Lib.hid (Below.then HB0.out HB0.out.size hb1)
    have hz1 := Nat.lt_of_lt_of_le hz hb1.size
    clear hb1
    go_wp2_with fail
    (with_reducible refine (HL1.out _ HB1.out).mono ?_)
    rintro _ w2 ⟨rfl, hb2⟩
    have i1 := cell_below hb2 hz1 i1
    have HB2 := Lib.hid (Below.then HB1.out HB1.out.size hb2)
    have hz2 := Nat.lt_of_lt_of_le hz1 hb2.size
    clear hb2
    go_wp2_with fail
    (with_reducible refine (HG1.out _ HB2.out).mono ?_)
    rintro _ w3 ⟨hb3, rfl⟩
    have hb4 := below_alloc w3 (.cells #[.slice none 0 0] 26)
    have hz3 := Nat.lt_of_lt_of_le hz2 hb3.size
    have i1 := cell_below hb4 hz3 (cell_below hb3 hz2 i1)
    have HB4 := Lib.hid (Below.then (Below.then HB2.out HB2.out.size hb3) (by have := HB2.out.size; have := hb3.size; omega) hb4)
    clear hb3 hb4
    go_wp2_with fail
    (with_reducible refine (HT1.out _ HB4.out).mono ?_)
    rintro _ w5 ⟨hb5, rfl⟩
    have HB5 := Lib.hid (Below.then HB4.out HB4.out.size hb5)
    clear hb5
    go_wp2_with fail
    go_ret
    exact ⟨rfl, HB5.out⟩
  have hm := Decidable.not_not.1 hm
  have hlen : 0 < n2 := by
    have := HN.out
    unfold matOk at hm
    simp at hm
    omega
  obtain ⟨mb, hlo, l1, l2, l3, hgon, hgn⟩ := best_order hm (by have := HN.out; omega) (by have := HN.out; omega)
  have hroot := hgon.root
  rw [hgn.eq] at hroot
  have herr := errBoth_on hm hgon
  have HG1 : Hid (∀ W, Below w.heap.size w W → Calls Try.prog 42 #[.agg #[.slice A2 n2 c2]] W fun e w' => Below W.heap.size W w' ∧ ∃ g c, e = .returned (.tuple #[.agg #[.slice (some ⟨g, 0, none⟩) (growN rows (rows.length - 1)).size c], .int .i64 (sumNum ((growN rows (rows.length - 1)).form 0) rows : Int), .int .i64 0]) ∧ FAt w' g c ((growN rows (rows.length - 1)).form 0)) := by
    refine Lib.hid fun W h => (HG.out W h).mono fun e w' h => ?_
    unfold RetGrow at h
    rw [if_pos hm] at h
    unfold costOf at h
    rw [List.take_length] at h
    exact h
  have HT1 : Hid (∀ W, Below w.heap.size w W → Calls Try.prog 27 #[.agg #[.slice A2 n2 c2]] W fun e w' => Below W.heap.size W w' ∧ ∃ A n c, e = .returned (.tuple #[.slice A n c, .int .i64 (mb : Int), .int .i64 0])) := by
    refine Lib.hid fun W h => (HT.out W h).mono fun e w' h => ?_
    unfold RetBestT at h
    rw [if_pos hm, if_pos (by have := HN.out; omega)] at h
    obtain ⟨h1, A, c, vs, h2, -⟩ := h
    rw [hlo] at h2
    exact ⟨h1, A, _, c, h2⟩
  have he : errMat rows = 0 := by unfold errMat; rw [if_pos hm]
  rw [he] at HL1
  obtain ⟨G, hG⟩ : ∃ G, growN rows (rows.length - 1) = G := ⟨_, rfl⟩
  rw [hG] at HG1 hroot herr l2 l3 hgon
  have hGs : G.size ≤ 23 := by have := hgon.size; have := hgon.few; omega
  have HBT := Lib.hid (fun (W : World) (g c : Nat) (h : Below w.heap.size w W) (hf : FAt W g c (G.form 0)) => better_right (c1 := c) (c2 := c2) hm hroot hf.rd (NT.form_length G 0) (by omega) (HR.out.below h) HN.out (by omega))
  have HSB : Hid (∀ (W : World) (g c : Nat), Below w.heap.size w W → FAt W g c (G.form 0) → Calls Try.prog 30 #[.agg #[.slice (some ⟨g, 0, none⟩) G.size c], .agg #[.slice A2 n2 c2]] W fun e w' => e = .returned (.tuple #[.int .i64 (sumNum (G.form 0) rows : Int), .int .i64 0]) ∧ Below W.heap.size W w') := by
    refine Lib.hid fun W g c h hf => ?_
    have := sum_calls (some ⟨g, 0, none⟩) G.size c (G.form 0) A2 n2 c2 rows W ⟨hf.rd, NT.form_length G 0, by omega, HR.out.below h, HN.out, by omega⟩
    rw [herr] at this
    exact this
  obtain ⟨B, hB⟩ : ∃ B, better (fun T => sumNum (T.form 0) rows) G = B := ⟨_, rfl⟩
  rw [hB] at HBT l2 l3
  have l1 : (lowNum rows : Int) ≤ (mb : Int) := by omega
  have l2 : (mb : Int) ≤ (sumNum (B.form 0) rows : Int) := by omega
  have l3 : (sumNum (B.form 0) rows : Int) ≤ (sumNum (G.form 0) rows : Int) := by omega
  obtain ⟨s0, hs0⟩ : ∃ s0, sumNum (G.form 0) rows = s0 := ⟨_, rfl⟩
  obtain ⟨s1, hs1⟩ : ∃ s1, sumNum (B.form 0) rows = s1 := ⟨_, rfl⟩
  obtain ⟨lo, hlo2⟩ : ∃ lo, lowNum rows = lo := ⟨_, rfl⟩
  rw [hlo2] at l1 HL1
  rw [hs1] at l2 HBT
  rw [hs0, hs1] at l3
  rw [hs0] at HG1 HSB
  have f9 : ((s0 : Int) == (s0 : Int)) = true := by simp
  clear hs0 hs1 hlo2 hlo hm hroot herr hgon hgn hG hB hGs he h5 HG HT hlen HR HN
  go_enter Try.func16, Try.ntmps16
  go_wp2_with fail
  refine HA.out.mono ?_
  rintro _ w1 ⟨rfl, hb1⟩
  have i1 := cell_below hb1 hz i1
  have HB1 := Lib.hid (Below.then HB0.out HB0.out.size hb1)
  have hz1 := Nat.lt_of_lt_of_le hz hb1.size
  clear hb1
  go_wp2_with fail
  (with_reducible refine (HL1.out _ HB1.out).mono ?_)
  rintro _ w2 ⟨rfl, hb2⟩
  have i1 := cell_below hb2 hz1 i1
  have HB2 := Lib.hid (Below.then HB1.out HB1.out.size hb2)
  have hz2 := Nat.lt_of_lt_of_le hz1 hb2.size
  clear hb2
  go_wp2_with fail
  (with_reducible refine (HG1.out _ HB2.out).mono ?_)
  rintro _ w3 ⟨hb3, g3, c3, rfl, hf3⟩
  have hb4 := below_alloc w3 (.cells #[.slice (some ⟨g3, 0, none⟩) G.size c3] 26)
  have q4 := new_cell w3 #[.slice (some ⟨g3, 0, none⟩) G.size c3] 26 0
  have hz3 := Nat.lt_of_lt_of_le hz2 hb3.size
  have i1 := cell_below hb4 hz3 (cell_below hb3 hz2 i1)
  have HB4 := Lib.hid (Below.then (Below.then HB2.out HB2.out.size hb3) (by have := HB2.out.size; have := hb3.size; omega) hb4)
  have HF4 := Lib.hid (hf3.below hb4)
  have hz4 : w3.heap.size < (w3.alloc (.cells #[.slice (some ⟨g3, 0, none⟩) G.size c3] 26)).heap.size := by simp
  clear hb3 hb4 hf3 HG1 HL1
  go_wp2_with fail
  generalize w3.alloc (.cells #[.slice (some ⟨g3, 0, none⟩) G.size c3] 26) = W4 at *
  (with_reducible refine (HT1.out _ HB4.out).mono ?_)
  rintro _ w5 ⟨hb5, A5, n5, c5, rfl⟩
  have i1 := cell_below hb5 (by omega) i1
  have q4 := cell_below hb5 hz4 q4
  have HB5 := Lib.hid (Below.then HB4.out HB4.out.size hb5)
  have HF5 := Lib.hid (HF4.out.below hb5)
  have hz5 := Nat.lt_of_lt_of_le hz4 hb5.size
  clear hb5 HT1
  go_wp2_with fail
  (with_reducible refine (HBT.out _ _ _ HB5.out HF5.out).mono ?_)
  rintro _ w6 ⟨hb6, g6, c6, rfl, -⟩
  have hb7 := below_alloc w6 (.cells #[.slice (some ⟨g6, 0, none⟩) B.size c6] 26)
  have hz6 := Nat.lt_of_lt_of_le hz5 hb6.size
  have i1 := cell_below hb7 (by omega) (cell_below hb6 (by omega) i1)
  have q4 := cell_below hb7 hz6 (cell_below hb6 hz5 q4)
  have HB7 := Lib.hid (Below.then (Below.then HB5.out HB5.out.size hb6) (by have := HB5.out.size; have := hb6.size; omega) hb7)
  have HF7 := Lib.hid ((HF5.out.below hb6).below hb7)
  clear hb6 hb7 HBT
  go_wp2_with fail
  (with_reducible refine (HSB.out _ _ _ HB7.out HF7.out).mono ?_)
  rintro _ w8 ⟨rfl, hb8⟩
  have HB8 := Lib.hid (Below.then HB7.out HB7.out.size hb8)
  clear hb8
  go_wp2_with fail
  go_ret
  exact ⟨rfl, HB8.out⟩
end Go.Proofs.Ytbmlkomfelkckaa
