/- Law BoundGrows: the tree that is made leaf by leaf. -/
import Derived.Test.YtbmlkomfelkckaaAwk23
import Derived.Test.YtbmlkomfelkckaaRGrow
import Derived.Test.YtbmlkomfelkckaaSame
namespace Go.Proofs.Ytbmlkomfelkckaa
open Go Go.RowKit
set_option maxRecDepth 100000

set_option maxHeartbeats 2000000 in
theorem grows_calls (A : Option Addr) (n c : Nat) (rows : List (List Int)) (w : World) (hr : RdRows w A rows) (hn : rows.length = n) (hnc : n ≤ c) (hcap : c ≤ 9223372036854775807) :
    Calls Try.prog 12 #[.agg #[.slice A n c]] w fun e w' => e = .returned (.bool true) ∧ Below w.heap.size w w' := by
  have HA := Lib.hid (awake23 (w.alloc (.cells #[.slice A n c] 36)))
  have HL := Lib.hid (fun (W : World) (h : Below w.heap.size w W) => grow_all A n c rows W (hr.below h) hn hnc hcap)
  have HK := Lib.hid (fun (W : World) (h : Below w.heap.size w W) => rgrow_all A n c rows W (hr.below h) hn hnc hcap)
  have hb0 := below_alloc w (.cells #[.slice A n c] 36)
  have c0 := new_cell w #[.slice A n c] 36 0
  have hz : w.heap.size < (w.alloc (.cells #[.slice A n c] 36)).heap.size := by simp
  have HB0 := Lib.hid hb0
  have HG : Hid (matOk rows = true → (growN rows (rows.length - 1)).size ≤ 1000) := by
    intro hm
    have hlen : 0 < n ∧ n ≤ 12 := by
      unfold matOk at hm
      simp at hm
      omega
    obtain ⟨hon, -⟩ := grow_on rows (rows.length - 1) (by omega)
    have := hon.size
    omega
  clear hr hn hb0
  by_cases hm : matOk rows = true
  · have HL1 : Hid (∀ W, Below w.heap.size w W → Calls Try.prog 42 #[.agg #[.slice A n c]] W fun e w' => Below W.heap.size W w' ∧ ∃ g c, e = .returned (.tuple #[.agg #[.slice (some ⟨g, 0, none⟩) (growN rows (rows.length - 1)).size c], .int .i64 (costOf rows rows.length (growN rows (rows.length - 1)) : Int), .int .i64 0]) ∧ FAt w' g c ((growN rows (rows.length - 1)).form 0)) :=
      fun W h => (HL.out W h).mono fun e w' h => by unfold RetGrow at h; rw [if_pos hm] at h; exact h
    have HK1 : Hid (∀ W, Below w.heap.size w W → Calls Try.prog 43 #[.agg #[.slice A n c]] W fun e w' => Below W.heap.size W w' ∧ ∃ g c, e = .returned (.tuple #[.agg #[.slice (some ⟨g, 0, none⟩) (growN rows (rows.length - 1)).size c], .int .i64 (costOf rows rows.length (growN rows (rows.length - 1)) : Int), .int .i64 0]) ∧ FAt w' g c ((growN rows (rows.length - 1)).form 0)) :=
      fun W h => (HK.out W h).mono fun e w' h => by unfold RetGrow at h; rw [if_pos hm] at h; exact h
    have hg := HG.out hm
    obtain ⟨G, hG⟩ : ∃ G, growN rows (rows.length - 1) = G := ⟨_, rfl⟩
    obtain ⟨co, hco⟩ : ∃ co, costOf rows rows.length G = co := ⟨_, rfl⟩
    rw [hG, hco] at HL1 HK1
    rw [hG] at hg
    have HSA := Lib.hid (fun (W : World) (g1 c1 g2 c2 : Nat) (h1 : FAt W g1 c1 (G.form 0)) (h2 : FAt W g2 c2 (G.form 0)) => same_calls (some ⟨g1, 0, none⟩) (some ⟨g2, 0, none⟩) G.size c1 c2 (G.form 0) W h1.rd h2.rd (NT.form_length G 0) (by omega))
    have f1 : ((co : Int) == (co : Int)) = true := by simp
    clear HL HK HG hm hG hco
    go_enter Try.func12, Try.ntmps12
    go_wp2_with fail
    refine HA.out.mono ?_
    rintro _ w1 ⟨rfl, hb1⟩
    have c0 := cell_below hb1 hz c0
    have HB1 := Lib.hid (Below.then HB0.out HB0.out.size hb1)
    have hz1 := Nat.lt_of_lt_of_le hz hb1.size
    clear hb1
    go_wp2_with fail
    (with_reducible refine (HL1.out _ HB1.out).mono ?_)
    rintro _ w2 ⟨hb2, g2, c2, rfl, hf2⟩
    have hb3 := below_alloc w2 (.cells #[.slice (some ⟨g2, 0, none⟩) G.size c2] 26)
    have q2 := new_cell w2 #[.slice (some ⟨g2, 0, none⟩) G.size c2] 26 0
    have hz2 := hb2.size
    have c0 := cell_below hb3 (by omega) (cell_below hb2 hz1 c0)
    have HB3 := Lib.hid (Below.then (Below.then HB1.out HB1.out.size hb2) (by omega) hb3)
    have HF2 := Lib.hid (hf2.below hb3)
    have hz3 : w2.heap.size < (w2.alloc (.cells #[.slice (some ⟨g2, 0, none⟩) G.size c2] 26)).heap.size := by simp
    clear hb2 hb3 hf2
    go_wp2_with fail
    generalize w2.alloc (.cells #[.slice (some ⟨g2, 0, none⟩) G.size c2] 26) = W3 at *
    (with_reducible refine (HK1.out _ HB3.out).mono ?_)
    rintro _ w4 ⟨hb4, g4, c4, rfl, hf4⟩
    have hb5 := below_alloc w4 (.cells #[.slice (some ⟨g4, 0, none⟩) G.size c4] 26)
    have q4 := new_cell w4 #[.slice (some ⟨g4, 0, none⟩) G.size c4] 26 0
    have hz4 := hb4.size
    have q2 := cell_below hb5 (by omega) (cell_below hb4 (by omega) q2)
    have HB5 := Lib.hid (Below.then (Below.then HB3.out HB3.out.size hb4) (by omega) hb5)
    have HF4 := Lib.hid (hf4.below hb5)
    have HF2 := Lib.hid ((HF2.out.below hb4).below hb5)
    have hz5 : w4.heap.size < (w4.alloc (.cells #[.slice (some ⟨g4, 0, none⟩) G.size c4] 26)).heap.size := by simp
    clear hb4 hb5 hf4
    go_wp2_with fail
    generalize w4.alloc (.cells #[.slice (some ⟨g4, 0, none⟩) G.size c4] 26) = W5 at *
    (with_reducible refine (HSA.out _ _ _ _ _ HF2.out HF4.out).mono ?_)
    rintro _ w6 ⟨rfl, hb6⟩
    have HB6 := Lib.hid (Below.then HB5.out HB5.out.size hb6)
    clear hb6
    go_wp2_with fail
    go_ret
    exact ⟨rfl, HB6.out⟩
  · have HL1 : Hid (∀ W, Below w.heap.size w W → Calls Try.prog 42 #[.agg #[.slice A n c]] W fun e w' => Below W.heap.size W w' ∧ e = .returned (.tuple #[.agg #[.slice none 0 0], .int .i64 0, .int .i64 190])) :=
      fun W h => (HL.out W h).mono fun e w' h => by unfold RetGrow at h; rw [if_neg hm] at h; exact h
    have HK1 : Hid (∀ W, Below w.heap.size w W → Calls Try.prog 43 #[.agg #[.slice A n c]] W fun e w' => Below W.heap.size W w' ∧ e = .returned (.tuple #[.agg #[.slice none 0 0], .int .i64 0, .int .i64 190])) :=
      fun W h => (HK.out W h).mono fun e w' h => by unfold RetGrow at h; rw [if_neg hm] at h; exact h
    clear HL HK HG hm
    have HSA := Lib.hid (fun (W : World) => same_calls none none 0 0 0 [] W (fun i x hi => by simp at hi) (fun i x hi => by simp at hi) rfl (by omega))
    go_enter Try.func12, Try.ntmps12
    go_wp2_with fail
    refine HA.out.mono ?_
    rintro _ w1 ⟨rfl, hb1⟩
    have c0 := cell_below hb1 hz c0
    have HB1 := Lib.hid (Below.then HB0.out HB0.out.size hb1)
    have hz1 := Nat.lt_of_lt_of_le hz hb1.size
    clear hb1
    go_wp2_with fail
    (with_reducible refine (HL1.out _ HB1.out).mono ?_)
    rintro _ w2 ⟨hb2, rfl⟩
    have hb3 := below_alloc w2 (.cells #[.slice none 0 0] 26)
    have q2 := new_cell w2 #[.slice none 0 0] 26 0
    have hz2 := hb2.size
    have c0 := cell_below hb3 (by omega) (cell_below hb2 hz1 c0)
    have HB3 := Lib.hid (Below.then (Below.then HB1.out HB1.out.size hb2) (by omega) hb3)
    have hz3 : w2.heap.size < (w2.alloc (.cells #[.slice none 0 0] 26)).heap.size := by simp
    clear hb2 hb3
    go_wp2_with fail
    generalize w2.alloc (.cells #[.slice none 0 0] 26) = W3 at *
    (with_reducible refine (HK1.out _ HB3.out).mono ?_)
    rintro _ w4 ⟨hb4, rfl⟩
    have hb5 := below_alloc w4 (.cells #[.slice none 0 0] 26)
    have q4 := new_cell w4 #[.slice none 0 0] 26 0
    have hz4 := hb4.size
    have q2 := cell_below hb5 (by omega) (cell_below hb4 (by omega) q2)
    have HB5 := Lib.hid (Below.then (Below.then HB3.out HB3.out.size hb4) (by omega) hb5)
    have hz5 : w4.heap.size < (w4.alloc (.cells #[.slice none 0 0] 26)).heap.size := by simp
    clear hb4 hb5
    go_wp2_with fail
    generalize w4.alloc (.cells #[.slice none 0 0] 26) = W5 at *
    (with_reducible refine (HSA.out _).mono ?_)
    rintro _ w6 ⟨rfl, hb6⟩
    have HB6 := Lib.hid (Below.then HB5.out HB5.out.size hb6)
    clear hb6
    go_wp2_with fail
    go_ret
    exact ⟨rfl, HB6.out⟩
end Go.Proofs.Ytbmlkomfelkckaa
