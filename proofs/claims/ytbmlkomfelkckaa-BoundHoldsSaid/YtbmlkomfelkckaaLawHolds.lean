/- Law BoundHolds: the lower bound holds, and what is made better has no more changes. -/
import Derived.Test.YtbmlkomfelkckaaAwk23
import Derived.Test.YtbmlkomfelkckaaHoldsP
import Derived.Test.YtbmlkomfelkckaaSame
namespace Go.Proofs.Ytbmlkomfelkckaa
open Go Go.RowKit
set_option maxRecDepth 100000

/-- Better, where the matrix and the tree are right. -/
theorem better_right {A1 : Option Addr} {n1 c1 : Nat} {bs : List Br} {A2 : Option Addr} {n2 c2 : Nat} {rows : List (List Int)} {T : NT} {w : World} (hm : matOk rows = true) (hT : rdRoot (rows.length : Int) bs = some T)
    (ht : RdBr w A1 bs) (hx : bs.length = n1) (hn1 : n1 ≤ 9223372036854775807) (hr : RdRows w A2 rows) (hn : rows.length = n2) (hcap : n2 ≤ 9223372036854775807) :
    Calls Try.prog 44 #[.agg #[.slice A1 n1 c1], .agg #[.slice A2 n2 c2]] w fun e w' => Below w.heap.size w w' ∧ ∃ g c, e = .returned (.tuple #[.agg #[.slice (some ⟨g, 0, none⟩) (better (fun T => sumNum (T.form 0) rows) T).size c], .int .i64 (sumNum ((better (fun T => sumNum (T.form 0) rows) T).form 0) rows : Int), .int .i64 0]) ∧ FAt w' g c ((better (fun T => sumNum (T.form 0) rows) T).form 0) := by
  refine (better_calls A1 n1 c1 bs A2 n2 c2 rows w ht hx hn1 hr hn hcap).mono fun e w' h => ?_
  unfold RetBetter at h
  rw [if_pos hm, hT] at h
  exact h

set_option maxHeartbeats 4000000 in
theorem holds_calls (A : Option Addr) (n c : Nat) (bs : List Br) (A2 : Option Addr) (n2 c2 : Nat) (rows : List (List Int)) (w : World) (hb : RdBr w A bs) (hbn : bs.length = n) (hbc : n ≤ 9223372036854775807)
    (hr : RdRows w A2 rows) (hn : rows.length = n2) (hcap : n2 ≤ 9223372036854775807) :
    Calls Try.prog 15 #[.agg #[.slice A n c], .agg #[.slice A2 n2 c2]] w fun e w' => e = .returned (.bool true) ∧ Below w.heap.size w w' := by
  have b0 := below_alloc w (.cells #[.slice A n c] 26)
  have b1 := below_alloc (w.alloc (.cells #[.slice A n c] 26)) (.cells #[.slice A2 n2 c2] 36)
  have i0 := cell_below b1 (by simp) (new_cell w #[.slice A n c] 26 0)
  have i1 := new_cell (w.alloc (.cells #[.slice A n c] 26)) #[.slice A2 n2 c2] 36 0
  have hz : w.heap.size + 1 < ((w.alloc (.cells #[.slice A n c] 26)).alloc (.cells #[.slice A2 n2 c2] 36)).heap.size := by simp
  have HB0 := Lib.hid (Below.then b0 b0.size b1)
  rw [World.size_alloc] at i1
  have HA := Lib.hid (awake23 ((w.alloc (.cells #[.slice A n c] 26)).alloc (.cells #[.slice A2 n2 c2] 36)))
  have HL1 := Lib.hid (fun (W : World) (h : Below w.heap.size w W) => low_calls A2 n2 c2 rows W (hr.below h) hn hcap)
  have HS1 := Lib.hid (fun (W : World) (h : Below w.heap.size w W) => sum_calls A n c bs A2 n2 c2 rows W ⟨hb.below h, hbn, hbc, hr.below h, hn, hcap⟩)
  have HB := Lib.hid hb
  have HR := Lib.hid hr
  have HN := Lib.hid hn
  have HBN := Lib.hid hbn
  clear hb hr hn hbn b0 b1
  go_enter Try.func15, Try.ntmps15
  go_wp2_with fail
  refine HA.out.mono ?_
  rintro _ w1 ⟨rfl, hb1⟩
  have e0 := cell_below hb1 (by omega) i0
  have e1 := cell_below hb1 (by omega) i1
  have HB1 := Lib.hid (Below.then HB0.out HB0.out.size hb1)
  have hz1 := Nat.lt_of_lt_of_le hz hb1.size
  clear hb1 hz i0 i1 HB0 HA
  go_wp2_with fail
  (with_reducible refine (HL1.out _ HB1.out).mono ?_)
  rintro _ w2 ⟨rfl, hb2⟩
  have e0 := cell_below hb2 (by omega) e0
  have e1 := cell_below hb2 (by omega) e1
  have HB2 := Lib.hid (Below.then HB1.out HB1.out.size hb2)
  have hz2 := Nat.lt_of_lt_of_le hz1 hb2.size
  clear hb2
  go_wp2_with fail
  (with_reducible refine (HS1.out _ HB2.out).mono ?_)
  rintro _ w3 ⟨rfl, hb3⟩
  have e0 := cell_below hb3 (by omega) e0
  have e1 := cell_below hb3 (by omega) e1
  have HB3 := Lib.hid (Below.then HB2.out HB2.out.size hb3)
  have hz3 := Nat.lt_of_lt_of_le hz2 hb3.size
  clear hb3 HL1 HS1 HB1 HB2
  by_cases hm : ¬ matOk rows = true
  · have he : errMat rows = 190 := by unfold errMat; rw [if_neg hm]
    rw [he]
    clear he hm
    go_wp2_with fail
    go_ret
    exact ⟨rfl, HB3.out⟩
  have hm := Decidable.not_not.1 hm
  rw [(lowNum_ok hm).2]
  by_cases h0 : ¬ errBoth bs rows = 0
  · have f0 : (errBoth bs rows == 0) = false := by rw [beq_eq_false_iff_ne]; exact h0
    have f1 : (errBoth bs rows != 0) = true := by rw [bne_iff_ne]; exact h0
    clear h0
    go_wp2_with fail
    go_ret
    exact ⟨rfl, HB3.out⟩
  have h0 := Decidable.not_not.1 h0
  obtain ⟨-, T, hT⟩ := err_root h0
  rw [h0]
  have hok := holds_ok h0 hT
  have HBT := Lib.hid (fun (W : World) (h : Below w.heap.size w W) => better_right (c1 := c) (c2 := c2) hm hT (HB.out.below h) HBN.out hbc (HR.out.below h) HN.out hcap)
  obtain ⟨B, hB⟩ : ∃ B, better (fun T => sumNum (T.form 0) rows) T = B := ⟨_, rfl⟩
  rw [hB] at hok HBT
  have hsz : B.size ≤ 1000 := by
    have := (rdRoot_size hok.root).2
    rw [NT.form_length] at this
    omega
  have HBB : Hid (∀ (W : World) (g c : Nat), Below w.heap.size w W → FAt W g c (B.form 0) → Calls Try.prog 44 #[.agg #[.slice (some ⟨g, 0, none⟩) B.size c], .agg #[.slice A2 n2 c2]] W fun e w' => Below W.heap.size W w' ∧ ∃ g c, e = .returned (.tuple #[.agg #[.slice (some ⟨g, 0, none⟩) B.size c], .int .i64 (sumNum (B.form 0) rows : Int), .int .i64 0]) ∧ FAt w' g c (B.form 0)) := by
    refine Lib.hid fun W g c h hf => ?_
    have := better_right (c1 := c) (c2 := c2) hm hok.root hf.rd (NT.form_length B 0) (by omega) (HR.out.below h) HN.out hcap
    rw [hok.again] at this
    exact this
  have HSB : Hid (∀ (W : World) (g c : Nat), Below w.heap.size w W → FAt W g c (B.form 0) → Calls Try.prog 30 #[.agg #[.slice (some ⟨g, 0, none⟩) B.size c], .agg #[.slice A2 n2 c2]] W fun e w' => e = .returned (.tuple #[.int .i64 (sumNum (B.form 0) rows : Int), .int .i64 0]) ∧ Below W.heap.size W w') := by
    refine Lib.hid fun W g c h hf => ?_
    have := sum_calls (some ⟨g, 0, none⟩) B.size c (B.form 0) A2 n2 c2 rows W ⟨hf.rd, NT.form_length B 0, by omega, HR.out.below h, HN.out, hcap⟩
    rw [hok.err] at this
    exact this
  have HSA := Lib.hid (fun (W : World) (g1 c1 g2 c2 : Nat) (h1 : FAt W g1 c1 (B.form 0)) (h2 : FAt W g2 c2 (B.form 0)) => same_calls (some ⟨g1, 0, none⟩) (some ⟨g2, 0, none⟩) B.size c1 c2 (B.form 0) W h1.rd h2.rd (NT.form_length B 0) (by omega))
  have HCK : Hid (∀ (W : World) (g c : Nat), FAt W g c (B.form 0) → Calls Try.prog 35 #[.agg #[.slice (some ⟨g, 0, none⟩) B.size c], .int .i64 (n2 : Int)] W fun e w' => e = .returned (.int .i64 0) ∧ Below W.heap.size W w') := by
    refine Lib.hid fun W g c hf => ?_
    have := check_calls (some ⟨g, 0, none⟩) B.size c (B.form 0) (n2 : Int) W hf.rd (NT.form_length B 0) (by omega) (by omega) (by omega)
    rw [← HN.out, hok.ok, HN.out] at this
    exact this
  have l1 : (lowNum rows : Int) ≤ (sumNum bs rows : Int) := by have := hok.low; omega
  have l2 : (sumNum (B.form 0) rows : Int) ≤ (sumNum bs rows : Int) := by have := hok.le; omega
  have l3 : (lowNum rows : Int) ≤ (sumNum (B.form 0) rows : Int) := by have := hok.lowB; omega
  obtain ⟨s0, hs0⟩ : ∃ s0, sumNum bs rows = s0 := ⟨_, rfl⟩
  obtain ⟨s1, hs1⟩ : ∃ s1, sumNum (B.form 0) rows = s1 := ⟨_, rfl⟩
  obtain ⟨lo, hlo⟩ : ∃ lo, lowNum rows = lo := ⟨_, rfl⟩
  rw [hs0, hlo] at l1
  rw [hs0, hs1] at l2
  rw [hlo, hs1] at l3
  rw [hs1] at HBT HBB HSB
  rw [hs0, hlo]
  have f9 : ((s1 : Int) == (s1 : Int)) = true := by simp
  clear hs0 hs1 hlo hok hm h0 hT hB HB HR HN HBN
  go_wp2_with fail
  (with_reducible refine (HBT.out _ HB3.out).mono ?_)
  rintro _ w4 ⟨hb4, g4, c4, rfl, hf4⟩
  have hb5 := below_alloc w4 (.cells #[.slice (some ⟨g4, 0, none⟩) B.size c4] 26)
  have q4 := new_cell w4 #[.slice (some ⟨g4, 0, none⟩) B.size c4] 26 0
  have hz4 := Nat.lt_of_lt_of_le hz3 hb4.size
  have e1 := cell_below hb5 (by omega) (cell_below hb4 (by omega) e1)
  have HB5 := Lib.hid (Below.then (Below.then HB3.out HB3.out.size hb4) (by have := HB3.out.size; have := hb4.size; omega) hb5)
  have HF5 := Lib.hid (hf4.below hb5)
  have hz5 : w4.heap.size < (w4.alloc (.cells #[.slice (some ⟨g4, 0, none⟩) B.size c4] 26)).heap.size := by simp
  clear hb4 hb5 hf4 e0 HBT
  go_wp2_with fail
  generalize w4.alloc (.cells #[.slice (some ⟨g4, 0, none⟩) B.size c4] 26) = W5 at *
  (with_reducible refine (HSB.out _ _ _ HB5.out HF5.out).mono ?_)
  rintro _ w6 ⟨rfl, hb6⟩
  have e1 := cell_below hb6 (by omega) e1
  have q4 := cell_below hb6 hz5 q4
  have HB6 := Lib.hid (Below.then HB5.out HB5.out.size hb6)
  have HF6 := Lib.hid (HF5.out.below hb6)
  have hz6 := Nat.lt_of_lt_of_le hz5 hb6.size
  clear hb6
  go_wp2_with fail
  (with_reducible refine (HBB.out _ _ _ HB6.out HF6.out).mono ?_)
  rintro _ w7 ⟨hb7, g7, c7, rfl, hf7⟩
  have hb8 := below_alloc w7 (.cells #[.slice (some ⟨g7, 0, none⟩) B.size c7] 26)
  have q7 := new_cell w7 #[.slice (some ⟨g7, 0, none⟩) B.size c7] 26 0
  have hz7 := hb7.size
  have e1 := cell_below hb8 (by omega) (cell_below hb7 (by omega) e1)
  have q4 := cell_below hb8 (by omega) (cell_below hb7 hz6 q4)
  have HB8 := Lib.hid (Below.then (Below.then HB6.out HB6.out.size hb7) (by have := HB6.out.size; omega) hb8)
  have HF8 := Lib.hid (hf7.below hb8)
  have HG8 := Lib.hid ((HF6.out.below hb7).below hb8)
  have hz8 : w7.heap.size < (w7.alloc (.cells #[.slice (some ⟨g7, 0, none⟩) B.size c7] 26)).heap.size := by simp
  clear hb7 hb8 hf7 HBB HSB
  go_wp2_with fail
  generalize w7.alloc (.cells #[.slice (some ⟨g7, 0, none⟩) B.size c7] 26) = W8 at *
  (with_reducible refine (HSA.out _ _ _ _ _ HF8.out HG8.out).mono ?_)
  rintro _ w9 ⟨rfl, hb9⟩
  have e1 := cell_below hb9 (by omega) e1
  have q4 := cell_below hb9 (by omega) q4
  have HB9 := Lib.hid (Below.then HB8.out HB8.out.size hb9)
  have HG9 := Lib.hid (HG8.out.below hb9)
  clear hb9
  go_wp2_with fail
  (with_reducible refine (HCK.out _ _ _ HG9.out).mono ?_)
  rintro _ w10 ⟨rfl, hb10⟩
  have HB10 := Lib.hid (Below.then HB9.out HB9.out.size hb10)
  clear hb10
  go_wp2_with fail
  go_ret
  exact ⟨rfl, HB10.out⟩
end Go.Proofs.Ytbmlkomfelkckaa
