/- Law TreeBack: a tree's text is read back as its form. -/
import Derived.Test.YtbmlkomfelkckaaAwk20
import Derived.Test.YtbmlkomfelkckaaBackP
import Derived.Test.YtbmlkomfelkckaaSame
namespace Go.Proofs.Ytbmlkomfelkckaa
open Go Go.RowKit
set_option maxRecDepth 100000

set_option maxHeartbeats 4000000 in
theorem back_calls (A : Option Addr) (n c : Nat) (bs : List Br) (A2 : Option Addr) (n2 c2 : Nat) (ns : List ByteArray) (w : World) (hb : RdBr w A bs) (hbn : bs.length = n) (hcapn : n ≤ 9223372036854775807) (hr : RdStr w A2 ns) (hs : ∀ s ∈ ns, s.size ≤ 9223372036854775807) (hn : ns.length = n2) (hcap : n2 ≤ 9223372036854775807) (hnc : n2 ≤ c2) :
    Calls Try.prog 8 #[.agg #[.slice A n c], .slice A2 n2 c2] w fun e w' => e = .returned (.bool true) ∧ Below w.heap.size w w' := by
  have HA := Lib.hid (awake20 (w.alloc (.cells #[.slice A n c] 26)))
  have HP1 := Lib.hid (fun (W : World) (hw : Below w.heap.size w W) => print_calls A n c bs A2 n2 c2 ns W (hb.below hw) hbn hcapn (hr.below hw) hs hn hcap hnc)
  have HB := Lib.hid (below_alloc w (.cells #[.slice A n c] 26))
  have c0 := new_cell w #[.slice A n c] 26 0
  have zc0 : w.heap.size < (w.alloc (.cells #[.slice A n c] 26)).heap.size := by simp
  have hcase : (printOut bs ns = (⟨#[]⟩, 120)) ∨ (printOut bs ns = (⟨#[]⟩, 200)) ∨ (namesOk ns = true ∧ ∃ T, rdRoot (ns.length : Int) bs = some T ∧ printOut bs ns = (textOf ns T, 0)) := by
    unfold printOut
    cases hok : namesOk ns with
    | false => exact .inl (if_pos rfl)
    | true =>
      rw [if_neg (by decide)]
      cases hrd : rdRoot (ns.length : Int) bs with
      | none => exact .inr (.inl rfl)
      | some T => exact .inr (.inr ⟨rfl, T, rfl, rfl⟩)
  rcases hcase with ho | ho | ⟨hok, T, hT, ho⟩
  · rw [ho] at HP1
    clear ho hb hr hs hn hnc hbn
    go_enter Try.func8, Try.ntmps8
    go_wp2_with fail
    refine (HA.out).mono ?_
    rintro _ w1 ⟨rfl, hb⟩
    have c0 := cell_below hb zc0 c0
    have HB := Lib.hid (Below.then HB.out HB.out.size hb)
    clear hb
    go_wp2_with fail
    refine (HP1.out _ HB.out).mono ?_
    rintro _ w2 ⟨rfl, hb⟩
    have HB := Lib.hid (Below.then HB.out HB.out.size hb)
    clear hb
    go_wp2_with fail
    go_ret
    exact ⟨rfl, HB.out⟩
  · rw [ho] at HP1
    clear ho hb hr hs hn hnc hbn
    go_enter Try.func8, Try.ntmps8
    go_wp2_with fail
    refine (HA.out).mono ?_
    rintro _ w1 ⟨rfl, hb⟩
    have c0 := cell_below hb zc0 c0
    have HB := Lib.hid (Below.then HB.out HB.out.size hb)
    clear hb
    go_wp2_with fail
    refine (HP1.out _ HB.out).mono ?_
    rintro _ w2 ⟨rfl, hb⟩
    have HB := Lib.hid (Below.then HB.out HB.out.size hb)
    clear hb
    go_wp2_with fail
    go_ret
    exact ⟨rfl, HB.out⟩
  · have hT2 := rdRoot_form_root hT
    have hsz := rdRoot_size hT
    have hpo : printOut (T.form 0) ns = (textOf ns T, 0) := by
      unfold printOut
      rw [hok, if_neg (by decide), hT2]
    have hts := textOf_size (names_8 hok) T
    have hokT : okTree (n2 : Int) (T.form 0) = 0 := by
      rw [← hn]
      unfold okTree
      cases h1 : rdTree (ns.length : Int) (T.form 0) with
      | none => rw [rdRoot, h1] at hT2; cases hT2
      | some l => rfl
    have HQ := Lib.hid (fun (W : World) (hw : Below w.heap.size w W) => parse_calls (textOf ns T) A2 n2 c2 ns W (by omega) (hr.below hw) hs hn hcap hnc)
    rw [parse_text hok hT] at HQ
    have HF1 := Lib.hid (fun (W : World) (hw : Below w.heap.size w W) => form_calls A n c bs (n2 : Int) W (hb.below hw) hbn hcapn (by omega) (by omega))
    rw [← hn, hT, hn] at HF1
    have HF2 := Lib.hid (fun (W : World) (_ : Below w.heap.size w W) (A3 : Option Addr) (c3 : Nat) (h3 : RdBr W A3 (T.form 0)) => form_calls A3 T.size c3 (T.form 0) (n2 : Int) W h3 (NT.form_length T 0) (by omega) (by omega) (by omega))
    rw [← hn, hT2, hn] at HF2
    have HP2 := Lib.hid (fun (W : World) (hw : Below w.heap.size w W) (A3 : Option Addr) (c3 : Nat) (h3 : RdBr W A3 (T.form 0)) => print_calls A3 T.size c3 (T.form 0) A2 n2 c2 ns W h3 (NT.form_length T 0) (by omega) (hr.below hw) hs hn hcap hnc)
    rw [hpo] at HP2
    have HC := Lib.hid (fun (W : World) (_ : Below w.heap.size w W) (A3 : Option Addr) (c3 : Nat) (h3 : RdBr W A3 (T.form 0)) => check_calls A3 T.size c3 (T.form 0) (n2 : Int) W h3 (NT.form_length T 0) (by omega) (by omega) (by omega))
    rw [hokT] at HC
    rw [ho] at HP1
    have hs1 : T.size ≤ 100 := by omega
    clear ho hb hr hs hn hnc hbn hT hT2 hsz hpo hts hokT hok
    go_enter Try.func8, Try.ntmps8
    go_wp2_with fail
    refine (HA.out).mono ?_
    rintro _ w1 ⟨rfl, hb⟩
    have c0 := cell_below hb zc0 c0
    have zc0 := Nat.lt_of_lt_of_le zc0 hb.size
    have HB := Lib.hid (Below.then HB.out HB.out.size hb)
    clear hb
    go_wp2_with fail
    refine (HP1.out _ HB.out).mono ?_
    rintro _ w2 ⟨rfl, hb⟩
    have c0 := cell_below hb zc0 c0
    have zc0 := Nat.lt_of_lt_of_le zc0 hb.size
    have HB := Lib.hid (Below.then HB.out HB.out.size hb)
    clear hb
    go_wp2_with fail
    refine (HF1.out _ HB.out).mono ?_
    rintro _ w3 ⟨hb, A3, c3, rfl, ho⟩
    have c0 := cell_below hb zc0 c0
    have zc0 := Nat.lt_of_lt_of_le zc0 hb.size
    have HB := Lib.hid (Below.then HB.out HB.out.size hb)
    have R7 := Lib.hid (own_rd ho).1
    clear hb ho
    have ha := below_alloc w3 (.cells #[.slice A3 T.size c3] 26)
    have c0 := cell_below ha zc0 c0
    have zc0 := Nat.lt_of_lt_of_le zc0 ha.size
    have R7 := Lib.hid (R7.out.below ha)
    have HB := Lib.hid (Below.then HB.out HB.out.size ha)
    have q7 := new_cell w3 #[.slice A3 T.size c3] 26 0
    have zq7 : w3.heap.size < (w3.alloc (.cells #[.slice A3 T.size c3] 26)).heap.size := by simp
    clear ha
    go_wp2_with fail
    refine (HQ.out _ HB.out).mono ?_
    rintro _ w4 ⟨hb, A4, c4, rfl, ho⟩
    have c0 := cell_below hb zc0 c0
    have zc0 := Nat.lt_of_lt_of_le zc0 hb.size
    have q7 := cell_below hb zq7 q7
    have zq7 := Nat.lt_of_lt_of_le zq7 hb.size
    have R7 := Lib.hid (R7.out.below hb)
    have HB := Lib.hid (Below.then HB.out HB.out.size hb)
    have R9 := Lib.hid (own_rd ho).1
    clear hb ho
    have ha := below_alloc w4 (.cells #[.slice A4 T.size c4] 26)
    have c0 := cell_below ha zc0 c0
    have zc0 := Nat.lt_of_lt_of_le zc0 ha.size
    have q7 := cell_below ha zq7 q7
    have zq7 := Nat.lt_of_lt_of_le zq7 ha.size
    have R7 := Lib.hid (R7.out.below ha)
    have R9 := Lib.hid (R9.out.below ha)
    have HB := Lib.hid (Below.then HB.out HB.out.size ha)
    have q9 := new_cell w4 #[.slice A4 T.size c4] 26 0
    have zq9 : w4.heap.size < (w4.alloc (.cells #[.slice A4 T.size c4] 26)).heap.size := by simp
    clear ha
    go_wp2_with fail
    refine (HF2.out _ HB.out _ _ R7.out).mono ?_
    rintro _ w5 ⟨hb, A5, c5, rfl, ho⟩
    have c0 := cell_below hb zc0 c0
    have zc0 := Nat.lt_of_lt_of_le zc0 hb.size
    have q7 := cell_below hb zq7 q7
    have zq7 := Nat.lt_of_lt_of_le zq7 hb.size
    have q9 := cell_below hb zq9 q9
    have zq9 := Nat.lt_of_lt_of_le zq9 hb.size
    have R7 := Lib.hid (R7.out.below hb)
    have R9 := Lib.hid (R9.out.below hb)
    have HB := Lib.hid (Below.then HB.out HB.out.size hb)
    have R12 := Lib.hid (own_rd ho).1
    clear hb ho
    have ha := below_alloc w5 (.cells #[.slice A5 T.size c5] 26)
    have c0 := cell_below ha zc0 c0
    have zc0 := Nat.lt_of_lt_of_le zc0 ha.size
    have q7 := cell_below ha zq7 q7
    have zq7 := Nat.lt_of_lt_of_le zq7 ha.size
    have q9 := cell_below ha zq9 q9
    have zq9 := Nat.lt_of_lt_of_le zq9 ha.size
    have R7 := Lib.hid (R7.out.below ha)
    have R9 := Lib.hid (R9.out.below ha)
    have R12 := Lib.hid (R12.out.below ha)
    have HB := Lib.hid (Below.then HB.out HB.out.size ha)
    have q12 := new_cell w5 #[.slice A5 T.size c5] 26 0
    have zq12 : w5.heap.size < (w5.alloc (.cells #[.slice A5 T.size c5] 26)).heap.size := by simp
    clear ha
    go_wp2_with fail
    refine (HP2.out _ HB.out _ _ R7.out).mono ?_
    rintro _ w6 ⟨rfl, hb⟩
    have c0 := cell_below hb zc0 c0
    have zc0 := Nat.lt_of_lt_of_le zc0 hb.size
    have q7 := cell_below hb zq7 q7
    have zq7 := Nat.lt_of_lt_of_le zq7 hb.size
    have q9 := cell_below hb zq9 q9
    have zq9 := Nat.lt_of_lt_of_le zq9 hb.size
    have q12 := cell_below hb zq12 q12
    have zq12 := Nat.lt_of_lt_of_le zq12 hb.size
    have R7 := Lib.hid (R7.out.below hb)
    have R9 := Lib.hid (R9.out.below hb)
    have R12 := Lib.hid (R12.out.below hb)
    have HB := Lib.hid (Below.then HB.out HB.out.size hb)
    clear hb
    go_wp2_with fail
    refine (same_calls _ _ _ _ _ (T.form 0) _ R9.out R7.out (NT.form_length T 0) (by omega)).mono ?_
    rintro _ w7 ⟨rfl, hb⟩
    have c0 := cell_below hb zc0 c0
    have zc0 := Nat.lt_of_lt_of_le zc0 hb.size
    have q7 := cell_below hb zq7 q7
    have zq7 := Nat.lt_of_lt_of_le zq7 hb.size
    have q9 := cell_below hb zq9 q9
    have zq9 := Nat.lt_of_lt_of_le zq9 hb.size
    have q12 := cell_below hb zq12 q12
    have zq12 := Nat.lt_of_lt_of_le zq12 hb.size
    have R7 := Lib.hid (R7.out.below hb)
    have R9 := Lib.hid (R9.out.below hb)
    have R12 := Lib.hid (R12.out.below hb)
    have HB := Lib.hid (Below.then HB.out HB.out.size hb)
    clear hb
    go_wp2_with fail
    refine (same_calls _ _ _ _ _ (T.form 0) _ R12.out R7.out (NT.form_length T 0) (by omega)).mono ?_
    rintro _ w8 ⟨rfl, hb⟩
    have c0 := cell_below hb zc0 c0
    have zc0 := Nat.lt_of_lt_of_le zc0 hb.size
    have q7 := cell_below hb zq7 q7
    have zq7 := Nat.lt_of_lt_of_le zq7 hb.size
    have q9 := cell_below hb zq9 q9
    have zq9 := Nat.lt_of_lt_of_le zq9 hb.size
    have q12 := cell_below hb zq12 q12
    have zq12 := Nat.lt_of_lt_of_le zq12 hb.size
    have R7 := Lib.hid (R7.out.below hb)
    have R9 := Lib.hid (R9.out.below hb)
    have R12 := Lib.hid (R12.out.below hb)
    have HB := Lib.hid (Below.then HB.out HB.out.size hb)
    clear hb
    go_wp2_with fail
    refine (HC.out _ HB.out _ _ R7.out).mono ?_
    rintro _ w9 ⟨rfl, hb⟩
    have c0 := cell_below hb zc0 c0
    have zc0 := Nat.lt_of_lt_of_le zc0 hb.size
    have q7 := cell_below hb zq7 q7
    have zq7 := Nat.lt_of_lt_of_le zq7 hb.size
    have q9 := cell_below hb zq9 q9
    have zq9 := Nat.lt_of_lt_of_le zq9 hb.size
    have q12 := cell_below hb zq12 q12
    have zq12 := Nat.lt_of_lt_of_le zq12 hb.size
    have R7 := Lib.hid (R7.out.below hb)
    have R9 := Lib.hid (R9.out.below hb)
    have R12 := Lib.hid (R12.out.below hb)
    have HB := Lib.hid (Below.then HB.out HB.out.size hb)
    clear hb
    go_wp2_with fail
    go_ret
    exact ⟨rfl, HB.out⟩
end Go.Proofs.Ytbmlkomfelkckaa
