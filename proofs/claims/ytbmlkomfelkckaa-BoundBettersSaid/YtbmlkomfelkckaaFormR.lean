/- siglumref20.Form. -/
import Derived.Test.YtbmlkomfelkckaaPart
import Derived.Test.YtbmlkomfelkckaaChk
import Derived.Test.YtbmlkomfelkckaaTree
namespace Go.Proofs.Ytbmlkomfelkckaa
open Go Go.RowKit
set_option maxRecDepth 100000

theorem rformP {leaves : Int} {bs : List Br} {T : NT} (h : rdRoot leaves bs = some T) : (rawAt bs (bs.length - 1)).norm = T ∧ (rawAt bs (bs.length - 1)).size = T.size ∧ RawOk bs.length bs ∧ bs.length = T.size ∧ T.size ≤ 23 ∧ 0 < T.size := by
  have h1 := (rawAt_root h).1
  have h2 := rdRoot_size h
  exact ⟨h1, by rw [← h1, norm_size], rawOk_of h, h2.1.symm, by omega, by omega⟩

set_option maxHeartbeats 1000000 in
theorem rform_calls (A : Option Addr) (n c : Nat) (bs : List Br) (leaves : Int) (w : World) (hr : RdBr w A bs) (hn : bs.length = n) (hcap : n ≤ 9223372036854775807) :
    Calls Try.prog 47 #[.agg #[.slice A n c], .int .i64 leaves] w (RetForm w (rdRoot leaves bs)) := by
  have HN := Lib.hid hn
  have HR := Lib.hid hr
  have HC := Lib.hid (fun (W : World) (h : RdBr W A bs) => rcheck_calls A n c bs leaves W h HN.out hcap)
  cases hrd : rdRoot leaves bs with
  | none =>
    have hok : okTree leaves bs = 200 := by
      unfold okTree
      have h1 : rdTree leaves bs = none := by simpa [rdRoot] using hrd
      rw [h1]; rfl
    rw [hok] at HC
    clear hrd hr hn hok
    go_enter Try.func47, Try.ntmps47
    go_wp2_with fail
    refine (HC.out _ ((HR.out.below (below_alloc w _)).below (below_alloc _ _))).mono ?_
    rintro e w1 ⟨rfl, hb⟩
    obtain ⟨HB, hz, c0, f0⟩ := form_box hb
    clear hb
    go_wp2_with fail
    have hcell := set_cell_eq c0 (.slice none 0 0)
    exact bodyPost_ret (v := .tuple #[.agg #[.slice none 0 0], .int .i64 200]) (by simp [results, Try.results47, hcell, go_sem]) rfl ⟨below_set HB.out (by omega) _ _, rfl⟩
  | some T =>
    have hok : okTree leaves bs = 0 := by
      unfold okTree
      cases h1 : rdTree leaves bs with
      | none => rw [rdRoot, h1] at hrd; cases hrd
      | some l => rfl
    rw [hok] at HC
    obtain ⟨p1, p2, p3, p4, p5, p6⟩ := rformP hrd
    rw [HN.out] at p1 p2 p3 p4
    have HP := Lib.hid (fun (W : World) (h : RdBr W A bs) => part_calls n c bs A p3 (n - 1) 0 W (by omega) (by omega) h)
    rw [p1, p2, show ((n - 1 : Nat) : Int) = (n : Int) - 1 by omega] at HP
    have HZ := Lib.hid p4
    have hn1 : (1 : Int) ≤ (n : Int) := by omega
    have hn2 : (n : Int) ≤ 23 := by omega
    clear hrd hr hn hok p1 p2 p3 p4 p5 p6
    go_enter Try.func47, Try.ntmps47
    go_wp2_with fail
    refine (HC.out _ ((HR.out.below (below_alloc w _)).below (below_alloc _ _))).mono ?_
    rintro e w1 ⟨rfl, hb⟩
    have q0 := cell_below (Below.then (below_alloc (w.alloc (.cells #[.slice A n c] 26)) (.cells #[.slice none 0 0] 26)) (by simp) hb) (by simp) (new_cell w #[.slice A n c] 26 0)
    obtain ⟨HB, hz, c0, f0⟩ := form_box hb
    clear hb
    go_wp2_with fail
    refine (HP.out _ (HR.out.below HB.out)).mono ?_
    rintro e w2 ⟨A2, c2, rfl, ho2, hb2⟩
    have c1 := cell_below hb2 hz c0
    have f1 := frozen_below hb2 hz f0
    have hz2 : w.heap.size + 1 < w2.heap.size := Nat.lt_of_lt_of_le hz hb2.size
    have HO := Lib.hid ho2
    have HB2 := Lib.hid (Below.then HB.out (by omega) hb2)
    clear ho2 hb2 c0 f0 q0
    go_wp2_with fail
    have hcell := set_cell_eq c1 (.slice A2 T.size c2)
    refine bodyPost_ret (v := .tuple #[.agg #[.slice A2 T.size c2], .int .i64 0]) (by simp [results, Try.results47, hcell, go_sem]) rfl ⟨below_set HB2.out (by omega) _ _, _, _, rfl, ?_⟩
    exact own_mono (ownsRow_setCell_below HO.out (by show w.heap.size + 1 < w1.heap.size; omega) _) (by omega)
end Go.Proofs.Ytbmlkomfelkckaa
