/- siglumref20.Print. -/
import Derived.Test.YtbmlkomfelkckaaRText
import Derived.Test.YtbmlkomfelkckaaFormR
import Derived.Test.YtbmlkomfelkckaaPrint
namespace Go.Proofs.Ytbmlkomfelkckaa
open Go Go.RowKit
set_option maxRecDepth 100000

theorem print_world {w w' : World} {A : Option Addr} {n c q : Nat} (h : w' = (w.alloc (.cells #[.slice A n c] 26)).drewN q) :
    w'.cell? ⟨w.heap.size, 0, none⟩ = some (.slice A n c) ∧ w'.heap.size = w.heap.size + 1 ∧ Below w.heap.size w w' := by
  subst h
  have hb := below_drewN (w.alloc (.cells #[.slice A n c] 26)) q
  exact ⟨cell_below hb (by simp) (new_cell w _ _ 0), by show (w.alloc _).heap.size = _; simp, Below.then (below_alloc w _) (by simp) hb⟩

set_option maxHeartbeats 2000000 in
theorem rprint_calls (A : Option Addr) (n c : Nat) (bs : List Br) (A2 : Option Addr) (n2 c2 : Nat) (ns : List ByteArray) (w : World) (hb : RdBr w A bs) (hbn : bs.length = n) (hcapn : n ≤ 9223372036854775807) (hr : RdStr w A2 ns) (hs : ∀ s ∈ ns, s.size ≤ 9223372036854775807) (hn : ns.length = n2) (hcap : n2 ≤ 9223372036854775807) :
    Calls Try.prog 33 #[.agg #[.slice A n c], .slice A2 n2 c2] w fun e w' => e = .returned (.tuple #[.string (printOut bs ns).1, .int .i64 (printOut bs ns).2]) ∧ Below w.heap.size w w' := by
  have HNM := Lib.hid (fun (W : World) (hw : Below w.heap.size w W) => names_calls A2 n2 c2 ns W (hr.below hw) hs hn hcap)
  have HF := Lib.hid (fun (W : World) (hw : Below w.heap.size w W) => rform_calls A n c bs (n2 : Int) W (hb.below hw) hbn hcapn)
  have HB0 := Lib.hid (below_alloc w (.cells #[.slice A n c] 26))
  cases hok : namesOk ns with
  | false =>
    have HO : Hid (printOut bs ns = (⟨#[]⟩, 120)) := by show printOut bs ns = _; unfold printOut; rw [if_pos hok]
    rw [hok] at HNM
    rw [HO.out]
    clear hok hb hr hs hn
    go_enter Try.func33, Try.ntmps33
    go_wp2_with fail
    refine (HNM.out _ HB0.out).mono ?_
    rintro e w' ⟨rfl, q, hq⟩
    obtain ⟨c1, hz1, hb1⟩ := print_world hq
    clear hq
    go_wp2_with fail
    exact bodyPost_ret (v := .tuple #[.string ⟨#[]⟩, .int .i64 120]) (by simp [results, Try.results33, go_sem]) rfl ⟨rfl, hb1⟩
  | true =>
    rw [hok] at HNM
    have H8 := Lib.hid (names_8 hok)
    cases hrd : rdRoot (n2 : Int) bs with
    | none =>
      have HO : Hid (printOut bs ns = (⟨#[]⟩, 200)) := by
        show printOut bs ns = _
        unfold printOut
        rw [hok, if_neg (by decide), hn, hrd]
      rw [hrd] at HF
      rw [HO.out]
      clear hok hb hr hs hn hrd
      go_enter Try.func33, Try.ntmps33
      go_wp2_with fail
      refine (HNM.out _ HB0.out).mono ?_
      rintro e w' ⟨rfl, q, hq⟩
      obtain ⟨c1, hz1, hb1⟩ := print_world hq
      clear hq
      go_wp2_with fail
      refine (HF.out _ hb1).mono ?_
      rintro e w1 ⟨hb2, rfl⟩
      have HB2 := Lib.hid (Below.then (Below.then hb1 hb1.size hb2) (Nat.le_trans hb1.size hb2.size) (below_alloc w1 (.cells #[.slice none 0 0] 26)))
      clear hb2
      go_wp2_with fail
      exact bodyPost_ret (v := .tuple #[.string ⟨#[]⟩, .int .i64 200]) (by simp [results, Try.results33, go_sem]) rfl ⟨rfl, HB2.out⟩
    | some T =>
      have hsize := rdRoot_size hrd
      have hleaf := (rdRoot_leaves hrd).2.1
      have hraw := rawOk_of (rdRoot_form_root hrd)
      rw [NT.form_length] at hraw
      have HO : Hid (printOut bs ns = (textOf ns T, 0)) := by
        show printOut bs ns = _
        unfold printOut
        rw [hok, if_neg (by decide), hn, hrd]
      have hpos := T.size_pos
      have HTX := Lib.hid (fun (W : World) (hw : Below w.heap.size w W) (A3 : Option Addr) (c3 : Nat) (hrb : RdBr W A3 (T.form 0)) => rtext_calls T.size c3 (T.form 0) A3 hraw A2 n2 c2 ns hn H8.out hcap (T.size - 1) W (by omega) hrb (hr.below hw) (by rw [rawAt_form]; intro k hk; have := hleaf k hk; omega) (by rw [rawAt_form]; omega))
      rw [rawAt_form, show ((T.size - 1 : Nat) : Int) = (T.size : Int) - 1 by omega] at HTX
      have hsz1 : (1 : Int) ≤ (T.size : Int) := by omega
      have hsz2 : (T.size : Int) ≤ 100 := by omega
      rw [hrd] at HF
      rw [HO.out]
      clear hok hb hr hs hn hrd hsize hleaf hraw hpos
      go_enter Try.func33, Try.ntmps33
      go_wp2_with fail
      refine (HNM.out _ HB0.out).mono ?_
      rintro e w' ⟨rfl, q, hq⟩
      obtain ⟨c1, hz1, hb1⟩ := print_world hq
      clear hq
      go_wp2_with fail
      refine (HF.out _ hb1).mono ?_
      rintro e w1 ⟨hb2, A3, c3, rfl, ho3⟩
      have HB2 := Lib.hid (Below.then (Below.then hb1 hb1.size hb2) (Nat.le_trans hb1.size hb2.size) (below_alloc w1 (.cells #[.slice A3 T.size c3] 26)))
      have HR3 := Lib.hid ((own_rd ho3).1.below (below_alloc w1 (.cells #[.slice A3 T.size c3] 26)))
      have d0 := new_cell w1 #[.slice A3 T.size c3] 26 0
      clear hb2 ho3
      go_wp2_with fail
      refine (HTX.out _ HB2.out _ _ HR3.out).mono ?_
      rintro _ w2 ⟨rfl, hb3⟩
      have HB3 := Lib.hid (Below.then HB2.out HB2.out.size hb3)
      clear hb3
      go_wp2_with fail
      exact bodyPost_ret (v := .tuple #[.string (textOf ns T), .int .i64 0]) (by simp [results, Try.results33, go_sem]) rfl ⟨rfl, HB3.out⟩
end Go.Proofs.Ytbmlkomfelkckaa
