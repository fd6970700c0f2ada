/- Law RankCycles: every circle. -/
import Derived.Test.YteonpfomlmfkjaaRkAwk
import Derived.Test.YteonpfomlmfkjaaRkRef2
import Derived.Test.YteonpfomlmfkjaaRkRCyc
namespace Go.Proofs.Yteonpfomlmfkjaa
open Go Go.RowKit
set_option maxRecDepth 100000

set_option maxHeartbeats 4000000 in
theorem rkcycles_calls (A : Option Addr) (n c : Nat) (arcs : List (Int × Int)) (z : Int) (w : World) (hr : RdArcs w A arcs) (hn : arcs.length = n) (hcap : n ≤ 9223372036854775807) (hz1 : -9223372036854775808 ≤ z) (hz2 : z ≤ 9223372036854775807) :
    Calls Try.prog 3 #[.int .i64 z, .slice A n c] w fun e w' => e = .returned (.bool true) ∧ Below w.heap.size w w' := by
  have HA := Lib.hid (awake15 w)
  have HF := Lib.hid (fun (W : World) => few_calls A n c z W hcap)
  have HP := Lib.hid (fun (W : World) (h : Below w.heap.size w W) => cycle_calls A n c arcs z W (hr.below h) hn hcap hz1 hz2)
  have HQ := Lib.hid (fun (W : World) (h : Below w.heap.size w W) => rcycle_calls A n c arcs z W (hr.below h) hn hcap hz1 hz2)
  obtain ⟨code, L, hag⟩ : ∃ code L, cycleOf z arcs = (code, L) := ⟨_, _, rfl⟩
  obtain ⟨fb, hfb⟩ : ∃ b, fewB z n = b := ⟨_, rfl⟩
  rw [hag] at HP HQ
  rw [hfb] at HF
  obtain ⟨l, hl⟩ : ∃ l, L.length = l := ⟨_, rfl⟩
  have HLL := Lib.hid hl
  have f1 : (code == code) = true := by simp
  clear hr hn hag hfb hl
  go_enter Try.func3, Try.ntmps3
  go_wp2_with fail
  refine HA.out.mono ?_
  rintro _ w1 ⟨rfl, hb1⟩
  have HB1 := Lib.hid hb1
  clear hb1
  go_wp2_with fail
  refine (HF.out w1).mono ?_
  rintro _ _ ⟨rfl, rfl⟩
  cases fb with
  | false =>
    go_wp2_with fail
    go_ret
    exact ⟨rfl, HB1.out⟩
  | true =>
    go_wp2_with fail
    (with_reducible refine (HP.out _ HB1.out).mono ?_)
    rintro _ w2 ⟨hb2, A2, c2, rfl, ho2⟩
    simp only [HLL.out] at ho2 ⊢
    have HB2 := Lib.hid (Below.then HB1.out HB1.out.size hb2)
    have HO2 := Lib.hid ho2
    clear hb2 ho2
    go_wp2_with fail
    (with_reducible refine (HQ.out _ HB2.out).mono ?_)
    rintro _ w3 ⟨hb3, A3, c3, rfl, ho3⟩
    simp only [HLL.out] at ho3 ⊢
    have HB3 := Lib.hid (Below.then HB2.out HB2.out.size hb3)
    have HO2 := Lib.hid (own_below HO2.out hb3)
    have HO3 := Lib.hid ho3
    have HS1 := Lib.hid (list_same _ _ _ _ _ _ _ L w3 HO2.out HO3.out)
    clear hb3 ho3
    go_wp2_with fail
    (with_reducible refine HS1.out.mono ?_)
    rintro _ _ ⟨rfl, q, rfl⟩
    go_wp2_with fail
    go_ret
    exact ⟨rfl, Below.then HB3.out HB3.out.size (below_drewN w3 q)⟩
end Go.Proofs.Yteonpfomlmfkjaa
