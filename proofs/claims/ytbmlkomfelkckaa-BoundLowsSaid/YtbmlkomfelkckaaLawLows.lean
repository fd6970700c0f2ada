/- Law BoundLows: every lower bound. -/
import Derived.Test.YtbmlkomfelkckaaAwk23
import Derived.Test.YtbmlkomfelkckaaRLow
namespace Go.Proofs.Ytbmlkomfelkckaa
open Go Go.RowKit
set_option maxRecDepth 100000

set_option maxHeartbeats 1000000 in
theorem lows_calls (A : Option Addr) (n c : Nat) (rows : List (List Int)) (w : World) (hr : RdRows w A rows) (hn : rows.length = n) (hcap : n ≤ 9223372036854775807) :
    Calls Try.prog 11 #[.agg #[.slice A n c]] w fun e w' => e = .returned (.bool true) ∧ Below w.heap.size w w' := by
  have HA := Lib.hid (awake23 (w.alloc (.cells #[.slice A n c] 36)))
  have HL := Lib.hid (fun (W : World) (h : Below w.heap.size w W) => low_calls A n c rows W (hr.below h) hn hcap)
  have HK := Lib.hid (fun (W : World) (h : Below w.heap.size w W) => rlow_calls A n c rows W (hr.below h) hn hcap)
  have hb0 := below_alloc w (.cells #[.slice A n c] 36)
  have c0 := new_cell w #[.slice A n c] 36 0
  have hz : w.heap.size < (w.alloc (.cells #[.slice A n c] 36)).heap.size := by simp
  have HB0 := Lib.hid hb0
  obtain ⟨ln, hln⟩ : ∃ ln, lowNum rows = ln := ⟨_, rfl⟩
  obtain ⟨er, her⟩ : ∃ er, errMat rows = er := ⟨_, rfl⟩
  rw [hln, her] at HL HK
  clear hr hn hb0 hln her
  go_enter Try.func11, Try.ntmps11
  go_wp2_with fail
  refine HA.out.mono ?_
  rintro _ w1 ⟨rfl, hb1⟩
  have c0 := cell_below hb1 hz c0
  have HB1 := Lib.hid (Below.then HB0.out HB0.out.size hb1)
  have hz1 := Nat.lt_of_lt_of_le hz hb1.size
  clear hb1
  go_wp2_with fail
  (with_reducible refine (HL.out _ HB1.out).mono ?_)
  rintro _ w2 ⟨rfl, hb2⟩
  have c0 := cell_below hb2 hz1 c0
  have HB2 := Lib.hid (Below.then HB1.out HB1.out.size hb2)
  clear hb2
  go_wp2_with fail
  (with_reducible refine (HK.out _ HB2.out).mono ?_)
  rintro _ w3 ⟨rfl, hb3⟩
  have HB3 := Lib.hid (Below.then HB2.out HB2.out.size hb3)
  clear hb3
  go_wp2_with fail
  go_ret
  exact ⟨rfl, HB3.out⟩
end Go.Proofs.Ytbmlkomfelkckaa
