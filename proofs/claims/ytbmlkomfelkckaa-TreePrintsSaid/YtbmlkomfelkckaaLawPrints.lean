/- Law TreePrints: the two texts are the same. -/
import Derived.Test.YtbmlkomfelkckaaAwk20
import Derived.Test.YtbmlkomfelkckaaRPrint
namespace Go.Proofs.Ytbmlkomfelkckaa
open Go Go.RowKit
set_option maxRecDepth 100000

set_option maxHeartbeats 1000000 in
theorem prints_calls (A : Option Addr) (n c : Nat) (bs : List Br) (A2 : Option Addr) (n2 c2 : Nat) (ns : List ByteArray) (w : World) (hb : RdBr w A bs) (hbn : bs.length = n) (hcapn : n ≤ 9223372036854775807) (hr : RdStr w A2 ns) (hs : ∀ s ∈ ns, s.size ≤ 9223372036854775807) (hn : ns.length = n2) (hcap : n2 ≤ 9223372036854775807) (hnc : n2 ≤ c2) :
    Calls Try.prog 7 #[.agg #[.slice A n c], .slice A2 n2 c2] w fun e w' => e = .returned (.bool true) ∧ Below w.heap.size w w' := by
  have HA := Lib.hid (awake20 (w.alloc (.cells #[.slice A n c] 26)))
  have HP := Lib.hid (fun (W : World) (hw : Below w.heap.size w W) => print_calls A n c bs A2 n2 c2 ns W (hb.below hw) hbn hcapn (hr.below hw) hs hn hcap hnc)
  have HQ := Lib.hid (fun (W : World) (hw : Below w.heap.size w W) => rprint_calls A n c bs A2 n2 c2 ns W (hb.below hw) hbn hcapn (hr.below hw) hs hn hcap)
  obtain ⟨⟨o1, o2⟩, ho⟩ : ∃ o, printOut bs ns = o := ⟨_, rfl⟩
  rw [ho] at HP HQ
  have hb0 := below_alloc w (.cells #[.slice A n c] 26)
  have c0 := new_cell w #[.slice A n c] 26 0
  have hz : w.heap.size < (w.alloc (.cells #[.slice A n c] 26)).heap.size := by simp
  have HB0 := Lib.hid hb0
  clear ho hb hr hs hn hnc hb0 hbn
  go_enter Try.func7, Try.ntmps7
  go_wp2_with fail
  refine HA.out.mono ?_
  rintro _ w1 ⟨rfl, hb1⟩
  have c0 := cell_below hb1 hz c0
  have HB1 := Lib.hid (Below.then HB0.out HB0.out.size hb1)
  have hz1 := Nat.lt_of_lt_of_le hz hb1.size
  clear hb1
  go_wp2_with fail
  refine (HP.out _ HB1.out).mono ?_
  rintro _ w2 ⟨rfl, hb2⟩
  have c0 := cell_below hb2 hz1 c0
  have HB2 := Lib.hid (Below.then HB1.out HB1.out.size hb2)
  clear hb2
  go_wp2_with fail
  refine (HQ.out _ HB2.out).mono ?_
  rintro _ w3 ⟨rfl, hb3⟩
  have HB3 := Lib.hid (Below.then HB2.out HB2.out.size hb3)
  clear hb3
  go_wp2_with fail
  go_ret
  exact ⟨rfl, HB3.out⟩
end Go.Proofs.Ytbmlkomfelkckaa
