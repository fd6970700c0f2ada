/- Law TreeParses: the two readings tell the same. -/
import Derived.Test.YtbmlkomfelkckaaAwk20
import Derived.Test.YtbmlkomfelkckaaRParse
import Derived.Test.YtbmlkomfelkckaaSame
namespace Go.Proofs.Ytbmlkomfelkckaa
open Go Go.RowKit
set_option maxRecDepth 100000

/-- What a parse leaves, whatever it was: a row of branches to be read. -/
theorem retParse_read {w w' : World} {o : POut} {e : Ending} (h : RetParse w o e w') : ∃ (A : Option Addr) (c : Nat) (xs : List Br), e = .returned (.tuple #[.agg #[.slice A xs.length c], .int .i64 (o.at' : Int), .int .i64 o.err]) ∧ RdBr w' A xs ∧ xs.length ≤ 9223372036854775807 ∧ Below w.heap.size w w' ∧ xs = (match o.tree with | none => [] | some T => T.form 0) := by
  obtain ⟨hb, h⟩ := h
  cases hT : o.tree with
  | none =>
    rw [hT] at h
    exact ⟨none, 0, [], h, fun i x hx => by simp at hx, by simp, hb, rfl⟩
  | some T =>
    rw [hT] at h
    obtain ⟨A, c, he, ho⟩ := h
    have hl : T.size ≤ 9223372036854775807 := by
      rcases ho.2 with ⟨_, h0⟩ | ⟨g, cap, cur, _, _, _, h1, h2, _⟩
      · omega
      · simp only [maxLen] at h2
        omega
    exact ⟨A, c, T.form 0, by rw [NT.form_length]; exact he, (own_rd ho).1, by rw [NT.form_length]; exact hl, hb, rfl⟩

set_option maxHeartbeats 1000000 in
theorem parses_calls (s : ByteArray) (A : Option Addr) (n c : Nat) (ns : List ByteArray) (w : World) (hss : s.size ≤ 9223372036854775807) (hr : RdStr w A ns) (hs : ∀ s ∈ ns, s.size ≤ 9223372036854775807) (hn : ns.length = n) (hcap : n ≤ 9223372036854775807) (hnc : n ≤ c) :
    Calls Try.prog 3 #[.string s, .slice A n c] w fun e w' => e = .returned (.bool true) ∧ Below w.heap.size w w' := by
  have HA := Lib.hid (awake20 w)
  have HP := Lib.hid (fun (W : World) (hb : Below w.heap.size w W) => parse_calls s A n c ns W hss (hr.below hb) hs hn hcap hnc)
  have HQ := Lib.hid (fun (W : World) (hb : Below w.heap.size w W) => rparse_calls s A n c ns W hss (hr.below hb) hs hn hcap)
  obtain ⟨o, ho⟩ : ∃ o, parseOut s ns = o := ⟨_, rfl⟩
  rw [ho] at HP HQ
  clear ho hr hs hn hss hnc
  go_enter Try.func3, Try.ntmps3
  go_wp2_with fail
  refine HA.out.mono ?_
  rintro _ w1 ⟨rfl, hb1⟩
  have HB1 := Lib.hid hb1
  clear hb1
  go_wp2_with fail
  refine (HP.out _ HB1.out).mono ?_
  rintro _ w2 h2
  obtain ⟨A2, c2, xs, rfl, hr2, hl2, hb2, hx2⟩ := retParse_read h2
  have q2 := new_cell w2 #[.slice A2 xs.length c2] 26 0
  have hb3 := below_alloc w2 (.cells #[.slice A2 xs.length c2] 26)
  have HR2 := Lib.hid (hr2.below hb3)
  have HB3 := Lib.hid (Below.then (Below.then HB1.out HB1.out.size hb2) (Nat.le_trans HB1.out.size hb2.size) hb3)
  have hz : w2.heap.size < (w2.alloc (.cells #[.slice A2 xs.length c2] 26)).heap.size := by simp
  have HX2 := Lib.hid hx2
  clear h2 hr2 hb2 hb3 hx2 hl2
  go_wp2_with fail
  refine (HQ.out _ HB3.out).mono ?_
  rintro _ w3 h3
  obtain ⟨A3, c3, ys, rfl, hr3, hlen, hb3, hx3⟩ := retParse_read h3
  obtain rfl : ys = xs := by rw [hx3, HX2.out]
  have q2 := cell_below hb3 hz q2
  have hz3 := Nat.lt_of_lt_of_le hz hb3.size
  have hb4 := below_alloc w3 (.cells #[.slice A3 ys.length c3] 26)
  have q2 := cell_below hb4 hz3 q2
  have q3 := new_cell w3 #[.slice A3 ys.length c3] 26 0
  have HR3 := Lib.hid (hr3.below hb4)
  have HR2 := Lib.hid ((HR2.out.below hb3).below hb4)
  have HB4 := Lib.hid (Below.then (Below.then HB3.out HB3.out.size hb3) (Nat.le_trans HB3.out.size hb3.size) hb4)
  have HS := Lib.hid (same_calls A2 A3 ys.length c2 c3 ys _ HR2.out HR3.out rfl hlen)
  clear h3 hr3 hb3 hx3 hb4 hlen
  go_wp2_with fail
  refine HS.out.mono ?_
  rintro _ w5 ⟨rfl, hb5⟩
  have HB5 := Lib.hid (Below.then HB4.out HB4.out.size hb5)
  clear hb5
  go_wp2_with fail
  go_ret
  exact ⟨rfl, HB5.out⟩
end Go.Proofs.Ytbmlkomfelkckaa
