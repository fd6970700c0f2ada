/- Law RankOrders: every order and all ranks. -/
import Derived.Test.YteonpfomlmfkjaaRkAwk
import Derived.Test.YteonpfomlmfkjaaRkRef2
namespace Go.Proofs.Yteonpfomlmfkjaa
open Go Go.RowKit
set_option maxRecDepth 100000

set_option maxHeartbeats 4000000 in
theorem rkorders_calls (A : Option Addr) (n c : Nat) (arcs : List (Int × Int)) (z : Int) (w : World) (hr : RdArcs w A arcs) (hn : arcs.length = n) (hcap : n ≤ 9223372036854775807) (hz1 : -9223372036854775808 ≤ z) (hz2 : z ≤ 9223372036854775807) :
    Calls Try.prog 5 #[.int .i64 z, .slice A n c] w fun e w' => e = .returned (.bool true) ∧ Below w.heap.size w w' := by
  have HA := Lib.hid (awake15 w)
  have HF := Lib.hid (fun (W : World) => few_calls A n c z W hcap)
  have HP := Lib.hid (fun (W : World) (h : Below w.heap.size w W) => orderf_calls A n c arcs z W (hr.below h) hn hcap hz1 hz2)
  have HQ := Lib.hid (fun (W : World) (h : Below w.heap.size w W) => rorder_calls A n c arcs z W (hr.below h) hn hcap hz1 hz2)
  have HR := Lib.hid (fun (W : World) (h : Below w.heap.size w W) => ranks_calls A n c arcs z W (hr.below h) hn hcap hz1 hz2)
  have HS := Lib.hid (fun (W : World) (h : Below w.heap.size w W) => rranks_calls A n c arcs z W (hr.below h) hn hcap hz1 hz2)
  obtain ⟨code, L, hag⟩ : ∃ code L, orderOf z arcs = (code, L) := ⟨_, _, rfl⟩
  obtain ⟨code2, M, hag2⟩ : ∃ code L, ranksOf z arcs = (code, L) := ⟨_, _, rfl⟩
  obtain ⟨fb, hfb⟩ : ∃ b, fewB z n = b := ⟨_, rfl⟩
  rw [hag] at HP HQ
  rw [hag2] at HR HS
  rw [hfb] at HF
  obtain ⟨l, hl⟩ : ∃ l, L.length = l := ⟨_, rfl⟩
  obtain ⟨m, hm⟩ : ∃ m, M.length = m := ⟨_, rfl⟩
  have HLL := Lib.hid hl
  have HMM := Lib.hid hm
  have f1 : (code == code) = true := by simp
  have f2 : (code2 == code2) = true := by simp
  clear hr hn hag hag2 hfb hl hm
  go_enter Try.func5, Try.ntmps5
  go_wp2_with fail
  refine HA.out.mono ?_
  rintro _ w1 ⟨rfl, hb1⟩
  have HB1 := Lib.hid hb1
  clear hb1
  go_wp2_with fail
  refine (HF.out w1).mono ?_
  rintro _ _ ⟨rfl, rfl⟩
  cases fb with
  | false =>
    go_wp2_with fail
    go_ret
    exact ⟨rfl, HB1.out⟩
  | true =>
    go_wp2_with fail
    (with_reducible refine (HP.out _ HB1.out).mono ?_)
    rintro _ w2 ⟨hb2, A2, c2, rfl, ho2⟩
    simp only [HLL.out] at ho2 ⊢
    have HB2 := Lib.hid (Below.then HB1.out HB1.out.size hb2)
    have HO2 := Lib.hid ho2
    clear hb2 ho2
    go_wp2_with fail
    (with_reducible refine (HQ.out _ HB2.out).mono ?_)
    rintro _ w3 ⟨hb3, A3, c3, rfl, ho3⟩
    simp only [HLL.out] at ho3 ⊢
    have HB3 := Lib.hid (Below.then HB2.out HB2.out.size hb3)
    have HO2 := Lib.hid (own_below HO2.out hb3)
    have HO3 := Lib.hid ho3
    clear hb3 ho3
    go_wp2_with fail
    (with_reducible refine (HR.out _ HB3.out).mono ?_)
    rintro _ w4 ⟨hb4, A4, c4, rfl, ho4⟩
    simp only [HMM.out] at ho4 ⊢
    have HB4 := Lib.hid (Below.then HB3.out HB3.out.size hb4)
    have HO2 := Lib.hid (own_below HO2.out hb4)
    have HO3 := Lib.hid (own_below HO3.out hb4)
    have HO4 := Lib.hid ho4
    clear hb4 ho4
    go_wp2_with fail
    (with_reducible refine (HS.out _ HB4.out).mono ?_)
    rintro _ w5 ⟨hb5, A5, c5, rfl, ho5⟩
    simp only [HMM.out] at ho5 ⊢
    have HB5 := Lib.hid (Below.then HB4.out HB4.out.size hb5)
    have HO2 := Lib.hid (own_below HO2.out hb5)
    have HO3 := Lib.hid (own_below HO3.out hb5)
    have HO4 := Lib.hid (own_below HO4.out hb5)
    have HO5 := Lib.hid ho5
    have HS1 := Lib.hid (list_same _ _ _ _ _ _ _ L w5 HO2.out HO3.out)
    clear hb5 ho5
    go_wp2_with fail
    (with_reducible refine HS1.out.mono ?_)
    rintro _ _ ⟨rfl, q, rfl⟩
    have HS2 := Lib.hid (list_same _ _ _ _ _ _ _ M (w5.drewN q) (own_below HO4.out (below_drewN w5 q)) (own_below HO5.out (below_drewN w5 q)))
    go_wp2_with fail
    (with_reducible refine HS2.out.mono ?_)
    rintro _ _ ⟨rfl, q2, rfl⟩
    go_wp2_with fail
    go_ret
    exact ⟨rfl, Below.then HB5.out HB5.out.size (below_drewN w5 (q + q2))⟩
end Go.Proofs.Yteonpfomlmfkjaa
