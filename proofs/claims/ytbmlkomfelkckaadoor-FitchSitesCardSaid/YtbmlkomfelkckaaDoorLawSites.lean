/- The law FitchSites answers true. -/
import Derived.Test.YtbmlkomfelkckaaDoorRSite
import Derived.Test.YtbmlkomfelkckaaDoorAwk21
namespace Go.Proofs.YtbmlkomfelkckaaDoor
open Go Go.RowKit
set_option maxRecDepth 100000

set_option maxHeartbeats 1000000 in
theorem lawSites_calls (A : Option Addr) (n c : Nat) (bs : List Br) (A2 : Option Addr) (n2 c2 : Nat) (rows : List (List Int)) (site : Int) (w : World) (h : TM w A n bs A2 n2 rows) (ht : Tz w) :
    Calls Tryd.prog 5 #[.agg #[.slice A n c], .agg #[.slice A2 n2 c2], .int .i64 site] w fun e w' => e = .returned (.bool true) ∧ Below w.heap.size w w' := by
  have HA := Lib.hid (fun (W : World) (hb : Below w.heap.size w W) => awake21 W (ht.below hb))
  have H1 := Lib.hid (fun (W : World) (hb : Below w.heap.size w W) => site_calls A n c bs A2 n2 c2 rows site W (h.below hb))
  have H2 := Lib.hid (fun (W : World) (hb : Below w.heap.size w W) => rsite_calls A n c bs A2 n2 c2 rows site W (h.below hb))
  have H3 := Lib.hid (fun (W : World) (hb : Below w.heap.size w W) => sum_calls A n c bs A2 n2 c2 rows W (h.below hb))
  have H4 := Lib.hid (fun (W : World) (hb : Below w.heap.size w W) => rsum_calls A n c bs A2 n2 c2 rows W (h.below hb))
  clear h ht
  obtain ⟨sn, hsn⟩ : ∃ sn, siteNum bs rows site = sn := ⟨_, rfl⟩
  obtain ⟨se, hse⟩ : ∃ se, siteErr bs rows site = se := ⟨_, rfl⟩
  obtain ⟨mn, hmn⟩ : ∃ mn, sumNum bs rows = mn := ⟨_, rfl⟩
  obtain ⟨me, hme⟩ : ∃ me, errBoth bs rows = me := ⟨_, rfl⟩
  rw [hsn, hse] at H1 H2
  rw [hmn, hme] at H3 H4
  clear hsn hse hmn hme
  have f1 : ((sn : Int) == (sn : Int)) = true := by simp
  have f2 : (se == se) = true := by simp
  have f3 : ((mn : Int) == (mn : Int)) = true := by simp
  have f4 : (me == me) = true := by simp
  go_enter Tryd.func5, Tryd.ntmps5
  go_wp2_with fail
  refine (HA.out _ (two_below _ _ _ _ _)).mono ?_
  rintro e w1 ⟨rfl, hb1⟩
  obtain ⟨HB, hz, c0, c1⟩ := two_boxes hb1
  clear hb1
  go_wp2_with fail
  refine (H1.out _ HB.out).mono ?_
  rintro e w2 ⟨rfl, hb2⟩
  have c0 := cell_below hb2 (by omega) c0
  have c1 := cell_below hb2 hz c1
  have hz := Nat.lt_of_lt_of_le hz hb2.size
  have HB2 := Lib.hid (Below.then HB.out HB.out.size hb2)
  clear hb2
  go_wp2_with fail
  refine (H2.out _ HB2.out).mono ?_
  rintro e w3 ⟨rfl, hb3⟩
  have c0 := cell_below hb3 (by omega) c0
  have c1 := cell_below hb3 hz c1
  have hz := Nat.lt_of_lt_of_le hz hb3.size
  have HB3 := Lib.hid (Below.then HB2.out HB2.out.size hb3)
  clear hb3
  go_wp2_with fail
  refine (H3.out _ HB3.out).mono ?_
  rintro e w4 ⟨rfl, hb4⟩
  have c0 := cell_below hb4 (by omega) c0
  have c1 := cell_below hb4 hz c1
  have hz := Nat.lt_of_lt_of_le hz hb4.size
  have HB4 := Lib.hid (Below.then HB3.out HB3.out.size hb4)
  clear hb4
  go_wp2_with fail
  refine (H4.out _ HB4.out).mono ?_
  rintro e w5 ⟨rfl, hb5⟩
  have HB5 := Lib.hid (Below.then HB4.out HB4.out.size hb5)
  clear hb5
  go_wp2_with fail
  go_ret
  exact ⟨rfl, HB5.out⟩
end Go.Proofs.YtbmlkomfelkckaaDoor
