/- The law FitchStates answers true. -/
import Derived.Test.YtbmlkomfelkckaaDoorRStates
import Derived.Test.YtbmlkomfelkckaaDoorInts
import Derived.Test.YtbmlkomfelkckaaDoorAwk21
import Derived.Test.YtbmlkomfelkckaaDoorRCount
import Derived.RegionTactic
import Derived.BigRegion
namespace Go.Proofs.YtbmlkomfelkckaaDoor
open Go Go.RowKit
set_option maxRecDepth 100000

set_option maxHeartbeats 1000000 in
theorem rstates_bad (A : Option Addr) (n c : Nat) (bs : List Br) (A2 : Option Addr) (n2 c2 : Nat) (rows : List (List Int)) (site : Int) (w : World) (h : TM w A n bs A2 n2 rows) (he : siteErr bs rows site ≠ 0) :
    Calls Tryd.prog 16 #[.agg #[.slice A n c], .agg #[.slice A2 n2 c2], .int .i64 site] w fun e w' => e = .returned (.tuple #[.slice none 0 0, .int .i64 (siteErr bs rows site)]) ∧ Below w.heap.size w w' := by
  have HS := Lib.hid (fun (W : World) (hb : Below w.heap.size w W) => rsite_calls A n c bs A2 n2 c2 rows site W (h.below hb))
  have hn : siteNum bs rows site = 0 := by unfold siteNum; rw [if_neg he]
  obtain ⟨er, her⟩ : ∃ er, siteErr bs rows site = er := ⟨_, rfl⟩
  rw [hn, her] at HS
  rw [her] at he ⊢
  have b1 : (er != 0) = true := by rw [bne_iff_ne]; exact he
  clear he her hn h
  go_enter Tryd.func16, Tryd.ntmps16
  go_wp2_with fail
  refine (HS.out _ (two_below _ _ _ _ _)).mono ?_
  rintro e w1 ⟨rfl, hb1⟩
  obtain ⟨HB, hz, c0, c1⟩ := two_boxes hb1
  clear hb1
  go_wp2_with fail
  go_ret2
  exact ⟨rfl, HB.out⟩

/-- Behind three boxes of the call's own. -/
theorem three_below (w : World) (o : Obj) (v1 v2 : Value) (e1 e2 : TypeId) : Below w.heap.size w (((w.alloc o).alloc (.cells #[v1] e1)).alloc (.cells #[v2] e2)).drew :=
  (Below.trans (below_alloc w _) ((two_below (w.alloc o) v1 v2 e1 e2).mono (by simp))).drew

theorem three_boxes {w w1 : World} {o : Obj} {v1 v2 : Value} {e1 e2 : TypeId} (hb1 : Below (((w.alloc o).alloc (.cells #[v1] e1)).alloc (.cells #[v2] e2)).drew.heap.size (((w.alloc o).alloc (.cells #[v1] e1)).alloc (.cells #[v2] e2)).drew w1) :
    Hid (Below w.heap.size w w1) ∧ w.heap.size + 1 + 1 < w1.heap.size ∧ w1.cell? ⟨w.heap.size + 1, 0, none⟩ = some v1 ∧ w1.cell? ⟨w.heap.size + 1 + 1, 0, none⟩ = some v2 := by
  obtain ⟨h1, h2, h3, h4⟩ := two_boxes (w := w.alloc o) (w1 := w1) (v1 := v1) (v2 := v2) (e1 := e1) (e2 := e2) ⟨hb1.os, hb1.tape, hb1.output, hb1.size, hb1.block⟩
  rw [World.size_alloc] at h2 h3 h4
  exact ⟨Below.trans (below_alloc w o) (h1.out.mono (by simp)), h2, h3, h4⟩

set_option maxHeartbeats 8000000 in
theorem lawStates_calls (A : Option Addr) (n c : Nat) (bs : List Br) (A2 : Option Addr) (n2 c2 : Nat) (rows : List (List Int)) (site : Int) (AS : Option Addr) (m cS : Nat) (l : List Int) (w : World) (h : TM w A n bs A2 n2 rows) (hl : RdInt w AS l) (hm : l.length = m) (ht : Tz w) :
    Calls Tryd.prog 6 #[.agg #[.slice A n c, .slice A2 n2 c2, .int .i64 site, .slice AS m cS]] w fun e w' => e = .returned (.bool true) ∧ Below w.heap.size w w' := by
  have HA := Lib.hid (fun (W : World) (hb : Below w.heap.size w W) => awake21 W (ht.below hb))
  have H3 := Lib.hid (fun (W : World) (hb : Below w.heap.size w W) => count_calls A n c bs AS m cS l W (h.below hb).tree h.len h.cap (hl.below hb) hm)
  have H4 := Lib.hid (fun (W : World) (hb : Below w.heap.size w W) => rcount_calls A n c bs AS m cS l W (h.below hb).tree h.len h.cap (hl.below hb) hm)
  obtain ⟨cn, hcn⟩ : ∃ cn, countNum bs l = cn := ⟨_, rfl⟩
  obtain ⟨ce, hce⟩ : ∃ ce, countErr bs l = ce := ⟨_, rfl⟩
  rw [hcn, hce] at H3 H4
  have f3 : ((cn : Int) == (cn : Int)) = true := by simp
  have f4 : (ce == ce) = true := by simp
  have hcap := h.cap
  clear hcn hce
  by_cases he : siteErr bs rows site = 0
  · have H1 := Lib.hid (fun (W : World) (hb : Below w.heap.size w W) => states_calls A n c bs A2 n2 c2 rows site W (h.below hb) (ht.below hb) he)
    have H2 := Lib.hid (fun (W : World) (hb : Below w.heap.size w W) => rstates_calls A n c bs A2 n2 c2 rows site W (h.below hb) he)
    clear h hl hm ht he
    obtain ⟨fl, hfl⟩ : ∃ fl, statesOf rows site.toNat bs = fl := ⟨_, rfl⟩
    rw [hfl] at H1 H2
    clear hfl
    go_enter Tryd.func6, Tryd.ntmps6
    go_wp2_with fail
    go_region
    all_goals
      go_wp2_with fail
      refine (HA.out _ (three_below _ _ _ _ _ _)).mono ?_
      rintro e w1 ⟨rfl, hb1⟩
      obtain ⟨HB, hz, c0, c1⟩ := three_boxes hb1
      clear hb1
      go_wp2_with fail
      refine (H1.out _ HB.out).mono ?_
      rintro e w2 ⟨g1, rfl, hr1, -, hb2⟩
      have c0 := cell_below hb2 (by omega) c0
      have c1 := cell_below hb2 hz c1
      have hz := Nat.lt_of_lt_of_le hz hb2.size
      have HB2 := Lib.hid (Below.then HB.out HB.out.size hb2)
      have HR1 := Lib.hid hr1
      clear hb2 hr1
      go_wp2_with fail
      refine (H2.out _ HB2.out).mono ?_
      rintro e w3 ⟨g2, rfl, hr2, hfn, hb3⟩
      have c0 := cell_below hb3 (by omega) c0
      have c1 := cell_below hb3 hz c1
      have hz := Nat.lt_of_lt_of_le hz hb3.size
      have HB3 := Lib.hid (Below.then HB2.out HB2.out.size hb3)
      have HX1 := Lib.hid (rdInt_row (HR1.out.of_block (hb3.block _ HR1.out.lt)) hfn)
      have HX2 := Lib.hid (rdInt_row hr2 hfn)
      have HFN := Lib.hid hfn
      clear hb3 hr2 hfn
      go_wp2_with fail
      refine (H3.out _ HB3.out).mono ?_
      rintro e w4 ⟨rfl, hb4⟩
      have c0 := cell_below hb4 (by omega) c0
      have c1 := cell_below hb4 hz c1
      have hz := Nat.lt_of_lt_of_le hz hb4.size
      have HB4 := Lib.hid (Below.then HB3.out HB3.out.size hb4)
      have HX1 := Lib.hid (HX1.out.below hb4)
      have HX2 := Lib.hid (HX2.out.below hb4)
      clear hb4
      go_wp2_with fail
      refine (H4.out _ HB4.out).mono ?_
      rintro e w5 ⟨rfl, hb5⟩
      have HB5 := Lib.hid (Below.then HB4.out HB4.out.size hb5)
      have HX1 := Lib.hid (HX1.out.below hb5)
      have HX2 := Lib.hid (HX2.out.below hb5)
      clear hb5 c0 c1
      go_wp2_with fail
      refine (ints_calls _ _ n n n n fl fl w5 HX1.out HX2.out HFN.out HFN.out hcap hcap).mono ?_
      rw [beq_self_eq_true]
      rintro e w6 ⟨rfl, q, rfl⟩
      go_wp2_with fail
      go_ret
      exact ⟨rfl, Below.then HB5.out HB5.out.size (below_drewN _ _)⟩
  · have H1 := Lib.hid (fun (W : World) (hb : Below w.heap.size w W) => states_bad A n c bs A2 n2 c2 rows site W (h.below hb) he)
    have H2 := Lib.hid (fun (W : World) (hb : Below w.heap.size w W) => rstates_bad A n c bs A2 n2 c2 rows site W (h.below hb) he)
    clear h hl hm ht he
    obtain ⟨er, her⟩ : ∃ er, siteErr bs rows site = er := ⟨_, rfl⟩
    rw [her] at H1 H2
    have f1 : (er == er) = true := by simp
    clear her
    go_enter Tryd.func6, Tryd.ntmps6
    go_wp2_with fail
    go_region
    all_goals
      go_wp2_with fail
      refine (HA.out _ (three_below _ _ _ _ _ _)).mono ?_
      rintro e w1 ⟨rfl, hb1⟩
      obtain ⟨HB, hz, c0, c1⟩ := three_boxes hb1
      clear hb1
      go_wp2_with fail
      refine (H1.out _ HB.out).mono ?_
      rintro e w2 ⟨rfl, hb2⟩
      have c0 := cell_below hb2 (by omega) c0
      have c1 := cell_below hb2 hz c1
      have hz := Nat.lt_of_lt_of_le hz hb2.size
      have HB2 := Lib.hid (Below.then HB.out HB.out.size hb2)
      clear hb2
      go_wp2_with fail
      refine (H2.out _ HB2.out).mono ?_
      rintro e w3 ⟨rfl, hb3⟩
      have c0 := cell_below hb3 (by omega) c0
      have c1 := cell_below hb3 hz c1
      have hz := Nat.lt_of_lt_of_le hz hb3.size
      have HB3 := Lib.hid (Below.then HB2.out HB2.out.size hb3)
      clear hb3
      go_wp2_with fail
      refine (H3.out _ HB3.out).mono ?_
      rintro e w4 ⟨rfl, hb4⟩
      have c0 := cell_below hb4 (by omega) c0
      have c1 := cell_below hb4 hz c1
      have hz := Nat.lt_of_lt_of_le hz hb4.size
      have HB4 := Lib.hid (Below.then HB3.out HB3.out.size hb4)
      clear hb4
      go_wp2_with fail
      refine (H4.out _ HB4.out).mono ?_
      rintro e w5 ⟨rfl, hb5⟩
      have HB5 := Lib.hid (Below.then HB4.out HB4.out.size hb5)
      clear hb5 c0 c1
      go_wp2_with fail
      refine (ints_calls none none 0 0 0 0 [] [] w5 (fun i x hi => by simp at hi) (fun i x hi => by simp at hi) rfl rfl (by omega) (by omega)).mono ?_
      rw [beq_self_eq_true]
      rintro e w6 ⟨rfl, q, rfl⟩
      go_wp2_with fail
      go_ret
      exact ⟨rfl, Below.then HB5.out HB5.out.size (below_drewN _ _)⟩
end Go.Proofs.YtbmlkomfelkckaaDoor
