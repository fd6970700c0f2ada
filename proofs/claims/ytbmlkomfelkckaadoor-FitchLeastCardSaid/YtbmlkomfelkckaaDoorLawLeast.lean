/- The law FitchLeast answers true. -/
import Derived.Test.YtbmlkomfelkckaaDoorLeastE
import Derived.Test.YtbmlkomfelkckaaDoorLeast
import Derived.Test.YtbmlkomfelkckaaDoorAwk21
namespace Go.Proofs.YtbmlkomfelkckaaDoor
open Go Go.RowKit
set_option maxRecDepth 100000

theorem getD_replicate0 (n q : Nat) : (List.replicate n (0 : Int)).getD q 0 = 0 := by
  rw [List.getD_eq_getElem?_getD, List.getElem?_replicate]
  split <;> rfl

set_option maxHeartbeats 4000000 in
theorem lawLeast_calls (A : Option Addr) (n c : Nat) (bs : List Br) (A2 : Option Addr) (n2 c2 : Nat) (rows : List (List Int)) (site : Int) (w : World) (h : TM w A n bs A2 n2 rows) (ht : Tz w) :
    Calls Tryd.prog 3 #[.agg #[.slice A n c], .agg #[.slice A2 n2 c2], .int .i64 site] w fun e w' => e = .returned (.bool true) ∧ Below w.heap.size w w' := by
  have H := Lib.hid h
  have HA := Lib.hid (fun (W : World) (hb : Below w.heap.size w W) => awake21 W (ht.below hb))
  have HS := Lib.hid (fun (W : World) (hb : Below w.heap.size w W) => site_calls A n c bs A2 n2 c2 rows site W (h.below hb))
  clear h ht
  by_cases he : siteErr bs rows site = 0
  · obtain ⟨hm, htr, hs0, hs1⟩ := siteErr_zero he
    have hn : siteNum bs rows site = (fall rows site.toNat bs).n := by unfold siteNum; rw [if_pos he]
    have hf := matOk_few' hm
    have hl := H.out.rlen
    have hlen := H.out.len
    have HSI : Hid (site.toNat < wid rows) := by show site.toNat < wid rows; omega
    obtain ⟨fn, hfn⟩ : ∃ fn, (fall rows site.toNat bs).n = fn := ⟨_, rfl⟩
    rw [hfn] at hn
    rw [he, hn] at HS
    have hn23 : n ≤ 23 := by
      obtain ⟨l, hl'⟩ := Option.isSome_iff_exists.1 htr
      have := (rdTree_some hl').2.2.1
      omega
    by_cases h4 : 4 < n2
    · have h4' : (4 : Int) < n2 := by omega
      clear he hm htr hn hf hl hfn hs1 hlen hn23 h4
      go_enter Tryd.func3, Tryd.ntmps3
      go_wp2_with fail
      refine (HA.out _ (two_below _ _ _ _ _)).mono ?_
      rintro e w1 ⟨rfl, hb1⟩
      obtain ⟨HB, hz, c0, c1⟩ := two_boxes hb1
      clear hb1
      go_wp2_with fail
      refine (HS.out _ HB.out).mono ?_
      rintro e w2 ⟨rfl, hb2⟩
      have c1 := cell_below hb2 hz c1
      have HB2 := Lib.hid (Below.then HB.out HB.out.size hb2)
      clear hb2 c0
      go_wp2_with fail
      go_ret
      exact ⟨rfl, HB2.out⟩
    · have hfew : ¬ (4 : Int) < n2 := by omega
      have hn4 : n2 ≤ 4 := by omega
      have HM := Lib.hid hm
      have HTR := Lib.hid htr
      have HN := Lib.hid hlen
      have HN2 := Lib.hid hl
      have HFN := Lib.hid hfn
      have hmk := run_make_row' (P := Tryd.prog) 32 3 (.int .i64 0) 8 Tryd.underlying32 info_int rfl .i64 .i64 n (by omega) (by omega)
      have HCE : Hid (∀ l : List Int, l.length = n → countErr bs l = 0) := by
        intro l hll
        have hsz : (bs.length : Int) = 2 * (rows.length : Int) - 1 ∧ 1 ≤ rows.length := by
          obtain ⟨ts, hts⟩ := Option.isSome_iff_exists.1 htr
          obtain ⟨h1, _, h3, _⟩ := rdTree_some hts
          omega
        unfold countErr
        rw [show (bs.length + 1) / 2 = rows.length by omega, show okTree (rows.length : Int) bs = 0 by unfold okTree; rw [if_pos htr], if_neg (by decide), if_neg (by omega)]
      clear he hm htr hn hf hl hfn hs1 hlen h4
      go_enter Tryd.func3, Tryd.ntmps3
      go_wp2_with fail
      refine (HA.out _ (two_below _ _ _ _ _)).mono ?_
      rintro e w1 ⟨rfl, hb1⟩
      obtain ⟨HB, hz, c0, c1⟩ := two_boxes hb1
      clear hb1
      go_wp2_with fail
      refine (HS.out _ HB.out).mono ?_
      rintro e w2 ⟨rfl, hb2⟩
      have c0 := cell_below hb2 (by omega) c0
      have c1 := cell_below hb2 hz c1
      have hz2 := Nat.lt_of_lt_of_le hz hb2.size
      have HB2 := Lib.hid (Below.then HB.out HB.out.size hb2)
      clear hb2 hz
      go_wp2_with fail
      go_loopg [31] n2 (fun gk v31 wr => ∃ (k : Nat), v31 = .int .i64 k ∧ k ≤ n2 ∧ Hid (gk + k = n2) ∧ wr = w2 ∧ Hid (∀ (i : Nat) (r : List Int), i < k → rows[i]? = some r → r.getD site.toNat 0 ≤ 3))
      case atStart => exact ⟨0, rfl, Nat.zero_le _, rfl, rfl, fun i r hi => by omega⟩
      case round =>
        obtain ⟨k, rfl, hk, HG, rfl, HR⟩ := hrel
        by_cases hkn : k < n2
        · obtain ⟨r, hrow, hst, hy0, hy1⟩ := matOk_at HM.out (leaf := (k : Int)) (by omega) (by have := HN2.out; omega) HSI.out
          rw [Int.toNat_natCast] at hrow
          obtain ⟨md, A', c', rfl, m0, m1, m2, m3⟩ := H.out.mat k r hrow
          obtain ⟨md', rfl, m4⟩ := m1 site.toNat _ hst
          have k0 := (HB2.out.cell (World.block_lt_of_cell? w _ m0)).trans m0
          have k1 := (HB2.out.cell (World.block_lt_of_cell? w _ m4)).trans m4
          have hsl : site < (r.length : Int) := by
            obtain ⟨hh, _⟩ := List.getElem?_eq_some_iff.1 hst
            omega
          have HK : Hid (rows[k]? = some r) := hrow
          have HST : Hid (r.getD site.toNat 0 = stateAt rows site.toNat (k : Int)) := by
            show r.getD site.toNat 0 = _
            rw [List.getD_eq_getElem?_getD, hst]
            rfl
          obtain ⟨y, hy⟩ : ∃ y, stateAt rows site.toNat (k : Int) = y := ⟨_, rfl⟩
          rw [hy] at k1 HST hy0 hy1
          clear hrow hst hy m0 m1 m2 m4
          by_cases hy3 : 3 < y
          · go_wp2_with fail
            go_ret
            exact ⟨rfl, HB2.out⟩
          · go_wp2_with fail
            go_roundg (gk - 1)
            case measure => have := HG.out; omega
            case rel => exact ⟨k + 1, by go_num, by omega, by have := HG.out; show gk - 1 + (k + 1) = n2; omega, rfl, fun i r' hi hr => by
              rcases Nat.lt_or_ge i k with h | h
              · exact HR.out i r' h hr
              · have : i = k := by omega
                subst this
                have h2 := HK.out
                rw [h2] at hr
                cases hr
                rw [HST.out]
                omega⟩
        · obtain rfl : k = n2 := by omega
          have HE : Hid (leastP rows site.toNat bs n [] = fn) := by
            show leastP rows site.toNat bs n [] = fn
            have h1 := leastP_eq HM.out HSI.out HTR.out (fun i r hi => HR.out i r (by have := (List.getElem?_eq_some_iff.1 hi).1; have := HN2.out; omega) hi)
            rw [HN.out, HFN.out] at h1
            exact h1
          have c0 := cell_below (below_alloc wr (.cells (madeCells #[.int .i64 0] n) 3)) (by omega) c0
          have c1 := cell_below (below_alloc wr (.cells (madeCells #[.int .i64 0] n) 3)) hz2 c1
          go_wp2_with fail
          have hrow := World.rowIs_made wr (.int .i64 0) n 3
          have hcur : CurOk (wr.alloc (.cells (madeCells #[.int .i64 0] n) 3)) wr.heap.size n [] (List.replicate n 0) := ⟨by simp, rfl, hrow.congr (fun q _ => by rw [getD_replicate0])⟩
          have hbw : Below w.heap.size w (wr.alloc (.cells (madeCells #[.int .i64 0] n) 3)) := Below.then HB2.out HB2.out.size (below_alloc _ _)
          have hcall := least_calls A n c bs A2 k c2 rows site w H.out HM.out (by have := brOk_of HTR.out; rw [HN2.out] at this; exact this) hs0 HSI.out wr.heap.size HB2.out.size HCE.out n [] (List.replicate n 0) _ hbw (by simp) hcur
          rw [HE.out] at hcall
          refine hcall.mono ?_
          rintro e w3 ⟨rfl, cur', hc', hb'⟩
          have HBF := Lib.hid (Below.trans hbw (hb'.below (g := wr.heap.size) HB2.out.size hbw.size))
          clear hcall hb' hc' hbw hcur hrow
          go_wp2_with fail
          go_ret
          exact ⟨rfl, HBF.out⟩
  · have hn : siteNum bs rows site = 0 := by unfold siteNum; rw [if_neg he]
    obtain ⟨er, her⟩ : ∃ er, siteErr bs rows site = er := ⟨_, rfl⟩
    rw [hn, her] at HS
    rw [her] at he
    have b1 : (er != 0) = true := by rw [bne_iff_ne]; exact he
    clear he her hn
    go_enter Tryd.func3, Tryd.ntmps3
    go_wp2_with fail
    refine (HA.out _ (two_below _ _ _ _ _)).mono ?_
    rintro e w1 ⟨rfl, hb1⟩
    obtain ⟨HB, hz, c0, c1⟩ := two_boxes hb1
    clear hb1
    go_wp2_with fail
    refine (HS.out _ HB.out).mono ?_
    rintro e w2 ⟨rfl, hb2⟩
    have c1 := cell_below hb2 hz c1
    have HB2 := Lib.hid (Below.then HB.out HB.out.size hb2)
    clear hb2 c0
    go_wp2_with fail
    go_ret
    exact ⟨rfl, HB2.out⟩
end Go.Proofs.YtbmlkomfelkckaaDoor
