/- The law FitchBack answers true. -/
import Derived.Test.YtbmlkomfelkckaaDoorAwk21
import Derived.Test.YtbmlkomfelkckaaDoorCount
import Derived.Test.YtbmlkomfelkckaaDoorLeaf
namespace Go.Proofs.YtbmlkomfelkckaaDoor
open Go Go.RowKit
set_option maxRecDepth 100000

theorem rdInt_of_row {w : World} {g n : Nat} {l : List Int} (h : w.rowIs g 3 n (fun j => .int .i64 (l.getD j 0))) (hl : l.length = n) : RdInt w (some ⟨g, 0, none⟩) l := by
  intro i x hi
  refine ⟨_, rfl, ?_⟩
  have hin := (List.getElem?_eq_some_iff.1 hi).1
  rw [add_plain, h.cell (i := i) (by omega), List.getD_eq_getElem?_getD, hi]
  rfl

set_option maxHeartbeats 2000000 in
theorem back_calls (A : Option Addr) (n c : Nat) (bs : List Br) (A2 : Option Addr) (n2 c2 : Nat) (rows : List (List Int)) (site : Int) (w : World) (h : TM w A n bs A2 n2 rows) (ht : Tz w) :
    Calls Tryd.prog 7 #[.agg #[.slice A n c], .agg #[.slice A2 n2 c2], .int .i64 site] w fun e w' => e = .returned (.bool true) ∧ Below w.heap.size w w' := by
  have H := Lib.hid h
  have HT := Lib.hid ht
  have HA := Lib.hid (fun (W : World) (hb : Below w.heap.size w W) => awake21 W (ht.below hb))
  have HS := Lib.hid (fun (W : World) (hb : Below w.heap.size w W) => site_calls A n c bs A2 n2 c2 rows site W (h.below hb))
  clear h ht
  by_cases he : siteErr bs rows site = 0
  · obtain ⟨hm, htr, hs0, hs1⟩ := siteErr_zero he
    have hn : siteNum bs rows site = (fall rows site.toNat bs).n := by unfold siteNum; rw [if_pos he]
    have hl := H.out.rlen
    have hlen := H.out.len
    have HSI : Hid (site.toNat < wid rows) := by show site.toNat < wid rows; omega
    have HST := Lib.hid (fun (W : World) (hb : Below w.heap.size w W) => states_calls A n c bs A2 n2 c2 rows site W (H.out.below hb) (HT.out.below hb) he)
    have hcost := states_cost hm HSI.out htr
    have HFIT := Lib.hid (states_fit hm HSI.out htr)
    obtain ⟨l, hl'⟩ : ∃ l, statesOf rows site.toNat bs = l := ⟨_, rfl⟩
    rw [hl'] at hcost HFIT HST
    obtain ⟨fn, hfn⟩ : ∃ fn, (fall rows site.toNat bs).n = fn := ⟨_, rfl⟩
    rw [hfn] at hn hcost
    rw [he, hn] at HS
    have hll : l.length = bs.length := by rw [← hl']; exact (states_picked htr).len
    have hce : countErr bs l = 0 := by
      have hsz : (bs.length : Int) = 2 * (rows.length : Int) - 1 ∧ 1 ≤ rows.length := by
        obtain ⟨ts, hts⟩ := Option.isSome_iff_exists.1 htr
        obtain ⟨h1, _, h3, _⟩ := rdTree_some hts
        omega
      unfold countErr
      rw [show (bs.length + 1) / 2 = rows.length by omega, show okTree (rows.length : Int) bs = 0 by unfold okTree; rw [if_pos htr], if_neg (by decide), if_neg (by omega)]
    have hcn : countNum bs l = fn := by unfold countNum; rw [if_pos hce, hcost]
    have HC := Lib.hid (fun (W : World) (hb : Below w.heap.size w W) (g : Nat) (hr : W.rowIs g 3 n (fun j => .int .i64 (l.getD j 0))) => count_calls A n c bs (some ⟨g, 0, none⟩) n n l W (H.out.below hb).tree hlen H.out.cap (rdInt_of_row hr (by omega)) (by omega))
    rw [hce, hcn] at HC
    have HM := Lib.hid hm
    have HN2 := Lib.hid hl
    have HN := Lib.hid hlen
    have HOK := Lib.hid (brOk_of htr)
    have HLL : Hid (l.length = n) := by show l.length = n; omega
    clear he hm htr hn hl hcost hl' hfn hce hcn hs1 hlen hll
    go_enter Tryd.func7, Tryd.ntmps7
    go_wp2_with fail
    refine (HA.out _ (two_below _ _ _ _ _)).mono ?_
    rintro e w1 ⟨rfl, hb1⟩
    obtain ⟨HB, hz, c0, c1⟩ := two_boxes hb1
    clear hb1
    go_wp2_with fail
    refine (HS.out _ HB.out).mono ?_
    rintro e w2 ⟨rfl, hb2⟩
    have c0 := cell_below hb2 (by omega) c0
    have c1 := cell_below hb2 hz c1
    have hz2 := Nat.lt_of_lt_of_le hz hb2.size
    have HB2 := Lib.hid (Below.then HB.out HB.out.size hb2)
    clear hb2
    go_wp2_with fail
    refine (HST.out _ HB2.out).mono ?_
    rintro e w3 ⟨g, rfl, hrow, -, hb3⟩
    have c0 := cell_below hb3 (by omega) c0
    have c1 := cell_below hb3 hz2 c1
    have hz3 := Nat.lt_of_lt_of_le hz2 hb3.size
    have HB3 := Lib.hid (Below.then HB2.out HB2.out.size hb3)
    have hg := hrow.lt
    have HROW := Lib.hid hrow
    clear hb3 hrow
    go_wp2_with fail
    refine (HC.out _ HB3.out g HROW.out).mono ?_
    rintro e w4 ⟨rfl, hb4⟩
    have c0 := cell_below hb4 (by omega) c0
    have c1 := cell_below hb4 hz3 c1
    have hz4 := Nat.lt_of_lt_of_le hz3 hb4.size
    have HB4 := Lib.hid (Below.then HB3.out HB3.out.size hb4)
    have HROW4 := Lib.hid (HROW.out.of_block (hb4.block _ hg))
    have hg4 := Nat.lt_of_lt_of_le hg hb4.size
    clear hb4 hg hz3 hz2 hz
    go_wp2_with fail
    go_loopg [73] n (fun gk v73 wr => ∃ (k : Nat), v73 = .int .i64 k ∧ k ≤ n ∧ Hid (gk + k = n) ∧ Below w4.heap.size w4 wr)
    case atStart => exact ⟨0, rfl, Nat.zero_le _, rfl, Below.refl _ _⟩
    case round =>
      obtain ⟨k, rfl, hk, HG, HI⟩ := hrel
      have HW := Lib.hid (Below.then HB4.out HB4.out.size HI)
      have c0 := cell_below HI (by omega) c0
      have c1 := cell_below HI hz4 c1
      have hz5 := Nat.lt_of_lt_of_le hz4 HI.size
      have hg5 := Nat.lt_of_lt_of_le hg4 HI.size
      have hcap := H.out.cap
      by_cases hkn : k < n
      · have hkx : k < bs.length := by have := HN.out; omega
        obtain ⟨ad, rfl, d0, d1, d2⟩ := (H.out.below HW.out).tree k bs[k] (by simp [hkx])
        generalize hx : bs[k] = x at *
        have HXK : Hid (bs[k]? = some x) := by show bs[k]? = some x; rw [List.getElem?_eq_getElem hkx, hx]
        have HO := Lib.hid (HOK.out k x HXK.out)
        have hrow := HROW4.out.of_block (HI.block _ hg4)
        have r0 := hrow.cell (i := k) hkn
        obtain ⟨u0, u1⟩ := HFIT.out.range k hkx
        unfold at0 at u0 u1
        obtain ⟨u, hu⟩ : ∃ u, l.getD k 0 = u := ⟨_, rfl⟩
        rw [hu] at r0 u0 u1
        have HU := Lib.hid hu
        have q0 := new_cell wr #[.int .i64 x.leaf, .int .i64 x.a, .int .i64 x.b] 50 0
        have q1 := new_cell wr #[.int .i64 x.leaf, .int .i64 x.a, .int .i64 x.b] 50 1
        have q2 := new_cell wr #[.int .i64 x.leaf, .int .i64 x.a, .int .i64 x.b] 50 2
        have hba := below_alloc wr (.cells #[.int .i64 x.leaf, .int .i64 x.a, .int .i64 x.b] 50)
        have c1 := cell_below hba hz5 c1
        have r1 := cell_below hba hg5 r0
        have HI2 := Lib.hid (Below.then HI HI.size hba)
        have HBA := Lib.hid hba
        have HBZ : Hid (wr.heap.size < (wr.alloc (.cells #[.int .i64 x.leaf, .int .i64 x.a, .int .i64 x.b] 50)).heap.size) := by show wr.heap.size < _; simp
        clear hx hu hrow hba
        go_wp2_with fail
        generalize wr.alloc (.cells #[.int .i64 x.leaf, .int .i64 x.a, .int .i64 x.b] 50) = W2 at *
        by_cases hleaf : x.a = 0 ∧ x.b = 0
        · have f1 : (x.a == 0 && x.b == 0) = true := by rw [hleaf.1, hleaf.2]; rfl
          have hz6 : w.heap.size + 1 < W2.heap.size := Nat.lt_of_lt_of_le hz5 HBA.out.size
          have hg6 : g < W2.heap.size := Nat.lt_of_lt_of_le hg5 HBA.out.size
          have k0 : ∀ s : Later W2, s.W.cell? ⟨wr.heap.size, 0, none⟩ = some (.int .i64 x.leaf) := fun s => cell_below s.below HBZ.out q0
          have k1 : ∀ s : Later W2, s.W.cell? ⟨w.heap.size + 1, 0, none⟩ = some (.slice A2 n2 c2) := fun s => cell_below s.below hz6 c1
          have k2 : ∀ s : Later W2, s.W.cell? ⟨g, k, none⟩ = some (.int .i64 u) := fun s => cell_below s.below hg6 r1
          have k5 : ∀ s : Later W2, s.W.cell? ⟨wr.heap.size, 1, none⟩ = some (.int .i64 x.a) := fun s => cell_below s.below HBZ.out q1
          have k6 : ∀ s : Later W2, s.W.cell? ⟨wr.heap.size, 2, none⟩ = some (.int .i64 x.b) := fun s => cell_below s.below HBZ.out q2
          obtain ⟨p0, p1⟩ : 0 ≤ x.leaf ∧ x.leaf < n2 := by
            have := HN2.out
            rcases HO.out with h | h
            · omega
            · exact absurd (hleaf.1.trans hleaf.2.symm) h.2.1
          obtain ⟨r, hrow, hst, hy0, hy1⟩ := matOk_at HM.out p0 (by rw [HN2.out]; exact p1) HSI.out
          obtain ⟨md, A', c', rfl, m0, m1, m2, m3⟩ := H.out.mat x.leaf.toNat r hrow
          obtain ⟨md', rfl, m4⟩ := m1 site.toNat _ hst
          have hrl : site < (r.length : Int) := by
            obtain ⟨hh, _⟩ := List.getElem?_eq_some_iff.1 hst
            omega
          have HBW := Lib.hid (Below.then HW.out HW.out.size HBA.out)
          have k3 : ∀ s : Later W2, s.W.cell? (md.add x.leaf.toNat) = some (.slice (some md') r.length c') := fun s => ((Below.then HBW.out HBW.out.size s.below).cell (World.block_lt_of_cell? w _ m0)).trans m0
          have k4 : ∀ s : Later W2, s.W.cell? (md'.add site.toNat) = some (.int .i64 (stateAt rows site.toNat x.leaf)) := fun s => ((Below.then HBW.out HBW.out.size s.below).cell (World.block_lt_of_cell? w _ m4)).trans m4
          have hown := HFIT.out.own k x HXK.out hleaf.1 hleaf.2
          unfold at0 at hown
          rw [HU.out] at hown
          obtain ⟨y, hy⟩ : ∃ y, stateAt rows site.toNat x.leaf = y := ⟨_, rfl⟩
          rw [hy] at k4 hown hy0 hy1
          clear hrow hst hy m0 m1 m2 m4 hleaf
          by_cases hyn : y < 0
          · have g1 : decide (0 ≤ y) = false := decide_eq_false (by omega)
            clear hown
            refine wp_quiet_below (w := W2) (by kernel_rfl) (by kernel_rfl) ?_
            repeat (go_big_quiet_step (exact (leaf_calls x _).mono (fun e w5 ⟨he, hb⟩ => ⟨by rw [f1] at he; exact he, ⟨⟨w5, Below.then (Later.below _) (Later.below _).size hb⟩, rfl⟩⟩)))
            refine wpQuiet_nil ?_
            rintro _ ⟨⟨w5, hb5⟩, rfl⟩
            go_wp2_with fail
            go_roundg (gk - 1)
            case measure => have := HG.out; omega
            case rel => exact ⟨k + 1, by go_num, by omega, by have := HG.out; show gk - 1 + (k + 1) = n; omega, Below.then HI2.out HI2.out.size hb5⟩
          · have g1 : decide (0 ≤ y) = true := decide_eq_true (by omega)
            have g2 : (u != y) = false := by rw [bne_eq_false_iff_eq]; exact hown (by omega)
            clear hown
            refine wp_quiet_below (w := W2) (by kernel_rfl) (by kernel_rfl) ?_
            repeat (go_big_quiet_step (exact (leaf_calls x _).mono (fun e w5 ⟨he, hb⟩ => ⟨by rw [f1] at he; exact he, ⟨⟨w5, Below.then (Later.below _) (Later.below _).size hb⟩, rfl⟩⟩)))
            refine wpQuiet_nil ?_
            rintro _ ⟨⟨w5, hb5⟩, rfl⟩
            go_wp2_with fail
            go_roundg (gk - 1)
            case measure => have := HG.out; omega
            case rel => exact ⟨k + 1, by go_num, by omega, by have := HG.out; show gk - 1 + (k + 1) = n; omega, Below.then HI2.out HI2.out.size hb5⟩
        · have f1 : (x.a == 0 && x.b == 0) = false := by
            rw [Bool.and_eq_false_iff, beq_eq_false_iff_ne, beq_eq_false_iff_ne]
            omega
          have k0 : ∀ s : Later W2, s.W.cell? ⟨wr.heap.size, 0, none⟩ = some (.int .i64 x.leaf) := fun s => cell_below s.below HBZ.out q0
          have k5 : ∀ s : Later W2, s.W.cell? ⟨wr.heap.size, 1, none⟩ = some (.int .i64 x.a) := fun s => cell_below s.below HBZ.out q1
          have k6 : ∀ s : Later W2, s.W.cell? ⟨wr.heap.size, 2, none⟩ = some (.int .i64 x.b) := fun s => cell_below s.below HBZ.out q2
          refine wp_quiet_below (w := W2) (by kernel_rfl) (by kernel_rfl) ?_
          repeat (go_big_quiet_step (exact (leaf_calls x _).mono (fun e w5 ⟨he, hb⟩ => ⟨by rw [f1] at he; exact he, ⟨⟨w5, Below.then (Later.below _) (Later.below _).size hb⟩, rfl⟩⟩)))
          refine wpQuiet_nil ?_
          rintro _ ⟨⟨w5, hb5⟩, rfl⟩
          go_wp2_with fail
          go_roundg (gk - 1)
          case measure => have := HG.out; omega
          case rel => exact ⟨k + 1, by go_num, by omega, by have := HG.out; show gk - 1 + (k + 1) = n; omega, Below.then HI2.out HI2.out.size hb5⟩
      · go_wp2_with fail
        go_ret
        exact ⟨rfl, HW.out⟩
  · have HST := Lib.hid (fun (W : World) (hb : Below w.heap.size w W) => states_bad A n c bs A2 n2 c2 rows site W (H.out.below hb) he)
    have hn : siteNum bs rows site = 0 := by unfold siteNum; rw [if_neg he]
    obtain ⟨er, her⟩ : ∃ er, siteErr bs rows site = er := ⟨_, rfl⟩
    rw [hn, her] at HS
    rw [her] at he HST
    have b1 : (er != 0) = true := by rw [bne_iff_ne]; exact he
    clear he her hn
    go_enter Tryd.func7, Tryd.ntmps7
    go_wp2_with fail
    refine (HA.out _ (two_below _ _ _ _ _)).mono ?_
    rintro e w1 ⟨rfl, hb1⟩
    obtain ⟨HB, hz, c0, c1⟩ := two_boxes hb1
    clear hb1
    go_wp2_with fail
    refine (HS.out _ HB.out).mono ?_
    rintro e w2 ⟨rfl, hb2⟩
    have c0 := cell_below hb2 (by omega) c0
    have c1 := cell_below hb2 hz c1
    have HB2 := Lib.hid (Below.then HB.out HB.out.size hb2)
    clear hb2
    go_wp2_with fail
    refine (HST.out _ HB2.out).mono ?_
    rintro e w3 ⟨rfl, hb3⟩
    have HB3 := Lib.hid (Below.then HB2.out HB2.out.size hb3)
    clear hb3 c0 c1
    go_wp2_with fail
    go_ret
    exact ⟨rfl, HB3.out⟩
end Go.Proofs.YtbmlkomfelkckaaDoor
