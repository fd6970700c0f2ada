/- siglumref21.wrong, site, Site, Changes: the same least changes as fitch.Site, fitch.Changes. -/
import Derived.Test.YtbmlkomfelkckaaRMat
import Derived.Test.YtbmlkomfelkckaaCosts
namespace Go.Proofs.Ytbmlkomfelkckaa
open Go Go.RowKit
set_option maxRecDepth 100000

set_option maxHeartbeats 400000 in
theorem rboth_calls (A : Option Addr) (n c : Nat) (bs : List Br) (A2 : Option Addr) (n2 c2 : Nat) (rows : List (List Int)) (w : World) (h : TM w A n bs A2 n2 rows) :
    Calls Try.prog 97 #[.agg #[.slice A n c], .agg #[.slice A2 n2 c2]] w fun e w' => e = .returned (.int .i64 (errBoth bs rows)) ∧ Below w.heap.size w w' := by
  have H := Lib.hid h
  have h0 : n2 ≤ 9223372036854775807 := h.rcap
  have HM := Lib.hid (fun (W : World) (hb : Below w.heap.size w W) => rmcheck_calls A2 n2 c2 rows W (h.below hb).mat h.rlen h.rcap)
  clear h
  by_cases hm : matOk rows = true
  · have he : errMat rows = 0 := by unfold errMat; rw [if_pos hm]
    have HE : Hid (errMat rows = 0) := he
    have hn2 := H.out.rlen
    have HC := Lib.hid (fun (W : World) (hb : Below w.heap.size w W) => rcheck_calls A n c bs (n2 : Int) W (H.out.below hb).tree H.out.len H.out.cap)
    rw [show errBoth bs rows = okTree (n2 : Int) bs by unfold errBoth; rw [if_pos hm, hn2]]
    clear he hn2 hm
    go_enter Try.func97, Try.ntmps97
    go_wp2_with fail
    refine (HM.out _ (two_below _ _ _ _ _)).mono ?_
    rintro e w1 ⟨he, hb1⟩
    rw [HE.out] at he
    subst he
    obtain ⟨HB, hz, c0, c1⟩ := two_boxes hb1
    clear hb1
    go_wp2_with fail
    refine (HC.out _ HB.out).mono ?_
    rintro e w2 ⟨rfl, hb2⟩
    have HB2 := Lib.hid (Below.then HB.out (HB.out.size) hb2)
    clear hb2 c0 c1
    go_wp2_with fail
    go_ret
    exact ⟨rfl, HB2.out⟩
  · have HE : Hid (errMat rows = 190) := by show errMat rows = 190; unfold errMat; rw [if_neg hm]
    rw [show errBoth bs rows = 190 by unfold errBoth; rw [if_neg hm]]
    clear hm
    go_enter Try.func97, Try.ntmps97
    go_wp2_with fail
    refine (HM.out _ (two_below _ _ _ _ _)).mono ?_
    rintro e w1 ⟨he, hb1⟩
    rw [HE.out] at he
    subst he
    obtain ⟨HB, hz, c0, c1⟩ := two_boxes hb1
    clear hb1
    go_wp2_with fail
    go_ret
    exact ⟨rfl, HB.out⟩

set_option maxHeartbeats 1000000 in
theorem rleast_calls (A : Option Addr) (n c : Nat) (bs : List Br) (A2 : Option Addr) (n2 c2 : Nat) (rows : List (List Int)) (site : Int) (w : World) (h : TM w A n bs A2 n2 rows) (he : siteErr bs rows site = 0) :
    Calls Try.prog 98 #[.agg #[.slice A n c], .agg #[.slice A2 n2 c2], .int .i64 site] w fun e w' => e = .returned (.int .i64 ((fall rows site.toNat bs).n : Int)) ∧ Below w.heap.size w w' := by
  have HC := Lib.hid (fun (W : World) (hb : Below w.heap.size w W) => costs_calls A n c bs A2 n2 c2 rows site W (h.below hb) he)
  obtain ⟨hm, htr, hs0, hs1⟩ := siteErr_zero he
  obtain ⟨hs2, hs3⟩ := sank_each (site := site.toNat) hm (by omega) htr
  have hlen := h.len
  have hn1 : 1 ≤ n ∧ n ≤ 23 := by
    obtain ⟨l, hl'⟩ := Option.isSome_iff_exists.1 htr
    have h1 := rdTree_some hl'
    have := (matOk_few' hm).2.1
    omega
  obtain ⟨C, hC⟩ : ∃ C, crows rows site.toNat bs = C := ⟨_, rfl⟩
  rw [hC] at hs2 hs3 HC
  rw [← hs3, show bs.length - 1 = n - 1 by omega]
  have HF : Hid (∀ q, q < 12 → (C.getD (n - 1) []).getD q 0 ≤ 1000000000) := by
    intro q hq
    obtain ⟨m, hr, hm⟩ := hs2 (n - 1) (by omega)
    have := hr.few q hq
    omega
  obtain ⟨p0, p1⟩ := hn1
  obtain ⟨row, hrow⟩ : ∃ row, C.getD (n - 1) [] = row := ⟨_, rfl⟩
  rw [hrow] at HF ⊢
  have HROW := Lib.hid hrow
  have q0 : (0 : Int) ≤ (n : Int) - 1 := by omega
  have q1 : ((n : Int) - 1).toNat = n - 1 := by omega
  clear hm htr hs0 hs1 hs2 hs3 hlen hC hrow he h
  go_enter Try.func98, Try.ntmps98
  go_wp2_with fail
  refine (HC.out _ (two_below _ _ _ _ _)).mono ?_
  rintro e w1 ⟨hb1, AV, cv, ps, rfl, ho, hcr⟩
  obtain ⟨HB, hz, c0, c1⟩ := two_boxes hb1
  obtain ⟨gv, g, rfl, q2, hrw⟩ := hcr.at ho (i := n - 1) (by omega)
  rw [HROW.out] at hrw
  have HRW : Hid (w1.rowIs g 3 12 (fun q => .int .i64 ((row.getD q 0 : Nat) : Int))) := hrw
  have HM0 : Hid (minUp row 0 = row.getD 0 0) := rfl
  have r0 := HRW.out.cell (i := 0) (by omega)
  have v0 := HF.out 0 (by omega)
  obtain ⟨x, hx⟩ : ∃ x, row.getD 0 0 = x := ⟨_, rfl⟩
  rw [hx] at r0 v0 HM0
  clear hb1 c0 c1 ho hcr hrw hx
  go_wp2_with fail
  go_loopg [9, 10] 12 (fun gk v9 v10 wr => ∃ k : Nat, v9 = .int .i64 ((minUp row k : Nat) : Int) ∧ v10 = .int .i64 (((k + 1 : Nat) : Nat) : Int) ∧ k ≤ 11 ∧ Hid (gk + k = 12) ∧ wr = w1)
  case atStart => exact ⟨0, by rw [HM0.out], rfl, Nat.zero_le _, rfl, rfl⟩
  case round =>
    obtain ⟨k, rfl, rfl, hk, HG, rfl⟩ := hrel
    have v1 := Nat.le_trans (minUp_le row 0 k (by omega)) (HF.out 0 (by omega))
    obtain ⟨y, hy⟩ : ∃ y, minUp row k = y := ⟨_, rfl⟩
    rw [hy] at v1 ⊢
    have HY := Lib.hid hy
    clear hy
    obtain ⟨k1, hk1⟩ : ∃ k1, k + 1 = k1 := ⟨_, rfl⟩
    have HK1 := Lib.hid hk1
    have hkk : k1 ≤ 12 := by omega
    rw [hk1]
    clear hk1
    by_cases hk12 : k1 < 12
    · have r1 := HRW.out.cell (i := k1) hk12
      have v2 := HF.out k1 hk12
      obtain ⟨z, hz'⟩ : ∃ z, row.getD k1 0 = z := ⟨_, rfl⟩
      rw [hz'] at r1 v2
      have HE : Hid (minUp row k1 = min y z) := by
        show minUp row k1 = min y z
        rw [← HK1.out, minUp, HY.out, HK1.out, hz']
      clear hz'
      go_wp2_with fail
      all_goals
        go_roundg (gk - 1)
        case measure => have := HG.out; omega
        case rel => exact ⟨k1, by rw [HE.out]; congr 1; omega, by go_num, by omega, by have h1 := HG.out; have h2 := HK1.out; show gk - 1 + k1 = 12; omega, rfl⟩
    · have HE : Hid (minUp row 11 = y) := by
        have h2 := HK1.out
        show minUp row 11 = y
        rw [← HY.out, show k = 11 by omega]
      obtain rfl : k1 = 12 := by omega
      go_wp2_with fail
      go_ret
      exact ⟨by rw [HE.out]; rfl, HB.out⟩


set_option maxHeartbeats 1000000 in
theorem rsum_calls (A : Option Addr) (n c : Nat) (bs : List Br) (A2 : Option Addr) (n2 c2 : Nat) (rows : List (List Int)) (w : World) (h : TM w A n bs A2 n2 rows) :
    Calls Try.prog 64 #[.agg #[.slice A n c], .agg #[.slice A2 n2 c2]] w fun e w' => e = .returned (.tuple #[.int .i64 (sumNum bs rows : Int), .int .i64 (errBoth bs rows)]) ∧ Below w.heap.size w w' := by
  have H := Lib.hid h
  have HM := Lib.hid (fun (W : World) (hb : Below w.heap.size w W) => rboth_calls A n c bs A2 n2 c2 rows W (h.below hb))
  clear h
  by_cases h1 : errBoth bs rows = 0
  · obtain ⟨hm, ht⟩ := errBoth_zero h1
    have hf := matOk_few' hm
    have hl := H.out.rlen
    have hlen := H.out.len
    have hn : n ≤ 23 := by
      obtain ⟨l, hl'⟩ := Option.isSome_iff_exists.1 ht
      have := (rdTree_some hl').2.2.1
      omega
    have HC := Lib.hid (fun (W : World) (hb : Below w.heap.size w W) (site : Nat) (hs : site < wid rows) => rleast_calls A n c bs A2 n2 c2 rows site W (H.out.below hb) (by unfold siteErr; rw [if_neg (by simpa using h1), if_neg (by omega)]))
    rw [h1, show sumNum bs rows = fsum rows bs (wid rows) by unfold sumNum; rw [if_pos h1]]
    have HE : Hid (errBoth bs rows = 0) := h1
    obtain ⟨r0, hr0, hw0⟩ := wid_at (rows := rows) hf.1
    obtain ⟨ad, A3, c3, hA, d0, -, hc0, hc1⟩ := H.out.mat 0 r0 hr0
    subst hA
    rw [show ad.add 0 = ad by simp [Addr.add], hw0] at d0
    have hlt0 := World.block_lt_of_cell? w _ d0
    rw [hw0] at hc0
    have hn2 : 0 < n2 := by omega
    have HF := Lib.hid (fsum_few rows bs)
    obtain ⟨m, hwm⟩ : ∃ m, wid rows = m := ⟨_, rfl⟩
    rw [hwm] at hf d0 hc0 HC ⊢
    have hm2 := hf.2.2
    have HD0 := Lib.hid d0
    have HLEN := Lib.hid hlen
    clear h1 hm ht hf hr0 hw0 hwm hlen
    go_enter Try.func64, Try.ntmps64
    go_wp2_with fail
    refine (HM.out _ (two_below _ _ _ _ _)).mono ?_
    rintro e w1 ⟨he, hb1⟩
    rw [HE.out] at he
    subst he
    obtain ⟨HB, hz, c0, c1⟩ := two_boxes hb1
    clear hb1 d0
    go_wp2_with fail
    go_loopg [7, 8] m (fun gk v7 v8 wr => ∃ k : Nat, v7 = .int .i64 (fsum rows bs k : Int) ∧ v8 = .int .i64 k ∧ k ≤ m ∧ Hid (gk + k = m) ∧ Below w.heap.size w wr ∧ w1.heap.size ≤ wr.heap.size ∧ wr.cell? ⟨w.heap.size, 0, none⟩ = some (.slice A n c) ∧ wr.cell? ⟨w.heap.size + 1, 0, none⟩ = some (.slice (some ad) n2 c2))
    case atStart => exact ⟨0, rfl, rfl, Nat.zero_le _, rfl, HB.out, Nat.le_refl _, c0, c1⟩
    case round =>
      obtain ⟨k, rfl, rfl, hk, HG, hbw, hwz, k0, k1⟩ := hrel
      have HBW := Lib.hid hbw
      have d1 := (hbw.cell hlt0).trans HD0.out
      clear hbw c0 c1
      have hfk := HF.out k
      have hfk2 : fsum rows bs k ≤ 4096 * 23 := Nat.le_trans hfk (Nat.mul_le_mul (by omega) (by have := HLEN.out; omega))
      clear hfk
      by_cases hkm : k < m
      · have hfk4 : (fall rows k bs).n ≤ 23 := by have := fall_few rows k bs; have := HLEN.out; omega
        go_wp2_with fail
        refine (HC.out _ HBW.out k hkm).mono ?_
        rintro e w2 ⟨rfl, hb2⟩
        have HB2 := Lib.hid (Below.then HBW.out HBW.out.size hb2)
        have k0' := cell_below hb2 (by omega) k0
        have k1' := cell_below hb2 (by omega) k1
        have hwz' := Nat.le_trans hwz hb2.size
        clear hb2 k0 k1 d1
        rw [Int.toNat_natCast]
        go_wp2_with fail
        go_roundg (gk - 1)
        case measure => have := HG.out; omega
        case rel => exact ⟨k + 1, by go_num, by go_num, by omega, by have := HG.out; show gk - 1 + (k + 1) = m; omega, HB2.out, hwz', k0', k1'⟩
      · have hkm' : k = m := by omega
        have HK := Lib.hid hkm'
        clear hkm'
        go_wp2_with fail
        go_ret2
        exact ⟨by rw [← HK.out]; rfl, HBW.out⟩
  · obtain ⟨er, her⟩ : ∃ er, errBoth bs rows = er := ⟨_, rfl⟩
    rw [show sumNum bs rows = 0 by unfold sumNum; rw [if_neg h1]]
    rw [her] at h1 ⊢
    have b1 : (er != 0) = true := by rw [bne_iff_ne]; exact h1
    have HE : Hid (errBoth bs rows = er) := her
    clear h1 her
    go_enter Try.func64, Try.ntmps64
    go_wp2_with fail
    refine (HM.out _ (two_below _ _ _ _ _)).mono ?_
    rintro e w1 ⟨he, hb1⟩
    rw [HE.out] at he
    subst he
    obtain ⟨HB, hz, c0, c1⟩ := two_boxes hb1
    clear hb1
    go_wp2_with fail
    go_ret2
    exact ⟨rfl, HB.out⟩
end Go.Proofs.Ytbmlkomfelkckaa
