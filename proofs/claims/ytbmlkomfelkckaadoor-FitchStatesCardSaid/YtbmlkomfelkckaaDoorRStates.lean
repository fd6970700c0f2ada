/- siglumref21.States: the same states as fitch.States. -/
import Derived.Test.YtbmlkomfelkckaaDoorRStP
import Derived.Test.YtbmlkomfelkckaaDoorRSite
import Derived.Deep.QuietTactic
import Derived.BigQuiet
namespace Go.Proofs.YtbmlkomfelkckaaDoor
open Go Go.RowKit
set_option maxRecDepth 100000

theorem dfr_le (s : Nat) (up : Int) : dfr s up ≤ 1 := by unfold dfr; split <;> omega

/-- What holds at the head of each round: below 'w3' nothing turns; two rows behind it. -/
structure TInv (w3 wr : World) (n : Nat) (s : SS) : Prop where
  below : Below w3.heap.size w3 wr
  size : w3.heap.size + 2 ≤ wr.heap.size
  lrow : wr.rowIs w3.heap.size 3 n (fun q => .int .i64 (s.l.getD q 0))
  arow : wr.rowIs (w3.heap.size + 1) 3 n (fun q => .int .i64 (s.above.getD q 0))
  ok : ROk n s

theorem TInv.next {w3 wr W : World} {n : Nat} {s : SS} (h : TInv w3 wr n s) (hb : Below wr.heap.size wr W) : TInv w3 W n s :=
  ⟨Below.then h.below h.below.size hb, Nat.le_trans h.size hb.size, h.lrow.of_block (hb.block _ h.lrow.lt), h.arow.of_block (hb.block _ h.arow.lt), h.ok⟩

theorem set_size (w : World) (a : Addr) (v : Value) : (w.setCell a v).heap.size = w.heap.size := by simp [World.setCell]

theorem TInv.start (w3 : World) (n : Nat) (hn : 1 ≤ n) :
    TInv w3 (((w3.alloc (.cells (madeCells #[.int .i64 0] n) 3)).alloc (.cells (madeCells #[.int .i64 0] n) 3)).setCell ⟨w3.heap.size + 1, n - 1, none⟩ (.int .i64 (-1))) n (rstart n) := by
  have h1 := (World.rowIs_made w3 (.int .i64 0) n 3).alloc (.cells (madeCells #[.int .i64 0] n) 3)
  have h2 := World.rowIs_made (w3.alloc (.cells (madeCells #[.int .i64 0] n) 3)) (.int .i64 0) n 3
  rw [World.size_alloc] at h2
  have hb : Below w3.heap.size w3 ((w3.alloc (.cells (madeCells #[.int .i64 0] n) 3)).alloc (.cells (madeCells #[.int .i64 0] n) 3)) := Below.trans (below_alloc w3 _) ((below_alloc _ _).mono (by simp))
  refine ⟨below_set hb (by omega) _ _, by rw [set_size]; simp, (h1.setOther (by show w3.heap.size ≠ w3.heap.size + 1; omega) _).congr (fun q _ => ?_), (h2.set (n - 1) _).congr (fun q _ => ?_), ROk.start n⟩
  · show Value.int .i64 0 = Value.int .i64 ((List.replicate n (0 : Int)).getD q 0)
    have := at0_replicate n q
    unfold at0 at this
    rw [this]
  · show _ = Value.int .i64 (((List.replicate n (0 : Int)).set (n - 1) (-1)).getD q 0)
    rw [getD_set_int _ _ _ (by simp; omega)]
    split
    · rfl
    · have := at0_replicate n q
      unfold at0 at this
      rw [this]

theorem TInv.setL {w3 wr : World} {n : Nat} {s : SS} (h : TInv w3 wr n s) {i : Nat} (hi : i < n) (x : Int) : TInv w3 (wr.setCell ⟨w3.heap.size, i, none⟩ (.int .i64 x)) n ⟨s.l.set i x, s.above⟩ := by
  have hl := h.ok.len
  refine ⟨below_set h.below (Nat.le_refl _) _ _, by rw [set_size]; exact h.size, (h.lrow.set i _).congr (fun q _ => ?_), h.arow.setOther (by show w3.heap.size + 1 ≠ w3.heap.size; omega) _, ⟨by simp [hl], h.ok.alen, h.ok.above⟩⟩
  rw [getD_set_int _ _ _ (by omega)]
  split <;> rfl

theorem TInv.setA {w3 wr : World} {n : Nat} {s : SS} (h : TInv w3 wr n s) {i : Nat} (hi : i < n) (x : Int) (hx : -1 ≤ x ∧ x < 12) : TInv w3 (wr.setCell ⟨w3.heap.size + 1, i, none⟩ (.int .i64 x)) n ⟨s.l, s.above.set i x⟩ := by
  have hl := h.ok.alen
  refine ⟨below_set h.below (by omega) _ _, by rw [set_size]; exact h.size, h.lrow.setOther (by show w3.heap.size ≠ w3.heap.size + 1; omega) _, (h.arow.set i _).congr (fun q _ => ?_), ⟨h.ok.len, by simp [hl], fun y hy => ?_⟩⟩
  · rw [getD_set_int _ _ _ (by omega)]
    split <;> rfl
  · rcases List.mem_or_eq_of_mem_set hy with hy | rfl
    · exact h.ok.above y hy
    · exact hx

/-- What States leaves where there is no fault. -/
def RetStates (w : World) (n : Nat) (l : List Int) (e : Ending) (w' : World) : Prop :=
  ∃ g, e = .returned (.tuple #[.slice (some ⟨g, 0, none⟩) n n, .int .i64 0]) ∧ w'.rowIs g 3 n (fun q => .int .i64 (l.getD q 0)) ∧ l.length = n ∧ Below w.heap.size w w'

set_option maxHeartbeats 4000000 in
theorem rstates_calls (A : Option Addr) (n c : Nat) (bs : List Br) (A2 : Option Addr) (n2 c2 : Nat) (rows : List (List Int)) (site : Int) (w : World) (h : TM w A n bs A2 n2 rows) (he : siteErr bs rows site = 0) :
    Calls Tryd.prog 16 #[.agg #[.slice A n c], .agg #[.slice A2 n2 c2], .int .i64 site] w (RetStates w n (statesOf rows site.toNat bs)) := by
  have H := Lib.hid h
  have HS := Lib.hid (fun (W : World) (hb : Below w.heap.size w W) => rsite_calls A n c bs A2 n2 c2 rows site W (h.below hb))
  have HC := Lib.hid (fun (W : World) (hb : Below w.heap.size w W) => costs_calls A n c bs A2 n2 c2 rows site W (h.below hb) he)
  obtain ⟨hm, htr, hs0, hs1⟩ := siteErr_zero he
  have hsi : site.toNat < wid rows := by omega
  have hsank := (sank_each hm hsi htr).1
  have hlen := h.len
  have hn1 : 1 ≤ n ∧ n ≤ 23 := by
    obtain ⟨l, hl'⟩ := Option.isSome_iff_exists.1 htr
    have h1 := rdTree_some hl'
    have := (matOk_few' hm).2.1
    omega
  have heq := rstates_eq hm hsi htr
  have hsl := (states_picked (rows := rows) (site := site.toNat) htr).len
  have hok := brOk_of htr
  obtain ⟨C, hC⟩ : ∃ C, crows rows site.toNat bs = C := ⟨_, rfl⟩
  obtain ⟨sn, hsn⟩ : ∃ sn, siteNum bs rows site = sn := ⟨_, rfl⟩
  rw [he, hsn] at HS
  rw [hC] at hsank HC heq
  rw [hlen] at heq hsl
  have HF : Hid (∀ i, i < n → ∀ q, q < 12 → (C.getD i []).getD q 0 ≤ 1000000000) := by
    intro i hi q hq
    obtain ⟨m, hr, hm⟩ := hsank i (by omega)
    have := hr.few q hq
    omega
  obtain ⟨fl, hfl⟩ : ∃ fl, statesOf rows site.toNat bs = fl := ⟨_, rfl⟩
  rw [hfl] at heq hsl ⊢
  have HEQ := Lib.hid heq
  have HSL := Lib.hid hsl
  have HOK := Lib.hid hok
  have HN := Lib.hid hlen
  obtain ⟨p0, p1⟩ := hn1
  have q1 : ((n : Int) - 1).toNat = n - 1 := by omega
  have hmk := run_make_row' (P := Tryd.prog) 32 3 (.int .i64 0) 8 Tryd.underlying32 info_int1 rfl .i64 .i64 n (by omega) (by omega)
  clear h he hm htr hs0 hs1 hsi hsank hlen heq hsl hok hC hsn hfl
  go_enter Tryd.func16, Tryd.ntmps16
  go_wp2_with fail
  refine (HS.out _ (two_below _ _ _ _ _)).mono ?_
  rintro e w1 ⟨rfl, hb1⟩
  obtain ⟨HB, hz, c0, c1⟩ := two_boxes hb1
  clear hb1
  go_wp2_with fail
  refine (HC.out _ HB.out).mono ?_
  rintro e w3 ⟨hb3, AV, cv, ps, rfl, ho, hcr⟩
  have c0 := cell_below hb3 (by omega) c0
  have c1 := cell_below hb3 hz c1
  have hz3 := Nat.lt_of_lt_of_le hz hb3.size
  have HB3 := Lib.hid (Below.then HB.out HB.out.size hb3)
  have HCR := Lib.hid (fun (i : Nat) (hi : i < n) => hcr.at ho hi)
  clear hb3 hz ho hcr
  have r2 := World.rowIs_made (w3.alloc (.cells (madeCells #[.int .i64 0] n) 3)) (.int .i64 0) n 3
  rw [World.size_alloc] at r2
  have r3 := r2.cell (i := n - 1) (by omega)
  have r4 := r2.frozen (n - 1)
  have q2 : (n : Int) - 1 < n := by omega
  clear r2
  have hst := TInv.start w3 n p0
  rw [World.setCell_alloc_at _ _ _ _ _ (by simp)] at hst
  go_wp2_with fail
  generalize (w3.alloc (.cells (madeCells #[.int .i64 0] n) 3)).alloc (.cells ((madeCells #[.int .i64 0] n).setIfInBounds (n - 1) (.int .i64 (-1))) 3) = W0 at *
  clear hmk r3 r4
  go_loopg [13] n (fun gk v13 wr => ∃ (k : Nat) (s : SS), v13 = .int .i64 ((k : Int) - 1) ∧ k ≤ n ∧ Hid (gk = k) ∧ TInv w3 wr n s ∧ Hid (rpass bs C k s = rpass bs C n (rstart n)))
  case atStart => exact ⟨n, _, rfl, Nat.le_refl _, rfl, hst, rfl⟩
  case round =>
    clear hst
    obtain ⟨k, s, rfl, hk, HG, HI, HP⟩ := hrel
    have hsz := HI.size
    have hz0 : w.heap.size + 1 < w3.heap.size := hz3
    by_cases hk0 : 0 < k
    · have j0 : (0 : Int) ≤ (k : Int) - 1 := by omega
      have j1 : ((k : Int) - 1).toNat = k - 1 := by omega
      have j2 : (k : Int) - 1 < n := by omega
      have hupr : -1 ≤ s.above.getD (k - 1) 0 ∧ s.above.getD (k - 1) 0 < 12 := by
        have hal := HI.ok.alen
        rw [List.getD_eq_getElem?_getD, List.getElem?_eq_getElem (by omega)]
        exact HI.ok.above _ (List.getElem_mem _)
      obtain ⟨up, hupe⟩ : ∃ up, s.above.getD (k - 1) 0 = up := ⟨_, rfl⟩
      rw [hupe] at hupr
      have HUP := Lib.hid hupe
      obtain ⟨gv, gr, rfl, hcell, hrw⟩ := HCR.out (k - 1) (by omega)
      have hgl := World.block_lt_of_cell? w3 _ hcell
      have hrl := World.rowIs.lt hrw
      have HCELL := Lib.hid hcell
      have HRW0 : Hid (w3.rowIs gr 3 12 (fun q => .int .i64 (((C.getD (k - 1) []).getD q 0 : Nat) : Int))) := hrw
      have HFR := Lib.hid (HF.out (k - 1) (by omega))
      obtain ⟨row, hrow⟩ : ∃ row, C.getD (k - 1) [] = row := ⟨_, rfl⟩
      rw [hrow] at HRW0 HFR
      have HROW := Lib.hid hrow
      clear hrow hrw hupe hcell
      go_wp2_with fail
      obtain ⟨wo, rfl⟩ : ∃ wo : World, wo = wr := ⟨_, rfl⟩
      obtain ⟨g1, rfl⟩ : ∃ g1 : Nat, g1 = gk := ⟨_, rfl⟩
      go_loopg [14, 15] 12 (fun gk v14 v15 wr => ∃ (p k1 : Nat), v14 = .int .i64 p ∧ v15 = .int .i64 k1 ∧ k1 ≤ 12 ∧ p ≤ 11 ∧ Hid (gk + k1 = 13) ∧ 1 ≤ k1 ∧ Hid (p = pickUp (fun q => row.getD q 0 + dfr q up) (k1 - 1)) ∧ Below wo.heap.size wo wr)
      case atStart => exact ⟨0, 1, rfl, rfl, by omega, by omega, rfl, by omega, rfl, Below.refl _ _⟩
      case round =>
        obtain ⟨p, k1, rfl, rfl, hk1, hp, HJ, hk2, HPK, hbw⟩ := hrel
        have HI2 := Lib.hid (HI.next hbw)
        have HBW := Lib.hid hbw
        clear hbw
        by_cases hk12 : k1 < 12
        · have hup := HI2.out.arow.cell (i := k - 1) (by omega)
          rw [HUP.out] at hup
          have hcell := cell_below HI2.out.below hgl HCELL.out
          have HRW := Lib.hid (HRW0.out.of_block (HI2.out.below.block _ hrl))
          have r1 := HRW.out.cell (i := k1) hk12
          have r2 := HRW.out.cell (i := p) (by omega)
          have u1 := HFR.out k1 hk12
          have u2 := HFR.out p (by omega)
          have e1 := dfr_le k1 up
          have e2 := dfr_le p up
          obtain ⟨z1, hz1⟩ : ∃ z1, row.getD k1 0 = z1 := ⟨_, rfl⟩
          obtain ⟨z2, hz2⟩ : ∃ z2, row.getD p 0 = z2 := ⟨_, rfl⟩
          have HNX : Hid (pickUp (fun q => row.getD q 0 + dfr q up) k1 = if z1 + dfr k1 up < z2 + dfr p up then k1 else p) := by
            have h1 := HPK.out
            obtain ⟨k0, rfl⟩ : ∃ k0, k1 = k0 + 1 := ⟨k1 - 1, by omega⟩
            rw [Nat.add_sub_cancel] at h1
            show pickUp _ (k0 + 1) = _
            rw [pickUp, ← h1, hz1, hz2]
          rw [hz1] at r1 u1
          rw [hz2] at r2 u2
          have i1 : (k1 : Int) < 12 := by omega
          have i2 : (p : Int) < 12 := by omega
          clear hz1 hz2
          by_cases hlt : z1 + dfr k1 up < z2 + dfr p up
          · have hlt' : (z1 : Int) + ((dfr k1 up : Nat) : Int) < (z2 : Int) + ((dfr p up : Nat) : Int) := by omega
            go_wp2_with fail
            go_quiet ((exact Calls.quiet_of_same (differs_calls _ up _)))
            go_wp2_with fail
            go_roundg (gk - 1)
            case measure => have := HJ.out; omega
            case rel => exact ⟨k1, k1 + 1, rfl, by go_num, by omega, by omega, by have := HJ.out; show gk - 1 + (k1 + 1) = 13; omega, by omega, by have := HNX.out; rw [if_pos hlt] at this; exact this.symm, Below.then HBW.out HBW.out.size (below_drewN _ _)⟩
          · have hlt' : ¬ (z1 : Int) + ((dfr k1 up : Nat) : Int) < (z2 : Int) + ((dfr p up : Nat) : Int) := by omega
            go_wp2_with fail
            go_quiet ((exact Calls.quiet_of_same (differs_calls _ up _)))
            go_wp2_with fail
            go_roundg (gk - 1)
            case measure => have := HJ.out; omega
            case rel => exact ⟨p, k1 + 1, rfl, by go_num, by omega, by omega, by have := HJ.out; show gk - 1 + (k1 + 1) = 13; omega, by omega, by have := HNX.out; rw [if_neg hlt] at this; exact this.symm, Below.then HBW.out HBW.out.size (below_drewN _ _)⟩
        · obtain rfl : k1 = 12 := by omega
          have HT1 := Lib.hid (HI2.out.setL (i := k - 1) (by omega) (p : Int))
          have HBW1 := Lib.hid (Below.then HB3.out HB3.out.size HT1.out.below)
          have hkx : k - 1 < bs.length := by have := HN.out; omega
          obtain ⟨ad, rfl, d0, d1, d2⟩ := (H.out.below HBW1.out).tree (k - 1) bs[k - 1] (by simp [hkx])
          generalize hx : bs[k - 1] = x at *
          have HXK : Hid (bs[k - 1]? = some x) := by show bs[k - 1]? = some x; rw [List.getElem?_eq_getElem hkx, hx]
          have HO := Lib.hid (HOK.out (k - 1) x HXK.out)
          have c0 := cell_below HT1.out.below (by omega) c0
          have r0 := HI2.out.lrow.cell (i := k - 1) (by omega)
          have r1 := HI2.out.lrow.frozen (k - 1)
          have HSTEP : Hid (rpass bs C (k - 1) (rstep bs C (k - 1) s) = rpass bs C n (rstart n)) := by
            have h1 := HP.out
            rw [show k = (k - 1) + 1 by omega] at h1
            exact h1
          have HPP : Hid (pickUp (rcost C (k - 1) (s.above.getD (k - 1) 0)) 11 = p) := by
            show pickUp (rcost C (k - 1) (s.above.getD (k - 1) 0)) 11 = p
            rw [HUP.out]
            have h1 : p = pickUp (fun q => row.getD q 0 + dfr q up) 11 := HPK.out
            rw [h1, ← HROW.out]
            rfl
          have HBD : Hid (bs.getD (k - 1) ⟨0, 0, 0⟩ = x) := by
            show bs.getD (k - 1) ⟨0, 0, 0⟩ = x
            rw [List.getD_eq_getElem?_getD, HXK.out]
            rfl
          clear hx
          go_wp2_with fail
          have q0 := new_cell (wr.setCell ⟨w3.heap.size, k - 1, none⟩ (.int .i64 (p : Int))) #[.int .i64 x.leaf, .int .i64 x.a, .int .i64 x.b] 50 0
          have q1 := new_cell (wr.setCell ⟨w3.heap.size, k - 1, none⟩ (.int .i64 (p : Int))) #[.int .i64 x.leaf, .int .i64 x.a, .int .i64 x.b] 50 1
          have q2 := new_cell (wr.setCell ⟨w3.heap.size, k - 1, none⟩ (.int .i64 (p : Int))) #[.int .i64 x.leaf, .int .i64 x.a, .int .i64 x.b] 50 2
          have hlt2 : wr.heap.size < ((wr.setCell ⟨w3.heap.size, k - 1, none⟩ (.int .i64 (p : Int))).alloc (.cells #[.int .i64 x.leaf, .int .i64 x.a, .int .i64 x.b] 50)).heap.size := by simp
          have HT2 := Lib.hid (HT1.out.next (below_alloc _ (.cells #[.int .i64 x.leaf, .int .i64 x.a, .int .i64 x.b] 50)))
          rw [set_size] at q0 q1 q2
          clear d0 d1 d2 r0 r1 c0
          generalize (wr.setCell ⟨w3.heap.size, k - 1, none⟩ (.int .i64 (p : Int))).alloc (.cells #[.int .i64 x.leaf, .int .i64 x.a, .int .i64 x.b] 50) = W2 at *
          refine (leaf_calls x W2).mono ?_
          rintro e w5 ⟨he, hb5⟩
          have q1 := cell_below hb5 hlt2 q1
          have q2 := cell_below hb5 hlt2 q2
          have HT5 := Lib.hid (HT2.out.next hb5)
          clear hb5 q0
          have hpi : -1 ≤ (p : Int) ∧ (p : Int) < 12 := by omega
          by_cases hleaf : x.a = 0 ∧ x.b = 0
          · have f1 : (x.a == 0 && x.b == 0) = true := by rw [hleaf.1, hleaf.2]; rfl
            rw [f1] at he
            subst he
            have HRS : Hid (rstep bs C (k - 1) s = ⟨s.l.set (k - 1) (p : Int), s.above⟩) := by
              show rstep bs C (k - 1) s = _
              unfold rstep
              rw [HBD.out, if_pos hleaf, HPP.out]
            clear hleaf f1
            go_wp2_with fail
            go_roundg (g1 - 1)
            case measure => have := HG.out; omega
            case rel => exact ⟨k - 1, _, by congr 1; omega, by omega, by have := HG.out; show g1 - 1 = k - 1; omega, HT5.out, by have := HSTEP.out; rw [HRS.out] at this; exact this⟩
          · have f1 : (x.a == 0 && x.b == 0) = false := by
              rw [Bool.and_eq_false_iff, beq_eq_false_iff_ne, beq_eq_false_iff_ne]
              omega
            rw [f1] at he
            subst he
            have HRS : Hid (rstep bs C (k - 1) s = ⟨s.l.set (k - 1) (p : Int), (s.above.set x.a.toNat (p : Int)).set x.b.toNat (p : Int)⟩) := by
              show rstep bs C (k - 1) s = _
              unfold rstep
              rw [HBD.out, if_neg hleaf, HPP.out]
            obtain ⟨p2, p3, p4, p5⟩ : 0 ≤ x.a ∧ x.a < ((k - 1 : Nat) : Int) ∧ 0 ≤ x.b ∧ x.b < ((k - 1 : Nat) : Int) := by
              rcases HO.out with h | h
              · exact absurd ⟨h.1, h.2.1⟩ hleaf
              · exact h.2.2
            have p6 : x.a < (n : Int) := by omega
            have p7 : x.b < (n : Int) := by omega
            have HT6 := Lib.hid (HT5.out.setA (i := x.a.toNat) (by omega) (p : Int) hpi)
            have HT7 := Lib.hid (HT6.out.setA (i := x.b.toNat) (by omega) (p : Int) hpi)
            have a0 := HT5.out.arow.cell (i := x.a.toNat) (by omega)
            have a1 := HT5.out.arow.frozen x.a.toNat
            have b0 := HT6.out.arow.cell (i := x.b.toNat) (by omega)
            have b1 := HT6.out.arow.frozen x.b.toNat
            have q2' : (w5.setCell ⟨w3.heap.size + 1, x.a.toNat, none⟩ (.int .i64 (p : Int))).cell? ⟨wr.heap.size, 2, none⟩ = some (.int .i64 x.b) := set_ne (.inl (by have := HI2.out.size; omega)) q2
            clear hleaf f1
            go_wp2_with fail
            go_roundg (g1 - 1)
            case measure => have := HG.out; omega
            case rel => exact ⟨k - 1, _, by congr 1; omega, by omega, by have := HG.out; show g1 - 1 = k - 1; omega, HT7.out, by have := HSTEP.out; rw [HRS.out] at this; exact this⟩
    · obtain rfl : k = 0 := by omega
      go_wp2_with fail
      go_ret2
      have hl : s.l = fl := by
        have h1 : s = rpass bs C n (rstart n) := HP.out
        rw [h1]
        exact HEQ.out
      refine ⟨w3.heap.size, rfl, ?_, HSL.out, Below.then HB3.out HB3.out.size HI.below⟩
      rw [← hl]
      exact HI.lrow
end Go.Proofs.YtbmlkomfelkckaaDoor
