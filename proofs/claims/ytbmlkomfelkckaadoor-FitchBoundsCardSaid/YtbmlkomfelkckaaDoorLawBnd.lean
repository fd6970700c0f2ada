/- The law FitchBounds answers true. -/
import Derived.Test.YtbmlkomfelkckaaDoorBnd
import Derived.Test.YtbmlkomfelkckaaDoorAwk21
namespace Go.Proofs.YtbmlkomfelkckaaDoor
open Go Go.RowKit
set_option maxRecDepth 100000

/-- What holds at the head of each round. -/
structure BInv (w wr : World) (mv : Value) (g : Nat) (s : BS) : Prop where
  box1 : wr.cell? ⟨w.heap.size + 1, 0, none⟩ = some mv
  below : Below w.heap.size w wr
  low : w.heap.size + 2 ≤ g
  row : wr.rowIs g 3 12 (fun q => .int .i64 (s.cnt.getD q 0 : Nat))

theorem BInv.next {w wr : World} {mv : Value} {g : Nat} {s s' : BS} (h : BInv w wr mv g s) (hl : s.cnt.length = 12) {x n : Nat} (hx : x < 12) (hs : s'.cnt = s.cnt.set x n) : BInv w (wr.setCell ⟨g, x, none⟩ (.int .i64 (n : Int))) mv g s' := by
  have hlow := h.low
  refine ⟨?_, below_set h.below (by omega) _ _, hlow, (h.row.set x _).congr (fun q hq => ?_)⟩
  · exact (World.cell?_of_block (a := ⟨w.heap.size + 1, 0, none⟩) (Below.heap_setCell _ _ _ _ (by show w.heap.size + 1 ≠ g; omega))).trans h.box1
  · rw [hs, getD_set_nat _ _ _ (by omega)]
    split <;> rfl

theorem BInv.drew {w wr : World} {mv : Value} {g : Nat} {s : BS} (h : BInv w wr mv g s) (k : Nat) : BInv w (wr.drewN k) mv g s := by
  have hlow := h.low
  have hlt := h.row.lt
  exact ⟨h.box1, Below.then h.below h.below.size (below_drewN _ _), hlow, h.row.of_block rfl⟩

set_option maxHeartbeats 2000000 in
theorem bounds_calls (A : Option Addr) (n c : Nat) (bs : List Br) (A2 : Option Addr) (n2 c2 : Nat) (rows : List (List Int)) (site : Int) (w : World) (h : TM w A n bs A2 n2 rows) (ht : Tz w) :
    Calls Tryd.prog 4 #[.agg #[.slice A n c], .agg #[.slice A2 n2 c2], .int .i64 site] w fun e w' => e = .returned (.bool true) ∧ Below w.heap.size w w' := by
  have H := Lib.hid h
  have HT := Lib.hid ht
  have HA := Lib.hid (fun (W : World) (hb : Below w.heap.size w W) => awake21 W (ht.below hb))
  have HS := Lib.hid (fun (W : World) (hb : Below w.heap.size w W) => site_calls A n c bs A2 n2 c2 rows site W (h.below hb))
  clear h ht
  by_cases he : siteErr bs rows site = 0
  · obtain ⟨hm, htr, hs0, hs1⟩ := siteErr_zero he
    have hn : siteNum bs rows site = (fall rows site.toNat bs).n := by unfold siteNum; rw [if_pos he]
    have hf := matOk_few' hm
    have hl := H.out.rlen
    have HSI : Hid (site.toNat < wid rows) := by show site.toNat < wid rows; omega
    obtain ⟨T, hT⟩ : ∃ T, rdRoot (rows.length : Int) bs = some T := by
      obtain ⟨l, hl'⟩ := Option.isSome_iff_exists.1 htr
      exact ⟨_, by unfold rdRoot; rw [hl']; rfl⟩
    have hbh := bounds_hold hm HSI.out hT
    obtain ⟨fn, hfn⟩ : ∃ fn, (fall rows site.toNat bs).n = fn := ⟨_, rfl⟩
    rw [hfn] at hn hbh
    rw [he, hn] at HS
    have HB0 := Lib.hid hbh
    have HM := Lib.hid hm
    have HN2 := Lib.hid hl
    have hf12 : n2 ≤ 12 := by omega
    clear he hm htr hn hf hl hT hbh hfn hs1
    have hmk := run_make_row' (P := Tryd.prog) 32 3 (.int .i64 0) 8 Tryd.underlying32 info_int rfl .i64 .i64 12 (by omega) (by omega)
    rw [show ((12 : Nat) : Int) = 12 from rfl] at hmk
    go_enter Tryd.func4, Tryd.ntmps4
    go_wp2_with fail
    refine (HA.out _ (two_below _ _ _ _ _)).mono ?_
    rintro e w1 ⟨rfl, hb1⟩
    obtain ⟨HB, hz, c0, c1⟩ := two_boxes hb1
    clear hb1
    go_wp2_with fail
    refine (HS.out _ HB.out).mono ?_
    rintro e w2 ⟨rfl, hb2⟩
    have c1 := cell_below hb2 hz c1
    have hz2 := Nat.lt_of_lt_of_le hz hb2.size
    have HB2 := Lib.hid (Below.then HB.out HB.out.size hb2)
    clear hb2 c0
    have HI0 : Hid (BInv w (w2.alloc (.cells (madeCells #[.int .i64 0] 12) 3)) (.slice A2 n2 c2) w2.heap.size BS.start) := by
      refine ⟨cell_below (below_alloc _ _) hz2 c1, Below.then HB2.out HB2.out.size (below_alloc _ _), by omega, (World.rowIs_made w2 (.int .i64 0) 12 3).congr (fun q hq => ?_)⟩
      rw [BS.Ok.start.cnt q hq]
      rfl
    have hz3 : w.heap.size + 1 < (w2.alloc (.cells (madeCells #[.int .i64 0] 12) 3)).heap.size := by simp; omega
    go_wp2_with fail
    generalize hg : w2.heap.size = g at *
    clear hmk
    generalize w2.alloc (.cells (madeCells #[.int .i64 0] 12) 3) = w3 at *
    go_loopg [10, 11, 12, 32] n2 (fun gk v10 v11 v12 v32 wr => ∃ (k : Nat), v10 = .int .i64 ((ball rows site.toNat k).known : Nat) ∧ v11 = .int .i64 ((ball rows site.toNat k).states : Nat) ∧ v12 = .int .i64 ((ball rows site.toNat k).most : Nat) ∧ v32 = .int .i64 k ∧ k ≤ n2 ∧ Hid (gk + k = n2) ∧ BInv w wr (.slice A2 n2 c2) g (ball rows site.toNat k))
    case atStart => exact ⟨0, rfl, rfl, rfl, rfl, Nat.zero_le _, rfl, HI0.out⟩
    case round =>
      obtain ⟨k, rfl, rfl, rfl, rfl, hk, HG, HI⟩ := hrel
      by_cases hkn : k < n2
      · have hl := HN2.out
        obtain ⟨r, hrow, hst, hx0, hx1⟩ := matOk_at HM.out (leaf := (k : Int)) (by omega) (by omega) HSI.out
        rw [Int.toNat_natCast] at hrow
        obtain ⟨ad, A', c', rfl, d0, d1, d2, d3⟩ := H.out.mat k r hrow
        obtain ⟨ad', rfl, d4⟩ := d1 site.toNat _ hst
        have HX := Lib.hid (fun (W : World) (hb : Below w.heap.size w W) => (hb.cell (World.block_lt_of_cell? w _ d4)).trans d4)
        have d0 := (HI.below.cell (World.block_lt_of_cell? w _ d0)).trans d0
        have d4 := HX.out _ HI.below
        have hrl : site < (r.length : Int) := by
          obtain ⟨hh, _⟩ := List.getElem?_eq_some_iff.1 hst
          omega
        have ok := ball_ok HM.out HSI.out k (by omega)
        have HNX : Hid (ball rows site.toNat (k + 1) = bstep (ball rows site.toNat k) (stateAt rows site.toNat k)) := ball_succ _ _ _
        obtain ⟨x, hx⟩ : ∃ x, stateAt rows site.toNat k = x := ⟨_, rfl⟩
        rw [hx] at HNX hx0 hx1 d4 HX
        obtain ⟨s, hs⟩ : ∃ s, ball rows site.toNat k = s := ⟨_, rfl⟩
        rw [hs] at HNX HI ok ⊢
        have b1 := HI.box1
        have hlow := HI.low
        have hglt := HI.row.lt
        have hq : w.heap.size + 1 < wr.heap.size := by omega
        clear hrow hst hx hs hl HI0 HB HB2 hz2 hz3
        by_cases hneg : x < 0
        · have f0 : decide (x < 0) = true := decide_eq_true hneg
          go_wp2_with fail
          go_roundg (gk - 1)
          case measure => have := HG.out; omega
          case rel =>
            have hnx := HNX.out
            unfold bstep at hnx
            rw [if_pos hneg] at hnx
            exact ⟨k + 1, by rw [hnx], by rw [hnx], by rw [hnx], by go_num, by omega, by have := HG.out; show gk - 1 + (k + 1) = n2; omega, by rw [hnx]; exact HI⟩
        · have f0 : decide (x < 0) = false := decide_eq_false hneg
          have h0 : 0 ≤ x := by omega
          obtain ⟨cn, hcn⟩ : ∃ cn, s.cnt.getD x.toNat 0 = cn := ⟨_, rfl⟩
          have r0 := HI.row.cell (i := x.toNat) (by omega)
          rw [hcn] at r0
          have r1 := HI.row.frozen x.toNat
          have hcl : cn ≤ k := by
            rw [← hcn, ok.cnt _ (by omega)]
            refine Nat.le_trans List.countP_le_length ?_
            simp [column]
          have hkw : s.known ≤ k := by
            rw [ok.known]
            refine Nat.le_trans List.countP_le_length ?_
            simp [column]
          have hst : s.states ≤ 12 := by
            rw [ok.states]
            refine Nat.le_trans List.countP_le_length ?_
            simp
          have HL := Lib.hid ok.len
          have HE : Hid (bstep s x = ⟨s.cnt.set x.toNat (cn + 1), s.known + 1, if cn = 0 then s.states + 1 else s.states, max s.most (cn + 1)⟩) := by
            show bstep s x = _
            unfold bstep
            rw [if_neg hneg, hcn]
          clear hcn ok hneg
          have hnext := HI.next (s' := bstep s x) HL.out (x := x.toNat) (n := cn + 1) (by omega) (by rw [HE.out])
          rw [← HNX.out, show ((cn + 1 : Nat) : Int) = (cn : Int) + 1 by omega] at hnext
          have HNEXT := Lib.hid hnext
          have z0 : (wr.setCell ⟨g, x.toNat, none⟩ (.int .i64 ((cn : Int) + 1))).cell? ⟨g, x.toNat, none⟩ = _ := set_cell_eq r0 _
          have z4 := HX.out (wr.setCell ⟨g, x.toNat, none⟩ (.int .i64 ((cn : Int) + 1))) (below_set HI.below (by omega) _ _)
          clear hnext
          by_cases hc0 : cn = 0
          · have f1 : ((cn : Int) == 0) = true := by rw [beq_iff_eq]; omega
            have HC0 := Lib.hid hc0
            clear hc0
            go_wp2_with fail
            all_goals
              go_roundg (gk - 1)
              case measure => have := HG.out; omega
              case rel =>
                have hnx := HNX.out.trans HE.out
                rw [if_pos HC0.out] at hnx
                exact ⟨k + 1, by rw [hnx]; go_num, by rw [hnx]; go_num, by rw [hnx]; go_num, by go_num, by omega, by have := HG.out; show gk - 1 + (k + 1) = n2; omega, HNEXT.out⟩
          · have f1 : ((cn : Int) == 0) = false := by rw [beq_eq_false_iff_ne]; omega
            have HC0 := Lib.hid hc0
            clear hc0
            go_wp2_with fail
            all_goals
              go_roundg (gk - 1)
              case measure => have := HG.out; omega
              case rel =>
                have hnx := HNX.out.trans HE.out
                rw [if_neg HC0.out] at hnx
                exact ⟨k + 1, by rw [hnx]; go_num, by rw [hnx], by rw [hnx]; go_num, by go_num, by omega, by have := HG.out; show gk - 1 + (k + 1) = n2; omega, HNEXT.out⟩
      · obtain rfl : k = n2 := by omega
        have hb0 := HB0.out
        rw [HN2.out] at hb0
        obtain ⟨i1, i2, i3, i4⟩ := hb0
        obtain ⟨kn, hkn'⟩ : ∃ kn, (ball rows site.toNat k).known = kn := ⟨_, rfl⟩
        obtain ⟨st, hst⟩ : ∃ st, (ball rows site.toNat k).states = st := ⟨_, rfl⟩
        obtain ⟨mo, hmo⟩ : ∃ mo, (ball rows site.toNat k).most = mo := ⟨_, rfl⟩
        rw [hkn'] at i1 i4 ⊢
        rw [hst] at i2 i3 ⊢
        rw [hmo] at i1 ⊢
        have hbw := HI.below
        clear HI0 HI hkn' hst hmo HG HB HB2
        have j1 : (fn : Int) ≤ (kn : Int) - (mo : Int) := by omega
        by_cases hz0 : st = 0
        · have f0 : ((st : Int) == 0) = true := by rw [beq_iff_eq]; omega
          have f1 : ((fn : Int) == 0) = true := by rw [beq_iff_eq]; have := i3 hz0; omega
          go_wp2_with fail
          go_ret
          exact ⟨rfl, hbw⟩
        · have f0 : ((st : Int) == 0) = false := by rw [beq_eq_false_iff_ne]; omega
          have j2 : (st : Int) - 1 ≤ fn := by omega
          have j3 : (0 : Int) < st := by omega
          go_wp2_with fail
          go_ret
          refine ⟨?_, hbw⟩
          show Ending.returned (.bool (decide (0 < st))) = _
          rw [decide_eq_true (by omega)]
  · have hn : siteNum bs rows site = 0 := by unfold siteNum; rw [if_neg he]
    obtain ⟨er, her⟩ : ∃ er, siteErr bs rows site = er := ⟨_, rfl⟩
    rw [hn, her] at HS
    rw [her] at he
    have b1 : (er != 0) = true := by rw [bne_iff_ne]; exact he
    clear he her hn
    go_enter Tryd.func4, Tryd.ntmps4
    go_wp2_with fail
    refine (HA.out _ (two_below _ _ _ _ _)).mono ?_
    rintro e w1 ⟨rfl, hb1⟩
    obtain ⟨HB, hz, c0, c1⟩ := two_boxes hb1
    clear hb1
    go_wp2_with fail
    refine (HS.out _ HB.out).mono ?_
    rintro e w2 ⟨rfl, hb2⟩
    have HB2 := Lib.hid (Below.then HB.out HB.out.size hb2)
    clear hb2 c0 c1
    go_wp2_with fail
    go_ret
    exact ⟨rfl, HB2.out⟩
end Go.Proofs.YtbmlkomfelkckaaDoor
