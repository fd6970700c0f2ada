/- siglumref21.costs: for each branch and state what the part below it costs. -/
import Derived.Test.YtbmlkomfelkckaaBest
import Derived.Test.YtbmlkomfelkckaaFit2
import Derived.Test.YtbmlkomfelkckaaChk
import Derived.Test.YtbmlkomfelkckaaLeaf
import Derived.StillTailTactics
namespace Go.Proofs.Ytbmlkomfelkckaa
open Go Go.RowKit
set_option maxRecDepth 100000

theorem info_ints : (Try.prog.info? 43).map (fun i => (i.zero, i.size, i.bytes)) = some (some (.slice none 0 0), 1, 24) := by kernel_rfl

theorem info_int1 : (Try.prog.info? 3).map (fun i => (i.zero, i.size, i.bytes)) = some (some (.int .i64 0), 1, 8) := by kernel_rfl

theorem one_cell (v : Value) (h : v.oneCell' = true) : (#[v] : Array Value).size = 1 ∧ ∀ u ∈ (#[v] : Array Value).toList, u.oneCell' = true := by
  refine ⟨rfl, ?_⟩
  intro u hu
  simp at hu
  subst hu
  exact h

/-- Rows of costs, of which these values are the slices. -/
structure CRs (w : World) (C : List (List Nat)) (k : Nat) (ps : List Value) : Prop where
  len : ps.length = k
  each : ∀ i, i < k → ∃ g, ps[i]? = some (.slice (some ⟨g, 0, none⟩) 12 12) ∧ CostRow w g (C.getD i [])

theorem CRs.below {w w' : World} {C : List (List Nat)} {k : Nat} {ps : List Value} (h : CRs w C k ps) (hb : Below w.heap.size w w') : CRs w' C k ps :=
  ⟨h.len, fun i hi => by obtain ⟨g, hp, hr⟩ := h.each i hi; exact ⟨g, hp, hr.below hb⟩⟩

theorem CostRow.elem {w : World} {g : Nat} {row : List Nat} (h : CostRow w g row) : elemAt w g = some 3 := by
  obtain ⟨c, hb, _⟩ := h
  simp [elemAt, hb]

/-- One row more. -/
theorem CRs.push {w w' : World} {C : List (List Nat)} {k : Nat} {ps : List Value} {v v' : Value} {base g : Nat} (h : CRs w C k ps) (hr : CostRow w g (C.getD k [])) (hu : Upd w w' v v') (ho : w.ownsRow base 43 1 v k ps) :
    CRs w' C (k + 1) (ps ++ [.slice (some ⟨g, 0, none⟩) 12 12]) := by
  have keep : ∀ {g : Nat} {row : List Nat}, CostRow w g row → CostRow w' g row := fun {g row} hg =>
    World.rowIs.of_block hg (upd_keep hu ho g (World.rowIs.lt hg) (by rw [hg.elem]; decide))
  have hl := h.len
  refine ⟨by simp [hl], fun i hi => ?_⟩
  by_cases hik : i < k
  · obtain ⟨g', hp, hg⟩ := h.each i hik
    exact ⟨g', by rw [List.getElem?_append_left (by omega)]; exact hp, keep hg⟩
  · obtain rfl : i = k := by omega
    exact ⟨g, by rw [List.getElem?_append_right (by omega), hl]; simp, keep hr⟩

/-- The slice of a row that was laid. -/
theorem CRs.at {w : World} {C : List (List Nat)} {k base c : Nat} {A : Option Addr} {ps : List Value} (h : CRs w C k ps) (ho : w.ownsRow base 43 1 (.slice A k c) k ps) {i : Nat} (hi : i < k) :
    ∃ gv g, A = some ⟨gv, 0, none⟩ ∧ w.cell? ⟨gv, i, none⟩ = some (.slice (some ⟨g, 0, none⟩) 12 12) ∧ CostRow w g (C.getD i []) := by
  obtain ⟨g, hp, hr⟩ := h.each i hi
  obtain ⟨A', c', he, _, hc⟩ := cells_of_own ho
  obtain ⟨gv, hg, hcell⟩ := hc _ _ hp
  obtain ⟨rfl, _⟩ : A = A' ∧ c = c' := by simpa using he
  exact ⟨gv, g, hg, hcell, hr⟩

/-- What holds at the head of each round. -/
structure CostInv (w wr : World) (tv mv : Value) (C : List (List Nat)) (k : Nat) (v : Value) (ps : List Value) : Prop where
  below : Below w.heap.size w wr
  size : w.heap.size + 2 ≤ wr.heap.size
  box0 : wr.cell? ⟨w.heap.size, 0, none⟩ = some tv
  box1 : wr.cell? ⟨w.heap.size + 1, 0, none⟩ = some mv
  row : wr.ownsRow (w.heap.size + 2) 43 1 v k ps
  crs : CRs wr C k ps

theorem CostInv.next {w wr W : World} {tv mv : Value} {C : List (List Nat)} {k : Nat} {v : Value} {ps : List Value} (h : CostInv w wr tv mv C k v ps) (hb : Below wr.heap.size wr W) : CostInv w W tv mv C k v ps :=
  ⟨Below.then h.below h.below.size hb, Nat.le_trans h.size hb.size, cell_below hb (by have := h.size; omega) h.box0, cell_below hb (by have := h.size; omega) h.box1, own_below h.row hb, h.crs.below hb⟩

/-- A row as far as it is filled. -/
def rowUp (rows : List (List Int)) (site : Nat) (C : List (List Nat)) (b : Br) (s q : Nat) : Nat := if q < s then cellCost rows site C b q else 0

structure DInv (wr wq : World) (x : Br) (rows : List (List Int)) (site : Nat) (C : List (List Nat)) (s : Nat) : Prop where
  below : Below wr.heap.size wr wq
  size : wr.heap.size + 2 ≤ wq.heap.size
  b0 : wq.cell? ⟨wr.heap.size, 0, none⟩ = some (.int .i64 x.leaf)
  b1 : wq.cell? ⟨wr.heap.size, 1, none⟩ = some (.int .i64 x.a)
  b2 : wq.cell? ⟨wr.heap.size, 2, none⟩ = some (.int .i64 x.b)
  row : wq.rowIs (wr.heap.size + 1) 3 12 (fun q => .int .i64 ((rowUp rows site C x s q : Nat) : Int))

theorem DInv.next {wr wq W : World} {x : Br} {rows : List (List Int)} {site : Nat} {C : List (List Nat)} {s : Nat} (h : DInv wr wq x rows site C s) (hb : Below wq.heap.size wq W) : DInv wr W x rows site C s :=
  ⟨Below.then h.below h.below.size hb, Nat.le_trans h.size hb.size, cell_below hb (by have := h.size; omega) h.b0, cell_below hb (by have := h.size; omega) h.b1, cell_below hb (by have := h.size; omega) h.b2, h.row.of_block (hb.block _ h.row.lt)⟩

theorem DInv.skip {wr wq : World} {x : Br} {rows : List (List Int)} {site : Nat} {C : List (List Nat)} {s : Nat} (h : DInv wr wq x rows site C s) (hz : cellCost rows site C x s = 0) : DInv wr wq x rows site C (s + 1) :=
  ⟨h.below, h.size, h.b0, h.b1, h.b2, h.row.congr (fun q _ => by
    unfold rowUp
    by_cases h1 : q < s
    · rw [if_pos h1, if_pos (by omega)]
    · rw [if_neg h1]
      by_cases h2 : q < s + 1
      · obtain rfl : q = s := by omega
        rw [if_pos h2, hz]
      · rw [if_neg h2])⟩

theorem DInv.set {wr wq : World} {x : Br} {rows : List (List Int)} {site : Nat} {C : List (List Nat)} {s y : Nat} (h : DInv wr wq x rows site C s) (hs : s < 12) (hy : cellCost rows site C x s = y) :
    DInv wr (wq.setCell ⟨wr.heap.size + 1, s, none⟩ (.int .i64 ((y : Nat) : Int))) x rows site C (s + 1) := by
  have hsz := h.size
  refine ⟨below_set h.below (by omega) _ _, Nat.le_trans hsz (by simp [World.setCell]), set_ne (.inl (by omega)) h.b0, set_ne (.inl (by omega)) h.b1, set_ne (.inl (by omega)) h.b2, (h.row.set s _).congr (fun q _ => ?_)⟩
  unfold rowUp
  by_cases h1 : q = s
  · subst h1
    rw [if_pos rfl, if_pos (by omega), hy]
  · rw [if_neg h1]
    by_cases h2 : q < s
    · rw [if_pos h2, if_pos (by omega)]
    · rw [if_neg h2, if_neg (by omega)]

theorem rowUp_all (rows : List (List Int)) (site : Nat) (C : List (List Nat)) (b : Br) {q : Nat} (h : q < 12) : rowUp rows site C b 12 q = (crow rows site C b).getD q 0 := by
  rw [crow_at _ _ _ _ h]
  unfold rowUp
  rw [if_pos h]

/-- What costs leaves. -/
def RetCosts (w : World) (C : List (List Nat)) (n : Nat) (e : Ending) (w' : World) : Prop :=
  Below w.heap.size w w' ∧ ∃ A c ps, e = .returned (.slice A n c) ∧ w'.ownsRow w.heap.size 43 1 (.slice A n c) n ps ∧ CRs w' C n ps

theorem DInv.start (wr : World) (x : Br) (rows : List (List Int)) (site : Nat) (C : List (List Nat)) :
    DInv wr ((wr.alloc (.cells #[.int .i64 x.leaf, .int .i64 x.a, .int .i64 x.b] 64)).alloc (.cells (madeCells #[.int .i64 0] 12) 3)) x rows site C 0 := by
  have h1 := below_alloc (wr.alloc (.cells #[.int .i64 x.leaf, .int .i64 x.a, .int .i64 x.b] 64)) (.cells (madeCells #[.int .i64 0] 12) 3)
  have h2 := World.rowIs_made (wr.alloc (.cells #[.int .i64 x.leaf, .int .i64 x.a, .int .i64 x.b] 64)) (.int .i64 0) 12 3
  rw [World.size_alloc] at h2
  exact ⟨Below.then (below_alloc wr _) (by simp) h1, by simp, cell_below h1 (by simp) (new_cell wr _ _ 0), cell_below h1 (by simp) (new_cell wr _ _ 1), cell_below h1 (by simp) (new_cell wr _ _ 2), h2.congr (fun q _ => by unfold rowUp; rw [if_neg (by omega)]; rfl)⟩

set_option maxHeartbeats 4000000 in
theorem costs_calls (A : Option Addr) (n c : Nat) (bs : List Br) (A2 : Option Addr) (n2 c2 : Nat) (rows : List (List Int)) (site : Int) (w : World) (h : TM w A n bs A2 n2 rows) (he : siteErr bs rows site = 0) :
    Calls Try.prog 114 #[.agg #[.slice A n c], .agg #[.slice A2 n2 c2], .int .i64 site] w (RetCosts w (crows rows site.toNat bs) n) := by
  have H := Lib.hid h
  obtain ⟨hm, htr, hs0, hs1⟩ := siteErr_zero he
  have HSI : Hid (site.toNat < wid rows) := by show site.toNat < wid rows; omega
  have hsank := (sank_each hm HSI.out htr).1
  obtain ⟨hkid, _⟩ := tree_kids htr
  have hok := brOk_of htr
  have hat := fun (i : Nat) (b : Br) (hb : bs[i]? = some b) => crows_at (rows := rows) (site := site.toNat) hb (fun q => hkid i b hb (fun e => q ((brOk_leaf hok hb).1 e)))
  have hlen := h.len
  have hrl := h.rlen
  have hn23 : n ≤ 23 := by
    obtain ⟨l, hl'⟩ := Option.isSome_iff_exists.1 htr
    have h1 := (rdTree_some hl').2.2.1
    have := (matOk_few' hm).2.1
    omega
  have hn12 : n2 ≤ 12 := by
    have := (matOk_few' hm).2.1
    omega
  obtain ⟨C, hC⟩ : ∃ C, crows rows site.toNat bs = C := ⟨_, rfl⟩
  rw [hC] at hsank hat ⊢
  have HS : Hid (∀ i, i < n → ∀ q, q < 12 → (C.getD i []).getD q 0 ≤ 1000000000) := by
    intro i hi q hq
    obtain ⟨m, hr, hm⟩ := hsank i (by omega)
    have := hr.few q hq
    omega
  have HAT := Lib.hid hat
  have HOK := Lib.hid hok
  have HM := Lib.hid hm
  have HN := Lib.hid hlen
  have HN2 := Lib.hid hrl
  have hmk := run_make_row' (P := Try.prog) 43 3 (.int .i64 0) 8 Try.underlying43 info_int1 rfl .i64 .i64 12 (by omega) (by omega)
  rw [show ((12 : Nat) : Int) = 12 from rfl] at hmk
  have hcap := h.cap
  clear h he hm htr hsank hkid hok hat hC hlen hrl hs1
  go_enter Try.func114, Try.ntmps114
  go_wp2_with fail
  go_loopg [7, 8] n (fun gk v7 v8 wr => ∃ (k : Nat) (ps : List Value), v8 = .int .i64 k ∧ k ≤ n ∧ Hid (gk + k = n) ∧ CostInv w wr (.slice A n c) (.slice A2 n2 c2) C k v7 ps)
  case atStart =>
    have hb := two_below w (.slice A n c) (.slice A2 n2 c2) 26 36
    obtain ⟨HB, hz, c0, c1⟩ := two_boxes (Below.refl _ ((w.alloc (.cells #[.slice A n c] 26)).alloc (.cells #[.slice A2 n2 c2] 36)))
    exact ⟨0, [], rfl, Nat.zero_le _, rfl, hb, by simp, c0, c1, World.ownsRow_nil _ _ _ _, rfl, fun i hi => by omega⟩
  case round =>
    obtain ⟨k, ps, rfl, hk, HG, HI⟩ := hrel
    obtain ⟨AV, cv, rfl, hcv⟩ := own_slice HI.row
    have c0 := HI.box0
    have hsz := HI.size
    by_cases hkn : k < n
    · have hkx : k < bs.length := by have := HN.out; omega
      obtain ⟨ad, rfl, d0, d1, d2⟩ := (H.out.below HI.below).tree k bs[k] (by simp [hkx])
      generalize hx : bs[k] = x at *
      have HXK : Hid (bs[k]? = some x) := by show bs[k]? = some x; rw [List.getElem?_eq_getElem hkx, hx]
      have HO := Lib.hid (HOK.out k x HXK.out)
      have HROW := Lib.hid (HAT.out k x HXK.out)
      clear hx
      go_wp2_with fail
      have hst := DInv.start wr x rows site.toNat C
      generalize ((wr.alloc (.cells #[.int .i64 x.leaf, .int .i64 x.a, .int .i64 x.b] 64)).alloc (.cells (madeCells #[.int .i64 0] 12) 3)) = W1 at *
      obtain ⟨g1, rfl⟩ : ∃ g1 : Nat, g1 = gk := ⟨_, rfl⟩
      obtain ⟨wo, rfl⟩ : ∃ wo : World, wo = wr := ⟨_, rfl⟩
      clear d0 d1 d2 c0
      go_loopg [11] 12 (fun gk v11 wr => ∃ (s : Nat), v11 = .int .i64 s ∧ s ≤ 12 ∧ Hid (gk + s = 12) ∧ DInv wo wr x rows site.toNat C s)
      case atStart => exact ⟨0, rfl, Nat.zero_le _, rfl, hst⟩
      case round =>
        clear hst
        obtain ⟨s, rfl, hs, HJ, HD⟩ := hrel
        have e0 := HD.b0
        have e1 := HD.b1
        have e2 := HD.b2
        have hz := HD.size
        by_cases hs12 : s < 12
        · go_wp2_with fail
          refine (leaf_calls x wr).mono ?_
          rintro e w5 ⟨he, hb5⟩
          have HD5 := Lib.hid (HD.next hb5)
          clear e0 e1 e2 hb5 HD hz
          have e0 := HD5.out.b0
          have e1 := HD5.out.b1
          have e2 := HD5.out.b2
          have hz := HD5.out.size
          have HI5 := Lib.hid (HI.next HD5.out.below)
          have c1 := HI5.out.box1
          have r0 := HD5.out.row.cell (i := s) hs12
          have r1 := HD5.out.row.frozen s
          rw [show rowUp rows site.toNat C x s s = 0 by unfold rowUp; rw [if_neg (by omega)]] at r0
          by_cases hleaf : x.a = 0 ∧ x.b = 0
          · have f1 : (x.a == 0 && x.b == 0) = true := by rw [hleaf.1, hleaf.2]; rfl
            rw [f1] at he
            subst he
            obtain ⟨p0, p1⟩ : 0 ≤ x.leaf ∧ x.leaf < n2 := by
              have := HN2.out
              rcases HO.out with h | h
              · omega
              · exact absurd (hleaf.1.trans hleaf.2.symm) h.2.1
            obtain ⟨r, hrow, hst, hy0, hy1⟩ := matOk_at HM.out p0 (by rw [HN2.out]; exact p1) HSI.out
            obtain ⟨md, A', c', rfl, m0, m1, m2, m3⟩ := H.out.mat x.leaf.toNat r hrow
            obtain ⟨md', rfl, m4⟩ := m1 site.toNat _ hst
            have hrl : site < (r.length : Int) := by
              obtain ⟨hh, _⟩ := List.getElem?_eq_some_iff.1 hst
              omega
            have k3 := (HI5.out.below.cell (World.block_lt_of_cell? w _ m0)).trans m0
            have k4 := (HI5.out.below.cell (World.block_lt_of_cell? w _ m4)).trans m4
            have HC : Hid (cellCost rows site.toNat C x s = leafCost (stateAt rows site.toNat x.leaf) s) := by
              show cellCost rows site.toNat C x s = _
              unfold cellCost
              rw [if_pos hleaf]
            obtain ⟨y, hy⟩ : ∃ y, stateAt rows site.toNat x.leaf = y := ⟨_, rfl⟩
            rw [hy] at k4 hy0 hy1 HC
            clear hrow hst hy m0 m1 m2 m4 hleaf f1
            by_cases hy : 0 ≤ y ∧ y ≠ (s : Int)
            · have HC2 : Hid (cellCost rows site.toNat C x s = 1000) := by show cellCost rows site.toNat C x s = 1000; rw [HC.out]; unfold leafCost; rw [if_pos hy]
              have y0 := hy.1
              have y1 : (y != (s : Int)) = true := by rw [bne_iff_ne]; exact hy.2
              clear hy
              go_wp2_with fail
              go_roundg (gk - 1)
              case measure => have := HJ.out; omega
              case rel => exact ⟨s + 1, by go_num, by omega, by have := HJ.out; show gk - 1 + (s + 1) = 12; omega, HD5.out.set hs12 HC2.out⟩
            · have HC2 : Hid (cellCost rows site.toNat C x s = 0) := by show cellCost rows site.toNat C x s = 0; rw [HC.out]; unfold leafCost; rw [if_neg hy]
              by_cases y0 : 0 ≤ y
              · have y1 : (y != (s : Int)) = false := by rw [bne_eq_false_iff_eq]; omega
                clear hy
                go_wp2_with fail
                go_roundg (gk - 1)
                case measure => have := HJ.out; omega
                case rel => exact ⟨s + 1, by go_num, by omega, by have := HJ.out; show gk - 1 + (s + 1) = 12; omega, HD5.out.skip HC2.out⟩
              · clear hy
                go_wp2_with fail
                go_roundg (gk - 1)
                case measure => have := HJ.out; omega
                case rel => exact ⟨s + 1, by go_num, by omega, by have := HJ.out; show gk - 1 + (s + 1) = 12; omega, HD5.out.skip HC2.out⟩
          · have f1 : (x.a == 0 && x.b == 0) = false := by
              rw [Bool.and_eq_false_iff, beq_eq_false_iff_ne, beq_eq_false_iff_ne]
              omega
            rw [f1] at he
            subst he
            obtain ⟨p0, p1, p2, p3⟩ : 0 ≤ x.a ∧ x.a < k ∧ 0 ≤ x.b ∧ x.b < k := by
              rcases HO.out with h | h
              · exact absurd ⟨h.1, h.2.1⟩ hleaf
              · exact h.2.2
            have HC : Hid (cellCost rows site.toNat C x s = bstUp (C.getD x.a.toNat []) s 12 + bstUp (C.getD x.b.toNat []) s 12) := by
              show cellCost rows site.toNat C x s = _
              unfold cellCost
              rw [if_neg hleaf]
            obtain ⟨gv, ga, rfl, q0, HRA⟩ := HI5.out.crs.at HI5.out.row (i := x.a.toNat) (by omega)
            obtain ⟨gv', gb, he1, q1, HRB⟩ := HI5.out.crs.at HI5.out.row (i := x.b.toNat) (by omega)
            obtain rfl : gv = gv' := by simpa using he1
            have HFA := Lib.hid (HS.out x.a.toNat (by omega))
            have HFB := Lib.hid (HS.out x.b.toNat (by omega))
            have va := Nat.le_trans (bstUp_self (C.getD x.a.toNat []) s 12) (HFA.out s hs12)
            have vb := Nat.le_trans (bstUp_self (C.getD x.b.toNat []) s 12) (HFB.out s hs12)
            have HBA := Lib.hid (best_calls ga (C.getD x.a.toNat []) s w5.drew hs12 HRA HFA.out)
            have HBB := Lib.hid (best_calls gb (C.getD x.b.toNat []) s w5.drew hs12 HRB HFB.out)
            obtain ⟨ba, hba⟩ : ∃ ba, bstUp (C.getD x.a.toNat []) s 12 = ba := ⟨_, rfl⟩
            obtain ⟨bb, hbb⟩ : ∃ bb, bstUp (C.getD x.b.toNat []) s 12 = bb := ⟨_, rfl⟩
            rw [hba] at va HC HBA
            rw [hbb] at vb HC HBB
            clear he1 hba hbb hleaf f1 HRA HRB
            go_wp2_with fail
            refine wp_region_still_tail 18 (by kernel_rfl) (by kernel_rfl) ?_
            simp only [List.take_succ_cons, List.take_zero, List.drop_succ_cons, List.drop_zero]
            repeat still_step
            still_call HBA.out
            repeat still_step
            still_call HBB.out
            repeat still_step
            refine wpStill_nil ?_
            change wpList _ _ _ _ _ w5.drew
            have HDD := Lib.hid (HD5.out.next (W := w5.drew) (below_drewN w5 1))
            go_wp2_with fail
            go_roundg (gk - 1)
            case measure => have := HJ.out; omega
            case rel => exact ⟨s + 1, by go_num, by omega, by have := HJ.out; show gk - 1 + (s + 1) = 12; omega, by
              have hh := HDD.out.set hs12 HC.out
              rw [show ((ba + bb : Nat) : Int) = (ba : Int) + (bb : Int) by omega] at hh
              exact hh⟩
        · obtain rfl : s = 12 := by omega
          have HBD := Lib.hid HD.below
          have hrow : CostRow wr (wo.heap.size + 1) (C.getD k []) := HD.row.congr (fun q hq => by rw [rowUp_all _ _ _ _ hq, HROW.out])
          have HI6 := Lib.hid (HI.next HD.below)
          have hb6 : w.heap.size + 2 ≤ wr.heap.size := HI6.out.size
          go_wp2_with (at_builtin; refine walk_append1 HI6.out.row hb6 (by omega) 34 Try.underlying34 info_ints ⟨rfl, by decide, by decide⟩ _ (one_cell _ rfl) (by exact ⟨rfl, rfl, rfl, rfl, rfl⟩) ?_; intro v1 w1 ho1 hu1)
          go_roundg (g1 - 1)
          case measure => have := HG.out; omega
          case rel =>
            have hsz6 := HI6.out.row.lt
            refine ⟨k + 1, ps ++ [.slice (some ⟨wo.heap.size + 1, 0, none⟩) 12 12], by go_num, by omega, by have := HG.out; show g1 - 1 + (k + 1) = n; omega, ?_⟩
            have hlow : Below (w.heap.size + 2) wr w1 := hu1.below hb6 (fun q hq => (hsz6 q hq).1)
            exact ⟨Below.trans HI6.out.below (hlow.mono (by omega)), Nat.le_trans hb6 hlow.size, cell_below hlow (by omega) HI6.out.box0, cell_below hlow (by omega) HI6.out.box1, ho1, HI6.out.crs.push hrow hu1 HI6.out.row⟩
    · go_wp2_with fail
      go_ret
      obtain rfl : k = n := by omega
      exact ⟨HI.below, AV, cv, ps, rfl, own_mono HI.row (by omega), HI.crs⟩
end Go.Proofs.Ytbmlkomfelkckaa
