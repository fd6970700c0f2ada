/- fitch.Count: how many changes states make. -/
import Derived.Test.YtbmlkomfelkckaaDoorFit2
import Derived.Test.YtbmlkomfelkckaaDoorPick
namespace Go.Proofs.YtbmlkomfelkckaaDoor
open Go Go.RowKit
set_option maxRecDepth 100000

def countErr (bs : List Br) (l : List Int) : Int := if okTree (((bs.length + 1) / 2 : Nat) : Int) bs ≠ 0 then 200 else if l.length ≠ bs.length then 2 else 0
def countNum (bs : List Br) (l : List Int) : Nat := if countErr bs l = 0 then costUp l bs bs.length else 0

theorem okTree_two (leaves : Int) (bs : List Br) : okTree leaves bs = 0 ∨ okTree leaves bs = 200 := by
  unfold okTree
  split
  · exact .inl rfl
  · exact .inr rfl

theorem okTree_many {leaves : Int} {bs : List Br} (h : 23 < bs.length) : okTree leaves bs = 200 := by
  have e : rdTree leaves bs = none := by
    unfold rdTree
    rw [if_pos (by omega)]
  unfold okTree
  rw [e]
  rfl

/-- The changes at a fork, as far as they are counted. -/
def kidCost (l : List Int) (i : Nat) (b : Br) (j : Nat) : Nat := (if 0 < j then dif l i b.a.toNat else 0) + (if 1 < j then dif l i b.b.toNat else 0)

theorem kidCost_two (l : List Int) (i : Nat) (b : Br) (h : ¬ (b.a = 0 ∧ b.b = 0)) : kidCost l i b 2 = ownCost l i b := by
  unfold kidCost ownCost
  rw [if_neg h]
  rfl

theorem costUp_succ {l : List Int} {bs : List Br} {i : Nat} {b : Br} (hb : bs[i]? = some b) : costUp l bs (i + 1) = costUp l bs i + ownCost l i b := by
  rw [costUp, hb]

theorem dif_le (l : List Int) (i j : Nat) : dif l i j ≤ 1 := by
  unfold dif
  split <;> omega

theorem costUp_le (l : List Int) (bs : List Br) : ∀ k, costUp l bs k ≤ 2 * k
  | 0 => Nat.le_refl _
  | k + 1 => by
    have ih := costUp_le l bs k
    rw [costUp]
    split
    · rename_i b _
      have h3 : ownCost l k b ≤ 2 := by
        have h1 := dif_le l k b.a.toNat
        have h2 := dif_le l k b.b.toNat
        unfold ownCost
        split
        · exact Nat.zero_le _
        · exact Nat.add_le_add h1 h2
      omega
    · omega

theorem rdInt_at {w : World} {A : Option Addr} {l : List Int} (h : RdInt w A l) {i : Nat} (hi : i < l.length) : ∃ ad, A = some ad ∧ w.cell? (ad.add i) = some (.int .i64 (at0 l i)) := by
  have e : l[i]? = some (at0 l i) := by
    unfold at0
    rw [List.getD_eq_getElem?_getD, List.getElem?_eq_getElem hi]
    rfl
  exact h i _ e

theorem run_pair0 (a b : Int) (w : World) : (Instr.index 69 (.agg #[.int .i64 a, .int .i64 b]) (.int .i64 0)).run Tryd.prog w = .ok (.int .i64 a) w := by
  have hc : Tryd.prog.cellsOf 3 = 1 := by kernel_rfl
  simp [Instr.index, asIntOf, run_underlying Tryd.underlying69, go_sem]

theorem run_pair1 (a b : Int) (w : World) : (Instr.index 69 (.agg #[.int .i64 a, .int .i64 b]) (.int .i64 1)).run Tryd.prog w = .ok (.int .i64 b) w := by
  have hc : Tryd.prog.cellsOf 3 = 1 := by kernel_rfl
  simp [Instr.index, asIntOf, run_underlying Tryd.underlying69, go_sem]

set_option maxHeartbeats 2000000 in
theorem count_calls (A : Option Addr) (n c : Nat) (bs : List Br) (AS : Option Addr) (m cS : Nat) (l : List Int) (w : World) (hr : RdBr w A bs) (hn : bs.length = n) (hcap : n ≤ 9223372036854775807) (hl : RdInt w AS l) (hm : l.length = m) :
    Calls Tryd.prog 17 #[.agg #[.slice A n c], .slice AS m cS] w fun e w' => e = .returned (.tuple #[.int .i64 (countNum bs l : Int), .int .i64 (countErr bs l)]) ∧ Below w.heap.size w w' := by
  have HR := Lib.hid (fun (W : World) (h : Below w.heap.size w W) => hr.below h)
  have HL := Lib.hid (fun (W : World) (h : Below w.heap.size w W) => hl.below h)
  by_cases hbig : 23 < n
  · have HC := Lib.hid (fun (W : World) (h : Below w.heap.size w W) (x : Int) (h1 : -9223372036854775808 ≤ x) (h2 : x ≤ 9223372036854775807) => check_calls A n c bs x W (HR.out W h) hn hcap h1 h2)
    have e2 : countErr bs l = 200 := by unfold countErr; rw [if_pos (by rw [okTree_many (by omega)]; decide)]
    have e3 : countNum bs l = 0 := by unfold countNum; rw [e2]; rfl
    have HM : Hid (23 < bs.length) := by show 23 < bs.length; omega
    rw [e2, e3]
    clear hr hl e2 e3 hn
    by_cases hmax : n = 9223372036854775807
    · subst hmax
      clear hcap hbig
      go_enter Tryd.func17, Tryd.ntmps17
      go_wp2_with fail
      refine (HC.out _ (below_alloc _ _) _ (of_decide_eq_true (by kernel_rfl)) (of_decide_eq_true (by kernel_rfl))).mono ?_
      rintro e w1 ⟨he, hb1⟩
      rw [okTree_many HM.out] at he
      subst he
      have HB := Lib.hid (Below.trans (below_alloc _ _) (hb1.mono (by simp)))
      clear hb1
      go_wp2_with fail
      go_ret2
      exact ⟨rfl, HB.out⟩
    · have e1 : (n : Int) + 1 ≤ 9223372036854775807 := by omega
      go_enter Tryd.func17, Tryd.ntmps17
      go_wp2_with fail
      refine (HC.out _ (below_alloc _ _) _ (by omega) (by omega)).mono ?_
      rintro e w1 ⟨he, hb1⟩
      rw [okTree_many HM.out] at he
      subst he
      have HB := Lib.hid (Below.trans (below_alloc _ _) (hb1.mono (by simp)))
      clear hb1
      go_wp2_with fail
      go_ret2
      exact ⟨rfl, HB.out⟩
  · have HC := Lib.hid (fun (W : World) (h : Below w.heap.size w W) => check_calls A n c bs (((n + 1) / 2 : Nat) : Int) W (HR.out W h) hn hcap (by omega) (by omega))
    have HE1 : Hid (((n : Int) + 1) / 2 = (((n + 1) / 2 : Nat) : Int)) := by show ((n : Int) + 1) / 2 = (((n + 1) / 2 : Nat) : Int); omega
    clear hr hl hcap
    rcases okTree_two (((bs.length + 1) / 2 : Nat) : Int) bs with hok | hok
    · by_cases hlen : m = n
      · subst hlen
        have e2 : countErr bs l = 0 := by unfold countErr; rw [if_neg (by rw [hok]; decide), if_neg (by omega)]
        have e3 : countNum bs l = costUp l bs bs.length := by unfold countNum; rw [if_pos e2]
        rw [e2, e3]
        have hok' := hok
        rw [hn] at hok'
        rw [hok'] at HC
        have HOK := Lib.hid (brOk_of (leaves := (((bs.length + 1) / 2 : Nat) : Int)) (bs := bs) (by
          unfold okTree at hok
          by_cases q : (rdTree (((bs.length + 1) / 2 : Nat) : Int) bs).isSome = true
          · exact q
          · rw [if_neg q] at hok
            cases hok))
        have HN := Lib.hid hn
        have HM := Lib.hid hm
        clear e2 e3 hok hok' hn hm
        go_enter Tryd.func17, Tryd.ntmps17
        go_wp2_with fail
        rw [HE1.out]
        refine (HC.out _ (below_alloc _ _)).mono ?_
        rintro e w1 ⟨rfl, hb1⟩
        have c0 := cell_below hb1 (by simp) (new_cell w #[.slice A m c] 24 0)
        have HB := Lib.hid (Below.trans (below_alloc _ _) (hb1.mono (by simp)))
        clear hb1
        go_wp2_with fail
        have hp0 := run_pair0
        have hp1 := run_pair1
        go_loopg [7, 31] m (fun gk v7 v31 wr => ∃ (k : Nat), v7 = .int .i64 (costUp l bs k : Nat) ∧ v31 = .int .i64 k ∧ k ≤ m ∧ Hid (gk + k = m) ∧ Below w.heap.size w wr)
        case atStart => exact ⟨0, rfl, rfl, Nat.zero_le _, rfl, HB.out⟩
        case round =>
          obtain ⟨k, rfl, rfl, hk, HG, HI⟩ := hrel
          clear HB c0
          by_cases hkn : k < m
          · have hkx : k < bs.length := by have := HN.out; omega
            obtain ⟨ad, rfl, d0, d1, d2⟩ := HR.out _ HI k bs[k] (by simp [hkx])
            generalize hx : bs[k] = x at *
            have HXK : Hid (bs[k]? = some x) := by show bs[k]? = some x; rw [List.getElem?_eq_getElem hkx, hx]
            have HO := Lib.hid (HOK.out k x HXK.out)
            have hcu := costUp_le l bs k
            clear hx
            by_cases hab : x.a = x.b
            · have f0 : (x.a == x.b) = true := by simpa using hab
              have HF : Hid (costUp l bs (k + 1) = costUp l bs k) := by
                show costUp l bs (k + 1) = costUp l bs k
                rw [costUp_succ HXK.out]
                unfold ownCost
                rw [if_pos ((brOk_leaf HOK.out HXK.out).1 hab)]
                rfl
              have HB1 := Lib.hid (Below.then HI HI.size (below_alloc wr (.cells #[.int .i64 x.leaf, .int .i64 x.a, .int .i64 x.b] 50)))
              clear hab
              go_wp2_with fail
              go_roundg (gk - 1)
              case measure => have := HG.out; omega
              case rel => exact ⟨k + 1, by rw [HF.out], by go_num, by omega, by have := HG.out; show gk - 1 + (k + 1) = m; omega, HB1.out⟩
            · have f0 : (x.a == x.b) = false := by simpa using hab
              have HF : Hid (costUp l bs (k + 1) = costUp l bs k + kidCost l k x 2) := by
                show costUp l bs (k + 1) = costUp l bs k + kidCost l k x 2
                rw [costUp_succ HXK.out, kidCost_two]
                exact fun e => hab (e.1.trans e.2.symm)
              obtain ⟨p0, p1, p2, p3⟩ : 0 ≤ x.a ∧ x.a < k ∧ 0 ≤ x.b ∧ x.b < k := by
                rcases HO.out with h | h
                · exact absurd (h.1.trans h.2.1.symm) hab
                · exact h.2.2
              have HB1 := Lib.hid (Below.then HI HI.size (below_alloc wr (.cells #[.int .i64 x.leaf, .int .i64 x.a, .int .i64 x.b] 50)))
              obtain ⟨g1, rfl⟩ : ∃ g1 : Nat, g1 = gk := ⟨_, rfl⟩
              obtain ⟨wo, rfl⟩ : ∃ wo : World, wo = wr := ⟨_, rfl⟩
              clear hab HI
              go_wp2_with fail
              go_loopg [7, 46] 2 (fun gk v7 v46 wr => ∃ j : Nat, v7 = .int .i64 ((costUp l bs k + kidCost l k x j : Nat) : Int) ∧ v46 = .int .i64 j ∧ j ≤ 2 ∧ Hid (gk + j = 2) ∧ Below w.heap.size w wr)
              case atStart => exact ⟨0, by simp [kidCost], rfl, by omega, rfl, HB1.out⟩
              case round =>
                obtain ⟨j, rfl, rfl, hj, HJ, HI⟩ := hrel
                clear HB1 d0 d1 d2
                have hlm := HM.out
                obtain ⟨sd, rfl, r2⟩ := rdInt_at (HL.out _ HI) (i := k) (by omega)
                obtain ⟨sd', he1, r0⟩ := rdInt_at (HL.out _ HI) (i := x.a.toNat) (by omega)
                obtain rfl := Option.some.inj he1
                obtain ⟨sd', he2, r1⟩ := rdInt_at (HL.out _ HI) (i := x.b.toNat) (by omega)
                obtain rfl := Option.some.inj he2
                have p4 : x.a < (m : Int) := by omega
                have p5 : x.b < (m : Int) := by omega
                have p6 : (k : Int) < (m : Int) := by omega
                clear he1 he2 hlm
                have hd0 := dif_le l k x.a.toNat
                have hd1 := dif_le l k x.b.toNat
                by_cases hj2 : j < 2
                · have hj01 : j = 0 ∨ j = 1 := by omega
                  rcases hj01 with rfl | rfl
                  · have HK : Hid (kidCost l k x 1 = dif l k x.a.toNat) := by show kidCost l k x 1 = _; simp [kidCost]
                    have hK0 : kidCost l k x 0 = 0 := rfl
                    rw [hK0]
                    clear hK0
                    by_cases he : at0 l x.a.toNat = at0 l k
                    · have f1 : (at0 l x.a.toNat != at0 l k) = false := by rw [bne_eq_false_iff_eq]; exact he
                      have HD : Hid (dif l k x.a.toNat = 0) := by show dif l k x.a.toNat = 0; unfold dif; rw [if_pos he]
                      clear he
                      go_wp2_with fail
                      go_quiet (fail)
                      go_wp2_with fail
                      go_roundg (gk - 1)
                      case measure => have := HJ.out; omega
                      case rel => exact ⟨1, by rw [HK.out, HD.out]; try go_num, rfl, by omega, by have := HJ.out; show gk - 1 + 1 = 2; omega, Below.then HI HI.size (below_drewN _ _)⟩
                    · have f1 : (at0 l x.a.toNat != at0 l k) = true := by rw [bne_iff_ne]; exact he
                      have HD : Hid (dif l k x.a.toNat = 1) := by show dif l k x.a.toNat = 1; unfold dif; rw [if_neg he]
                      clear he
                      go_wp2_with fail
                      go_quiet (fail)
                      go_wp2_with fail
                      go_roundg (gk - 1)
                      case measure => have := HJ.out; omega
                      case rel => exact ⟨1, by rw [HK.out, HD.out]; try go_num, rfl, by omega, by have := HJ.out; show gk - 1 + 1 = 2; omega, Below.then HI HI.size (below_drewN _ _)⟩
                  · have HK : Hid (kidCost l k x 2 = dif l k x.a.toNat + dif l k x.b.toNat) := by show kidCost l k x 2 = _; simp [kidCost]
                    have hK1 : kidCost l k x 1 = dif l k x.a.toNat := by simp [kidCost]
                    rw [hK1]
                    clear hK1
                    by_cases he : at0 l x.b.toNat = at0 l k
                    · have f1 : (at0 l x.b.toNat != at0 l k) = false := by rw [bne_eq_false_iff_eq]; exact he
                      have HD : Hid (dif l k x.b.toNat = 0) := by show dif l k x.b.toNat = 0; unfold dif; rw [if_pos he]
                      clear he
                      go_wp2_with fail
                      go_quiet (fail)
                      go_wp2_with fail
                      go_roundg (gk - 1)
                      case measure => have := HJ.out; omega
                      case rel => exact ⟨2, by rw [HK.out, HD.out]; try go_num, rfl, by omega, by have := HJ.out; show gk - 1 + 2 = 2; omega, Below.then HI HI.size (below_drewN _ _)⟩
                    · have f1 : (at0 l x.b.toNat != at0 l k) = true := by rw [bne_iff_ne]; exact he
                      have HD : Hid (dif l k x.b.toNat = 1) := by show dif l k x.b.toNat = 1; unfold dif; rw [if_neg he]
                      clear he
                      go_wp2_with fail
                      go_quiet (fail)
                      go_wp2_with fail
                      go_roundg (gk - 1)
                      case measure => have := HJ.out; omega
                      case rel => exact ⟨2, by rw [HK.out, HD.out]; try go_num, rfl, by omega, by have := HJ.out; show gk - 1 + 2 = 2; omega, Below.then HI HI.size (below_drewN _ _)⟩
                · obtain rfl : j = 2 := by omega
                  go_wp2_with fail
                  go_roundg (g1 - 1)
                  case measure => have := HG.out; omega
                  case rel => exact ⟨k + 1, by rw [HF.out], by go_num, by omega, by have := HG.out; show g1 - 1 + (k + 1) = m; omega, HI⟩
          · obtain rfl : k = m := by omega
            go_wp2_with fail
            go_ret2
            exact ⟨by rw [HN.out]; rfl, HI⟩
      · have e2 : countErr bs l = 2 := by unfold countErr; rw [if_neg (by rw [hok]; decide), if_pos (by omega)]
        have e3 : countNum bs l = 0 := by unfold countNum; rw [e2]; rfl
        rw [e2, e3]
        rw [hn] at hok
        rw [hok] at HC
        have f0 : ((m : Int) != (n : Int)) = true := by rw [bne_iff_ne]; omega
        clear e2 e3 hok hn hm hlen
        go_enter Tryd.func17, Tryd.ntmps17
        go_wp2_with fail
        rw [HE1.out]
        refine (HC.out _ (below_alloc _ _)).mono ?_
        rintro e w1 ⟨rfl, hb1⟩
        have c0 := cell_below hb1 (by simp) (new_cell w #[.slice A n c] 24 0)
        have HB := Lib.hid (Below.trans (below_alloc _ _) (hb1.mono (by simp)))
        clear hb1
        go_wp2_with fail
        go_ret2
        exact ⟨rfl, HB.out⟩
    · have e2 : countErr bs l = 200 := by unfold countErr; rw [if_pos (by rw [hok]; decide)]
      have e3 : countNum bs l = 0 := by unfold countNum; rw [e2]; rfl
      rw [e2, e3]
      rw [hn] at hok
      rw [hok] at HC
      clear e2 e3 hok hn hm
      go_enter Tryd.func17, Tryd.ntmps17
      go_wp2_with fail
      rw [HE1.out]
      refine (HC.out _ (below_alloc _ _)).mono ?_
      rintro e w1 ⟨rfl, hb1⟩
      have HB := Lib.hid (Below.trans (below_alloc _ _) (hb1.mono (by simp)))
      clear hb1
      go_wp2_with fail
      go_ret2
      exact ⟨rfl, HB.out⟩
end Go.Proofs.YtbmlkomfelkckaaDoor
