/- siglumref21.Count: how many changes states make, by the document's answer. -/
import Derived.Test.YtbmlkomfelkckaaDoorCount
import Derived.Test.YtbmlkomfelkckaaDoorChk
import Derived.Test.YtbmlkomfelkckaaDoorLeaf
namespace Go.Proofs.YtbmlkomfelkckaaDoor
open Go Go.RowKit
set_option maxRecDepth 100000

set_option maxHeartbeats 2000000 in
theorem rcount_calls (A : Option Addr) (n c : Nat) (bs : List Br) (AS : Option Addr) (m cS : Nat) (l : List Int) (w : World) (hr : RdBr w A bs) (hn : bs.length = n) (hcap : n ≤ 9223372036854775807) (hl : RdInt w AS l) (hm : l.length = m) :
    Calls Tryd.prog 18 #[.agg #[.slice A n c], .slice AS m cS] w fun e w' => e = .returned (.tuple #[.int .i64 (countNum bs l : Int), .int .i64 (countErr bs l)]) ∧ Below w.heap.size w w' := by
  have HR := Lib.hid (fun (W : World) (h : Below w.heap.size w W) => hr.below h)
  have HL := Lib.hid (fun (W : World) (h : Below w.heap.size w W) => hl.below h)
  by_cases hbig : 23 < n
  · have HC := Lib.hid (fun (W : World) (h : Below w.heap.size w W) (x : Int) => rcheck_calls A n c bs x W (HR.out W h) hn hcap)
    have e2 : countErr bs l = 200 := by unfold countErr; rw [if_pos (by rw [okTree_many (by omega)]; decide)]
    have e3 : countNum bs l = 0 := by unfold countNum; rw [e2]; rfl
    have HM : Hid (23 < bs.length) := by show 23 < bs.length; omega
    rw [e2, e3]
    clear hr hl e2 e3 hn
    by_cases hmax : n = 9223372036854775807
    · subst hmax
      clear hcap hbig
      go_enter Tryd.func18, Tryd.ntmps18
      go_wp2_with fail
      refine (HC.out _ (below_alloc _ _) _).mono ?_
      rintro e w1 ⟨he, hb1⟩
      rw [okTree_many HM.out] at he
      subst he
      have HB := Lib.hid (Below.trans (below_alloc _ _) (hb1.mono (by simp)))
      clear hb1
      go_wp2_with fail
      go_ret2
      exact ⟨rfl, HB.out⟩
    · have e1 : (n : Int) + 1 ≤ 9223372036854775807 := by omega
      go_enter Tryd.func18, Tryd.ntmps18
      go_wp2_with fail
      refine (HC.out _ (below_alloc _ _) _).mono ?_
      rintro e w1 ⟨he, hb1⟩
      rw [okTree_many HM.out] at he
      subst he
      have HB := Lib.hid (Below.trans (below_alloc _ _) (hb1.mono (by simp)))
      clear hb1
      go_wp2_with fail
      go_ret2
      exact ⟨rfl, HB.out⟩
  · have HC := Lib.hid (fun (W : World) (h : Below w.heap.size w W) => rcheck_calls A n c bs (((n + 1) / 2 : Nat) : Int) W (HR.out W h) hn hcap)
    have HE1 : Hid (((n : Int) + 1) / 2 = (((n + 1) / 2 : Nat) : Int)) := by show ((n : Int) + 1) / 2 = (((n + 1) / 2 : Nat) : Int); omega
    clear hr hl hcap
    rcases okTree_two (((bs.length + 1) / 2 : Nat) : Int) bs with hok | hok
    · by_cases hlen : m = n
      · subst hlen
        have e2 : countErr bs l = 0 := by unfold countErr; rw [if_neg (by rw [hok]; decide), if_neg (by omega)]
        have e3 : countNum bs l = costUp l bs bs.length := by unfold countNum; rw [if_pos e2]
        rw [e2, e3]
        have hok' := hok
        rw [hn] at hok'
        rw [hok'] at HC
        have HOK := Lib.hid (brOk_of (leaves := (((bs.length + 1) / 2 : Nat) : Int)) (bs := bs) (by
          unfold okTree at hok
          by_cases q : (rdTree (((bs.length + 1) / 2 : Nat) : Int) bs).isSome = true
          · exact q
          · rw [if_neg q] at hok
            cases hok))
        have HN := Lib.hid hn
        have HM := Lib.hid hm
        clear e2 e3 hok hok' hn hm
        go_enter Tryd.func18, Tryd.ntmps18
        go_wp2_with fail
        rw [HE1.out]
        refine (HC.out _ (below_alloc _ _)).mono ?_
        rintro e w1 ⟨rfl, hb1⟩
        have c0 := cell_below hb1 (by simp) (new_cell w #[.slice A m c] 24 0)
        have HZ : Hid (w.heap.size < w1.heap.size) := Nat.lt_of_lt_of_le (show w.heap.size < (w.alloc (.cells #[.slice A m c] 24)).heap.size by simp) hb1.size
        have HB := Lib.hid (Below.trans (below_alloc _ _) (hb1.mono (by simp)))
        clear hb1
        go_wp2_with fail
        have hz : w.heap.size < w1.heap.size := by exact HZ.out
        go_loopg [6, 7] m (fun gk v6 v7 wr => ∃ (k : Nat), v6 = .int .i64 (costUp l bs k : Nat) ∧ v7 = .int .i64 k ∧ k ≤ m ∧ Hid (gk + k = m) ∧ Below w1.heap.size w1 wr)
        case atStart => exact ⟨0, rfl, rfl, Nat.zero_le _, rfl, Below.refl _ _⟩
        case round =>
          obtain ⟨k, rfl, rfl, hk, HG, HI⟩ := hrel
          have c1 := cell_below HI hz c0
          have HW := Lib.hid (Below.then HB.out HB.out.size HI)
          clear c0
          by_cases hkn : k < m
          · have hkx : k < bs.length := by have := HN.out; omega
            obtain ⟨ad, rfl, d0, d1, d2⟩ := HR.out _ HW.out k bs[k] (by simp [hkx])
            generalize hx : bs[k] = x at *
            have HXK : Hid (bs[k]? = some x) := by show bs[k]? = some x; rw [List.getElem?_eq_getElem hkx, hx]
            have HO := Lib.hid (HOK.out k x HXK.out)
            have hcu := costUp_le l bs k
            have q1 := new_cell wr #[.int .i64 x.leaf, .int .i64 x.a, .int .i64 x.b] 50 1
            have q2 := new_cell wr #[.int .i64 x.leaf, .int .i64 x.a, .int .i64 x.b] 50 2
            have hba := below_alloc wr (.cells #[.int .i64 x.leaf, .int .i64 x.a, .int .i64 x.b] 50)
            have HBZ : Hid (wr.heap.size < (wr.alloc (.cells #[.int .i64 x.leaf, .int .i64 x.a, .int .i64 x.b] 50)).heap.size) := by show wr.heap.size < _; simp
            have HI2 := Lib.hid (Below.then HI HI.size hba)
            clear hx hba
            go_wp2_with fail
            generalize wr.alloc (.cells #[.int .i64 x.leaf, .int .i64 x.a, .int .i64 x.b] 50) = W2 at *
            refine (leaf_calls x W2).mono ?_
            rintro e w5 ⟨he, hb5⟩
            have q1 := cell_below hb5 HBZ.out q1
            have q2 := cell_below hb5 HBZ.out q2
            have HI5 := Lib.hid (Below.then HI2.out HI2.out.size hb5)
            have HW5 := Lib.hid (Below.then HB.out HB.out.size HI5.out)
            clear hb5
            by_cases hab : x.a = x.b
            · have f1 : (x.a == 0 && x.b == 0) = true := by
                obtain ⟨h1, h2⟩ := (brOk_leaf HOK.out HXK.out).1 hab
                rw [h1, h2]
                rfl
              rw [f1] at he
              subst he
              have HF : Hid (costUp l bs (k + 1) = costUp l bs k) := by
                show costUp l bs (k + 1) = costUp l bs k
                rw [costUp_succ HXK.out]
                unfold ownCost
                rw [if_pos ((brOk_leaf HOK.out HXK.out).1 hab)]
                rfl
              clear hab f1
              go_wp2_with fail
              go_roundg (gk - 1)
              case measure => have := HG.out; omega
              case rel => exact ⟨k + 1, by rw [HF.out], by go_num, by omega, by have := HG.out; show gk - 1 + (k + 1) = m; omega, HI5.out⟩
            · have hnl : ¬ (x.a = 0 ∧ x.b = 0) := fun e => hab (e.1.trans e.2.symm)
              have f1 : (x.a == 0 && x.b == 0) = false := by
                rw [Bool.and_eq_false_iff, beq_eq_false_iff_ne, beq_eq_false_iff_ne]
                omega
              rw [f1] at he
              subst he
              have HF : Hid (costUp l bs (k + 1) = costUp l bs k + (dif l k x.a.toNat + dif l k x.b.toNat)) := by
                show costUp l bs (k + 1) = _
                rw [costUp_succ HXK.out]
                unfold ownCost
                rw [if_neg hnl]
              obtain ⟨p0, p1, p2, p3⟩ : 0 ≤ x.a ∧ x.a < k ∧ 0 ≤ x.b ∧ x.b < k := by
                rcases HO.out with h | h
                · exact absurd (h.1.trans h.2.1.symm) hab
                · exact h.2.2
              have hlm := HM.out
              obtain ⟨sd, rfl, r2⟩ := rdInt_at (HL.out _ HW5.out) (i := k) (by omega)
              obtain ⟨sd', he1, r0⟩ := rdInt_at (HL.out _ HW5.out) (i := x.a.toNat) (by omega)
              obtain rfl := Option.some.inj he1
              obtain ⟨sd', he2, r1⟩ := rdInt_at (HL.out _ HW5.out) (i := x.b.toNat) (by omega)
              obtain rfl := Option.some.inj he2
              have p4 : x.a < (m : Int) := by omega
              have p5 : x.b < (m : Int) := by omega
              have p6 : (k : Int) < (m : Int) := by omega
              have HD0 : Hid (dif l k x.a.toNat = if at0 l x.a.toNat = at0 l k then 0 else 1) := rfl
              have HD1 : Hid (dif l k x.b.toNat = if at0 l x.b.toNat = at0 l k then 0 else 1) := rfl
              clear he1 he2 hlm hab hnl f1
              by_cases he0 : at0 l x.a.toNat = at0 l k
              all_goals
                by_cases he1 : at0 l x.b.toNat = at0 l k
                all_goals
                  first
                    | (have g0 : (at0 l x.a.toNat != at0 l k) = false := by rw [bne_eq_false_iff_eq]; exact he0)
                    | (have g0 : (at0 l x.a.toNat != at0 l k) = true := by rw [bne_iff_ne]; exact he0)
                  first
                    | (have g1 : (at0 l x.b.toNat != at0 l k) = false := by rw [bne_eq_false_iff_eq]; exact he1)
                    | (have g1 : (at0 l x.b.toNat != at0 l k) = true := by rw [bne_iff_ne]; exact he1)
                  have HE0 := Lib.hid he0
                  have HE1' := Lib.hid he1
                  clear he0 he1
                  go_wp2_with fail
                  go_quiet (fail)
                  go_wp2_with fail
                  go_quiet (fail)
                  go_wp2_with fail
                  go_roundg (gk - 1)
                  case measure => have := HG.out; omega
                  case rel =>
                    have hf := HF.out
                    rw [HD0.out, HD1.out] at hf
                    first | rw [if_pos HE0.out] at hf | rw [if_neg HE0.out] at hf
                    first | rw [if_pos HE1'.out] at hf | rw [if_neg HE1'.out] at hf
                    exact ⟨k + 1, by rw [hf]; try go_num, by go_num, by omega, by have := HG.out; show gk - 1 + (k + 1) = m; omega, Below.then HI5.out HI5.out.size (below_drewN _ _)⟩
          · obtain rfl : k = m := by omega
            go_wp2_with fail
            go_ret2
            exact ⟨by rw [HN.out]; rfl, HW.out⟩
      · have e2 : countErr bs l = 2 := by unfold countErr; rw [if_neg (by rw [hok]; decide), if_pos (by omega)]
        have e3 : countNum bs l = 0 := by unfold countNum; rw [e2]; rfl
        rw [e2, e3]
        rw [hn] at hok
        rw [hok] at HC
        have f0 : ((m : Int) != (n : Int)) = true := by rw [bne_iff_ne]; omega
        clear e2 e3 hok hn hm hlen
        go_enter Tryd.func18, Tryd.ntmps18
        go_wp2_with fail
        rw [HE1.out]
        refine (HC.out _ (below_alloc _ _)).mono ?_
        rintro e w1 ⟨rfl, hb1⟩
        have c0 := cell_below hb1 (by simp) (new_cell w #[.slice A n c] 24 0)
        have HB := Lib.hid (Below.trans (below_alloc _ _) (hb1.mono (by simp)))
        clear hb1
        go_wp2_with fail
        go_ret2
        exact ⟨rfl, HB.out⟩
    · have e2 : countErr bs l = 200 := by unfold countErr; rw [if_pos (by rw [hok]; decide)]
      have e3 : countNum bs l = 0 := by unfold countNum; rw [e2]; rfl
      rw [e2, e3]
      rw [hn] at hok
      rw [hok] at HC
      clear e2 e3 hok hn hm
      go_enter Tryd.func18, Tryd.ntmps18
      go_wp2_with fail
      rw [HE1.out]
      refine (HC.out _ (below_alloc _ _)).mono ?_
      rintro e w1 ⟨rfl, hb1⟩
      have HB := Lib.hid (Below.trans (below_alloc _ _) (hb1.mono (by simp)))
      clear hb1
      go_wp2_with fail
      go_ret2
      exact ⟨rfl, HB.out⟩
end Go.Proofs.YtbmlkomfelkckaaDoor
