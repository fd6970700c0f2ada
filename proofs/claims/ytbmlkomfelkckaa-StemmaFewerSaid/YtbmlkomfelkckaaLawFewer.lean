/- Law StemmaFewer: fewer trees agree on no less. -/
import Derived.Test.YtbmlkomfelkckaaLawAgreed
namespace Go.Proofs.Ytbmlkomfelkckaa
open Go Go.RowKit Go.Lib
set_option maxRecDepth 100000

set_option maxHeartbeats 4000000 in
theorem fewer_calls (A : Option Addr) (n c : Nat) (l : List (List Br)) (leaves z : Int) (w : World) (hr : RdTrees w A l) (hn : l.length = n) (hnc : n ≤ c) (hcap : c ≤ 9223372036854775807) (hl1 : -9223372036854775808 ≤ leaves) (hl2 : leaves ≤ 9223372036854775807) :
    Calls Try.prog 20 #[.slice A n c, .int .i64 leaves, .int .i64 z] w fun e w' => e = .returned (.bool true) ∧ Below w.heap.size w w' := by
  have hcn : n ≤ 9223372036854775807 := Nat.le_trans hnc hcap
  have HA := Lib.hid (awake22 w)
  have HP := Lib.hid (fun (W : World) (h : Below w.heap.size w W) => agree_calls A n c l leaves W (hr.below h) hn hcn hl1 hl2)
  have HQ := Lib.hid (fun (W : World) (h : Below w.heap.size w W) (k : Nat) (hk : k ≤ n) => agree_calls A k c (l.take k) leaves W ((hr.below h).take k) (by rw [List.length_take]; omega) (by omega) hl1 hl2)
  have HN := Lib.hid hn
  have HCODE := Lib.hid (agree_code leaves l)
  obtain ⟨code, L, hag⟩ : ∃ code L, agreeOf leaves l = (code, L) := ⟨_, _, rfl⟩
  rw [hag] at HP HCODE
  clear hr hn hag
  go_enter Try.func20, Try.ntmps20
  go_wp2_with fail
  refine HA.out.mono ?_
  rintro _ w1 ⟨rfl, hb1⟩
  have HB1 := Lib.hid hb1
  clear hb1
  go_wp2_with fail
  (with_reducible refine (HP.out _ HB1.out).mono ?_)
  rintro _ w2 ⟨hb2, A2, c2, rfl, hl2⟩
  have HB2 := Lib.hid (Below.then HB1.out HB1.out.size hb2)
  clear hb2
  rcases HCODE.out with ⟨h1, h2, h3, h4⟩ | ⟨h1, h2⟩
  rotate_left
  · change code ≠ 0 at h1
    change L = [] at h2
    subst h2
    have f1 : (code != 0) = true := by rw [bne_iff_ne]; exact h1
    simp only [List.length_nil]
    clear h1 hl2
    go_wp2_with fail
    go_ret
    exact ⟨rfl, HB2.out⟩
  change code = 0 at h1
  change L = _ at h4
  subst h1
  have HWH : Hid (1 < leaves → ∃ fr x, L = fr ++ [x] ∧ (x.length : Int) = leaves) := fun h => by
    obtain ⟨fr, x, e, hx⟩ := agUp_whole h3 h2 h
    exact ⟨fr, x, h4.trans e, hx⟩
  have HFW : Hid (∀ k, 0 < k → k ≤ n → (agreeOf leaves (l.take k)).1 = 0 ∧ L.Sublist (agreeOf leaves (l.take k)).2) := fun k h5 h6 => by
    rw [h4]
    exact agree_fewer h5 (by have := HN.out; omega) h3
  obtain ⟨A2', c2', vs2, he2, ho2, hr2⟩ := hl2
  obtain ⟨rfl, rfl⟩ : A2 = A2' ∧ c2 = c2' := by simpa using he2
  obtain ⟨na, hna⟩ : ∃ na, L.length = na := ⟨_, rfl⟩
  simp only [hna] at ho2 ⊢
  have hmxa := own_max ho2
  have HO2 := Lib.hid ho2
  have HR2 := Lib.hid hr2
  have HNA := Lib.hid hna
  clear h2 h3 h4 he2 ho2 hr2 hna HP HA HCODE
  -- the clade of all leaves
  have HWC : Hid (1 < leaves → ∃ g Ax nx cx, A2 = some ⟨g, 0, none⟩ ∧ w2.cell? ⟨g, na - 1, none⟩ = some (.slice Ax nx cx) ∧ ((nx : Int) != leaves) = false ∧ 0 < na) := fun h => by
    obtain ⟨fr, x, e, hx⟩ := HWH.out h
    have hk : L[na - 1]? = some x := by
      rw [← HNA.out, e, List.length_append, List.length_singleton, Nat.add_sub_cancel, List.getElem?_append_right (Nat.le_refl _), Nat.sub_self]
      rfl
    obtain ⟨g, Ax, cx, h1, _, h2, _⟩ := ls_cell HO2.out HR2.out hk
    exact ⟨g, Ax, x.length, cx, h1, h2, by rw [bne_eq_false_iff_eq]; exact hx, by rw [← HNA.out, e, List.length_append, List.length_singleton]; omega⟩
  have HLV := Lib.hid (Classical.em (1 < leaves))
  by_cases z1 : z < 1
  · rcases HLV.out with hlv | hlv
    · obtain ⟨g, Ax, nx, cx, rfl, e, f5, hp⟩ := HWC.out hlv
      have f6 : ((na : Int) == 0) = false := by rw [beq_eq_false_iff_ne]; omega
      have f7 : ((na : Int) - 1).toNat = na - 1 := by omega
      go_wp2_with fail
      go_ret
      exact ⟨rfl, HB2.out⟩
    · go_wp2_with fail
      go_ret
      exact ⟨rfl, HB2.out⟩
  obtain ⟨k, rfl⟩ : ∃ k : Nat, z = (k : Int) := ⟨z.toNat, by omega⟩
  by_cases z2 : ¬ k ≤ n
  · have z3 : (n : Int) < (k : Int) := by omega
    rcases HLV.out with hlv | hlv
    · obtain ⟨g, Ax, nx, cx, rfl, e, f5, hp⟩ := HWC.out hlv
      have f6 : ((na : Int) == 0) = false := by rw [beq_eq_false_iff_ne]; omega
      have f7 : ((na : Int) - 1).toNat = na - 1 := by omega
      go_wp2_with fail
      go_ret
      exact ⟨rfl, HB2.out⟩
    · go_wp2_with fail
      go_ret
      exact ⟨rfl, HB2.out⟩
  have z2 := Decidable.not_not.1 z2
  have z3 : ¬ (n : Int) < (k : Int) := by omega
  obtain ⟨hc0, hsub⟩ := HFW.out k (by omega) z2
  have HQK := Lib.hid (fun (W : World) (h : Below w.heap.size w W) => HQ.out W h k z2)
  obtain ⟨code, M, hag⟩ : ∃ code M, agreeOf leaves (l.take k) = (code, M) := ⟨_, _, rfl⟩
  rw [hag] at HQK hc0 hsub
  change code = 0 at hc0
  change L.Sublist M at hsub
  subst hc0
  have HSUB := Lib.hid hsub
  have hkc : k ≤ c := by omega
  have HLE : Hid (L.length ≤ M.length) := hsub.length_le
  clear hsub hag HQ HFW
  rcases HLV.out with hlv | hlv
  · obtain ⟨g, Ax, nx, cx, rfl, e, f5, hp⟩ := HWC.out hlv
    have f6 : ((na : Int) == 0) = false := by rw [beq_eq_false_iff_ne]; omega
    have f7 : ((na : Int) - 1).toNat = na - 1 := by omega
    go_wp2_with fail
    (with_reducible refine (HQK.out _ HB2.out).mono ?_)
    rintro _ w3 ⟨hb3, A3, c3, rfl, hl3⟩
    obtain ⟨A3', c3', vs3, he3, ho3, hr3⟩ := hl3
    obtain ⟨rfl, rfl⟩ : A3 = A3' ∧ c3 = c3' := by simpa using he3
    obtain ⟨nb, hnb⟩ : ∃ nb, M.length = nb := ⟨_, rfl⟩
    simp only [hnb] at ho3 ⊢
    have hmxb := own_max ho3
    have hle : ¬ (nb : Int) < (na : Int) := by have h1 := HLE.out; have h2 := HNA.out; omega
    have HB3 := Lib.hid (Below.then HB2.out HB2.out.size hb3)
    have HO3 := Lib.hid ho3
    have HR3 := Lib.hid hr3
    have HNB := Lib.hid hnb
    have HO2 := Lib.hid (own_below HO2.out hb3)
    have HR2 := Lib.hid ((HR2.out.ki (KI.below hb3 (Nat.le_refl _))).mono hb3.size (Nat.le_refl _))
    clear he3 ho3 hr3 hnb hb3 HWC
    go_wp2_with fail
    go_loopg [11, 72] nb (fun gk v11 v72 wr => ∃ i j : Nat, v11 = .int .i64 i ∧ v72 = .int .i64 j ∧ i ≤ na ∧ j ≤ nb ∧ Hid (nb - j ≤ gk) ∧ Hid ((L.drop i).Sublist (M.drop j)) ∧ Hid (Below w3.heap.size w3 wr))
    case atStart => exact ⟨0, 0, rfl, rfl, Nat.zero_le _, Nat.zero_le _, by show nb - 0 ≤ nb; omega, HSUB.out, Below.refl _ _⟩
    case round =>
      obtain ⟨i, j, rfl, rfl, hi, hj, HG, HS, HB⟩ := hrel
      by_cases hjn : j < nb
      · have j1 : (j : Int) < (nb : Int) := by omega
        obtain ⟨y, hy⟩ : ∃ y, M[j]? = some y := ⟨_, List.getElem?_eq_getElem (by have := HNB.out; omega)⟩
        obtain ⟨g3, Y3, d3, he3, hg3, e3, R3, hmy⟩ := ls_cell HO3.out HR3.out hy
        subst he3
        obtain ⟨ny, hny⟩ : ∃ ny, y.length = ny := ⟨_, rfl⟩
        rw [hny] at e3 hmy
        have e3 := cell_below HB.out hg3 e3
        have R3 := R3.below HB.out
        have hdm : M.drop j = y :: M.drop (j + 1) := by
          obtain ⟨hjl, hjy⟩ := List.getElem?_eq_some_iff.1 hy
          rw [List.drop_eq_getElem_cons hjl, hjy]
        by_cases hin : i < na
        · have i1 : (i : Int) < (na : Int) := by omega
          obtain ⟨x, hx⟩ : ∃ x, L[i]? = some x := ⟨_, List.getElem?_eq_getElem (by have := HNA.out; omega)⟩
          obtain ⟨g2, X2, d2, he2, hg2, e2, R2, hmx⟩ := ls_cell HO2.out HR2.out hx
          obtain ⟨nx2, hnx⟩ : ∃ nx, x.length = nx := ⟨_, rfl⟩
          rw [hnx] at e2 hmx
          have e2 := cell_below HB.out hg2 e2
          have hdl : L.drop i = x :: L.drop (i + 1) := by
            obtain ⟨hjl, hjy⟩ := List.getElem?_eq_some_iff.1 hx
            rw [List.drop_eq_getElem_cons hjl, hjy]
          have hs := HS.out
          rw [hdm, hdl] at hs
          have HIN := Lib.hid (ints_calls X2 Y3 nx2 ny d2 d3 x y wr (R2.below HB.out) R3 hnx hny hmx hmy)
          obtain rfl : g = g2 := by simpa using he2
          have HDL := Lib.hid hdl
          by_cases hxy : x = y
          · have HNS := Lib.hid (greedy_hit hs hxy)
            have HIN : Hid (Calls Try.prog 50 #[.slice X2 nx2 d2, .slice Y3 ny d3] wr fun e w' => e = .returned (.bool true) ∧ ∃ k, w' = wr.drewN k) := by
              have := HIN.out
              rwa [beq_iff_eq.2 hxy] at this
            clear hs hxy hdl hdm hx hy hnx hny R2 R3
            go_wp2_with fail
            (with_reducible refine HIN.out.mono ?_)
            rintro _ w4 ⟨rfl, q, rfl⟩
            go_wp2_with fail
            go_roundg (gk - 1)
            case measure => have := HG.out; omega
            case rel => exact ⟨i + 1, j + 1, by go_num, by go_num, by omega, by omega, by have := HG.out; show nb - (j + 1) ≤ gk - 1; omega, HNS.out, Below.then HB.out HB.out.size (below_drewN _ _)⟩
          · have HNS := Lib.hid (greedy_miss hs hxy)
            have HIN : Hid (Calls Try.prog 50 #[.slice X2 nx2 d2, .slice Y3 ny d3] wr fun e w' => e = .returned (.bool false) ∧ ∃ k, w' = wr.drewN k) := by
              have := HIN.out
              rwa [beq_eq_false_iff_ne.2 hxy] at this
            clear hs hxy hdl hdm hx hy hnx hny R2 R3
            go_wp2_with fail
            (with_reducible refine HIN.out.mono ?_)
            rintro _ w4 ⟨rfl, q, rfl⟩
            go_wp2_with fail
            go_roundg (gk - 1)
            case measure => have := HG.out; omega
            case rel => exact ⟨i, j + 1, rfl, by go_num, by omega, by omega, by have := HG.out; show nb - (j + 1) ≤ gk - 1; omega, by rw [HDL.out]; exact HNS.out, Below.then HB.out HB.out.size (below_drewN _ _)⟩
        · obtain rfl : i = na := by omega
          have i1 : ¬ (i : Int) < (i : Int) := by omega
          have HNS : Hid ((L.drop i).Sublist (M.drop (j + 1))) := by
            show List.Sublist _ _
            rw [List.drop_of_length_le (by have := HNA.out; omega)]
            exact List.nil_sublist _
          clear hdm hy hny R3
          go_wp2_with fail
          go_roundg (gk - 1)
          case measure => have := HG.out; omega
          case rel => exact ⟨i, j + 1, rfl, by go_num, by omega, by omega, by have := HG.out; show nb - (j + 1) ≤ gk - 1; omega, HNS.out, HB.out⟩
      · obtain rfl : j = nb := by omega
        have j1 : ¬ (j : Int) < (j : Int) := by omega
        have hs := HS.out
        rw [List.drop_of_length_le (l := M) (by have := HNB.out; omega)] at hs
        have hd : L.drop i = [] := List.sublist_nil.1 hs
        obtain rfl : i = na := by
          have h1 : (L.drop i).length = 0 := by rw [hd]; rfl
          rw [List.length_drop, HNA.out] at h1
          omega
        clear hs hd
        go_wp2_with fail
        go_ret
        exact ⟨by simp, Below.then HB3.out HB3.out.size HB.out⟩
  · skip
    go_wp2_with fail
    (with_reducible refine (HQK.out _ HB2.out).mono ?_)
    rintro _ w3 ⟨hb3, A3, c3, rfl, hl3⟩
    obtain ⟨A3', c3', vs3, he3, ho3, hr3⟩ := hl3
    obtain ⟨rfl, rfl⟩ : A3 = A3' ∧ c3 = c3' := by simpa using he3
    obtain ⟨nb, hnb⟩ : ∃ nb, M.length = nb := ⟨_, rfl⟩
    simp only [hnb] at ho3 ⊢
    have hmxb := own_max ho3
    have hle : ¬ (nb : Int) < (na : Int) := by have h1 := HLE.out; have h2 := HNA.out; omega
    have HB3 := Lib.hid (Below.then HB2.out HB2.out.size hb3)
    have HO3 := Lib.hid ho3
    have HR3 := Lib.hid hr3
    have HNB := Lib.hid hnb
    have HO2 := Lib.hid (own_below HO2.out hb3)
    have HR2 := Lib.hid ((HR2.out.ki (KI.below hb3 (Nat.le_refl _))).mono hb3.size (Nat.le_refl _))
    clear he3 ho3 hr3 hnb hb3 HWC
    go_wp2_with fail
    go_loopg [11, 72] nb (fun gk v11 v72 wr => ∃ i j : Nat, v11 = .int .i64 i ∧ v72 = .int .i64 j ∧ i ≤ na ∧ j ≤ nb ∧ Hid (nb - j ≤ gk) ∧ Hid ((L.drop i).Sublist (M.drop j)) ∧ Hid (Below w3.heap.size w3 wr))
    case atStart => exact ⟨0, 0, rfl, rfl, Nat.zero_le _, Nat.zero_le _, by show nb - 0 ≤ nb; omega, HSUB.out, Below.refl _ _⟩
    case round =>
      obtain ⟨i, j, rfl, rfl, hi, hj, HG, HS, HB⟩ := hrel
      by_cases hjn : j < nb
      · have j1 : (j : Int) < (nb : Int) := by omega
        obtain ⟨y, hy⟩ : ∃ y, M[j]? = some y := ⟨_, List.getElem?_eq_getElem (by have := HNB.out; omega)⟩
        obtain ⟨g3, Y3, d3, he3, hg3, e3, R3, hmy⟩ := ls_cell HO3.out HR3.out hy
        subst he3
        obtain ⟨ny, hny⟩ : ∃ ny, y.length = ny := ⟨_, rfl⟩
        rw [hny] at e3 hmy
        have e3 := cell_below HB.out hg3 e3
        have R3 := R3.below HB.out
        have hdm : M.drop j = y :: M.drop (j + 1) := by
          obtain ⟨hjl, hjy⟩ := List.getElem?_eq_some_iff.1 hy
          rw [List.drop_eq_getElem_cons hjl, hjy]
        by_cases hin : i < na
        · have i1 : (i : Int) < (na : Int) := by omega
          obtain ⟨x, hx⟩ : ∃ x, L[i]? = some x := ⟨_, List.getElem?_eq_getElem (by have := HNA.out; omega)⟩
          obtain ⟨g2, X2, d2, he2, hg2, e2, R2, hmx⟩ := ls_cell HO2.out HR2.out hx
          obtain ⟨nx2, hnx⟩ : ∃ nx, x.length = nx := ⟨_, rfl⟩
          rw [hnx] at e2 hmx
          have e2 := cell_below HB.out hg2 e2
          have hdl : L.drop i = x :: L.drop (i + 1) := by
            obtain ⟨hjl, hjy⟩ := List.getElem?_eq_some_iff.1 hx
            rw [List.drop_eq_getElem_cons hjl, hjy]
          have hs := HS.out
          rw [hdm, hdl] at hs
          have HIN := Lib.hid (ints_calls X2 Y3 nx2 ny d2 d3 x y wr (R2.below HB.out) R3 hnx hny hmx hmy)
          subst he2
          have HDL := Lib.hid hdl
          by_cases hxy : x = y
          · have HNS := Lib.hid (greedy_hit hs hxy)
            have HIN : Hid (Calls Try.prog 50 #[.slice X2 nx2 d2, .slice Y3 ny d3] wr fun e w' => e = .returned (.bool true) ∧ ∃ k, w' = wr.drewN k) := by
              have := HIN.out
              rwa [beq_iff_eq.2 hxy] at this
            clear hs hxy hdl hdm hx hy hnx hny R2 R3
            go_wp2_with fail
            (with_reducible refine HIN.out.mono ?_)
            rintro _ w4 ⟨rfl, q, rfl⟩
            go_wp2_with fail
            go_roundg (gk - 1)
            case measure => have := HG.out; omega
            case rel => exact ⟨i + 1, j + 1, by go_num, by go_num, by omega, by omega, by have := HG.out; show nb - (j + 1) ≤ gk - 1; omega, HNS.out, Below.then HB.out HB.out.size (below_drewN _ _)⟩
          · have HNS := Lib.hid (greedy_miss hs hxy)
            have HIN : Hid (Calls Try.prog 50 #[.slice X2 nx2 d2, .slice Y3 ny d3] wr fun e w' => e = .returned (.bool false) ∧ ∃ k, w' = wr.drewN k) := by
              have := HIN.out
              rwa [beq_eq_false_iff_ne.2 hxy] at this
            clear hs hxy hdl hdm hx hy hnx hny R2 R3
            go_wp2_with fail
            (with_reducible refine HIN.out.mono ?_)
            rintro _ w4 ⟨rfl, q, rfl⟩
            go_wp2_with fail
            go_roundg (gk - 1)
            case measure => have := HG.out; omega
            case rel => exact ⟨i, j + 1, rfl, by go_num, by omega, by omega, by have := HG.out; show nb - (j + 1) ≤ gk - 1; omega, by rw [HDL.out]; exact HNS.out, Below.then HB.out HB.out.size (below_drewN _ _)⟩
        · obtain rfl : i = na := by omega
          have i1 : ¬ (i : Int) < (i : Int) := by omega
          have HNS : Hid ((L.drop i).Sublist (M.drop (j + 1))) := by
            show List.Sublist _ _
            rw [List.drop_of_length_le (by have := HNA.out; omega)]
            exact List.nil_sublist _
          clear hdm hy hny R3
          go_wp2_with fail
          go_roundg (gk - 1)
          case measure => have := HG.out; omega
          case rel => exact ⟨i, j + 1, rfl, by go_num, by omega, by omega, by have := HG.out; show nb - (j + 1) ≤ gk - 1; omega, HNS.out, HB.out⟩
      · obtain rfl : j = nb := by omega
        have j1 : ¬ (j : Int) < (j : Int) := by omega
        have hs := HS.out
        rw [List.drop_of_length_le (l := M) (by have := HNB.out; omega)] at hs
        have hd : L.drop i = [] := List.sublist_nil.1 hs
        obtain rfl : i = na := by
          have h1 : (L.drop i).length = 0 := by rw [hd]; rfl
          rw [List.length_drop, HNA.out] at h1
          omega
        clear hs hd
        go_wp2_with fail
        go_ret
        exact ⟨by simp, Below.then HB3.out HB3.out.size HB.out⟩
end Go.Proofs.Ytbmlkomfelkckaa
