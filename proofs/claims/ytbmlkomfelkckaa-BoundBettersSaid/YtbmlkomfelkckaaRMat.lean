/- siglumref19.Check: the same verdict on a matrix. -/
import Derived.Test.YtbmlkomfelkckaaMat
import Derived.Deep.QuietTactic
import Derived.BigQuiet
namespace Go.Proofs.Ytbmlkomfelkckaa
open Go Go.RowKit
set_option maxRecDepth 100000

theorem matOk_wide {rows : List (List Int)} (h : 4096 < wid rows) : matOk rows = false := by
  cases rows with
  | nil => simp [wid] at h
  | cons r rs =>
    refine matOk_row (i := 0) (r := r) rfl ?_
    have h2 : 4096 < r.length := h
    unfold rowOk
    simp
    omega

set_option maxHeartbeats 1000000 in
theorem rmcheck_calls (A : Option Addr) (n c : Nat) (rows : List (List Int)) (w : World) (hr : RdRows w A rows) (hxn : rows.length = n) (hn : n ≤ 9223372036854775807) :
    Calls Try.prog 31 #[.agg #[.slice A n c]] w fun e w' => e = .returned (.int .i64 (errMat rows)) ∧ Below w.heap.size w w' := by
  have HX := Lib.hid hxn
  have HRR := Lib.hid hr
  by_cases h0 : n = 0
  · rw [show errMat rows = 190 by unfold errMat; rw [matOk_few (by omega)]; rfl]
    have b0 : (n : Int) < 1 := by omega
    clear h0 hxn hr
    go_enter Try.func31, Try.ntmps31
    go_wp2_with fail
    go_ret
    exact ⟨rfl, below_alloc _ _⟩
  · by_cases h1 : 12 < n
    · rw [show errMat rows = 190 by unfold errMat; rw [matOk_few (by omega)]; rfl]
      have b0 : ¬ (n : Int) < 1 := by omega
      have b1 : (12 : Int) < n := by omega
      clear h0 hxn hr
      go_enter Try.func31, Try.ntmps31
      go_wp2_with fail
      go_ret
      exact ⟨rfl, below_alloc _ _⟩
    · have b0 : ¬ (n : Int) < 1 := by omega
      have b1 : ¬ (12 : Int) < n := by omega
      have hpos : 0 < n := by omega
      have hfew : n ≤ 12 := by omega
      obtain ⟨r0, hr0, hm⟩ := wid_at (rows := rows) (by have := HX.out; omega)
      obtain ⟨ad, A0, c0, hA, d0, -, hc0, hc1⟩ := hr 0 r0 hr0
      subst hA
      rw [show ad.add 0 = ad by simp [Addr.add], hm] at d0
      rw [hm] at hc0
      have hlt0 := World.block_lt_of_cell? w _ d0
      obtain ⟨m, hwm⟩ : ∃ m, m = wid rows := ⟨_, rfl⟩
      rw [← hwm] at d0 hc0
      have HW := Lib.hid hwm
      clear hm hr0 hwm h0 h1 hxn hr
      by_cases h4 : 4096 < m
      · have b2 : (4096 : Int) < m := by omega
        rw [show errMat rows = 190 by unfold errMat; rw [matOk_wide (by rw [← HW.out]; exact h4)]; rfl]
        clear h4
        go_enter Try.func31, Try.ntmps31
        go_wp2_with fail
        go_ret
        exact ⟨rfl, below_alloc _ _⟩
      · have b2 : ¬ (4096 : Int) < m := by omega
        have hm4 : m ≤ 4096 := by omega
        clear h4
        have HD0 := Lib.hid d0
        go_enter Try.func31, Try.ntmps31
        go_wp2_with fail
        clear d0
        go_loopg [3] n (fun gk v3 wr => ∃ k : Nat, v3 = .int .i64 k ∧ k ≤ n ∧ Hid (gk + k = n) ∧ Below w.heap.size w wr ∧ w.heap.size < wr.heap.size ∧ wr.cell? ⟨w.heap.size, 0, none⟩ = some (.slice (some ad) n c) ∧ Hid (∀ (i : Nat) (r : List Int), i < k → rows[i]? = some r → rowOk m r = true))
        case atStart => exact ⟨0, rfl, Nat.zero_le _, rfl, below_alloc _ _, by simp, new_cell _ _ _ 0, fun i r hi => by omega⟩
        case round =>
          obtain ⟨k, rfl, hk, HG, hbw, hwz, k0, HR⟩ := hrel
          have d0 := (hbw.cell hlt0).trans HD0.out
          have HBW := Lib.hid hbw
          clear hbw
          by_cases hkn : k < n
          · obtain ⟨ad', A1, c1, he, d1, hrow, hk1, hk2⟩ := HRR.out.below HBW.out k (rows.getD k []) (by have := HX.out; rw [List.getD_eq_getElem?_getD, List.getElem?_eq_getElem (by omega)]; rfl)
            obtain rfl : ad = ad' := by simpa using he
            obtain ⟨r, hr'⟩ : ∃ r, rows.getD k [] = r := ⟨_, rfl⟩
            rw [hr'] at d1 hrow hk1
            have HK : Hid (rows[k]? = some r) := by
              have := HX.out
              show rows[k]? = some r
              rw [← hr', List.getD_eq_getElem?_getD, List.getElem?_eq_getElem (by omega)]; rfl
            have HROW := Lib.hid hrow
            have p6 : (k : Int) < n := by omega
            clear hr' he hrow
            by_cases hm : r.length = m
            · have f0 : ((r.length : Int) != (m : Int)) = false := by rw [bne_eq_false_iff_eq]; omega
              have hrl := hm
              have HRL := Lib.hid hrl
              have hrl2 : r.length ≤ 4096 := by omega
              clear hm hrl
              go_wp2_with fail
              go_quiet (fail)
              go_wp2_with fail
              obtain ⟨wo, rfl⟩ : ∃ wo : World, wo = wr := ⟨_, rfl⟩
              obtain ⟨g1, rfl⟩ : ∃ g1 : Nat, g1 = gk := ⟨_, rfl⟩
              go_loopg [4] r.length (fun gk v4 wr => ∃ (j : Nat), v4 = .int .i64 j ∧ j ≤ r.length ∧ Hid (gk + j = r.length) ∧ (∃ q, wr = wo.drewN q) ∧ Hid (∀ (i : Nat) (x : Int), i < j → r[i]? = some x → numOk x = true))
              case atStart => exact ⟨0, rfl, Nat.zero_le _, rfl, ⟨_, rfl⟩, fun i x hi => by omega⟩
              case round =>
                obtain ⟨j, rfl, hj, HJ, ⟨q, rfl⟩, HN⟩ := hrel
                by_cases hjn : j < r.length
                · obtain ⟨ad1, rfl, e1⟩ := HROW.out j (r[j]) (by simp [hjn])
                  obtain ⟨x, hx⟩ : ∃ x, r[j] = x := ⟨_, rfl⟩
                  rw [hx] at e1
                  have HK2 : Hid (r[j]? = some x) := by show r[j]? = some x; rw [List.getElem?_eq_getElem hjn, hx]
                  clear hx
                  by_cases hx : -1 ≤ x ∧ x < 12
                  · have x0 : ¬ x < -1 := by omega
                    have x1 : ¬ 11 < x := by omega
                    have HX1 : Hid (numOk x = true) := by show numOk x = true; unfold numOk; simp [hx.1, hx.2]
                    clear hx
                    go_wp2_with fail
                    go_roundg (gk - 1)
                    case measure => have := HJ.out; omega
                    case rel => exact ⟨j + 1, by go_num, by omega, by have := HJ.out; show gk - 1 + (j + 1) = r.length; omega, ⟨_, rfl⟩, fun i y hi hy => by
                      rcases Nat.lt_or_ge i j with h | h
                      · exact HN.out i y h hy
                      · have : i = j := by omega
                        subst this
                        have h2 := HK2.out
                        rw [h2] at hy
                        cases hy
                        exact HX1.out⟩
                  · have HF : Hid (errMat rows = 190) := by
                      show errMat rows = 190
                      unfold errMat
                      rw [matOk_row HK.out (rowOk_num HK2.out (by unfold numOk; simp; omega))]
                      rfl
                    by_cases x0 : x < -1
                    · clear hx
                      go_wp2_with fail
                      go_ret
                      exact ⟨by rw [HF.out]; rfl, Below.then HBW.out HBW.out.size (below_drewN _ _)⟩
                    · have x1 : 11 < x := by omega
                      clear hx
                      go_wp2_with fail
                      go_ret
                      exact ⟨by rw [HF.out]; rfl, Below.then HBW.out HBW.out.size (below_drewN _ _)⟩
                · have HO : Hid (rowOk m r = true) := rowOk_all HRL.out hrl2 (fun i x hi => HN.out i x (by have := (List.getElem?_eq_some_iff.1 hi).1; omega) hi)
                  go_wp2_with fail
                  go_roundg (g1 - 1)
                  case measure => have := HG.out; omega
                  case rel => exact ⟨k + 1, by go_num, by omega, by have := HG.out; show g1 - 1 + (k + 1) = n; omega, Below.then HBW.out HBW.out.size (below_drewN _ _), hwz, k0, fun i y hi hy => by
                    rcases Nat.lt_or_ge i k with h | h
                    · exact HR.out i y h hy
                    · have : i = k := by omega
                      subst this
                      have h2 := HK.out
                      rw [h2] at hy
                      cases hy
                      exact HO.out⟩
            · have f0 : ((r.length : Int) != (m : Int)) = true := by rw [bne_iff_ne]; omega
              have HF : Hid (errMat rows = 190) := by
                show errMat rows = 190
                unfold errMat
                rw [matOk_row HK.out (by rw [← HW.out]; unfold rowOk; simp [hm])]
                rfl
              clear hm
              go_wp2_with fail
              go_quiet (fail)
              go_wp2_with fail
              go_ret
              exact ⟨by rw [HF.out]; rfl, Below.then HBW.out HBW.out.size (below_drewN _ _)⟩
          · have HF : Hid (errMat rows = 0) := by
              show errMat rows = 0
              unfold errMat
              have := HX.out
              rw [matOk_all (by omega) (by omega) (fun i r hi => by rw [← HW.out]; exact HR.out i r (by have := (List.getElem?_eq_some_iff.1 hi).1; omega) hi)]
              rfl
            go_wp2_with fail
            go_ret
            exact ⟨by rw [HF.out]; rfl, HBW.out⟩
end Go.Proofs.Ytbmlkomfelkckaa
