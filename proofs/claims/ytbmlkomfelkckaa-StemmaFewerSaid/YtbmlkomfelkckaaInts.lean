/- siglumref14.Ints: the same numbers? -/
import Derived.Test.YtbmlkomfelkckaaMat
import Derived.Deep.QuietTactic
import Derived.BigQuiet
import Derived.Deep.OwnRows
namespace Go.Proofs.Ytbmlkomfelkckaa
open Go Go.RowKit
set_option maxRecDepth 100000

theorem rdInt_row {w : World} {g n : Nat} {l : List Int} (h : w.rowIs g 3 n (fun j => .int .i64 (l.getD j 0))) (hl : l.length = n) : RdInt w (some ⟨g, 0, none⟩) l := by
  intro i x hi
  refine ⟨_, rfl, ?_⟩
  have hin := (List.getElem?_eq_some_iff.1 hi).1
  rw [add_plain, h.cell (i := i) (by omega), List.getD_eq_getElem?_getD, hi]
  rfl

theorem take_succ_eq {xs ys : List Int} {k : Nat} (h : xs.take k = ys.take k) (h1 : k < xs.length) (h2 : k < ys.length) (he : xs[k] = ys[k]) : xs.take (k + 1) = ys.take (k + 1) := by
  rw [List.take_succ_eq_append_getElem h1, List.take_succ_eq_append_getElem h2, h, he]

set_option maxHeartbeats 1000000 in
theorem ints_calls (A B : Option Addr) (n m c d : Nat) (xs ys : List Int) (w : World) (hx : RdInt w A xs) (hy : RdInt w B ys) (hn : xs.length = n) (hm : ys.length = m) (hcn : n ≤ 9223372036854775807) (hcm : m ≤ 9223372036854775807) :
    Calls Try.prog 50 #[.slice A n c, .slice B m d] w fun e w' => e = .returned (.bool (xs == ys)) ∧ ∃ k, w' = w.drewN k := by
  have HX := Lib.hid hx
  have HY := Lib.hid hy
  have HN := Lib.hid hn
  have HM := Lib.hid hm
  by_cases hnm : n = m
  · subst hnm
    have f0 : ((n : Int) != (n : Int)) = false := by simp
    clear hx hy hn hm
    go_enter Try.func50, Try.ntmps50
    go_wp2_with fail
    go_loopg [5] n (fun gk v5 wr => ∃ k : Nat, v5 = .int .i64 k ∧ k ≤ n ∧ Hid (gk + k = n) ∧ (∃ q, wr = w.drewN q) ∧ Hid (xs.take k = ys.take k))
    case atStart => exact ⟨0, rfl, Nat.zero_le _, rfl, ⟨0, rfl⟩, rfl⟩
    case round =>
      obtain ⟨k, rfl, hk, HG, ⟨q, hq⟩, HT⟩ := hrel
      have HQ := Lib.hid hq
      have HXR : Hid (RdInt wr A xs) := by show RdInt wr A xs; rw [hq]; exact HX.out
      have HYR : Hid (RdInt wr B ys) := by show RdInt wr B ys; rw [hq]; exact HY.out
      clear hq
      by_cases hkn : k < n
      · have h1 : k < xs.length := by have := HN.out; omega
        have h2 : k < ys.length := by have := HM.out; omega
        obtain ⟨ad1, rfl, e1⟩ := HXR.out k xs[k] (by simp [h1])
        obtain ⟨ad2, rfl, e2⟩ := HYR.out k ys[k] (by simp [h2])
        obtain ⟨x, hx⟩ : ∃ x, xs[k] = x := ⟨_, rfl⟩
        obtain ⟨y, hy⟩ : ∃ y, ys[k] = y := ⟨_, rfl⟩
        rw [hx] at e1
        rw [hy] at e2
        by_cases hxy : x = y
        · have HNX : Hid (xs.take (k + 1) = ys.take (k + 1)) := take_succ_eq HT.out h1 h2 (by rw [hx, hy, hxy])
          have f1 : (x != y) = false := by rw [bne_eq_false_iff_eq]; exact hxy
          have k1 : (k : Int) < (n : Int) := by omega
          clear hx hy hxy h1 h2
          go_wp2_with fail
          go_quiet (fail)
          go_wp2_with fail
          go_roundg (gk - 1)
          case measure => have := HG.out; omega
          case rel => exact ⟨k + 1, by go_num, by omega, by have := HG.out; show gk - 1 + (k + 1) = n; omega, ⟨_, by rw [HQ.out, World.drewN_drewN]⟩, HNX.out⟩
        · have HF : Hid ((xs == ys) = false) := by
            show (xs == ys) = false
            rw [beq_eq_false_iff_ne]
            intro e
            apply hxy
            rw [← hx, ← hy]
            simp only [e]
          have f1 : (x != y) = true := by rw [bne_iff_ne]; exact hxy
          have k1 : (k : Int) < (n : Int) := by omega
          clear hx hy hxy h1 h2
          go_wp2_with fail
          go_quiet (fail)
          go_wp2_with fail
          go_ret
          exact ⟨by rw [HF.out]; rfl, _, by rw [HQ.out, World.drewN_drewN]⟩
      · have HF : Hid ((xs == ys) = true) := by
          show (xs == ys) = true
          rw [beq_iff_eq]
          have h1 := HT.out
          have h2 := HN.out
          have h3 := HM.out
          rw [List.take_of_length_le (by omega), List.take_of_length_le (by omega)] at h1
          exact h1
        go_wp2_with fail
        go_ret
        exact ⟨by rw [HF.out]; rfl, q, HQ.out⟩
  · have HF : Hid ((xs == ys) = false) := by
      show (xs == ys) = false
      rw [beq_eq_false_iff_ne]
      intro e
      apply hnm
      rw [← hn, ← hm, e]
    have f0 : ((n : Int) != (m : Int)) = true := by rw [bne_iff_ne]; omega
    clear hx hy hn hm hnm
    go_enter Try.func50, Try.ntmps50
    go_wp2_with fail
    go_ret
    exact ⟨by rw [HF.out]; rfl, 0, rfl⟩
end Go.Proofs.Ytbmlkomfelkckaa
