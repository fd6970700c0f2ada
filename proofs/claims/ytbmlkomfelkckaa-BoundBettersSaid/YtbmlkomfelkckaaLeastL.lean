/- siglumref20.least: the least of some leaves. -/
import Derived.Test.YtbmlkomfelkckaaBelow
namespace Go.Proofs.Ytbmlkomfelkckaa
open Go Go.RowKit
set_option maxRecDepth 100000

theorem rdInt_leaves {w : World} {base n c : Nat} {A : Option Addr} {l : List Nat} (h : w.ownsRow base 3 1 (.slice A n c) n (leafCells l)) : RdInt w A (l.map fun k : Nat => (k : Int)) := by
  have hl : (leafCells l).length = n := by have := h.1; omega
  intro i x hi
  have hin := (List.getElem?_eq_some_iff.1 hi).1
  rw [leafCells, List.length_map] at hl
  rw [List.length_map] at hin
  obtain ⟨g, rfl, _, _, hc⟩ := own_at h (by omega)
  refine ⟨_, rfl, hc i _ ?_⟩
  rw [List.getElem?_map] at hi
  obtain ⟨k, hk, rfl⟩ := Option.map_eq_some_iff.1 hi
  simp [leafCells, hk]

theorem least_calls (A : Option Addr) (n c : Nat) (l : List Nat) (w : World) (hr : RdInt w A (l.map fun k : Nat => (k : Int))) (hl : l.length = n) (h0 : 0 < n) (hcn : n ≤ 1000000000) :
    Calls Try.prog 112 #[.slice A n c] w fun e w' => e = .returned (.int .i64 (minL l : Int)) ∧ w' = w := by
  have HR := Lib.hid hr
  have HL := Lib.hid hl
  obtain ⟨z, hz⟩ : ∃ z, l[0]? = some z := ⟨_, List.getElem?_eq_getElem (by omega)⟩
  obtain ⟨ad0, rfl, e0⟩ := hr 0 (z : Int) (by rw [List.getElem?_map, hz]; rfl)
  have a0 : ad0.add 0 = ad0 := by unfold Addr.add; cases ad0; split <;> simp_all
  rw [a0] at e0
  have HZ : Hid (z = minL (l.take 1)) := by
    refine Lib.hid ?_
    cases l with
    | nil => simp at hz
    | cons y ys => simpa [minL, eq_comm] using hz
  have hnI : (0 : Int) < (n : Int) := by omega
  clear hr hl hz
  go_enter Try.func112, Try.ntmps112
  go_wp2_with fail
  go_loopg [3, 4] n (fun gk v3 v4 wr => ∃ k m : Nat, v4 = .int .i64 k ∧ v3 = .int .i64 m ∧ k ≤ n ∧ 0 < k ∧ Hid (gk + k = n + 1) ∧ Hid (wr = w) ∧ Hid (m = minL (l.take k)))
  case atStart => exact ⟨1, z, rfl, rfl, h0, by omega, rfl, rfl, HZ.out⟩
  case round =>
    obtain ⟨k, m, rfl, rfl, hk, hk0, HG, HW, HM⟩ := hrel
    by_cases hkn : k < n
    · obtain ⟨y, hy⟩ : ∃ y, l[k]? = some y := ⟨_, List.getElem?_eq_getElem (by have := HL.out; omega)⟩
      obtain ⟨ad, he, e1⟩ := HR.out k (y : Int) (by rw [List.getElem?_map, hy]; rfl)
      obtain rfl : ad0 = ad := by simpa using he
      rw [← HW.out] at e1
      have k1 : (k : Int) < (n : Int) := by omega
      have HN : Hid (min m y = minL (l.take (k + 1))) := by
        refine Lib.hid ?_
        have := HL.out
        obtain ⟨hlt, hy⟩ := List.getElem?_eq_some_iff.1 hy
        rw [List.take_succ_eq_append_getElem (by omega), hy, minL_snoc, ← HM.out]
        intro h
        have := congrArg List.length h
        rw [List.length_take, List.length_nil] at this
        omega
      clear he hy
      go_wp2_with fail
      · go_roundg (gk - 1)
        case measure => have := HG.out; omega
        case rel => exact ⟨k + 1, y, by go_num, rfl, by omega, by omega, by have := HG.out; show gk - 1 + (k + 1) = n + 1; omega, HW.out, by rw [← HN.out, Nat.min_eq_right (by omega)]; exact rfl⟩
      · go_roundg (gk - 1)
        case measure => have := HG.out; omega
        case rel => exact ⟨k + 1, m, by go_num, rfl, by omega, by omega, by have := HG.out; show gk - 1 + (k + 1) = n + 1; omega, HW.out, by rw [← HN.out, Nat.min_eq_left (by omega)]; exact rfl⟩
    · have HF : Hid (m = minL l) := by
        refine Lib.hid ?_
        have := HL.out
        rw [HM.out, List.take_of_length_le (by omega)]
      go_wp2_with fail
      go_ret
      exact ⟨by rw [HF.out]; rfl, HW.out⟩
end Go.Proofs.Ytbmlkomfelkckaa
