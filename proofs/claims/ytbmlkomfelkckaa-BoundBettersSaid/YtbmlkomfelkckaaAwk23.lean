/- Law 23's awake: three rows of two states. -/
import Derived.Test.YtbmlkomfelkckaaGrow
import Derived.Test.YtbmlkomfelkckaaLow
import Derived.Outline
namespace Go.Proofs.Ytbmlkomfelkckaa
open Go Go.RowKit
set_option maxRecDepth 100000

def awkRows : List (List Int) := [[0], [1], [1]]

theorem awk_ok : matOk awkRows = true := by kernel_rfl
theorem awk_low : lowNum awkRows = 1 := by kernel_rfl
theorem awk_err : errMat awkRows = 0 := by kernel_rfl
theorem awk_tree : (growN awkRows 2).size = 5 := by kernel_rfl
theorem awk_cost : costOf awkRows 3 (growN awkRows 2) = 1 := by kernel_rfl

theorem rdInt_new1 (w : World) (x : Int) : RdInt (w.alloc (.cells #[.int .i64 x] 3)) (some ⟨w.heap.size, 0, none⟩) [x] := by
  intro i y hi
  match i, hi with
  | 0, hi =>
    obtain rfl : x = y := by simpa using hi
    exact ⟨_, rfl, by rw [add_plain]; exact new_cell w _ _ 0⟩

set_option maxHeartbeats 1000000 in
theorem awake23 (w : World) : Calls Try.prog 39 #[] w fun e w' => e = .returned (.bool true) ∧ Below w.heap.size w w' := by
  have b1 := below_alloc w (.cells #[.int .i64 0] 3)
  have b2 := below_alloc (w.alloc (.cells #[.int .i64 0] 3)) (.cells #[.int .i64 1] 3)
  have b3 := below_alloc ((w.alloc (.cells #[.int .i64 0] 3)).alloc (.cells #[.int .i64 1] 3)) (.cells #[.int .i64 1] 3)
  have b4 := below_alloc (((w.alloc (.cells #[.int .i64 0] 3)).alloc (.cells #[.int .i64 1] 3)).alloc (.cells #[.int .i64 1] 3)) (.cells #[.slice (some ⟨w.heap.size, 0, none⟩) 1 1, .slice (some ⟨w.heap.size + 1, 0, none⟩) 1 1, .slice (some ⟨w.heap.size + 1 + 1, 0, none⟩) 1 1] 43)
  have b5 := below_alloc ((((w.alloc (.cells #[.int .i64 0] 3)).alloc (.cells #[.int .i64 1] 3)).alloc (.cells #[.int .i64 1] 3)).alloc (.cells #[.slice (some ⟨w.heap.size, 0, none⟩) 1 1, .slice (some ⟨w.heap.size + 1, 0, none⟩) 1 1, .slice (some ⟨w.heap.size + 1 + 1, 0, none⟩) 1 1] 43)) (.cells #[.slice (some ⟨w.heap.size + 1 + 1 + 1, 0, none⟩) 3 3] 36)
  have r0 := (((rdInt_new1 w 0).below b2).below b3).below b4
  have r1 := ((rdInt_new1 (w.alloc (.cells #[.int .i64 0] 3)) 1).below b3).below b4
  have r2 := (rdInt_new1 ((w.alloc (.cells #[.int .i64 0] 3)).alloc (.cells #[.int .i64 1] 3)) 1).below b4
  have q := new_cell (((w.alloc (.cells #[.int .i64 0] 3)).alloc (.cells #[.int .i64 1] 3)).alloc (.cells #[.int .i64 1] 3)) #[.slice (some ⟨w.heap.size, 0, none⟩) 1 1, .slice (some ⟨w.heap.size + 1, 0, none⟩) 1 1, .slice (some ⟨w.heap.size + 1 + 1, 0, none⟩) 1 1] 43
  simp only [World.size_alloc] at r1 r2 q
  have HR0 : RdRows ((((w.alloc (.cells #[.int .i64 0] 3)).alloc (.cells #[.int .i64 1] 3)).alloc (.cells #[.int .i64 1] 3)).alloc (.cells #[.slice (some ⟨w.heap.size, 0, none⟩) 1 1, .slice (some ⟨w.heap.size + 1, 0, none⟩) 1 1, .slice (some ⟨w.heap.size + 1 + 1, 0, none⟩) 1 1] 43)) (some ⟨w.heap.size + 1 + 1 + 1, 0, none⟩) awkRows := by
    intro i r hi
    match i, hi with
    | 0, hi =>
      obtain rfl : [0] = r := by simpa [awkRows] using hi
      exact ⟨_, _, 1, rfl, by rw [add_plain]; exact q 0, r0, by simp, by omega⟩
    | 1, hi =>
      obtain rfl : [1] = r := by simpa [awkRows] using hi
      exact ⟨_, _, 1, rfl, by rw [add_plain]; exact q 1, r1, by simp, by omega⟩
    | 2, hi =>
      obtain rfl : [1] = r := by simpa [awkRows] using hi
      exact ⟨_, _, 1, rfl, by rw [add_plain]; exact q 2, r2, by simp, by omega⟩
  have HR := Lib.hid (HR0.below b5)
  have c0 := new_cell ((((w.alloc (.cells #[.int .i64 0] 3)).alloc (.cells #[.int .i64 1] 3)).alloc (.cells #[.int .i64 1] 3)).alloc (.cells #[.slice (some ⟨w.heap.size, 0, none⟩) 1 1, .slice (some ⟨w.heap.size + 1, 0, none⟩) 1 1, .slice (some ⟨w.heap.size + 1 + 1, 0, none⟩) 1 1] 43)) #[.slice (some ⟨w.heap.size + 1 + 1 + 1, 0, none⟩) 3 3] 36 0
  have HB := Lib.hid (Below.then (Below.then (Below.then (Below.then b1 b1.size b2) (by simp; omega) b3) (by simp; omega) b4) (by simp; omega) b5)
  simp only [World.size_alloc] at c0
  clear b1 b2 b3 b4 b5 r0 r1 r2 q HR0
  go_enter Try.func39, Try.ntmps39
  go_wp2_with fail
  generalize hW : ((((w.alloc (.cells #[.int .i64 0] 3)).alloc (.cells #[.int .i64 1] 3)).alloc (.cells #[.int .i64 1] 3)).alloc (.cells #[.slice (some ⟨w.heap.size, 0, none⟩) 1 1, .slice (some ⟨w.heap.size + 1, 0, none⟩) 1 1, .slice (some ⟨w.heap.size + 1 + 1, 0, none⟩) 1 1] 43)).alloc (.cells #[.slice (some ⟨w.heap.size + 1 + 1 + 1, 0, none⟩) 3 3] 36) = W at *
  have hz : w.heap.size + 1 + 1 + 1 + 1 < W.heap.size := by rw [← hW]; simp
  clear hW
  have HL := low_calls (some ⟨w.heap.size + 1 + 1 + 1, 0, none⟩) 3 3 awkRows W HR.out rfl (by omega)
  rw [awk_low, awk_err] at HL
  have HLL := Lib.hid HL
  clear HL
  (with_reducible refine HLL.out.mono ?_)
  rintro e w1 ⟨rfl, hb1⟩
  have c0 := cell_below hb1 hz c0
  have HB1 := Lib.hid (Below.then HB.out HB.out.size hb1)
  have HG := Lib.hid (grow_all (some ⟨w.heap.size + 1 + 1 + 1, 0, none⟩) 3 3 awkRows w1 (HR.out.below hb1) rfl (by omega) (by omega))
  clear hb1 HLL
  go_wp2_with fail
  (with_reducible refine HG.out.mono ?_)
  rintro e w2 ⟨hb2, h2⟩
  rw [if_pos awk_ok] at h2
  obtain ⟨g, c, rfl, hf⟩ := h2
  have HB2 := Lib.hid (Below.then HB1.out HB1.out.size hb2)
  have HE : Hid (awkRows.length - 1 = 2 ∧ awkRows.length = 3) := ⟨rfl, rfl⟩
  rw [HE.out.1, HE.out.2, awk_tree, awk_cost]
  clear hb2 hf HG
  go_wp2_with fail
  go_ret
  exact ⟨rfl, Below.then HB2.out HB2.out.size (below_alloc _ _)⟩
end Go.Proofs.Ytbmlkomfelkckaa
