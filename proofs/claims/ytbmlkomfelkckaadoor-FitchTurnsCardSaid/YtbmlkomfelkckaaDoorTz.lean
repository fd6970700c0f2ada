/- math/bits.TrailingZeros of a small set: its least state. -/
import Derived.Test.YtbmlkomfelkckaaDoorMem
namespace Go.Proofs.YtbmlkomfelkckaaDoor
open Go Go.RowKit
set_option maxRecDepth 100000

/-- The table that math/bits reads: what stands at each place. -/
def tzTab : List Int := [0, 1, 56, 2, 57, 49, 28, 3, 61, 58, 42, 50, 38, 29, 17, 4, 62, 47, 59, 36, 45, 43, 51, 22, 53, 39, 33, 30, 24, 18, 12, 5, 63, 55, 48, 27, 60, 41, 37, 16, 46, 35, 44, 21, 52, 32, 23, 11, 54, 26, 40, 15, 34, 20, 31, 10, 25, 14, 19, 9, 13, 8, 7, 6]

/-- The table lies in this world. -/
def Tz (w : World) : Prop := ∀ (j : Nat) (v : Int), tzTab[j]? = some v → w.cell? ⟨1, j, none⟩ = some (.int .u8 v)

theorem Tz.below {w w' : World} (h : Tz w) (hb : Below w.heap.size w w') : Tz w' := fun j v hj => (hb.cell (World.block_lt_of_cell? w _ (h j v hj))).trans (h j v hj)

/-- The least state of a set. -/
def low (x : Nat) : Nat := ((List.range 12).find? fun k => x.testBit k).getD 0

def tzAt (x : Nat) : Int := IntKind.u64.wrap (bits BinOp.and IntKind.u64 (x : Int) (IntKind.u64.wrap (-(x : Int))) * 285870213051353865) / 288230376151711744

theorem tz_all : (List.range 4096).all (fun x => x == 0 || (decide (0 ≤ tzAt x) && decide (tzAt x < 64) && (tzTab[(tzAt x).toNat]? == some (low x : Int)))) = true := by decide +kernel

theorem tz_at (x : Nat) (h0 : 0 < x) (h1 : x < 4096) : ∃ i : Nat, tzAt x = (i : Int) ∧ i < 64 ∧ tzTab[i]? = some (low x : Int) := by
  have h := List.all_eq_true.1 tz_all x (List.mem_range.2 h1)
  simp only [Bool.or_eq_true, Bool.and_eq_true, decide_eq_true_eq, beq_iff_eq] at h
  rcases h with h | ⟨⟨ha, hb⟩, hc⟩
  · omega
  · exact ⟨(tzAt x).toNat, by omega, by omega, hc⟩

theorem low_lt (x : Nat) : low x < 12 := by
  unfold low
  cases h : (List.range 12).find? fun k => x.testBit k with
  | none => decide
  | some k => exact List.mem_range.1 (List.mem_of_find?_eq_some h)

set_option maxHeartbeats 400000 in
theorem tz64_calls (x : Nat) (w : World) (h0 : 0 < x) (h1 : x < 4096) (ht : Tz w) :
    Calls Tryd.prog 39 #[.int .u64 (x : Int)] w fun e w' => e = .returned (.int .i64 (low x : Int)) ∧ w' = w := by
  have b0 : ((x : Int) == 0) = false := by rw [beq_eq_false_iff_ne]; omega
  obtain ⟨i, hi, hi2, hi3⟩ := tz_at x h0 h1
  have hc := ht i _ hi3
  have hl := low_lt x
  obtain ⟨t, htt⟩ : ∃ t, low x = t := ⟨_, rfl⟩
  rw [htt] at hc hl ⊢
  unfold tzAt at hi
  clear hi3 htt ht
  go_enter Tryd.func39, Tryd.ntmps39
  go_wp2_with fail
  go_ret
  exact ⟨rfl, rfl⟩

set_option maxHeartbeats 400000 in
theorem tz_calls (x : Nat) (w : World) (h0 : 0 < x) (h1 : x < 4096) (ht : Tz w) :
    Calls Tryd.prog 30 #[.int .u64 (x : Int)] w fun e w' => e = .returned (.int .i64 (low x : Int)) ∧ w' = w := by
  have H := Lib.hid (tz64_calls x w h0 h1 ht)
  clear ht
  go_enter Tryd.func30, Tryd.ntmps30
  go_wp2_with fail
  refine H.out.mono ?_
  rintro e w' ⟨rfl, rfl⟩
  go_wp2_with fail
  go_ret
  exact ⟨rfl, rfl⟩
end Go.Proofs.YtbmlkomfelkckaaDoor
