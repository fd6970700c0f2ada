/- (*node).hung: a leaf hung at a branch. -/
import Derived.Test.YtbmlkomfelkckaaFork
import Derived.Test.YtbmlkomfelkckaaHangP
namespace Go.Proofs.Ytbmlkomfelkckaa
open Go Go.RowKit
set_option maxRecDepth 100000

/-- What hung leaves. -/
def RetHung (w : World) (T : NT) (n : Nat) (e : Ending) (w' : World) : Prop := ∃ b, e = .returned (.tuple #[.pointer (some ⟨b, 0, none⟩), .int .i64 (n : Int)]) ∧ Nd w' T (.pointer (some ⟨b, 0, none⟩)) ∧ Below w.heap.size w w'

set_option maxHeartbeats 2000000 in
theorem hung_calls (k : Nat) (T : NT) : ∀ (p : Int) (w : World) (b : Nat), T.size ≤ 100 → (T.size : Int) ≤ p + 1000 → p ≤ 1000 → Nd w T (.pointer (some ⟨b, 0, none⟩)) →
    Calls Try.prog 100 #[.pointer (some ⟨b, 0, none⟩), .int .i64 p, .int .i64 (k : Int)] w (RetHung w (T.hung p k) T.size) := by
  induction T with
  | leaf j =>
    intro p w b hz hp1 hp2 hn
    obtain ⟨b', hp, hc⟩ := id hn
    obtain rfl : b = b' := by simpa using hp
    have hb0 := below_alloc w (.cells #[.int .i64 (k : Int), .pointer none, .pointer none] 98)
    have hlt := (Array.getElem?_eq_some_iff.1 hc).1
    have c1 : (w.alloc (.cells #[.int .i64 (k : Int), .pointer none, .pointer none] 98)).cell? ⟨b, 1, none⟩ = some (.pointer none) := cell_below hb0 hlt (Nd.cell hc 1)
    have HN := Lib.hid (hn.below hb0)
    have HL : Hid (Nd (w.alloc (.cells #[.int .i64 (k : Int), .pointer none, .pointer none] 98)) (.leaf k) (.pointer (some ⟨w.heap.size, 0, none⟩))) := ⟨_, rfl, heap_alloc_new w _⟩
    have HB := Lib.hid hb0
    clear hn hp hc hb0 hlt
    by_cases h0 : p = 0
    · subst h0
      have HF := Lib.hid (fork_calls _ _ _ _ _ HN.out HL.out)
      go_enter Try.func100, Try.ntmps100
      go_wp2_with fail
      (with_reducible refine HF.out.mono ?_)
      rintro e w1 ⟨b1, rfl, hn1, hb1⟩
      have HN1 := Lib.hid hn1
      have HB1 := Lib.hid (Below.then HB.out HB.out.size hb1)
      clear hn1 hb1
      go_wp2_with fail
      go_ret2
      exact ⟨b1, rfl, HN1.out, HB1.out⟩
    · have f0 : (p == 0) = false := by rw [beq_eq_false_iff_ne]; exact h0
      have HE : Hid ((NT.leaf j).hung p k = .leaf j) := by
        show NT.hung _ _ _ = _
        unfold NT.hung
        rw [if_neg h0]
      rw [HE.out]
      clear h0
      go_enter Try.func100, Try.ntmps100
      go_wp2_with fail
      go_ret2
      exact ⟨b, rfl, HN.out, HB.out⟩
  | fork x y ihx ihy =>
    intro p w b hz hp1 hp2 hn
    obtain ⟨b', px, py, hp, hc, hx, hy⟩ := id hn
    obtain rfl : b = b' := by simpa using hp
    obtain ⟨bx, _, _, rfl, _⟩ := hx.top
    obtain ⟨bz, _, _, rfl, _⟩ := hy.top
    have hxs := x.size_pos
    have hys := y.size_pos
    have hz' : x.size + y.size + 1 ≤ 100 := hz
    have hpz : (x.size : Int) + y.size + 1 ≤ p + 1000 := by simpa [NT.size] using hp1
    have hb0 := below_alloc w (.cells #[.int .i64 (k : Int), .pointer none, .pointer none] 98)
    have hlt := (Array.getElem?_eq_some_iff.1 hc).1
    have c1 : (w.alloc (.cells #[.int .i64 (k : Int), .pointer none, .pointer none] 98)).cell? ⟨b, 1, none⟩ = some (.pointer (some ⟨bx, 0, none⟩)) := cell_below hb0 hlt (Nd.cell hc 1)
    have c2 : (w.alloc (.cells #[.int .i64 (k : Int), .pointer none, .pointer none] 98)).cell? ⟨b, 2, none⟩ = some (.pointer (some ⟨bz, 0, none⟩)) := cell_below hb0 hlt (Nd.cell hc 2)
    have HN := Lib.hid (hn.below hb0)
    have HY := Lib.hid (hy.below hb0)
    have HL : Hid (Nd (w.alloc (.cells #[.int .i64 (k : Int), .pointer none, .pointer none] 98)) (.leaf k) (.pointer (some ⟨w.heap.size, 0, none⟩))) := ⟨_, rfl, heap_alloc_new w _⟩
    have HIX := Lib.hid (ihx p _ bx (by omega) (by omega) hp2 (hx.below hb0))
    have HIY := Lib.hid (fun (W : World) (h : Nd W y (.pointer (some ⟨bz, 0, none⟩))) => ihy (p - x.size) W bz (by omega) (by omega) (by omega) h)
    have HB := Lib.hid hb0
    have hlt0 : b < (w.alloc (.cells #[.int .i64 (k : Int), .pointer none, .pointer none] 98)).heap.size := by simp; omega
    clear hn hp hc hb0 hlt hx hy ihx ihy hz hp1
    by_cases h0 : p = (x.size : Int) + y.size
    · have f0 : (p == (x.size : Int) + y.size) = true := by rw [beq_iff_eq]; exact h0
      have HE : Hid ((NT.fork x y).hung p k = mkFork (.fork x y) (.leaf k)) := by
        show NT.hung _ _ _ = _
        unfold NT.hung
        rw [if_pos h0]
      rw [HE.out]
      clear h0 HE
      go_enter Try.func100, Try.ntmps100
      go_wp2_with fail
      (with_reducible refine HIX.out.mono ?_)
      rintro e w1 ⟨b1, rfl, hn1, hb1⟩
      have c2 := cell_below hb1 hlt0 c2
      have HY1 := Lib.hid (HIY.out _ (HY.out.below hb1))
      have HB1 := Lib.hid (Below.then HB.out HB.out.size hb1)
      have HN1 := Lib.hid (HN.out.below hb1)
      have HL1 := Lib.hid (HL.out.below hb1)
      clear hn1 hb1 c1
      go_wp2_with fail
      (with_reducible refine HY1.out.mono ?_)
      rintro e w2 ⟨b2, rfl, hn2, hb2⟩
      have HB2 := Lib.hid (Below.then HB1.out HB1.out.size hb2)
      have HF := Lib.hid (fork_calls _ _ _ _ _ (HN1.out.below hb2) (HL1.out.below hb2))
      clear hn2 hb2 c2
      go_wp2_with fail
      (with_reducible refine HF.out.mono ?_)
      rintro e w3 ⟨b3, rfl, hn3, hb3⟩
      have HN3 := Lib.hid hn3
      have HB3 := Lib.hid (Below.then HB2.out HB2.out.size hb3)
      clear hn3 hb3
      go_wp2_with fail
      go_ret2
      exact ⟨b3, by rw [show ((NT.fork x y).size : Int) = (x.size : Int) + y.size + 1 by simp [NT.size]]; rfl, HN3.out, HB3.out⟩
    · have f0 : (p == (x.size : Int) + y.size) = false := by rw [beq_eq_false_iff_ne]; exact h0
      have HE : Hid ((NT.fork x y).hung p k = mkFork (x.hung p k) (y.hung (p - x.size) k)) := by
        show NT.hung _ _ _ = _
        conv => lhs; unfold NT.hung
        rw [if_neg h0]
      rw [HE.out]
      clear h0 HE
      go_enter Try.func100, Try.ntmps100
      go_wp2_with fail
      (with_reducible refine HIX.out.mono ?_)
      rintro e w1 ⟨b1, rfl, hn1, hb1⟩
      have c2 := cell_below hb1 hlt0 c2
      have HY1 := Lib.hid (HIY.out _ (HY.out.below hb1))
      have HB1 := Lib.hid (Below.then HB.out HB.out.size hb1)
      have HX1 := Lib.hid hn1
      clear hn1 hb1 c1 HN HL
      go_wp2_with fail
      (with_reducible refine HY1.out.mono ?_)
      rintro e w2 ⟨b2, rfl, hn2, hb2⟩
      have HB2 := Lib.hid (Below.then HB1.out HB1.out.size hb2)
      have HF := Lib.hid (fork_calls _ _ _ _ _ (HX1.out.below hb2) hn2)
      clear hn2 hb2 c2
      go_wp2_with fail
      (with_reducible refine HF.out.mono ?_)
      rintro e w3 ⟨b3, rfl, hn3, hb3⟩
      have HN3 := Lib.hid hn3
      have HB3 := Lib.hid (Below.then HB2.out HB2.out.size hb3)
      clear hn3 hb3
      go_wp2_with fail
      go_ret2
      exact ⟨b3, by rw [show ((NT.fork x y).size : Int) = (x.size : Int) + y.size + 1 by simp [NT.size]]; rfl, HN3.out, HB3.out⟩
end Go.Proofs.Ytbmlkomfelkckaa
