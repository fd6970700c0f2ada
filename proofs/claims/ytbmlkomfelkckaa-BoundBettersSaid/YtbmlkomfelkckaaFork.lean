/- tree.fork makes the node of two parts, the lesser key first. -/
import Derived.Test.YtbmlkomfelkckaaMem
import Derived.Deep.QuietTactic
import Derived.BigQuiet
import Derived.BigRegion
namespace Go.Proofs.Ytbmlkomfelkckaa
open Go Go.RowKit
set_option maxRecDepth 100000

/-- What a call that makes a node leaves. -/
def RetNd (w : World) (T : NT) (e : Ending) (w' : World) : Prop := ∃ b, e = .returned (.pointer (some ⟨b, 0, none⟩)) ∧ Nd w' T (.pointer (some ⟨b, 0, none⟩)) ∧ Below w.heap.size w w'

theorem retNd_fork {w : World} {x y : NT} {bx bz : Nat} (hx : Nd w x (.pointer (some ⟨bx, 0, none⟩))) (hy : Nd w y (.pointer (some ⟨bz, 0, none⟩))) (n : Nat) :
    RetNd w (.fork x y) (.returned (.pointer (some ⟨w.heap.size, 0, none⟩))) ((w.drewN n).alloc (.cells #[.int .i64 (x.key : Int), .pointer (some ⟨bx, 0, none⟩), .pointer (some ⟨bz, 0, none⟩)] 98)) := by
  have hb : Below w.heap.size w (w.drewN n) := ⟨rfl, rfl, rfl, Nat.le_refl _, fun _ _ => rfl⟩
  exact ⟨_, rfl, ⟨_, _, _, rfl, heap_alloc_new (w.drewN n) _, (hx.below hb).alloc _, (hy.below hb).alloc _⟩, hb.alloc (Nat.le_refl _) _⟩

set_option maxHeartbeats 400000 in
theorem fork_calls (x y : NT) (bx bz : Nat) (w : World) (hx : Nd w x (.pointer (some ⟨bx, 0, none⟩))) (hy : Nd w y (.pointer (some ⟨bz, 0, none⟩))) :
    Calls Try.prog 57 #[.pointer (some ⟨bx, 0, none⟩), .pointer (some ⟨bz, 0, none⟩)] w (RetNd w (mkFork x y)) := by
  obtain ⟨b1, pa, pb, hp, h1⟩ := hx.top
  obtain rfl : bx = b1 := by simpa using hp
  obtain ⟨b2, pc, pd, hp, h2⟩ := hy.top
  obtain rfl : bz = b2 := by simpa using hp
  clear hp
  have c1 : w.cell? ⟨bx, 0, none⟩ = some (.int .i64 (x.key : Int)) := Nd.cell h1 0
  have c2 : w.cell? ⟨bz, 0, none⟩ = some (.int .i64 (y.key : Int)) := Nd.cell h2 0
  clear h1 h2
  by_cases hlt : y.key < x.key
  · have hlt' : (y.key : Int) < x.key := by omega
    go_enter Try.func57, Try.ntmps57
    go_wp2
    go_quiet (fail)
    go_wp2
    go_ret
    rw [show mkFork x y = .fork y x by unfold mkFork; rw [if_pos hlt]]
    exact retNd_fork hy hx _
  · have hlt' : ¬ (y.key : Int) < x.key := by omega
    go_enter Try.func57, Try.ntmps57
    go_wp2
    go_quiet (fail)
    go_wp2
    go_ret
    rw [show mkFork x y = .fork x y by unfold mkFork; rw [if_neg hlt]]
    exact retNd_fork hx hy _
end Go.Proofs.Ytbmlkomfelkckaa
