/- bound's formed and changes. -/
import Derived.Test.YtbmlkomfelkckaaWith
import Derived.Test.YtbmlkomfelkckaaTree
import Derived.Test.YtbmlkomfelkckaaFit2
namespace Go.Proofs.Ytbmlkomfelkckaa
open Go Go.RowKit
set_option maxRecDepth 100000

/-- A tree on the leaves 0 .. n-1. -/
structure NT.On (T : NT) (n : Nat) : Prop where
  nodup : T.leaves.Nodup
  lt : ∀ k ∈ T.leaves, k < n
  len : T.leaves.length = n
  pos : 1 ≤ n
  few : n ≤ 12

theorem NT.On.size {T : NT} {n : Nat} (h : T.On n) : T.size = 2 * n - 1 := by
  have := size_leaves T
  have := h.len
  omega

theorem NT.On.root {T : NT} {n : Nat} (h : T.On n) : rdRoot (n : Int) (T.form 0) = some T.norm :=
  rdRoot_form h.nodup (fun k hk => by have := h.lt k hk; omega) (by have := h.pos; omega) (by have := h.few; omega) (by have := h.len; omega)

set_option maxHeartbeats 1000000 in
theorem formed_calls (g c n : Nat) (T : NT) (w : World) (hT : T.On n) (hf : FAt w g c (T.form 0)) :
    Calls Try.prog 75 #[.slice (some ⟨g, 0, none⟩) T.size c] w (RetN w T.norm) := by
  have hz := hT.size
  have h1 := hT.pos
  have h2 := hT.few
  have HF := Lib.hid (form_calls (some ⟨g, 0, none⟩) T.size c (T.form 0) (n : Int) w hf.rd (NT.form_length T 0) (by omega) (by omega) (by omega))
  rw [hT.root] at HF
  have HS : Hid (T.norm.size = T.size) := norm_size T
  have hq : ((T.size : Int) + 1) / 2 = (n : Int) := by omega
  have hTI : (T.size : Int) ≤ 23 := by omega
  have pT := T.norm.size_pos
  clear hf hT hz h1 h2
  go_enter Try.func75, Try.ntmps75
  go_wp2_with fail
  refine HF.out.mono ?_
  rintro e w1 ⟨hb, A1, c1, rfl, ho⟩
  obtain ⟨g', he, -, -, hf'⟩ := FAt.own ho pT
  subst he
  have HFF := Lib.hid hf'
  have HB := Lib.hid hb
  clear hb ho hf'
  go_wp2_with fail
  go_ret
  exact ⟨g', c1, rfl, HFF.out.below (below_alloc _ _), Below.then HB.out HB.out.size (below_alloc _ _)⟩

set_option maxHeartbeats 1000000 in
theorem bchanges_calls (g c : Nat) (T : NT) (A2 : Option Addr) (n2 c2 : Nat) (rows : List (List Int)) (w : World) (hz : T.size ≤ 1000) (hf : FAt w g c (T.form 0)) (hr : RdRows w A2 rows) (hn : rows.length = n2) (hcap : n2 ≤ 9223372036854775807) :
    Calls Try.prog 79 #[.slice (some ⟨g, 0, none⟩) T.size c, .slice A2 n2 c2] w fun e w' => e = .returned (.int .i64 (sumNum (T.form 0) rows : Int)) ∧ Below w.heap.size w w' := by
  have HS := Lib.hid (sum_calls (some ⟨g, 0, none⟩) T.size c (T.form 0) A2 n2 c2 rows w ⟨hf.rd, NT.form_length T 0, by omega, hr, hn, hcap⟩)
  clear hf hr hn
  go_enter Try.func79, Try.ntmps79
  go_wp2_with fail
  refine HS.out.mono ?_
  rintro e w1 ⟨rfl, hb⟩
  go_wp2_with fail
  go_ret
  exact ⟨rfl, hb⟩
end Go.Proofs.Ytbmlkomfelkckaa
