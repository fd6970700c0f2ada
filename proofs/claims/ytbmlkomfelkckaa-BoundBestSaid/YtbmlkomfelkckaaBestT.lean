/- stemma.Best. -/
import Derived.Test.YtbmlkomfelkckaaLeastW
namespace Go.Proofs.Ytbmlkomfelkckaa
open Go Go.RowKit
set_option maxRecDepth 100000

/-- The trees with the least changes, and how many. -/
def bestAll (rows : List (List Int)) : LS := lfold (fun T => sumNum (T.form 0) rows) (treesOf (rows.length : Int))

/-- What Best leaves. -/
def RetBestT (w : World) (rows : List (List Int)) (e : Ending) (w' : World) : Prop :=
  Below w.heap.size w w' ∧ if matOk rows = true then
      if rows.length ≤ 7 then ∃ A c vs, e = .returned (.tuple #[.slice A (bestAll rows).l.length c, .int .i64 (lowI (bestAll rows).low), .int .i64 0]) ∧ TreesAt w' w.heap.size (.slice A (bestAll rows).l.length c) (bestAll rows).l vs
      else e = .returned (.tuple #[.slice none 0 0, .int .i64 0, .int .i64 220])
    else e = .returned (.tuple #[.slice none 0 0, .int .i64 0, .int .i64 190])

theorem TreesAt.mono {W : World} {base base' : Nat} {v : Value} {L : List NT} {vs : List Value} (h : TreesAt W base v L vs) (hb : base' ≤ base) : TreesAt W base' v L vs :=
  ⟨own_mono h.own hb, fun i T hi => by obtain ⟨u, h1, A, c, h2, h3⟩ := h.rows i T hi; exact ⟨u, h1, A, c, h2, own_mono h3 hb⟩⟩

set_option maxHeartbeats 2000000 in
theorem best_calls (A2 : Option Addr) (n2 c2 : Nat) (rows : List (List Int)) (w : World) (hr : RdRows w A2 rows) (hn : rows.length = n2) (hcap : n2 ≤ 9223372036854775807) :
    Calls Try.prog 27 #[.agg #[.slice A2 n2 c2]] w (RetBestT w rows) := by
  have HMC := Lib.hid (fun (W : World) (h : Below w.heap.size w W) => mcheck_calls A2 n2 c2 rows W (hr.below h) hn hcap)
  have hb0 := below_alloc w (.cells #[.slice A2 n2 c2] 36)
  have c0 := new_cell w #[.slice A2 n2 c2] 36 0
  have hz : w.heap.size < (w.alloc (.cells #[.slice A2 n2 c2] 36)).heap.size := by simp
  have HB0 := Lib.hid hb0
  clear hb0
  by_cases hm : matOk rows = true
  · have he : errMat rows = 0 := by unfold errMat; rw [if_pos hm]
    rw [he] at HMC
    by_cases h7 : n2 ≤ 7
    · have HIF : Hid (∀ e w', (Below w.heap.size w w' ∧ ∃ A c vs, e = .returned (.tuple #[.slice A (bestAll rows).l.length c, .int .i64 (lowI (bestAll rows).low), .int .i64 0]) ∧ TreesAt w' w.heap.size (.slice A (bestAll rows).l.length c) (bestAll rows).l vs) → RetBestT w rows e w') := by
        refine Lib.hid fun e w' h => ⟨h.1, ?_⟩
        rw [if_pos hm, if_pos (by omega)]
        exact h.2
      have h7I : ¬ (n2 : Int) > 7 := by omega
      have HL : Hid (∀ (W : World) (bl : Nat), Below w.heap.size w W → W.cell? ⟨bl, 0, none⟩ = some (.int .i64 (n2 : Int)) → W.cell? ⟨w.heap.size, 0, none⟩ = some (.slice A2 n2 c2) →
          Calls Try.prog 62 #[.func (.func 65) #[] #[.pointer (some ⟨bl, 0, none⟩)], .func (.func 63) #[] #[.pointer (some ⟨w.heap.size, 0, none⟩)]] W
            fun e w' => Below W.heap.size W w' ∧ ∃ A c vs, e = .returned (.tuple #[.slice A (bestAll rows).l.length c, .int .i64 (lowI (bestAll rows).low)]) ∧ TreesAt w' W.heap.size (.slice A (bestAll rows).l.length c) (bestAll rows).l vs) := by
        refine Lib.hid fun W bl hW hbl hM => ?_
        have := callsIn_wide.1 (least_in 0 bl w.heap.size n2 c2 (n2 : Int) A2 rows W (by omega) hbl hM (hr.below hW) hn hcap)
        refine this.mono fun e w' h => ⟨h.1, ?_⟩
        obtain ⟨A, c, vs, h1, h2⟩ := h.2
        rw [← hn] at h1 h2
        exact ⟨A, c, vs, h1, h2.mono (by omega)⟩
      have HAL := Lib.hid (fun (W : World) => allval_calls (n2 : Int) W)
      clear hm he hn hr h7
      go_enter Try.func27, Try.ntmps27
      go_wp2_with fail
      refine (HMC.out _ HB0.out).mono ?_
      rintro e w1 ⟨rfl, hb⟩
      have c0 := cell_below hb hz c0
      have HB1 := Lib.hid (Below.then HB0.out HB0.out.size hb)
      have hz1 := Nat.lt_of_lt_of_le hz hb.size
      clear hb hz
      go_wp2_with fail
      (with_reducible refine (HAL.out _).mono ?_)
      rintro e w2 ⟨rfl, rfl⟩
      have hb2 := below_alloc w1 (.cells #[.int .i64 (n2 : Int)] 3)
      have HC := Lib.hid (HL.out _ w1.heap.size (Below.then HB1.out HB1.out.size hb2) (new_cell w1 _ _ 0) (cell_below hb2 hz1 c0))
      have HB2 := Lib.hid (Below.then HB1.out HB1.out.size hb2)
      clear hb2 HL HAL
      go_wp2_with fail
      (with_reducible refine HC.out.mono ?_)
      rintro e w3 ⟨hb3, A, c, vs, rfl, ht⟩
      have HB3 := Lib.hid (Below.then HB2.out HB2.out.size hb3)
      have HT := Lib.hid (ht.mono HB2.out.size)
      clear hb3 ht HC
      go_wp2_with fail
      go_ret3
      exact HIF.out _ _ ⟨HB3.out, A, c, vs, rfl, HT.out⟩
    · have HIF : Hid (∀ w', Below w.heap.size w w' → RetBestT w rows (.returned (.tuple #[.slice none 0 0, .int .i64 0, .int .i64 220])) w') := by
        refine Lib.hid fun w' h => ⟨h, ?_⟩
        rw [if_pos hm, if_neg (by omega)]
      have h7I : (n2 : Int) > 7 := by omega
      clear hm he hn hr h7
      go_enter Try.func27, Try.ntmps27
      go_wp2_with fail
      refine (HMC.out _ HB0.out).mono ?_
      rintro e w1 ⟨rfl, hb⟩
      have c0 := cell_below hb hz c0
      have HB1 := Lib.hid (Below.then HB0.out HB0.out.size hb)
      clear hb hz
      go_wp2_with fail
      go_ret3
      exact HIF.out _ HB1.out
  · have he : errMat rows = 190 := by unfold errMat; rw [if_neg hm]
    rw [he] at HMC
    have HIF : Hid (∀ w', Below w.heap.size w w' → RetBestT w rows (.returned (.tuple #[.slice none 0 0, .int .i64 0, .int .i64 190])) w') := by
      refine Lib.hid fun w' h => ⟨h, ?_⟩
      rw [if_neg hm]
    clear hm he hn hr
    go_enter Try.func27, Try.ntmps27
    go_wp2_with fail
    refine (HMC.out _ HB0.out).mono ?_
    rintro e w1 ⟨rfl, hb⟩
    have HB1 := Lib.hid (Below.then HB0.out HB0.out.size hb)
    clear hb hz
    go_wp2_with fail
    go_ret3
    exact HIF.out _ HB1.out
end Go.Proofs.Ytbmlkomfelkckaa
