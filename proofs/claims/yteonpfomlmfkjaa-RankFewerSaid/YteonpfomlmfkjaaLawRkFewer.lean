/- Law RankFewer: fewer arcs, no higher rank. -/
import Derived.Test.YteonpfomlmfkjaaRkAwk
import Derived.BigQuiet
import Derived.Deep.QuietTactic
namespace Go.Proofs.Yteonpfomlmfkjaa
open Go Go.RowKit
set_option maxRecDepth 100000

theorem RdArcs.take {w : World} {A : Option Addr} {l : List (Int × Int)} (h : RdArcs w A l) (n : Nat) : RdArcs w A (l.take n) := by
  intro k a hk
  rw [List.getElem?_take] at hk
  split at hk
  · exact h k a hk
  · cases hk

theorem ranks_code (z : Int) (arcs : List (Int × Int)) : ((ranksOf z arcs).1 = 0 ∧ arcsOk z arcs ∧ (kahn z.toNat arcs z.toNat).length = z.toNat ∧ (ranksOf z arcs).2 = (nodes z.toNat).map (rank z.toNat arcs)) ∨ ((ranksOf z arcs).1 ≠ 0 ∧ (ranksOf z arcs).2 = []) := by
  unfold ranksOf
  split
  · rename_i hok
    split
    · rename_i hf
      exact .inl ⟨rfl, hok, hf, rfl⟩
    · exact .inr ⟨by decide, rfl⟩
  · exact .inr ⟨by decide, rfl⟩

theorem ranks_fewer {z : Int} {arcs : List (Int × Int)} (hok : arcsOk z arcs) (hf : (kahn z.toNat arcs z.toNat).length = z.toNat) (k : Nat) : ranksOf z (arcs.take k) = (0, (nodes z.toNat).map (rank z.toNat (arcs.take k))) := by
  have hsub : ∀ a ∈ arcs.take k, a ∈ arcs := fun a ha => List.mem_of_mem_take ha
  have hok2 : arcsOk z (arcs.take k) := ⟨hok.1, hok.2.1, Nat.le_trans (List.length_take_le' _ _) hok.2.2.1, fun a ha => hok.2.2.2 a (hsub a ha)⟩
  have hO := full_order hf
  have hO2 : Order z.toNat (arcs.take k) (kahn z.toNat arcs z.toNat) := ⟨hO.nodup, hO.mem, fun i v hv a ha e => hO.topo i v hv a (hsub a ha) e⟩
  unfold ranksOf
  rw [if_pos hok2, if_pos hO2.full]

set_option maxHeartbeats 4000000 in
theorem rkfewer_calls (A : Option Addr) (n c : Nat) (arcs : List (Int × Int)) (z keep : Int) (w : World) (hr : RdArcs w A arcs) (hn : arcs.length = n) (hnc : n ≤ c) (hcap : c ≤ 9223372036854775807) (hz1 : -9223372036854775808 ≤ z) (hz2 : z ≤ 9223372036854775807) :
    Calls Try.prog 7 #[.int .i64 z, .slice A n c, .int .i64 keep] w fun e w' => e = .returned (.bool true) ∧ Below w.heap.size w w' := by
  have hcn : n ≤ 9223372036854775807 := Nat.le_trans hnc hcap
  have HA := Lib.hid (awake15 w)
  have HP := Lib.hid (fun (W : World) (h : Below w.heap.size w W) => ranks_calls A n c arcs z W (hr.below h) hn hcn hz1 hz2)
  have HQ := Lib.hid (fun (W : World) (h : Below w.heap.size w W) (k : Nat) (hk : k ≤ n) => ranks_calls A k c (arcs.take k) z W ((hr.below h).take k) (by rw [List.length_take]; omega) (by omega) hz1 hz2)
  have HCODE := Lib.hid (ranks_code z arcs)
  obtain ⟨code, L, hag⟩ : ∃ code L, ranksOf z arcs = (code, L) := ⟨_, _, rfl⟩
  rw [hag] at HP HCODE
  clear hr hn hag
  go_enter Try.func7, Try.ntmps7
  go_wp2_with fail
  refine HA.out.mono ?_
  rintro _ w1 ⟨rfl, hb1⟩
  have HB1 := Lib.hid hb1
  clear hb1
  go_wp2_with fail
  (with_reducible refine (HP.out _ HB1.out).mono ?_)
  rintro _ w2 ⟨hb2, A2, c2, rfl, ho2⟩
  have HB2 := Lib.hid (Below.then HB1.out HB1.out.size hb2)
  clear hb2
  rcases HCODE.out with ⟨h1, h2, h3, h4⟩ | ⟨h1, h2⟩
  rotate_left
  · change code ≠ 0 at h1
    change L = [] at h2
    subst h2
    have f1 : (code != 0) = true := by rw [bne_iff_ne]; exact h1
    simp only [List.length_nil]
    clear h1 ho2
    go_wp2_with fail
    go_ret
    exact ⟨rfl, HB2.out⟩
  change code = 0 at h1
  change L = _ at h4
  subst h1
  by_cases k1 : keep < 0
  · go_wp2_with fail
    go_ret
    exact ⟨rfl, HB2.out⟩
  obtain ⟨k, rfl⟩ : ∃ k : Nat, keep = (k : Int) := ⟨keep.toNat, by omega⟩
  by_cases k2 : (n : Int) < (k : Int)
  · go_wp2_with fail
    go_ret
    exact ⟨rfl, HB2.out⟩
  have hkn : k ≤ n := by omega
  have hkc : k ≤ c := by omega
  obtain ⟨m, rfl⟩ : ∃ m : Nat, z = (m : Int) := ⟨z.toNat, by have := h2.1; omega⟩
  have hq := HQ.out _ HB2.out k hkn
  rw [ranks_fewer h2 h3 k] at hq
  have h4 : L = (nodes m).map (rank m arcs) := h4
  have hL : L.length = m := by rw [h4, List.length_map, nodes_length]
  have hM : ((nodes m).map (rank m (arcs.take k))).length = m := by rw [List.length_map, nodes_length]
  have HLE : Hid (∀ i, i < m → L.getD i 0 = rank m arcs (i : Int) ∧ 0 ≤ rank m (arcs.take k) (i : Int) ∧ rank m (arcs.take k) (i : Int) ≤ rank m arcs (i : Int)) := fun i hi => ⟨by rw [h4]; simp [nodes, hi], rk_nonneg _ _ _, rk_fewer (fun a ha => List.mem_of_mem_take ha) m _⟩
  simp only [hL] at ho2 ⊢
  have HO2 := Lib.hid ho2
  have HLL := Lib.hid hL
  obtain ⟨M, hMe⟩ : ∃ M, (nodes m).map (rank m (arcs.take k)) = M := ⟨_, rfl⟩
  have hq2 : Calls Try.prog 15 #[.int .i64 (m : Int), .slice A k c] w2 (RetList w2 (0, M)) := by rw [← hMe]; exact hq
  rw [hMe] at hM
  have HM : Hid (∀ i, i < m → M.getD i 0 = rank m (arcs.take k) (i : Int)) := fun i hi => by rw [← hMe]; simp [nodes, hi]
  have HML := Lib.hid hM
  have HQ2 := Lib.hid hq2
  clear hq hq2 h2 h3 h4 hL hM hMe ho2 HCODE
  have f2 : ((m : Int) != (m : Int)) = false := by simp
  go_wp2_with fail
  (with_reducible refine HQ2.out.mono ?_)
  rintro _ w3 ⟨hb3, A3, c3, rfl, ho3⟩
  simp only [HML.out] at ho3 ⊢
  have HB3 := Lib.hid (Below.then HB2.out HB2.out.size hb3)
  have HO3 := Lib.hid ho3
  have HO2 := Lib.hid (own_below HO2.out hb3)
  have hmx := own_max ho3
  clear ho3 hb3
  go_wp2_with fail
  go_loopg [56] m (fun gk v56 wr => ∃ i : Nat, v56 = .int .i64 i ∧ i ≤ m ∧ m - i ≤ gk ∧ (∃ q, wr = w3.drewN q))
  case atStart => exact ⟨0, rfl, Nat.zero_le _, by omega, ⟨0, rfl⟩⟩
  case round =>
    obtain ⟨i, rfl, hi, hg, ⟨q, rfl⟩⟩ := hrel
    by_cases him : i < m
    · have i1 : (i : Int) < (m : Int) := by omega
      obtain ⟨g2, rfl, _, _, hc2⟩ := own_at HO2.out (by omega)
      obtain ⟨g3, rfl, _, _, hc3⟩ := own_at HO3.out (by omega)
      obtain ⟨l1, l2, l3⟩ := HLE.out i him
      have l4 := HM.out i him
      have e2 := hc2 i (.int .i64 (L.getD i 0)) (by simp [intCells, List.getD_eq_getElem?_getD, show i < L.length by have := HLL.out; omega])
      have e3 := hc3 i (.int .i64 (M.getD i 0)) (by simp [intCells, List.getD_eq_getElem?_getD, show i < M.length by have := HML.out; omega])
      rw [add_plain, l1] at e2
      rw [add_plain, l4] at e3
      obtain ⟨x, hx⟩ : ∃ x, rank m arcs (i : Int) = x := ⟨_, rfl⟩
      obtain ⟨y, hy⟩ : ∃ y, rank m (arcs.take k) (i : Int) = y := ⟨_, rfl⟩
      rw [hx] at e2 l3
      rw [hy] at e3 l2 l3
      have e2 : (w3.drewN q).cell? ⟨g2, i, none⟩ = some (.int .i64 x) := e2
      have e3 : (w3.drewN q).cell? ⟨g3, i, none⟩ = some (.int .i64 y) := e3
      have f3 : ¬ x < y := by omega
      have f4 : ¬ y < 0 := by omega
      clear hc2 hc3 l1 l4 hx hy
      go_wp2_with fail
      go_quiet (fail)
      go_wp2_with fail
      go_roundg (gk - 1)
      case measure => omega
      case rel => exact ⟨i + 1, by go_num, by omega, by omega, ⟨_, rfl⟩⟩
    · have i1 : ¬ (i : Int) < (m : Int) := by omega
      go_wp2_with fail
      go_ret
      exact ⟨rfl, Below.then HB3.out HB3.out.size (below_drewN _ _)⟩
end Go.Proofs.Yteonpfomlmfkjaa
