/- (*node).hung: a leaf hung at a branch. -/
import Derived.Test.YtbmlkomfelkckaaGrowP
import Derived.IntWalk
import Derived.Test.YtbmlkomfelkckaaFork
import Derived.Test.YtbmlkomfelkckaaHangP
namespace Go.Proofs.Ytbmlkomfelkckaa

/-- All trees of k + 1 leaves. -/
def treesUp : Nat → List NT
  | 0 => [.leaf 0]
  | k + 1 => (treesUp k).flatMap fun T => cands T (k + 1)

/-- All trees of so many leaves: none, where there may not be so many. -/
def treesOf (n : Int) : List NT := if 1 ≤ n ∧ n ≤ 12 then treesUp (n.toNat - 1) else []

theorem trees_on : ∀ k, k ≤ 11 → ∀ T ∈ treesUp k, T.On (k + 1) ∧ T.Norm
  | 0, _, T, h => by
    simp only [treesUp, List.mem_singleton] at h
    subst h
    exact ⟨one_on, .leaf 0⟩
  | k + 1, hk, T, h => by
    obtain ⟨S, hS, hT⟩ := List.mem_flatMap.1 h
    obtain ⟨h1, h2⟩ := trees_on k (by omega) S hS
    exact cand_on h1 h2 (by omega) hT

/-- How many there are. -/
def countUp : Nat → Nat
  | 0 => 1
  | k + 1 => countUp k * (2 * k + 1)

theorem flatMap_const {α β : Type} (f : α → List β) (m : Nat) : ∀ l : List α, (∀ x ∈ l, (f x).length = m) → (l.flatMap f).length = l.length * m
  | [], _ => by simp
  | x :: l, h => by
    rw [List.flatMap_cons, List.length_append, flatMap_const f m l (fun y hy => h y (List.mem_cons_of_mem _ hy)), h x List.mem_cons_self, List.length_cons, Nat.add_mul]
    omega

theorem trees_length : ∀ k, k ≤ 11 → (treesUp k).length = countUp k
  | 0, _ => rfl
  | k + 1, hk => by
    rw [treesUp, countUp, flatMap_const _ (2 * k + 1), trees_length k (by omega)]
    intro T hT
    have := ((trees_on k (by omega) T hT).1).size
    rw [cands_length]
    omega

/-- The tree that has a number. -/
def numbered : Nat → Nat → NT
  | 0, _ => .leaf 0
  | k + 1, i => (numbered k (i / (2 * k + 1))).hung ((i % (2 * k + 1) : Nat) : Int) (k + 1)

theorem flatMap_get {α β : Type} (f : α → List β) (m : Nat) (hm : 0 < m) : ∀ (l : List α) (i : Nat), (∀ x ∈ l, (f x).length = m) → (l.flatMap f)[i]? = (l[i / m]?).bind fun x => (f x)[i % m]?
  | [], i, _ => by simp
  | x :: l, i, h => by
    have hx := h x List.mem_cons_self
    rw [List.flatMap_cons]
    by_cases hi : i < m
    · rw [List.getElem?_append_left (by omega), Nat.div_eq_of_lt hi, Nat.mod_eq_of_lt hi]
      rfl
    · rw [List.getElem?_append_right (by omega), hx, flatMap_get f m hm l (i - m) (fun y hy => h y (List.mem_cons_of_mem _ hy))]
      obtain ⟨j, rfl⟩ : ∃ j, i = j + m := ⟨i - m, by omega⟩
      rw [Nat.add_sub_cancel, Nat.add_div_right _ hm, Nat.add_mod_right, List.getElem?_cons_succ]

theorem trees_get : ∀ (k i : Nat), k ≤ 11 → i < countUp k → (treesUp k)[i]? = some (numbered k i)
  | 0, i, _, h => by
    simp only [countUp] at h
    obtain rfl : i = 0 := by omega
    rfl
  | k + 1, i, hk, h => by
    have hl : ∀ T ∈ treesUp k, (cands T (k + 1)).length = 2 * k + 1 := by
      intro T hT
      have := ((trees_on k (by omega) T hT).1).size
      rw [cands_length]
      omega
    rw [treesUp, flatMap_get _ (2 * k + 1) (by omega) _ _ hl]
    have hi : i / (2 * k + 1) < countUp k := Nat.div_lt_of_lt_mul (by rw [countUp] at h; rw [Nat.mul_comm]; exact h)
    rw [trees_get k _ (by omega) hi]
    have hm : i % (2 * k + 1) < 2 * k + 1 := Nat.mod_lt _ (by omega)
    have hmem := List.mem_of_getElem? (trees_get k _ (by omega) hi)
    have hs := ((trees_on k (by omega) _ hmem).1).size
    have hc : (numbered k (i / (2 * k + 1))).size = 2 * k + 1 := by omega
    show (cands (numbered k (i / (2 * k + 1))) (k + 1))[i % (2 * k + 1)]? = _
    rw [cands, List.getElem?_map, List.getElem?_range (by omega)]
    rfl

theorem count_pos : ∀ k, 0 < countUp k
  | 0 => by decide
  | k + 1 => Nat.mul_pos (count_pos k) (by omega)

theorem treesOf_in {n : Nat} (h1 : 1 ≤ n) (h2 : n ≤ 12) : treesOf (n : Int) = treesUp (n - 1) := by
  unfold treesOf
  rw [if_pos (by omega), Int.toNat_natCast]

theorem treesOf_out {z : Int} (h : ¬ (1 ≤ z ∧ z ≤ 12)) : treesOf z = [] := if_neg h

theorem treesOf_on {n : Nat} {T : NT} (h : T ∈ treesOf (n : Int)) : T.On n ∧ T.Norm := by
  unfold treesOf at h
  split at h
  · rename_i hn
    have := trees_on (n - 1) (by omega) T (by simpa using h)
    rw [show n - 1 + 1 = n by omega] at this
    exact this
  · simp at h

theorem count_le : ∀ j k, j ≤ k → countUp j ≤ countUp k := by
  intro j k h
  induction k with
  | zero => obtain rfl : j = 0 := by omega
            exact Nat.le_refl _
  | succ k ih =>
    by_cases hjk : j = k + 1
    · subst hjk; exact Nat.le_refl _
    · refine Nat.le_trans (ih (by omega)) ?_
      rw [countUp]
      exact Nat.le_mul_of_pos_right _ (by omega)
end Go.Proofs.Ytbmlkomfelkckaa

namespace Go.Proofs.Ytbmlkomfelkckaa
open Go Go.RowKit
set_option maxRecDepth 100000

/-- How many, and the error. -/
def cntOf (z : Int) : Nat := if 1 ≤ z ∧ z ≤ 12 then countUp (z.toNat - 1) else 0
def cntErr (z : Int) : Int := if 1 ≤ z ∧ z ≤ 12 then 0 else 2

theorem count_top (k : Nat) (h : k ≤ 11) : countUp k ≤ 13749310575 := Nat.le_trans (count_le k 11 h) (by decide)

set_option maxHeartbeats 1000000 in
theorem rcount_calls (z : Int) (w : World) (hz : -9223372036854775808 ≤ z ∧ z ≤ 9223372036854775807) :
    Calls Try.prog 37 #[.int .i64 z] w fun e w' => e = .returned (.tuple #[.int .i64 (cntOf z : Int), .int .i64 (cntErr z)]) ∧ w' = w := by
  by_cases h1 : ¬ 1 ≤ z
  · have e1 : cntOf z = 0 := if_neg (by omega)
    have e2 : cntErr z = 2 := if_neg (by omega)
    rw [e1, e2]
    have h1' : z < 1 := by omega
    clear e1 e2 h1
    go_enter Try.func37, Try.ntmps37
    go_wp2_with fail
    go_ret2
    exact ⟨rfl, rfl⟩
  have h1 := Decidable.not_not.1 h1
  by_cases h2 : ¬ z ≤ 12
  · have e1 : cntOf z = 0 := if_neg (by omega)
    have e2 : cntErr z = 2 := if_neg (by omega)
    rw [e1, e2]
    have h1' : ¬ z < 1 := by omega
    have h2' : z > 12 := by omega
    clear e1 e2 h1 h2
    go_enter Try.func37, Try.ntmps37
    go_wp2_with fail
    go_ret2
    exact ⟨rfl, rfl⟩
  have h2 := Decidable.not_not.1 h2
  obtain ⟨l, rfl⟩ : ∃ l : Nat, z = (l : Int) := ⟨z.toNat, by omega⟩
  have HE : Hid (cntOf (l : Int) = countUp (l - 1) ∧ cntErr (l : Int) = 0) := ⟨by unfold cntOf; rw [if_pos ⟨h1, h2⟩, Int.toNat_natCast], if_pos ⟨h1, h2⟩⟩
  rw [HE.out.1, HE.out.2]
  have h1' : ¬ (l : Int) < 1 := by omega
  have h2' : ¬ (l : Int) > 12 := by omega
  clear hz
  go_enter Try.func37, Try.ntmps37
  go_wp2_with fail
  go_loopg [4, 5] l (fun gk v4 v5 wr => ∃ j : Nat, wr = w ∧ j + 1 ≤ l ∧ v4 = .int .i64 (countUp j : Int) ∧ v5 = .int .i64 ((j : Int) + 2) ∧ Hid (gk + j = l))
  case atStart => exact ⟨0, rfl, by omega, rfl, rfl, rfl⟩
  case round =>
    obtain ⟨j, rfl, hj, rfl, rfl, HG⟩ := hrel
    by_cases hjl : j + 1 < l
    · have hle : (j : Int) + 2 ≤ l := by omega
      have ht := count_top j (by omega)
      have ht2 := count_top (j + 1) (by omega)
      obtain ⟨m, hm⟩ : ∃ m, m = 2 * j + 1 := ⟨_, rfl⟩
      have q1 : (2 : Int) * ((j : Int) + 2) - 3 = (m : Int) := by omega
      have q2 : (countUp j : Int) * (m : Int) = (countUp (j + 1) : Int) := by rw [countUp, Int.natCast_mul, hm]
      obtain ⟨N', hN'⟩ : ∃ N', countUp (j + 1) = N' := ⟨_, rfl⟩
      have HN' := Lib.hid hN'
      rw [hN'] at q2 ht2
      generalize countUp j = N at q2 ht ⊢
      have q3 : IntKind.i64.wrap ((N : Int) * (m : Int)) = (N' : Int) := by rw [q2]; exact IntWalk.i64_in _ (by omega)
      have hjI : (j : Int) ≤ 12 := by omega
      clear hm hN' hjl hj
      go_wp2_with fail
      go_roundg (gk - 1)
      case measure => have := HG.out; omega
      case rel => exact ⟨j + 1, rfl, by omega, by rw [HN'.out], by go_num, by have := HG.out; show gk - 1 + (j + 1) = l; omega⟩
    · have hle : ¬ (j : Int) + 2 ≤ l := by omega
      obtain rfl : j = l - 1 := by omega
      obtain ⟨N, hN⟩ : ∃ N, countUp (l - 1) = N := ⟨_, rfl⟩
      have HN := Lib.hid hN
      rw [hN]
      clear hN hjl hj
      go_wp2_with fail
      go_ret2
      exact ⟨by rw [HN.out]; rfl, rfl⟩

set_option maxHeartbeats 1000000 in
theorem tcount_calls (z : Int) (w : World) (hz : -9223372036854775808 ≤ z ∧ z ≤ 9223372036854775807) :
    Calls Try.prog 36 #[.int .i64 z] w fun e w' => e = .returned (.tuple #[.int .i64 (cntOf z : Int), .int .i64 (cntErr z)]) ∧ w' = w := by
  by_cases h1 : ¬ 1 ≤ z
  · have e1 : cntOf z = 0 := if_neg (by omega)
    have e2 : cntErr z = 2 := if_neg (by omega)
    rw [e1, e2]
    have h1' : z < 1 := by omega
    clear e1 e2 h1
    go_enter Try.func36, Try.ntmps36
    go_wp2_with fail
    go_ret2
    exact ⟨rfl, rfl⟩
  have h1 := Decidable.not_not.1 h1
  by_cases h2 : ¬ z ≤ 12
  · have e1 : cntOf z = 0 := if_neg (by omega)
    have e2 : cntErr z = 2 := if_neg (by omega)
    rw [e1, e2]
    have h1' : ¬ z < 1 := by omega
    have h2' : z > 12 := by omega
    clear e1 e2 h1 h2
    go_enter Try.func36, Try.ntmps36
    go_wp2_with fail
    go_ret2
    exact ⟨rfl, rfl⟩
  have h2 := Decidable.not_not.1 h2
  obtain ⟨l, rfl⟩ : ∃ l : Nat, z = (l : Int) := ⟨z.toNat, by omega⟩
  have HE : Hid (cntOf (l : Int) = countUp (l - 1) ∧ cntErr (l : Int) = 0) := ⟨by unfold cntOf; rw [if_pos ⟨h1, h2⟩, Int.toNat_natCast], if_pos ⟨h1, h2⟩⟩
  rw [HE.out.1, HE.out.2]
  have h1' : ¬ (l : Int) < 1 := by omega
  have h2' : ¬ (l : Int) > 12 := by omega
  clear hz
  go_enter Try.func36, Try.ntmps36
  go_wp2_with fail
  go_loopg [4, 5] l (fun gk v4 v5 wr => ∃ j : Nat, wr = w ∧ j + 1 ≤ l ∧ v4 = .int .i64 (countUp j : Int) ∧ v5 = .int .i64 (2 * (j : Int) + 1) ∧ Hid (gk + j = l))
  case atStart => exact ⟨0, rfl, by omega, rfl, rfl, rfl⟩
  case round =>
    obtain ⟨j, rfl, hj, rfl, rfl, HG⟩ := hrel
    by_cases hjl : j + 1 < l
    · have hle : 2 * (j : Int) + 1 < 2 * (l : Int) - 2 := by omega
      have ht := count_top j (by omega)
      have ht2 := count_top (j + 1) (by omega)
      obtain ⟨m, hm⟩ : ∃ m, m = 2 * j + 1 := ⟨_, rfl⟩
      have q1 : (2 : Int) * (j : Int) + 1 = (m : Int) := by omega
      have q2 : (countUp j : Int) * (m : Int) = (countUp (j + 1) : Int) := by rw [countUp, Int.natCast_mul, hm]
      obtain ⟨N', hN'⟩ : ∃ N', countUp (j + 1) = N' := ⟨_, rfl⟩
      have HN' := Lib.hid hN'
      rw [hN'] at q2 ht2
      generalize countUp j = N at q2 ht ⊢
      have q3 : IntKind.i64.wrap ((N : Int) * (m : Int)) = (N' : Int) := by rw [q2]; exact IntWalk.i64_in _ (by omega)
      have hjI : (j : Int) ≤ 12 := by omega
      clear hm hN' hjl hj
      go_wp2_with fail
      go_roundg (gk - 1)
      case measure => have := HG.out; omega
      case rel => exact ⟨j + 1, rfl, by omega, by rw [HN'.out], by go_num, by have := HG.out; show gk - 1 + (j + 1) = l; omega⟩
    · have hle : ¬ 2 * (j : Int) + 1 < 2 * (l : Int) - 2 := by omega
      obtain rfl : j = l - 1 := by omega
      obtain ⟨N, hN⟩ : ∃ N, countUp (l - 1) = N := ⟨_, rfl⟩
      have HN := Lib.hid hN
      rw [hN]
      clear hN hjl hj
      go_wp2_with fail
      go_ret2
      exact ⟨by rw [HN.out]; rfl, rfl⟩
end Go.Proofs.Ytbmlkomfelkckaa

namespace Go.Proofs.Ytbmlkomfelkckaa
open Go Go.RowKit
set_option maxRecDepth 100000

/-- What hung leaves. -/
def RetHung (w : World) (T : NT) (n : Nat) (e : Ending) (w' : World) : Prop := ∃ b, e = .returned (.tuple #[.pointer (some ⟨b, 0, none⟩), .int .i64 (n : Int)]) ∧ Nd w' T (.pointer (some ⟨b, 0, none⟩)) ∧ Below w.heap.size w w'

set_option maxHeartbeats 2000000 in
theorem hung_calls (k : Nat) (T : NT) : ∀ (p : Int) (w : World) (b : Nat), T.size ≤ 100 → (T.size : Int) ≤ p + 1000 → p ≤ 1000 → Nd w T (.pointer (some ⟨b, 0, none⟩)) →
    Calls Try.prog 100 #[.pointer (some ⟨b, 0, none⟩), .int .i64 p, .int .i64 (k : Int)] w (RetHung w (T.hung p k) T.size) := by
  induction T with
  | leaf j =>
    intro p w b hz hp1 hp2 hn
    obtain ⟨b', hp, hc⟩ := id hn
    obtain rfl : b = b' := by simpa using hp
    have hb0 := below_alloc w (.cells #[.int .i64 (k : Int), .pointer none, .pointer none] 98)
    have hlt := (Array.getElem?_eq_some_iff.1 hc).1
    have c1 : (w.alloc (.cells #[.int .i64 (k : Int), .pointer none, .pointer none] 98)).cell? ⟨b, 1, none⟩ = some (.pointer none) := cell_below hb0 hlt (Nd.cell hc 1)
    have HN := Lib.hid (hn.below hb0)
    have HL : Hid (Nd (w.alloc (.cells #[.int .i64 (k : Int), .pointer none, .pointer none] 98)) (.leaf k) (.pointer (some ⟨w.heap.size, 0, none⟩))) := ⟨_, rfl, heap_alloc_new w _⟩
    have HB := Lib.hid hb0
    clear hn hp hc hb0 hlt
    by_cases h0 : p = 0
    · subst h0
      have HF := Lib.hid (fork_calls _ _ _ _ _ HN.out HL.out)
      go_enter Try.func100, Try.ntmps100
      go_wp2_with fail
      (with_reducible refine HF.out.mono ?_)
      rintro e w1 ⟨b1, rfl, hn1, hb1⟩
      have HN1 := Lib.hid hn1
      have HB1 := Lib.hid (Below.then HB.out HB.out.size hb1)
      clear hn1 hb1
      go_wp2_with fail
      go_ret2
      exact ⟨b1, rfl, HN1.out, HB1.out⟩
    · have f0 : (p == 0) = false := by rw [beq_eq_false_iff_ne]; exact h0
      have HE : Hid ((NT.leaf j).hung p k = .leaf j) := by
        show NT.hung _ _ _ = _
        unfold NT.hung
        rw [if_neg h0]
      rw [HE.out]
      clear h0
      go_enter Try.func100, Try.ntmps100
      go_wp2_with fail
      go_ret2
      exact ⟨b, rfl, HN.out, HB.out⟩
  | fork x y ihx ihy =>
    intro p w b hz hp1 hp2 hn
    obtain ⟨b', px, py, hp, hc, hx, hy⟩ := id hn
    obtain rfl : b = b' := by simpa using hp
    obtain ⟨bx, _, _, rfl, _⟩ := hx.top
    obtain ⟨bz, _, _, rfl, _⟩ := hy.top
    have hxs := x.size_pos
    have hys := y.size_pos
    have hz' : x.size + y.size + 1 ≤ 100 := hz
    have hpz : (x.size : Int) + y.size + 1 ≤ p + 1000 := by simpa [NT.size] using hp1
    have hb0 := below_alloc w (.cells #[.int .i64 (k : Int), .pointer none, .pointer none] 98)
    have hlt := (Array.getElem?_eq_some_iff.1 hc).1
    have c1 : (w.alloc (.cells #[.int .i64 (k : Int), .pointer none, .pointer none] 98)).cell? ⟨b, 1, none⟩ = some (.pointer (some ⟨bx, 0, none⟩)) := cell_below hb0 hlt (Nd.cell hc 1)
    have c2 : (w.alloc (.cells #[.int .i64 (k : Int), .pointer none, .pointer none] 98)).cell? ⟨b, 2, none⟩ = some (.pointer (some ⟨bz, 0, none⟩)) := cell_below hb0 hlt (Nd.cell hc 2)
    have HN := Lib.hid (hn.below hb0)
    have HY := Lib.hid (hy.below hb0)
    have HL : Hid (Nd (w.alloc (.cells #[.int .i64 (k : Int), .pointer none, .pointer none] 98)) (.leaf k) (.pointer (some ⟨w.heap.size, 0, none⟩))) := ⟨_, rfl, heap_alloc_new w _⟩
    have HIX := Lib.hid (ihx p _ bx (by omega) (by omega) hp2 (hx.below hb0))
    have HIY := Lib.hid (fun (W : World) (h : Nd W y (.pointer (some ⟨bz, 0, none⟩))) => ihy (p - x.size) W bz (by omega) (by omega) (by omega) h)
    have HB := Lib.hid hb0
    have hlt0 : b < (w.alloc (.cells #[.int .i64 (k : Int), .pointer none, .pointer none] 98)).heap.size := by simp; omega
    clear hn hp hc hb0 hlt hx hy ihx ihy hz hp1
    by_cases h0 : p = (x.size : Int) + y.size
    · have f0 : (p == (x.size : Int) + y.size) = true := by rw [beq_iff_eq]; exact h0
      have HE : Hid ((NT.fork x y).hung p k = mkFork (.fork x y) (.leaf k)) := by
        show NT.hung _ _ _ = _
        unfold NT.hung
        rw [if_pos h0]
      rw [HE.out]
      clear h0 HE
      go_enter Try.func100, Try.ntmps100
      go_wp2_with fail
      (with_reducible refine HIX.out.mono ?_)
      rintro e w1 ⟨b1, rfl, hn1, hb1⟩
      have c2 := cell_below hb1 hlt0 c2
      have HY1 := Lib.hid (HIY.out _ (HY.out.below hb1))
      have HB1 := Lib.hid (Below.then HB.out HB.out.size hb1)
      have HN1 := Lib.hid (HN.out.below hb1)
      have HL1 := Lib.hid (HL.out.below hb1)
      clear hn1 hb1 c1
      go_wp2_with fail
      (with_reducible refine HY1.out.mono ?_)
      rintro e w2 ⟨b2, rfl, hn2, hb2⟩
      have HB2 := Lib.hid (Below.then HB1.out HB1.out.size hb2)
      have HF := Lib.hid (fork_calls _ _ _ _ _ (HN1.out.below hb2) (HL1.out.below hb2))
      clear hn2 hb2 c2
      go_wp2_with fail
      (with_reducible refine HF.out.mono ?_)
      rintro e w3 ⟨b3, rfl, hn3, hb3⟩
      have HN3 := Lib.hid hn3
      have HB3 := Lib.hid (Below.then HB2.out HB2.out.size hb3)
      clear hn3 hb3
      go_wp2_with fail
      go_ret2
      exact ⟨b3, by rw [show ((NT.fork x y).size : Int) = (x.size : Int) + y.size + 1 by simp [NT.size]]; rfl, HN3.out, HB3.out⟩
    · have f0 : (p == (x.size : Int) + y.size) = false := by rw [beq_eq_false_iff_ne]; exact h0
      have HE : Hid ((NT.fork x y).hung p k = mkFork (x.hung p k) (y.hung (p - x.size) k)) := by
        show NT.hung _ _ _ = _
        conv => lhs; unfold NT.hung
        rw [if_neg h0]
      rw [HE.out]
      clear h0 HE
      go_enter Try.func100, Try.ntmps100
      go_wp2_with fail
      (with_reducible refine HIX.out.mono ?_)
      rintro e w1 ⟨b1, rfl, hn1, hb1⟩
      have c2 := cell_below hb1 hlt0 c2
      have HY1 := Lib.hid (HIY.out _ (HY.out.below hb1))
      have HB1 := Lib.hid (Below.then HB.out HB.out.size hb1)
      have HX1 := Lib.hid hn1
      clear hn1 hb1 c1 HN HL
      go_wp2_with fail
      (with_reducible refine HY1.out.mono ?_)
      rintro e w2 ⟨b2, rfl, hn2, hb2⟩
      have HB2 := Lib.hid (Below.then HB1.out HB1.out.size hb2)
      have HF := Lib.hid (fork_calls _ _ _ _ _ (HX1.out.below hb2) hn2)
      clear hn2 hb2 c2
      go_wp2_with fail
      (with_reducible refine HF.out.mono ?_)
      rintro e w3 ⟨b3, rfl, hn3, hb3⟩
      have HN3 := Lib.hid hn3
      have HB3 := Lib.hid (Below.then HB2.out HB2.out.size hb3)
      clear hn3 hb3
      go_wp2_with fail
      go_ret2
      exact ⟨b3, by rw [show ((NT.fork x y).size : Int) = (x.size : Int) + y.size + 1 by simp [NT.size]]; rfl, HN3.out, HB3.out⟩
end Go.Proofs.Ytbmlkomfelkckaa
