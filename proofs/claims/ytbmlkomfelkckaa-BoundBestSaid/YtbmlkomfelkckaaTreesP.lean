/- All trees, one behind the other, as the program grows them; and the reference's numbers. In plain Lean. -/
import Derived.Test.YtbmlkomfelkckaaGrowP
namespace Go.Proofs.Ytbmlkomfelkckaa

/-- All trees of k + 1 leaves. -/
def treesUp : Nat → List NT
  | 0 => [.leaf 0]
  | k + 1 => (treesUp k).flatMap fun T => cands T (k + 1)

/-- All trees of so many leaves: none, where there may not be so many. -/
def treesOf (n : Int) : List NT := if 1 ≤ n ∧ n ≤ 12 then treesUp (n.toNat - 1) else []

theorem trees_on : ∀ k, k ≤ 11 → ∀ T ∈ treesUp k, T.On (k + 1) ∧ T.Norm
  | 0, _, T, h => by
    simp only [treesUp, List.mem_singleton] at h
    subst h
    exact ⟨one_on, .leaf 0⟩
  | k + 1, hk, T, h => by
    obtain ⟨S, hS, hT⟩ := List.mem_flatMap.1 h
    obtain ⟨h1, h2⟩ := trees_on k (by omega) S hS
    exact cand_on h1 h2 (by omega) hT

/-- How many there are. -/
def countUp : Nat → Nat
  | 0 => 1
  | k + 1 => countUp k * (2 * k + 1)

theorem flatMap_const {α β : Type} (f : α → List β) (m : Nat) : ∀ l : List α, (∀ x ∈ l, (f x).length = m) → (l.flatMap f).length = l.length * m
  | [], _ => by simp
  | x :: l, h => by
    rw [List.flatMap_cons, List.length_append, flatMap_const f m l (fun y hy => h y (List.mem_cons_of_mem _ hy)), h x List.mem_cons_self, List.length_cons, Nat.add_mul]
    omega

theorem trees_length : ∀ k, k ≤ 11 → (treesUp k).length = countUp k
  | 0, _ => rfl
  | k + 1, hk => by
    rw [treesUp, countUp, flatMap_const _ (2 * k + 1), trees_length k (by omega)]
    intro T hT
    have := ((trees_on k (by omega) T hT).1).size
    rw [cands_length]
    omega

/-- The tree that has a number. -/
def numbered : Nat → Nat → NT
  | 0, _ => .leaf 0
  | k + 1, i => (numbered k (i / (2 * k + 1))).hung ((i % (2 * k + 1) : Nat) : Int) (k + 1)

theorem flatMap_get {α β : Type} (f : α → List β) (m : Nat) (hm : 0 < m) : ∀ (l : List α) (i : Nat), (∀ x ∈ l, (f x).length = m) → (l.flatMap f)[i]? = (l[i / m]?).bind fun x => (f x)[i % m]?
  | [], i, _ => by simp
  | x :: l, i, h => by
    have hx := h x List.mem_cons_self
    rw [List.flatMap_cons]
    by_cases hi : i < m
    · rw [List.getElem?_append_left (by omega), Nat.div_eq_of_lt hi, Nat.mod_eq_of_lt hi]
      rfl
    · rw [List.getElem?_append_right (by omega), hx, flatMap_get f m hm l (i - m) (fun y hy => h y (List.mem_cons_of_mem _ hy))]
      obtain ⟨j, rfl⟩ : ∃ j, i = j + m := ⟨i - m, by omega⟩
      rw [Nat.add_sub_cancel, Nat.add_div_right _ hm, Nat.add_mod_right, List.getElem?_cons_succ]

theorem trees_get : ∀ (k i : Nat), k ≤ 11 → i < countUp k → (treesUp k)[i]? = some (numbered k i)
  | 0, i, _, h => by
    simp only [countUp] at h
    obtain rfl : i = 0 := by omega
    rfl
  | k + 1, i, hk, h => by
    have hl : ∀ T ∈ treesUp k, (cands T (k + 1)).length = 2 * k + 1 := by
      intro T hT
      have := ((trees_on k (by omega) T hT).1).size
      rw [cands_length]
      omega
    rw [treesUp, flatMap_get _ (2 * k + 1) (by omega) _ _ hl]
    have hi : i / (2 * k + 1) < countUp k := Nat.div_lt_of_lt_mul (by rw [countUp] at h; rw [Nat.mul_comm]; exact h)
    rw [trees_get k _ (by omega) hi]
    have hm : i % (2 * k + 1) < 2 * k + 1 := Nat.mod_lt _ (by omega)
    have hmem := List.mem_of_getElem? (trees_get k _ (by omega) hi)
    have hs := ((trees_on k (by omega) _ hmem).1).size
    have hc : (numbered k (i / (2 * k + 1))).size = 2 * k + 1 := by omega
    show (cands (numbered k (i / (2 * k + 1))) (k + 1))[i % (2 * k + 1)]? = _
    rw [cands, List.getElem?_map, List.getElem?_range (by omega)]
    rfl

theorem count_pos : ∀ k, 0 < countUp k
  | 0 => by decide
  | k + 1 => Nat.mul_pos (count_pos k) (by omega)

theorem treesOf_in {n : Nat} (h1 : 1 ≤ n) (h2 : n ≤ 12) : treesOf (n : Int) = treesUp (n - 1) := by
  unfold treesOf
  rw [if_pos (by omega), Int.toNat_natCast]

theorem treesOf_out {z : Int} (h : ¬ (1 ≤ z ∧ z ≤ 12)) : treesOf z = [] := if_neg h

theorem treesOf_on {n : Nat} {T : NT} (h : T ∈ treesOf (n : Int)) : T.On n ∧ T.Norm := by
  unfold treesOf at h
  split at h
  · rename_i hn
    have := trees_on (n - 1) (by omega) T (by simpa using h)
    rw [show n - 1 + 1 = n by omega] at this
    exact this
  · simp at h
end Go.Proofs.Ytbmlkomfelkckaa
