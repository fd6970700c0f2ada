/- The lower bound: the states less one at each site. In plain Lean. -/
import Derived.Test.YtbmlkomfelkckaaOnes
import Derived.Test.YtbmlkomfelkckaaFitSpec
namespace Go.Proofs.Ytbmlkomfelkckaa

/-- Does a row have the state? -/
def hasRow (s : Nat) (x : Int) (r : List Int) : Bool := r.getD s 0 == x
def hasCol (rows : List (List Int)) (s : Nat) (x : Int) : Bool := rows.any (hasRow s x)
/-- How many of the first x states stand at a site. -/
def colUp (rows : List (List Int)) (s : Nat) : Nat → Nat
  | 0 => 0
  | x + 1 => colUp rows s x + if hasCol rows s (x : Int) then 1 else 0
def colN (rows : List (List Int)) (s : Nat) : Nat := colUp rows s 12
def lowUp (rows : List (List Int)) : Nat → Nat
  | 0 => 0
  | s + 1 => lowUp rows s + (colN rows s - 1)
def lowOf (rows : List (List Int)) : Nat := lowUp rows (wid rows)

theorem colUp_le (rows : List (List Int)) (s : Nat) : ∀ x, colUp rows s x ≤ x
  | 0 => Nat.le_refl _
  | x + 1 => by
    have := colUp_le rows s x
    unfold colUp
    split <;> omega

theorem lowUp_le (rows : List (List Int)) : ∀ s, lowUp rows s ≤ 12 * s
  | 0 => Nat.le_refl _
  | s + 1 => by
    have := lowUp_le rows s
    have h := colUp_le rows s 12
    unfold lowUp colN
    omega

/-- The states of the first rows at a site, as a set. -/
def setStep (s : Nat) (acc : Nat) (r : List Int) : Nat := if 0 ≤ r.getD s 0 then acc ||| 2 ^ (r.getD s 0).toNat else acc
def setUp (rows : List (List Int)) (s : Nat) : Nat := rows.foldl (setStep s) 0

theorem setUp_snoc (rows : List (List Int)) (s : Nat) (r : List Int) : setUp (rows ++ [r]) s = setStep s (setUp rows s) r := by simp [setUp]

theorem setUp_bits (s : Nat) : ∀ (rows : List (List Int)) (acc i : Nat), (∀ r ∈ rows, r.getD s 0 < 12) → (rows.foldl (setStep s) acc).testBit i = (acc.testBit i || hasCol rows s (i : Int))
  | [], acc, i, _ => by simp [hasCol]
  | r :: rows, acc, i, h => by
    rw [List.foldl_cons, setUp_bits s rows _ i (fun q hq => h q (List.mem_cons_of_mem _ hq))]
    have e : hasCol (r :: rows) s (i : Int) = (hasRow s (i : Int) r || hasCol rows s (i : Int)) := by simp [hasCol]
    rw [e, ← Bool.or_assoc]
    congr 1
    unfold setStep hasRow
    split
    · rename_i h0
      rw [Nat.testBit_or, Nat.testBit_two_pow]
      congr 1
      rw [Bool.eq_iff_iff]
      simp only [decide_eq_true_eq, beq_iff_eq]
      omega
    · rename_i h0
      have : (r.getD s 0 == (i : Int)) = false := by rw [beq_eq_false_iff_ne]; omega
      rw [this, Bool.or_false]

theorem setUp_lt (s : Nat) : ∀ (rows : List (List Int)) (acc : Nat), acc < 4096 → (∀ r ∈ rows, r.getD s 0 < 12) → rows.foldl (setStep s) acc < 4096
  | [], acc, h, _ => h
  | r :: rows, acc, h, hr => by
    rw [List.foldl_cons]
    refine setUp_lt s rows _ ?_ (fun q hq => hr q (List.mem_cons_of_mem _ hq))
    have h1 := hr r List.mem_cons_self
    unfold setStep
    split
    · refine Nat.or_lt_two_pow (n := 12) h ?_
      exact Nat.pow_lt_pow_right (by decide) (by omega)
    · exact h

theorem pop_up (x : Nat) : ∀ n, ((List.range n).filter fun i => x.testBit i).length = (List.range n).foldl (fun a i => a + if x.testBit i then 1 else 0) 0
  | 0 => rfl
  | n + 1 => by
    rw [List.range_succ, List.filter_append, List.length_append, List.foldl_append, pop_up x n]
    simp only [List.foldl_cons, List.foldl_nil]
    congr 1
    by_cases h : x.testBit n <;> simp [h]

theorem col_up (rows : List (List Int)) (s : Nat) : ∀ n, colUp rows s n = (List.range n).foldl (fun (a i : Nat) => a + if hasCol rows s (i : Int) then 1 else 0) 0
  | 0 => rfl
  | n + 1 => by
    rw [List.range_succ, List.foldl_append, ← col_up rows s n]
    rfl

theorem pop_set {rows : List (List Int)} {s : Nat} (h : ∀ r ∈ rows, r.getD s 0 < 12) : pop (setUp rows s) = colN rows s := by
  unfold pop colN
  rw [pop_up, col_up]
  congr 1
  funext a i
  rw [setUp, setUp_bits s rows 0 i h, Nat.zero_testBit, Bool.false_or]

/-- The numbers of a matrix at a site. -/
theorem mat_num {rows : List (List Int)} (h : matOk rows = true) {s : Nat} (hs : s < wid rows) {i : Nat} {r : List Int} (hi : rows[i]? = some r) : ∃ x, r[s]? = some x ∧ r.getD s 0 = x ∧ -1 ≤ x ∧ x < 12 := by
  have hl := (List.getElem?_eq_some_iff.1 hi).1
  obtain ⟨r', h1, h2, h3, h4⟩ := matOk_at h (leaf := (i : Int)) (by omega) (by omega) hs
  rw [Int.toNat_natCast, hi] at h1
  obtain rfl : r = r' := by simpa using h1
  exact ⟨_, h2, by rw [List.getD_eq_getElem?_getD, h2]; rfl, h3, h4⟩

theorem mat_lt {rows : List (List Int)} (h : matOk rows = true) {s : Nat} (hs : s < wid rows) : ∀ r ∈ rows, r.getD s 0 < 12 := by
  intro r hr
  obtain ⟨i, hi, rfl⟩ := List.mem_iff_getElem.1 hr
  obtain ⟨x, _, h2, _, h4⟩ := mat_num h hs (List.getElem?_eq_getElem hi)
  omega

/-- The lower bound and the error. -/
def lowNum (rows : List (List Int)) : Nat := if matOk rows = true then lowOf rows else 0
end Go.Proofs.Ytbmlkomfelkckaa
