/- What trees agree on. In plain Lean. -/
import Derived.Test.YtbmlkomfelkckaaCladeP
import Derived.Test.YtbmlkomfelkckaaBnd
namespace Go.Proofs.Ytbmlkomfelkckaa

/-- A tree's clades. -/
def clOf (leaves : Int) (bs : List Br) : Option (List (List Int)) := (rdRoot leaves bs).map NT.clades

/-- Tree k's clades, if it is one. -/
def clAt (leaves : Int) (l : List (List Br)) (k : Nat) : List (List Int) := (clOf leaves (l.getD k [])).getD []

/-- What the first k+1 agree on. -/
def agUp (f : Nat → List (List Int)) : Nat → List (List Int)
  | 0 => f 0
  | k + 1 => (agUp f k).filter fun x => (f (k + 1)).contains x

/-- Are the first k all trees? -/
def okUp (leaves : Int) (l : List (List Br)) (k : Nat) : Prop := ∀ i, i < k → (clOf leaves (l.getD i [])).isSome = true

instance (leaves : Int) (l : List (List Br)) (k : Nat) : Decidable (okUp leaves l k) := inferInstanceAs (Decidable (∀ i, i < k → (clOf leaves (l.getD i [])).isSome = true))

/-- What is answered. -/
def agreeOf (leaves : Int) (l : List (List Br)) : Int × List (List Int) :=
  if l.length = 0 then (2, []) else if okUp leaves l l.length then (0, agUp (clAt leaves l) (l.length - 1)) else (200, [])

theorem agUp_all (f : Nat → List (List Int)) : ∀ k, agUp f k = (f 0).filter fun x => (List.range k).all fun i => (f (i + 1)).contains x
  | 0 => by rw [agUp]; exact (List.filter_eq_self.2 fun x _ => rfl).symm
  | k + 1 => by
    rw [agUp, agUp_all f k, List.filter_filter]
    congr 1
    funext x
    rw [List.range_succ, List.all_append, Bool.and_comm]
    simp

theorem agUp_sub (f : Nat → List (List Int)) (k : Nat) : (agUp f k).Sublist (f 0) := by rw [agUp_all]; exact List.filter_sublist

/-- Fewer agree on no less. -/
theorem agUp_fewer (f : Nat → List (List Int)) {j k : Nat} (h : j ≤ k) : (agUp f k).Sublist (agUp f j) := by
  induction k with
  | zero => obtain rfl : j = 0 := by omega
            exact List.Sublist.refl _
  | succ k ih =>
    by_cases e : j = k + 1
    · subst e; exact List.Sublist.refl _
    · exact (List.filter_sublist).trans (ih (by omega))

theorem agUp_congr {f g : Nat → List (List Int)} {k : Nat} (h : ∀ i, i ≤ k → f i = g i) : agUp f k = agUp g k := by
  induction k with
  | zero => exact h 0 (Nat.le_refl _)
  | succ k ih => rw [agUp, agUp, ih (fun i hi => h i (by omega)), h (k + 1) (Nat.le_refl _)]

theorem agUp_last {f : Nat → List (List Int)} {x : List Int} {k : Nat} (h : ∀ i, i ≤ k → ∃ fr, f i = fr ++ [x]) : ∃ fr, agUp f k = fr ++ [x] := by
  induction k with
  | zero => exact h 0 (Nat.le_refl _)
  | succ k ih =>
    obtain ⟨fr, e⟩ := ih fun i hi => h i (by omega)
    obtain ⟨g, eg⟩ := h (k + 1) (Nat.le_refl _)
    refine ⟨fr.filter fun x => (f (k + 1)).contains x, ?_⟩
    rw [agUp, e, List.filter_append]
    congr 1
    simp [eg]

/-- The last clade of a tree of more than one leaf: all leaves. -/
theorem clades_last {leaves : Int} {bs : List Br} {T : NT} (h : rdRoot leaves bs = some T) (h1 : 1 < leaves) : ∃ fr, T.clades = fr ++ [sortI T.lv] ∧ (sortI T.lv) = (List.range leaves.toNat).map fun k : Nat => (k : Int) := by
  obtain ⟨hn, hl, hz⟩ := rdRoot_leaves h
  have hp : T.leaves.Perm (List.range leaves.toNat) := perm_range hn (fun k hk => by have := hl k hk; omega) (by omega)
  cases T with
  | leaf k => simp [NT.leaves] at hz; omega
  | fork a b =>
    refine ⟨a.clades ++ b.clades, by rw [clades_fork, lv_fork], ?_⟩
    refine (sortI_eq ?_ ?_).symm
    · unfold NT.lv
      exact (hp.map _).symm
    · rw [List.pairwise_map]
      refine List.pairwise_lt_range.imp fun {a b} hab => ?_
      show ((a : Nat) : Int) ≤ (b : Nat)
      omega

theorem agUp_whole {leaves : Int} {l : List (List Br)} {n : Nat} (h : okUp leaves l n) (hn : 0 < n) (h1 : 1 < leaves) : ∃ fr x, agUp (clAt leaves l) (n - 1) = fr ++ [x] ∧ (x.length : Int) = leaves := by
  obtain ⟨fr, e⟩ := agUp_last (x := (List.range leaves.toNat).map fun k : Nat => (k : Int)) (f := clAt leaves l) (k := n - 1) fun i hi => by
    have := h i (by omega)
    unfold clAt clOf at *
    cases hr : rdRoot leaves (l.getD i []) with
    | none => rw [hr] at this; cases this
    | some T =>
      obtain ⟨fr, e1, e2⟩ := clades_last hr h1
      exact ⟨fr, by rw [Option.map_some, Option.getD_some, e1, e2]⟩
  exact ⟨fr, _, e, by rw [List.length_map, List.length_range]; omega⟩

/-- The greedy match of what is contained in order. -/
theorem greedy_hit {α : Type} {a b : List α} {x y : α} (h : (x :: a).Sublist (y :: b)) (e : x = y) : a.Sublist b := by
  subst e
  exact List.cons_sublist_cons.1 h
theorem greedy_miss {α : Type} {a b : List α} {x y : α} (h : (x :: a).Sublist (y :: b)) (e : x ≠ y) : (x :: a).Sublist b := by
  cases h with
  | cons _ h => exact h
  | cons_cons => exact absurd rfl e

theorem take_getD (l : List (List Br)) {n i : Nat} (hi : i < n) : (l.take n).getD i [] = l.getD i [] := by
  simp [List.getD_eq_getElem?_getD, hi]
end Go.Proofs.Ytbmlkomfelkckaa
