/- Orders of nodes and how far they lie. In plain Lean. -/
import Derived.Test.YteonpfomlmfkjaaRows
namespace Go.Proofs.Yteonpfomlmfkjaa

/-- Where arcs lead from v. -/
def outs (arcs : List (Int × Int)) (v : Int) : List Int := (arcs.filter fun a => a.1 == v).map fun a => a.2

/-- How many arcs lead to v from what doesn't stand. -/
def waitN (arcs : List (Int × Int)) (out : List Int) (v : Int) : Nat := arcs.countP fun a => a.2 == v && !out.contains a.1

def freeB (arcs : List (Int × Int)) (out : List Int) (v : Int) : Bool := !out.contains v && waitN arcs out v == 0

def nodes (n : Nat) : List Int := (List.range n).map fun k : Nat => (k : Int)

theorem mem_nodes {n : Nat} {v : Int} : v ∈ nodes n ↔ 0 ≤ v ∧ v < n := by
  unfold nodes
  rw [List.mem_map]
  constructor
  · rintro ⟨k, hk, rfl⟩
    have := List.mem_range.1 hk
    omega
  · intro h
    exact ⟨v.toNat, List.mem_range.2 (by omega), by omega⟩

theorem nodes_sorted (n : Nat) : (nodes n).Pairwise (· < ·) := by
  unfold nodes
  rw [List.pairwise_map]
  exact List.pairwise_lt_range.imp fun {a b} h => by show ((a : Nat) : Int) < (b : Nat); omega

theorem nodes_nodup (n : Nat) : (nodes n).Nodup := (nodes_sorted n).imp fun h => by omega
theorem nodes_length (n : Nat) : (nodes n).length = n := by simp [nodes]

/-- The least free node. -/
def nextFree (n : Nat) (arcs : List (Int × Int)) (out : List Int) : Option Int := (nodes n).find? (freeB arcs out)

/-- The order, after k steps. -/
def kahn (n : Nat) (arcs : List (Int × Int)) : Nat → List Int
  | 0 => []
  | k + 1 => match nextFree n arcs (kahn n arcs k) with
    | none => kahn n arcs k
    | some v => kahn n arcs k ++ [v]

theorem kahn_step {n : Nat} {arcs : List (Int × Int)} {k : Nat} {v : Int} (h : nextFree n arcs (kahn n arcs k) = some v) : kahn n arcs (k + 1) = kahn n arcs k ++ [v] := by
  rw [kahn, h]

theorem kahn_stop {n : Nat} {arcs : List (Int × Int)} {k : Nat} (h : nextFree n arcs (kahn n arcs k) = none) : ∀ m, k ≤ m → kahn n arcs m = kahn n arcs k := by
  intro m hm
  induction m with
  | zero => obtain rfl : k = 0 := by omega
            rfl
  | succ m ih =>
    by_cases e : k = m + 1
    · subst e; rfl
    · have := ih (by omega)
      rw [kahn, this, h]

theorem nodup_le {α : Type} [DecidableEq α] : ∀ (l m : List α), l.Nodup → (∀ x ∈ l, x ∈ m) → l.length ≤ m.length
  | [], m, _, _ => by simp
  | x :: l, m, h, hs => by
    rw [List.nodup_cons] at h
    have hx := hs x (by simp)
    have h1 := nodup_le l (m.erase x) h.2 (fun y hy => (List.mem_erase_of_ne (by rintro rfl; exact h.1 hy)).2 (hs y (by simp [hy])))
    rw [List.length_erase_of_mem hx] at h1
    have := List.length_pos_of_mem hx
    rw [List.length_cons]
    omega

theorem nodup_perm {α : Type} [DecidableEq α] {l m : List α} (h : l.Nodup) (hs : ∀ x ∈ l, x ∈ m) (hl : m.length ≤ l.length) : ∀ x, x ∈ l ↔ x ∈ m := by
  intro x
  refine ⟨hs x, fun hx => ?_⟩
  apply Classical.byContradiction
  intro hn
  have h1 := nodup_le l (m.erase x) h (fun y hy => (List.mem_erase_of_ne (by rintro rfl; exact hn hy)).2 (hs y hy))
  rw [List.length_erase_of_mem hx] at h1
  have := List.length_pos_of_mem hx
  omega

theorem next_mem {n : Nat} {arcs : List (Int × Int)} {out : List Int} {v : Int} (h : nextFree n arcs out = some v) : (0 ≤ v ∧ v < n) ∧ v ∉ out ∧ waitN arcs out v = 0 := by
  refine ⟨mem_nodes.1 (List.mem_of_find?_eq_some h), ?_⟩
  have := List.find?_some h
  simpa [freeB] using this

theorem waitN_zero {arcs : List (Int × Int)} {out : List Int} {v : Int} : waitN arcs out v = 0 ↔ ∀ a ∈ arcs, a.2 = v → a.1 ∈ out := by
  unfold waitN
  rw [List.countP_eq_zero]
  constructor
  · intro h a ha e
    have := h a ha
    simpa [e] using this
  · intro h a ha
    simp only [Bool.and_eq_true, beq_iff_eq, Bool.not_eq_true', List.contains_eq_mem, decide_eq_false_iff_not, not_and, Decidable.not_not]
    exact h a ha

/-- All arcs lead on. -/
def Topo (arcs : List (Int × Int)) (l : List Int) : Prop := ∀ (i : Nat) v, l[i]? = some v → ∀ a ∈ arcs, a.2 = v → a.1 ∈ l.take i

theorem kahn_le (n : Nat) (arcs : List (Int × Int)) : ∀ k, (kahn n arcs k).length ≤ k
  | 0 => Nat.le_refl _
  | k + 1 => by
    have := kahn_le n arcs k
    rw [kahn]
    split
    · omega
    · rw [List.length_append]
      exact Nat.succ_le_succ this

theorem kahn_nodup (n : Nat) (arcs : List (Int × Int)) : ∀ k, (kahn n arcs k).Nodup ∧ ∀ v ∈ kahn n arcs k, 0 ≤ v ∧ v < (n : Int)
  | 0 => ⟨List.nodup_nil, by simp [kahn]⟩
  | k + 1 => by
    obtain ⟨h1, h2⟩ := kahn_nodup n arcs k
    cases h : nextFree n arcs (kahn n arcs k) with
    | none => rw [kahn, h]; exact ⟨h1, h2⟩
    | some v =>
      rw [kahn_step h]
      obtain ⟨k1, k2, _⟩ := next_mem h
      refine ⟨List.nodup_append.2 ⟨h1, List.pairwise_singleton _ _, fun a ha b hb => ?_⟩, fun u hu => ?_⟩
      · obtain rfl := List.mem_singleton.1 hb
        rintro rfl
        exact k2 ha
      · rcases List.mem_append.1 hu with hu | hu
        · exact h2 u hu
        · obtain rfl := List.mem_singleton.1 hu
          exact k1

theorem kahn_most (n : Nat) (arcs : List (Int × Int)) (k : Nat) : (kahn n arcs k).length ≤ n := by
  obtain ⟨h1, h2⟩ := kahn_nodup n arcs k
  have := nodup_le _ (nodes n) h1 fun v hv => mem_nodes.2 (h2 v hv)
  rwa [nodes_length] at this

theorem kahn_topo (n : Nat) (arcs : List (Int × Int)) : ∀ k, Topo arcs (kahn n arcs k)
  | 0 => fun i v h => by simp [kahn] at h
  | k + 1 => by
    have ih := kahn_topo n arcs k
    cases h : nextFree n arcs (kahn n arcs k) with
    | none => rw [kahn, h]; exact ih
    | some v =>
      rw [kahn_step h]
      obtain ⟨_, _, k3⟩ := next_mem h
      intro i u hi a ha e
      by_cases hl : i < (kahn n arcs k).length
      · rw [List.getElem?_append_left hl] at hi
        rw [List.take_append_of_le_length (Nat.le_of_lt hl)]
        exact ih i u hi a ha e
      · have hi' := (List.getElem?_eq_some_iff.1 hi).1
        simp only [List.length_append, List.length_cons, List.length_nil] at hi'
        obtain rfl : i = (kahn n arcs k).length := by omega
        rw [List.getElem?_append_right (Nat.le_refl _), Nat.sub_self] at hi
        obtain rfl : v = u := by simpa using hi
        rw [List.take_left]
        exact waitN_zero.1 k3 a ha e

/-- All nodes in an order in which the arcs lead on. -/
structure Order (n : Nat) (arcs : List (Int × Int)) (l : List Int) : Prop where
  nodup : l.Nodup
  mem : ∀ v, v ∈ l ↔ 0 ≤ v ∧ v < (n : Int)
  topo : Topo arcs l

theorem full_order {n : Nat} {arcs : List (Int × Int)} (h : (kahn n arcs n).length = n) : Order n arcs (kahn n arcs n) := by
  obtain ⟨h1, h2⟩ := kahn_nodup n arcs n
  have hp := nodup_perm h1 (fun v hv => mem_nodes.2 (h2 v hv)) (by rw [nodes_length, h]; exact Nat.le_refl _)
  exact ⟨h1, fun v => (hp v).trans mem_nodes, kahn_topo n arcs n⟩

theorem Order.length {n : Nat} {arcs : List (Int × Int)} {l : List Int} (h : Order n arcs l) : l.length = n := by
  have hp : l.Perm (nodes n) := (List.perm_ext_iff_of_nodup h.nodup (nodes_nodup n)).2 fun v => (h.mem v).trans mem_nodes.symm
  rw [hp.length_eq, nodes_length]

/-- Where there is an order, the least one is found. -/
theorem Order.full {n : Nat} {arcs : List (Int × Int)} {l : List Int} (h : Order n arcs l) : (kahn n arcs n).length = n := by
  have key : ∀ k, k ≤ n → (kahn n arcs k).length = k := by
    intro k
    induction k with
    | zero => intro _; rfl
    | succ k ih =>
      intro hk
      have hl := ih (by omega)
      cases hn : nextFree n arcs (kahn n arcs k) with
      | some v => rw [kahn_step hn, List.length_append, hl]; rfl
      | none =>
        exfalso
        have hall : ∀ v ∈ nodes n, freeB arcs (kahn n arcs k) v = false := by
          intro v hv
          have := List.find?_eq_none.1 hn v hv
          simpa using this
        -- every place of l stands already
        have hst : ∀ (i : Nat) v, l[i]? = some v → v ∈ kahn n arcs k := by
          intro i
          induction i using Nat.strongRecOn with
          | _ i ihi =>
            intro v hv
            have hvm := (h.mem v).1 (List.mem_of_getElem? hv)
            have hf := hall v (mem_nodes.2 hvm)
            apply Classical.byContradiction
            intro hnot
            have hw : waitN arcs (kahn n arcs k) v = 0 := waitN_zero.2 fun a ha e => by
              have hm := h.topo i v hv a ha e
              obtain ⟨j, hj⟩ := List.mem_iff_getElem?.1 hm
              rw [List.getElem?_take] at hj
              split at hj
              · exact ihi j (by assumption) a.1 hj
              · cases hj
            simp [freeB, hnot, hw] at hf
        have hsub : l.length ≤ (kahn n arcs k).length := nodup_le _ _ h.nodup fun v hv => by
          obtain ⟨i, hi⟩ := List.mem_iff_getElem?.1 hv
          exact hst i v hi
        rw [h.length, hl] at hsub
        omega
  exact key n (Nat.le_refl _)

/-- The greatest of numbers, none less than 0. -/
def sup0 (l : List Int) : Int := l.foldl max 0

theorem foldl_max_le (b : Int) : ∀ (l : List Int) (m : Int), l.foldl max m ≤ b ↔ m ≤ b ∧ ∀ x ∈ l, x ≤ b
  | [], m => by simp
  | x :: l, m => by
    rw [List.foldl_cons, foldl_max_le b l, List.forall_mem_cons, Int.max_le, and_assoc]

theorem sup0_le {l : List Int} {b : Int} : sup0 l ≤ b ↔ 0 ≤ b ∧ ∀ x ∈ l, x ≤ b := foldl_max_le b l 0
theorem sup0_nonneg (l : List Int) : 0 ≤ sup0 l := (sup0_le.1 (Int.le_refl (sup0 l))).1
theorem le_sup0 {l : List Int} {x : Int} (h : x ∈ l) : x ≤ sup0 l := (sup0_le.1 (Int.le_refl (sup0 l))).2 x h
theorem sup0_ext {l m : List Int} (h : ∀ x, x ∈ l ↔ x ∈ m) : sup0 l = sup0 m :=
  Int.le_antisymm (sup0_le.2 ⟨sup0_nonneg _, fun x hx => le_sup0 ((h x).1 hx)⟩) (sup0_le.2 ⟨sup0_nonneg _, fun x hx => le_sup0 ((h x).2 hx)⟩)
theorem sup0_sub {l m : List Int} (h : ∀ x ∈ l, ∃ y ∈ m, x ≤ y) : sup0 l ≤ sup0 m :=
  sup0_le.2 ⟨sup0_nonneg _, fun x hx => by obtain ⟨y, hy, e⟩ := h x hx; exact Int.le_trans e (le_sup0 hy)⟩
theorem sup0_snoc (l : List Int) (x : Int) : sup0 (l ++ [x]) = max (sup0 l) x := by simp [sup0]

/-- The longest way to v, of up to f arcs. -/
def rk (arcs : List (Int × Int)) : Nat → Int → Int
  | 0, _ => 0
  | f + 1, v => sup0 ((arcs.filter fun a => a.2 == v).map fun a => rk arcs f a.1 + 1)

theorem rk_nonneg (arcs : List (Int × Int)) (f : Nat) (v : Int) : 0 ≤ rk arcs f v := by
  cases f with
  | zero => exact Int.le_refl _
  | succ f => exact sup0_nonneg _

/-- Fewer arcs, no higher rank. -/
theorem rk_fewer {arcs arcs' : List (Int × Int)} (h : ∀ a ∈ arcs', a ∈ arcs) : ∀ f v, rk arcs' f v ≤ rk arcs f v
  | 0, _ => Int.le_refl _
  | f + 1, v => by
    refine sup0_sub fun x hx => ?_
    obtain ⟨a, ha, rfl⟩ := List.mem_map.1 hx
    obtain ⟨h1, h2⟩ := List.mem_filter.1 ha
    exact ⟨_, List.mem_map.2 ⟨a, List.mem_filter.2 ⟨h a h1, h2⟩, rfl⟩, by have := rk_fewer h f a.1; omega⟩

theorem rk_at {arcs : List (Int × Int)} {l : List Int} (h : Topo arcs l) : ∀ (i : Nat) v, l[i]? = some v → ∀ f, i ≤ f → rk arcs f v = rk arcs i v := by
  intro i
  induction i using Nat.strongRecOn with
  | _ i ih =>
    intro v hv f hf
    cases f with
    | zero => obtain rfl : i = 0 := by omega
              rfl
    | succ f =>
      have hin : ∀ a ∈ arcs, a.2 = v → ∃ j, j < i ∧ l[j]? = some a.1 := by
        intro a ha e
        obtain ⟨j, hj⟩ := List.mem_iff_getElem?.1 (h i v hv a ha e)
        rw [List.getElem?_take] at hj
        split at hj
        · exact ⟨j, by assumption, hj⟩
        · cases hj
      cases i with
      | zero =>
        have : (arcs.filter fun a => a.2 == v) = [] := by
          rw [List.filter_eq_nil_iff]
          intro a ha e
          obtain ⟨j, hj, _⟩ := hin a ha (by simpa using e)
          omega
        show sup0 ((arcs.filter fun a => a.2 == v).map fun a => rk arcs f a.1 + 1) = 0
        rw [this]
        rfl
      | succ i =>
        rw [rk, rk]
        congr 1
        refine List.map_congr_left fun a ha => ?_
        obtain ⟨h1, h2⟩ := List.mem_filter.1 ha
        obtain ⟨j, hj, hja⟩ := hin a h1 (by simpa using h2)
        rw [ih j hj a.1 hja f (by omega), ih j hj a.1 hja i (by omega)]

/-- A node's rank. -/
def rank (n : Nat) (arcs : List (Int × Int)) (v : Int) : Int := rk arcs n v

theorem rank_eq {n : Nat} {arcs : List (Int × Int)} {l : List Int} (h : Order n arcs l) {v : Int} (hv : v ∈ l) : rank n arcs v = sup0 ((arcs.filter fun a => a.2 == v).map fun a => rank n arcs a.1 + 1) := by
  obtain ⟨i, hi⟩ := List.mem_iff_getElem?.1 hv
  have hil := (List.getElem?_eq_some_iff.1 hi).1
  rw [h.length] at hil
  exact (rk_at h.topo i v hi n (by omega)).trans (rk_at h.topo i v hi (n + 1) (by omega)).symm

end Go.Proofs.Yteonpfomlmfkjaa
