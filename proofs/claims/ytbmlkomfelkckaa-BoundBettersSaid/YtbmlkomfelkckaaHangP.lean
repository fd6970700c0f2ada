/- A leaf hung at a branch: what the program's nodes and the document's lists make of it is one. In plain Lean. -/
import Derived.Test.YtbmlkomfelkckaaFormP
namespace Go.Proofs.Ytbmlkomfelkckaa

/-- A leaf hung at the branch that stands at p of the form, as it stands. -/
def NT.hangR : NT → Int → Nat → NT
  | .leaf j, p, k => if p = 0 then .fork (.leaf j) (.leaf k) else .leaf j
  | .fork a b, p, k => if p = (a.size : Int) + b.size then .fork (.fork a b) (.leaf k) else .fork (a.hangR p k) (b.hangR (p - a.size) k)

/-- The same, each fork's lesser key first. -/
def NT.hung : NT → Int → Nat → NT
  | .leaf j, p, k => if p = 0 then mkFork (.leaf j) (.leaf k) else .leaf j
  | .fork a b, p, k => if p = (a.size : Int) + b.size then mkFork (.fork a b) (.leaf k) else mkFork (a.hung p k) (b.hung (p - a.size) k)

theorem hung_norm {T : NT} (h : T.Norm) : ∀ (p : Int) (k : Nat), T.hung p k = (T.hangR p k).norm := by
  induction h with
  | leaf j =>
    intro p k
    unfold NT.hung NT.hangR
    split <;> rfl
  | @fork a b ha hb hk iha ihb =>
    intro p k
    unfold NT.hung NT.hangR
    split
    · rw [NT.norm, (NT.Norm.fork ha hb hk).eq]
      rfl
    · rw [NT.norm, iha, ihb]

theorem hangR_out : ∀ (T : NT) (p : Int) (k : Nat), (p < 0 ∨ (T.size : Int) ≤ p) → T.hangR p k = T
  | .leaf j, p, k, h => by
    simp only [NT.size] at h
    unfold NT.hangR
    rw [if_neg (by omega)]
  | .fork a b, p, k, h => by
    simp only [NT.size] at h
    unfold NT.hangR
    rw [if_neg (by omega), hangR_out a p k (by omega), hangR_out b _ k (by omega)]

theorem hangR_size : ∀ (T : NT) (p : Int) (k : Nat), 0 ≤ p → p < T.size → (T.hangR p k).size = T.size + 2
  | .leaf j, p, k, h0, h1 => by
    simp only [NT.size] at h1
    unfold NT.hangR
    rw [if_pos (by omega)]
    rfl
  | .fork a b, p, k, h0, h1 => by
    simp only [NT.size] at h1
    unfold NT.hangR
    split
    · rfl
    · by_cases hp : p < a.size
      · rw [NT.size, hangR_size a p k h0 hp, hangR_out b _ k (by omega)]
        simp only [NT.size]
        omega
      · rw [NT.size, hangR_out a p k (by omega), hangR_size b _ k (by omega) (by omega)]
        simp only [NT.size]
        omega

theorem hangR_leaves : ∀ (T : NT) (p : Int) (k : Nat), 0 ≤ p → p < T.size → (T.hangR p k).leaves.Perm (k :: T.leaves)
  | .leaf j, p, k, h0, h1 => by
    simp only [NT.size] at h1
    unfold NT.hangR
    rw [if_pos (by omega)]
    simp only [NT.leaves, List.cons_append, List.nil_append]
    exact List.Perm.swap k j []
  | .fork a b, p, k, h0, h1 => by
    simp only [NT.size] at h1
    unfold NT.hangR
    split
    · simp only [NT.leaves]
      exact List.perm_append_comm
    · by_cases hp : p < a.size
      · rw [NT.leaves, hangR_out b _ k (by omega), NT.leaves]
        exact (hangR_leaves a p k h0 hp).append_right _
      · rw [NT.leaves, hangR_out a p k (by omega), NT.leaves]
        refine ((hangR_leaves b _ k (by omega) (by omega)).append_left _).trans ?_
        exact List.perm_middle

/-- Where a branch is found once a leaf hangs at p. -/
def movedI (x p : Int) : Int := if p ≤ x then x + 2 else x

/-- One branch of the list in which a leaf hangs at p; i: its place. -/
def hangOne (i : Nat) (p : Int) (k : Nat) (b : Br) : List Br :=
  (if b.a = 0 ∧ b.b = 0 then b else ⟨b.leaf, movedI b.a p, movedI b.b p⟩) :: (if (i : Int) = p then [⟨(k : Int), 0, 0⟩, ⟨0, p, p + 1⟩] else [])

theorem hangOne_leaf (i : Nat) (p : Int) (k : Nat) (j : Int) : hangOne i p k ⟨j, 0, 0⟩ = ⟨j, 0, 0⟩ :: (if (i : Int) = p then [⟨(k : Int), 0, 0⟩, ⟨0, p, p + 1⟩] else []) := by
  unfold hangOne
  rw [if_pos ⟨rfl, rfl⟩]
theorem hangOne_fork (i : Nat) (p : Int) (k : Nat) (x y : Int) (h : ¬ (x = 0 ∧ y = 0)) : hangOne i p k ⟨0, x, y⟩ = ⟨0, movedI x p, movedI y p⟩ :: (if (i : Int) = p then [⟨(k : Int), 0, 0⟩, ⟨0, p, p + 1⟩] else []) := by
  unfold hangOne
  rw [if_neg h]
theorem movedI_lt {x p : Int} (h : x < p) : movedI x p = x := if_neg (by omega)
theorem movedI_ge {x p : Int} (h : p ≤ x) : movedI x p = x + 2 := if_pos h

def hangFrom (p : Int) (k : Nat) : Nat → List Br → List Br
  | _, [] => []
  | i, b :: bs => hangOne i p k b ++ hangFrom p k (i + 1) bs

theorem hangFrom_append (p : Int) (k : Nat) : ∀ (i : Nat) (xs ys : List Br), hangFrom p k i (xs ++ ys) = hangFrom p k i xs ++ hangFrom p k (i + xs.length) ys
  | i, [], ys => by simp [hangFrom]
  | i, x :: xs, ys => by
    simp only [List.cons_append, hangFrom, hangFrom_append p k (i + 1) xs ys, List.append_assoc, List.length_cons]
    congr 3
    omega

theorem hangFrom_snoc (p : Int) (k : Nat) (xs : List Br) (x : Br) : hangFrom p k 0 (xs ++ [x]) = hangFrom p k 0 xs ++ hangOne xs.length p k x := by
  rw [hangFrom_append, Nat.zero_add]
  simp [hangFrom]

/-- Behind the place all is moved by two. -/
theorem hang_after (p : Int) (k : Nat) : ∀ (T : NT) (base : Nat), p < base → hangFrom p k base (T.form base) = T.form (base + 2)
  | .leaf j, base, h => by
    simp only [NT.form, hangFrom, hangOne_leaf]
    rw [if_neg (by omega)]
    rfl
  | .fork a b, base, h => by
    have pa := a.size_pos
    have pb := b.size_pos
    simp only [NT.form, hangFrom_append, hang_after p k a base h, NT.form_length, List.length_append]
    rw [hang_after p k b (base + a.size) (by omega), show base + a.size + 2 = base + 2 + a.size by omega]
    congr 1
    rw [hangFrom, hangFrom, hangOne_fork _ _ _ _ _ (by omega), if_neg (by omega), movedI_ge (by omega), movedI_ge (by omega)]
    simp only [List.append_nil, List.cons.injEq, Br.mk.injEq, true_and, and_true]
    omega

/-- Ahead of the place all stands. -/
theorem hang_before (p : Int) (k : Nat) : ∀ (T : NT) (base : Nat), (base + T.size : Nat) ≤ p → hangFrom p k base (T.form base) = T.form base
  | .leaf j, base, h => by
    simp only [NT.size] at h
    simp only [NT.form, hangFrom, hangOne_leaf]
    rw [if_neg (by omega)]
    rfl
  | .fork a b, base, h => by
    have pa := a.size_pos
    have pb := b.size_pos
    simp only [NT.size] at h
    simp only [NT.form, hangFrom_append, hang_before p k a base (by omega), NT.form_length, List.length_append]
    rw [hang_before p k b (base + a.size) (by omega)]
    congr 1
    rw [hangFrom, hangFrom, hangOne_fork _ _ _ _ _ (by omega), if_neg (by omega), movedI_lt (by omega), movedI_lt (by omega)]
    rfl

/-- The list in which the leaf hangs is the form of the tree in which it hangs. -/
theorem hang_form (p : Int) (k : Nat) : ∀ (T : NT) (base : Nat), (base : Int) ≤ p → p < (base + T.size : Nat) → hangFrom p k base (T.form base) = (T.hangR (p - base) k).form base
  | .leaf j, base, h0, h1 => by
    simp only [NT.size] at h1
    obtain rfl : p = base := by omega
    unfold NT.hangR
    rw [if_pos (Int.sub_self _)]
    simp only [NT.form, hangFrom, hangOne_leaf, if_true, NT.size, List.append_nil, List.cons_append, List.nil_append, List.cons.injEq, Br.mk.injEq, true_and, and_true]
    omega
  | .fork a b, base, h0, h1 => by
    have pa := a.size_pos
    have pb := b.size_pos
    simp only [NT.size] at h1
    unfold NT.hangR
    by_cases hr : p = base + a.size + b.size
    · rw [if_pos (by omega)]
      have e1 := hang_before p k a base (by omega)
      have e2 := hang_before p k b (base + a.size) (by omega)
      have e3 : hangFrom p k (base + (a.size + b.size)) [⟨0, ((base + a.size : Nat) : Int) - 1, ((base + a.size + b.size : Nat) : Int) - 1⟩] = [⟨0, ((base + a.size : Nat) : Int) - 1, ((base + a.size + b.size : Nat) : Int) - 1⟩, ⟨(k : Int), 0, 0⟩, ⟨0, p, p + 1⟩] := by
        rw [hangFrom, hangFrom, hangOne_fork _ _ _ _ _ (by omega), if_pos (by omega), movedI_lt (by omega), movedI_lt (by omega)]
        rfl
      simp only [NT.form, hangFrom_append, e1, e2, NT.form_length, List.length_append, NT.size, e3]
      simp only [List.append_assoc, List.cons_append, List.nil_append]
      congr 4
      simp only [List.cons.injEq, Br.mk.injEq, true_and, and_true]
      omega
    · rw [if_neg (by omega)]
      by_cases ha : p < (base + a.size : Nat)
      · have e1 := hang_form p k a base h0 ha
        have e2 := hang_after p k b (base + a.size) ha
        have s1 := hangR_size a (p - base) k (by omega) (by omega)
        rw [hangR_out b _ k (by omega)]
        simp only [NT.form, hangFrom_append, e1, e2, NT.form_length, List.length_append, s1]
        rw [show base + (a.size + 2) = base + a.size + 2 by omega]
        congr 1
        rw [hangFrom, hangFrom, hangOne_fork _ _ _ _ _ (by omega), if_neg (by omega), movedI_ge (by omega), movedI_ge (by omega)]
        simp only [List.append_nil, List.cons.injEq, Br.mk.injEq, true_and, and_true]
        omega
      · have e1 := hang_before p k a base (by omega)
        have e2 := hang_form p k b (base + a.size) (by omega) (by omega)
        have s2 := hangR_size b (p - (base + a.size : Nat)) k (by omega) (by omega)
        rw [hangR_out a _ k (by omega)]
        rw [show p - (base : Int) - a.size = p - ((base + a.size : Nat) : Int) by omega]
        simp only [NT.form, hangFrom_append, e1, e2, NT.form_length, List.length_append, s2]
        congr 1
        rw [hangFrom, hangFrom, hangOne_fork _ _ _ _ _ (by omega), if_neg (by omega), movedI_lt (by omega), movedI_ge (by omega)]
        simp only [List.append_nil, List.cons.injEq, Br.mk.injEq, true_and, and_true]
        omega
end Go.Proofs.Ytbmlkomfelkckaa
