/- One arc more. In plain Lean. -/
import Derived.Test.YteonpfomlmfkjaaCycR
namespace Go.Proofs.Yteonpfomlmfkjaa

/-- An arc that leads on in the order leaves the order as it is. -/
theorem kahn_more {n : Nat} {arcs : List (Int × Int)} {i j : Nat} {u v : Int} (hf : (kahn n arcs n).length = n) (hi : (kahn n arcs n)[i]? = some u) (hj : (kahn n arcs n)[j]? = some v) (hij : i < j) : ∀ k, k ≤ n → kahn n (arcs ++ [(u, v)]) k = kahn n arcs k ∧ kahn n arcs k = (kahn n arcs n).take k := by
  have hnx : ∀ k, k < n → ∃ x, nextFree n arcs (kahn n arcs k) = some x := by
    intro k hk
    cases hq : nextFree n arcs (kahn n arcs k) with
    | some x => exact ⟨x, rfl⟩
    | none =>
      have h1 := kahn_stop hq n (by omega)
      have h2 := kahn_le n arcs k
      rw [h1] at hf
      omega
  have hlen : ∀ k, k ≤ n → (kahn n arcs k).length = k := by
    intro k
    induction k with
    | zero => intro _; rfl
    | succ k ih =>
      intro hk
      obtain ⟨x, hx⟩ := hnx k (by omega)
      rw [kahn_step hx, List.length_append, ih (by omega)]
      rfl
  have hpre : ∀ d k, k + d = n → kahn n arcs k = (kahn n arcs n).take k := by
    intro d
    induction d with
    | zero =>
      intro k hk
      obtain rfl : k = n := by omega
      rw [List.take_of_length_le (by omega)]
    | succ d ih =>
      intro k hk
      obtain ⟨x, hx⟩ := hnx k (by omega)
      have h1 := ih (k + 1) (by omega)
      rw [kahn_step hx] at h1
      have h2 := congrArg (List.take k) h1
      rw [List.take_take, Nat.min_eq_left (by omega), List.take_append_of_le_length (by rw [hlen k (by omega)]; exact Nat.le_refl _), List.take_of_length_le (by rw [hlen k (by omega)]; exact Nat.le_refl _)] at h2
      exact h2
  intro k
  induction k with
  | zero => intro _; exact ⟨rfl, rfl⟩
  | succ k ih =>
    intro hk
    obtain ⟨ih1, ih2⟩ := ih (by omega)
    obtain ⟨x, hx⟩ := hnx k (by omega)
    refine ⟨?_, hpre (n - (k + 1)) (k + 1) (by omega)⟩
    rw [kahn_step hx]
    have hx2 : nextFree n (arcs ++ [(u, v)]) (kahn n arcs k) = some x := by
      unfold nextFree at hx ⊢
      rw [List.find?_eq_some_iff_append] at hx ⊢
      obtain ⟨hfx, l1, l2, hl, hnot⟩ := hx
      have hsame : ∀ y, freeB (arcs ++ [(u, v)]) (kahn n arcs k) y = (freeB arcs (kahn n arcs k) y && !(y == v && !(kahn n arcs k).contains u)) := by
        intro y
        unfold freeB waitN
        rw [List.countP_append]
        by_cases hy : y = v
        · subst hy
          by_cases hu : u ∈ kahn n arcs k
          · simp [hu]
          · simp [hu]
        · simp [hy, Ne.symm hy]
      refine ⟨?_, l1, l2, hl, fun y hy => by rw [hsame, Bool.not_and, Bool.or_eq_true]; exact .inl (hnot y hy)⟩
      rw [hsame, hfx, Bool.true_and, Bool.not_eq_true', Bool.and_eq_false_iff]
      by_cases hxv : x = v
      · right
        subst hxv
        -- x stands at place k: j = k, and u stands before
        have hxk : (kahn n arcs n)[k]? = some x := by
          have h1 := hpre (n - (k + 1)) (k + 1) (by omega)
          have hx' : nextFree n arcs (kahn n arcs k) = some x := by unfold nextFree; rw [List.find?_eq_some_iff_append]; exact ⟨hfx, l1, l2, hl, hnot⟩
          rw [kahn_step hx'] at h1
          have h2 := congrArg (·[k]?) h1
          rw [List.getElem?_append_right (by rw [hlen k (by omega)]; exact Nat.le_refl _), hlen k (by omega), Nat.sub_self, List.getElem?_take, if_pos (by omega)] at h2
          exact h2.symm
        have hjk : j = k := by
          obtain ⟨a1, a2⟩ := List.getElem?_eq_some_iff.1 hj
          obtain ⟨b1, b2⟩ := List.getElem?_eq_some_iff.1 hxk
          have hnd := (kahn_nodup n arcs n).1
          apply Classical.byContradiction
          intro hne
          rcases Nat.lt_or_gt_of_ne hne with h | h
          · exact List.pairwise_iff_getElem.1 hnd j k a1 b1 h (a2.trans b2.symm)
          · exact List.pairwise_iff_getElem.1 hnd k j b1 a1 h (b2.trans a2.symm)
        subst hjk
        have : u ∈ kahn n arcs j := by
          rw [ih2]
          exact List.mem_iff_getElem?.2 ⟨i, by rw [List.getElem?_take, if_pos hij]; exact hi⟩
        simp [this]
      · left
        simpa using hxv
    rw [kahn, ih1, hx2]

/-- Two arcs between two nodes, there and back: a circle of at most two, and no order. -/
theorem two_circle {n : Nat} {arcs : List (Int × Int)} (hok : Ranged n arcs) {u v : Int} (huv : u ≠ v) (h1 : (u, v) ∈ arcs) (h2 : (v, u) ∈ arcs) : (kahn n arcs n).length ≠ n ∧ ∃ P, cycUp n arcs n = some P ∧ 0 < P.length ∧ P.length ≤ 2 := by
  have hc : ∃ (s : Nat) (Q : List Int), s < n ∧ Circ arcs (s : Int) Q ∧ Q.length = 2 := by
    obtain ⟨a0, a1, b0, b1⟩ := hok _ h1
    simp only at a0 a1 b0 b1
    rcases Int.lt_or_gt_of_ne huv with h | h
    · obtain ⟨s, rfl⟩ : ∃ s : Nat, u = (s : Int) := ⟨u.toNat, by omega⟩
      exact ⟨s, [(s : Int)] ++ [v], by omega, ⟨.step .start h1 h, by rw [lastOf_snoc]; exact h2⟩, rfl⟩
    · obtain ⟨s, rfl⟩ : ∃ s : Nat, v = (s : Int) := ⟨v.toNat, by omega⟩
      exact ⟨s, [(s : Int)] ++ [u], by omega, ⟨.step .start h2 h, by rw [lastOf_snoc]; exact h1⟩, rfl⟩
  obtain ⟨s, Q, hs, hQ, hl⟩ := hc
  refine ⟨fun hf => order_no_circ (full_order hf) hok _ _ hQ, ?_⟩
  rcases cycUp_spec hok n (Nat.le_refl _) with ⟨_, k⟩ | ⟨t, P, _, k2, k3, k4⟩
  · exact absurd hQ (k s hs Q)
  · exact ⟨P, k2, k3.circ.1.pos, by have := (k4 s Q hs hQ).1; omega⟩
end Go.Proofs.Yteonpfomlmfkjaa
