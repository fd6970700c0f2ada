/- All trees differ. In plain Lean. -/
import Derived.Test.YtbmlkomfelkckaaAllP
namespace Go.Proofs.Ytbmlkomfelkckaa

/-! ### All trees differ -/

theorem mkFork_lt {a b : NT} (h : a.key ≤ b.key) : mkFork a b = .fork a b := by unfold mkFork; rw [if_neg (by omega)]

/-- Hanging at p is undone, and p is found again. -/
theorem hung_inj {T : NT} (h : T.Norm) (k : Nat) : (∀ j ∈ T.leaves, j < k) → ∀ {S : NT}, S.Norm → (∀ j ∈ S.leaves, j < k) → ∀ p q : Nat, p < T.size → q < S.size → T.hung (p : Int) k = S.hung (q : Int) k → T = S ∧ p = q := by
  induction h with
  | leaf j =>
    intro hT S hS hSk p q hp hq he
    have hj : j < k := hT j (by simp [NT.leaves])
    simp only [NT.size] at hp
    obtain rfl : p = 0 := by omega
    rw [NT.hung, if_pos (by rfl), mkFork_lt (by simp only [NT.key]; omega)] at he
    by_cases hr : q = S.size - 1
    · subst hr
      rw [show ((S.size - 1 : Nat) : Int) = (S.size : Int) - 1 by omega, hung_root k (hSk _ (key_mem S))] at he
      injection he with h1 h2
      subst h1
      exact ⟨rfl, by simp [NT.size]⟩
    · cases S with
      | leaf i => simp only [NT.size] at hq hr; omega
      | fork a b =>
        cases hS with
        | fork ha hb hk =>
        simp only [NT.size] at hq hr
        have e := congrArg NT.size he
        have hs := hung_norm (NT.Norm.fork ha hb hk) (q : Int) k
        rw [hs, norm_size, hangR_size _ _ _ (by omega) (by simp only [NT.size]; omega)] at e
        simp only [NT.size] at e
        have := a.size_pos
        have := b.size_pos
        omega
  | @fork a b ha hb hab iha ihb =>
    intro hT S hS hSk p q hp hq he
    have hTk : (NT.fork a b).key < k := hT _ (key_mem _)
    have hpa := a.size_pos
    have hpb := b.size_pos
    have hal : ∀ j ∈ a.leaves, j < k := fun j hj => hT j (by rw [NT.leaves]; exact List.mem_append_left _ hj)
    have hbl : ∀ j ∈ b.leaves, j < k := fun j hj => hT j (by rw [NT.leaves]; exact List.mem_append_right _ hj)
    cases S with
    | leaf i =>
      simp only [NT.size] at hq
      obtain rfl : q = 0 := by omega
      have e := congrArg NT.size he
      rw [hung_norm (NT.Norm.fork ha hb hab) (p : Int) k, norm_size, hangR_size _ _ _ (by omega) (by omega), hung_norm hS, norm_size, hangR_size _ _ _ (by omega) (by simp [NT.size])] at e
      simp only [NT.size] at e
      omega
    | fork c d =>
      have hS0 := hS
      cases hS with
      | fork hc hd hcd =>
      have hSk' : (NT.fork c d).key < k := hSk _ (key_mem _)
      have hcl : ∀ j ∈ c.leaves, j < k := fun j hj => hSk j (by rw [NT.leaves]; exact List.mem_append_left _ hj)
      have hdl : ∀ j ∈ d.leaves, j < k := fun j hj => hSk j (by rw [NT.leaves]; exact List.mem_append_right _ hj)
      have hpc := c.size_pos
      have hpd := d.size_pos
      have key_hung : ∀ {X : NT}, X.Norm → (∀ j ∈ X.leaves, j < k) → ∀ p : Int, (X.hung p k).key = X.key := by
        intro X hX
        induction hX with
        | leaf i =>
          intro hl p
          have := hl i (by simp [NT.leaves])
          unfold NT.hung
          split
          · rw [key_mkFork]; simp only [NT.key]; omega
          · rfl
        | @fork x y hx hy hxy ihx ihy =>
          intro hl p
          have hx' : ∀ j ∈ x.leaves, j < k := fun j hj => hl j (by rw [NT.leaves]; exact List.mem_append_left _ hj)
          have hy' : ∀ j ∈ y.leaves, j < k := fun j hj => hl j (by rw [NT.leaves]; exact List.mem_append_right _ hj)
          have := hx' _ (key_mem x)
          unfold NT.hung
          split
          · rw [key_mkFork]; simp only [NT.key]; omega
          · rw [key_mkFork, ihx hx' p, ihy hy' _]; simp only [NT.key]; omega
      have hmk : ∀ {x y : NT}, x.Norm → y.Norm → (∀ j ∈ x.leaves, j < k) → (∀ j ∈ y.leaves, j < k) → x.key ≤ y.key → ∀ p r : Int, mkFork (x.hung p k) (y.hung r k) = .fork (x.hung p k) (y.hung r k) := by
        intro x y hx hy hxl hyl hxy p r
        exact mkFork_lt (by rw [key_hung hx hxl, key_hung hy hyl]; exact hxy)
      have leaf_hung : ∀ {X : NT}, X.Norm → (∀ j ∈ X.leaves, j < k) → ∀ r : Int, X.hung r k ≠ .leaf k := by
        intro X hX hXl r hr
        have := congrArg NT.key hr
        rw [key_hung hX hXl] at this
        have h2 := hXl _ (key_mem X)
        simp only [NT.key] at this
        omega
      have size_hung : ∀ {X : NT}, X.Norm → ∀ r : Nat, r < X.size → (X.hung (r : Int) k).size = X.size + 2 := by
        intro X hX r hr
        rw [hung_norm hX, norm_size, hangR_size _ _ _ (by omega) (by omega)]
      by_cases hpr : (p : Int) = (a.size : Int) + b.size
      · have eT : (NT.fork a b).hung (p : Int) k = .fork (.fork a b) (.leaf k) := by
          rw [NT.hung, if_pos hpr, mkFork_lt (by simp only [NT.key] at hTk ⊢; omega)]
        by_cases hqr : (q : Int) = (c.size : Int) + d.size
        · have eS : (NT.fork c d).hung (q : Int) k = .fork (.fork c d) (.leaf k) := by
            rw [NT.hung, if_pos hqr, mkFork_lt (by simp only [NT.key] at hSk' ⊢; omega)]
          rw [eT, eS] at he
          injection he with h1 h2
          injection h1 with h3 h4
          subst h3; subst h4
          exact ⟨rfl, by omega⟩
        · rw [eT, NT.hung, if_neg hqr, hmk hc hd hcl hdl hcd] at he
          injection he with h1 h2
          exact absurd h2.symm (leaf_hung hd hdl _)
      · have eT : (NT.fork a b).hung (p : Int) k = .fork (a.hung p k) (b.hung ((p : Int) - a.size) k) := by
          rw [NT.hung, if_neg hpr, hmk ha hb hal hbl hab]
        by_cases hqr : (q : Int) = (c.size : Int) + d.size
        · have eS : (NT.fork c d).hung (q : Int) k = .fork (.fork c d) (.leaf k) := by
            rw [NT.hung, if_pos hqr, mkFork_lt (by simp only [NT.key] at hSk' ⊢; omega)]
          rw [eT, eS] at he
          injection he with h1 h2
          exact absurd h2 (leaf_hung hb hbl _)
        · have eS : (NT.fork c d).hung (q : Int) k = .fork (c.hung q k) (d.hung ((q : Int) - c.size) k) := by
            rw [NT.hung, if_neg hqr, hmk hc hd hcl hdl hcd]
          rw [eT, eS] at he
          injection he with h1 h2
          have mem_hung : ∀ {X : NT}, X.Norm → ∀ r : Nat, r < X.size → k ∈ (X.hung (r : Int) k).leaves := by
            intro X hX r hr
            exact (hung_leaves hX _ _ (by omega) (by omega)).mem_iff.2 List.mem_cons_self
          simp only [NT.size] at hp hq
          by_cases hpl : p < a.size
          · rw [hung_out hb _ _ (.inl (by omega))] at h2
            by_cases hql : q < c.size
            · rw [hung_out hd _ _ (.inl (by omega))] at h2
              obtain ⟨h3, h4⟩ := iha hal hc hcl p q hpl hql h1
              exact ⟨by rw [h3, h2], h4⟩
            · exfalso
              have e : ((q : Int) - c.size) = ((q - c.size : Nat) : Int) := by omega
              rw [e] at h2
              have := mem_hung hd (q - c.size) (by omega)
              rw [← h2] at this
              exact absurd (hbl k this) (by omega)
          · have ep : ((p : Int) - a.size) = ((p - a.size : Nat) : Int) := by omega
            rw [hung_out ha _ _ (.inr (by omega))] at h1
            rw [ep] at h2
            by_cases hql : q < c.size
            · exfalso
              rw [hung_out hd _ _ (.inl (by omega))] at h2
              have := mem_hung hb (p - a.size) (by omega)
              rw [h2] at this
              exact absurd (hdl k this) (by omega)
            · have e : ((q : Int) - c.size) = ((q - c.size : Nat) : Int) := by omega
              rw [hung_out hc _ _ (.inr (by omega))] at h1
              rw [e] at h2
              obtain ⟨h3, h4⟩ := ihb hbl hd hdl (p - a.size) (q - c.size) (by omega) (by omega) h2
              subst h1; subst h3
              exact ⟨rfl, by omega⟩

theorem trees_nodup : ∀ k, k ≤ 11 → (treesUp k).Nodup
  | 0, _ => by simp [treesUp]
  | k + 1, hk => by
    rw [treesUp]
    have ih := trees_nodup k (by omega)
    have hon := trees_on k (by omega)
    have hl : ∀ T ∈ treesUp k, ∀ j ∈ T.leaves, j < k + 1 := fun T hT j hj => (hon T hT).1.lt j hj
    refine List.pairwise_flatMap.2 ⟨fun T hT => ?_, ?_⟩
    · unfold cands
      refine List.pairwise_map.2 (List.Pairwise.imp_of_mem ?_ (List.nodup_range (n := T.size)))
      intro p q hp hq hne he
      exact hne (hung_inj (hon T hT).2 (k + 1) (hl T hT) (hon T hT).2 (hl T hT) p q (List.mem_range.1 hp) (List.mem_range.1 hq) he).2
    · refine List.Pairwise.imp_of_mem ?_ ih
      intro T S hT hS hne X hX Y hY hXY
      obtain ⟨p, hp, rfl⟩ := List.mem_map.1 hX
      obtain ⟨q, hq, hqe⟩ := List.mem_map.1 hY
      rw [← hXY] at hqe
      exact hne (hung_inj (hon T hT).2 (k + 1) (hl T hT) (hon S hS).2 (hl S hS) p q (List.mem_range.1 hp) (List.mem_range.1 hq) hqe.symm).1

theorem treesOf_nodup (n : Int) : (treesOf n).Nodup := by
  unfold treesOf
  split
  · exact trees_nodup _ (by omega)
  · exact List.nodup_nil
end Go.Proofs.Ytbmlkomfelkckaa
