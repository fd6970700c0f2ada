/- Where every known state is at most 3, so are the states that are told. -/
import Derived.Test.YtbmlkomfelkckaaDoorPick
namespace Go.Proofs.YtbmlkomfelkckaaDoor

def SmallSet (x : Nat) : Prop := x = 4095 ∨ (x ≠ 0 ∧ x < 16)

theorem small_bit {x : Nat} (h : SmallSet x) : ∃ c, c ≤ 3 ∧ x.testBit c = true := by
  rcases h with rfl | ⟨h0, h1⟩
  · exact ⟨0, by omega, by decide⟩
  · obtain ⟨c, hc⟩ := exists_bit h0
    refine ⟨c, ?_, hc⟩
    refine Decidable.by_contra fun q => ?_
    have : x < 2 ^ c := Nat.lt_of_lt_of_le h1 (show 2 ^ 4 ≤ 2 ^ c from Nat.pow_le_pow_right (by decide) (by omega))
    rw [Nat.testBit_lt_two_pow this] at hc
    cases hc

theorem small_leaf {x : Int} (h : x ≤ 3) : SmallSet (leafSet x) := by
  unfold leafSet
  by_cases h0 : 0 ≤ x
  · rw [if_pos h0]
    have : x.toNat ≤ 3 := by omega
    exact .inr ⟨Nat.ne_of_gt (Nat.two_pow_pos _), Nat.lt_of_le_of_lt (show 2 ^ x.toNat ≤ 2 ^ 3 from Nat.pow_le_pow_right (by decide) this) (by decide)⟩
  · rw [if_neg h0]
    exact .inl rfl

theorem and_all {x : Nat} (h : x < 4096) : 4095 &&& x = x := by
  have : (4095 : Nat) = 2 ^ 12 - 1 := rfl
  rw [this, Nat.and_comm, Nat.and_two_pow_sub_one_eq_mod]
  exact Nat.mod_eq_of_lt h

theorem small_lt {x : Nat} (h : SmallSet x) : x < 4096 := by
  rcases h with rfl | ⟨_, h⟩
  · decide
  · omega

theorem small_ne {x : Nat} (h : SmallSet x) : x ≠ 0 := by
  rcases h with rfl | ⟨h, _⟩
  · decide
  · exact h

theorem small_and {x y : Nat} (hx : SmallSet x) (hy : SmallSet y) (hz : x &&& y ≠ 0) : SmallSet (x &&& y) := by
  rcases hx with rfl | ⟨_, h1⟩
  · rw [and_all (small_lt hy)]; exact hy
  · exact .inr ⟨hz, Nat.lt_of_le_of_lt Nat.and_le_left h1⟩

theorem small_or {x y : Nat} (hx : SmallSet x) (hy : SmallSet y) (hz : x &&& y = 0) : SmallSet (x ||| y) := by
  rcases hx with rfl | ⟨h0, h1⟩
  · rw [and_all (small_lt hy)] at hz
    exact absurd hz (small_ne hy)
  · rcases hy with rfl | ⟨h2, h3⟩
    · rw [Nat.and_comm, and_all (by omega)] at hz
      exact absurd hz h0
    · refine .inr ⟨?_, Nat.or_lt_two_pow (n := 4) h1 h3⟩
      exact Nat.ne_of_gt (Nat.lt_of_lt_of_le (Nat.pos_of_ne_zero h0) Nat.left_le_or)

theorem small_ways {p : Pr} {root : Bool} {up : Nat} (h : SmallSet p.lo) (hu : up ≤ 3) : low (ways p root up) ≤ 3 := by
  obtain ⟨c, hc, hb⟩ := small_bit h
  have hlo : low p.lo ≤ 3 := Nat.le_trans (low_le hb (by omega)) hc
  unfold ways
  split
  · exact hlo
  · split
    · rw [low_pow up (by omega)]; exact hu
    · split
      · refine Nat.le_trans (low_le (k := c) ?_ (by omega)) hc
        rw [Nat.testBit_or, hb]
        rfl
      · exact hlo

theorem pall_small {rows : List (List Int)} {site : Nat} {bs : List Br} {leaves : Int} (hok : BrOk leaves bs) (hst : ∀ (i : Nat) (b : Br), bs[i]? = some b → b.a = b.b → stateAt rows site b.leaf ≤ 3) :
    ∀ k, k ≤ bs.length → ∀ p ∈ pall rows site (bs.take k), SmallSet p.lo
  | 0, _ => by simp [pall]
  | k + 1, hk => by
    have hb : bs[k]? = some (bs[k]'(by omega)) := List.getElem?_eq_getElem (by omega)
    have hlen : (pall rows site (bs.take k)).length = k := by
      unfold pall
      rw [pall_len]
      simp
      omega
    have ih := pall_small hok hst k (by omega)
    rw [show bs.take (k + 1) = bs.take k ++ [bs[k]'(by omega)] by rw [List.take_add_one, hb]; rfl, pall_snoc, pstep_new]
    have hg : ∀ j, j < k → SmallSet ((pall rows site (bs.take k)).getD j ⟨0, 0⟩).lo := by
      intro j hj
      rw [List.getD_eq_getElem?_getD, List.getElem?_eq_getElem (by omega)]
      exact ih _ (List.getElem_mem _)
    intro p hp
    rcases List.mem_append.1 hp with hp | hp
    · exact ih p hp
    · rw [List.mem_singleton] at hp
      subst hp
      generalize bs[k]'(by omega) = b at hb
      unfold pnew
      by_cases hab : b.a = b.b
      · rw [if_pos hab]
        exact small_leaf (hst k b hb hab)
      · rw [if_neg hab]
        obtain ⟨q1, q2⟩ : b.a.toNat < k ∧ b.b.toNat < k := by
          rcases hok k b hb with h | h
          · exact absurd (h.1.trans h.2.1.symm) hab
          · omega
        by_cases hz : ((pall rows site (bs.take k)).getD b.a.toNat ⟨0, 0⟩).lo &&& ((pall rows site (bs.take k)).getD b.b.toNat ⟨0, 0⟩).lo = 0
        · rw [if_pos hz]
          exact small_or (hg _ q1) (hg _ q2) hz
        · rw [if_neg hz]
          exact small_and (hg _ q1) (hg _ q2) hz

theorem sstep_small {bs : List Br} {ps : List Pr} {i : Nat} {s : SS} (hp : SmallSet (ps.getD i ⟨0, 0⟩).lo) (hl : ∀ x ∈ s.l, x ≤ 3) (ha : ∀ x ∈ s.above, x ≤ 3) :
    (∀ x ∈ (sstep bs ps i s).l, x ≤ 3) ∧ (∀ x ∈ (sstep bs ps i s).above, x ≤ 3) := by
  have hu : (s.above.getD i 0).toNat ≤ 3 := by
    rw [List.getD_eq_getElem?_getD]
    cases h : s.above[i]? with
    | none => simp
    | some y => have := ha y (List.mem_of_getElem? h); simp; omega
  have hst := small_ways (root := decide (i + 1 = bs.length)) hp hu
  have hset : ∀ (l : List Int) (j n : Nat), n ≤ 3 → (∀ x ∈ l, x ≤ 3) → ∀ x ∈ l.set j (n : Int), x ≤ 3 := by
    intro l j n hn h x hx
    rcases List.mem_or_eq_of_mem_set hx with hx | rfl
    · exact h x hx
    · omega
  unfold sstep
  simp only
  split
  · exact ⟨hset _ _ _ hst hl, ha⟩
  · exact ⟨hset _ _ _ hst hl, hset _ _ _ hst (hset _ _ _ hst ha)⟩

theorem spass_small {bs : List Br} {ps : List Pr} (hp : ∀ i, i < bs.length → SmallSet (ps.getD i ⟨0, 0⟩).lo) : ∀ (j : Nat) (s : SS), j ≤ bs.length → (∀ x ∈ s.l, x ≤ 3) → (∀ x ∈ s.above, x ≤ 3) → ∀ x ∈ (spass bs ps j s).l, x ≤ 3
  | 0, _, _, hl, _ => hl
  | j + 1, s, hj, hl, ha => by
    obtain ⟨h1, h2⟩ := sstep_small (bs := bs) (i := j) (hp j (by omega)) hl ha
    exact spass_small hp j _ (by omega) h1 h2

/-- The states that are told are at most 3. -/
theorem states_small {rows : List (List Int)} {site : Nat} {bs : List Br} {leaves : Int} (hok : BrOk leaves bs) (hst : ∀ (i : Nat) (b : Br), bs[i]? = some b → b.a = b.b → stateAt rows site b.leaf ≤ 3) (i : Nat) : at0 (statesOf rows site bs) i ≤ 3 := by
  have h := spass_small (bs := bs) (ps := pall rows site bs) (fun i hi => by
    have h1 := pall_small hok hst bs.length (Nat.le_refl _)
    rw [List.take_length] at h1
    have hlen : (pall rows site bs).length = bs.length := by
      unfold pall
      rw [pall_len]
      simp
    rw [List.getD_eq_getElem?_getD, List.getElem?_eq_getElem (by omega)]
    exact h1 _ (List.getElem_mem _)) bs.length ⟨List.replicate bs.length 0, List.replicate bs.length 0⟩ (Nat.le_refl _) (fun x hx => by rw [(List.mem_replicate.1 hx).2]; decide) (fun x hx => by rw [(List.mem_replicate.1 hx).2]; decide)
  unfold at0 statesOf
  rw [List.getD_eq_getElem?_getD]
  cases hh : (spass bs (pall rows site bs) bs.length ⟨List.replicate bs.length 0, List.replicate bs.length 0⟩).l[i]? with
  | none => simp
  | some y => exact h y (List.mem_of_getElem? hh)
end Go.Proofs.YtbmlkomfelkckaaDoor
