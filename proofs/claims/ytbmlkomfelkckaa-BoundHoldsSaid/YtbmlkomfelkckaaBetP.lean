/- The tree that comes of changing branches about, as long as that makes fewer changes. In plain Lean. -/
import Derived.Test.YtbmlkomfelkckaaNextP
namespace Go.Proofs.Ytbmlkomfelkckaa

/-- As long as the best neighbour has fewer changes. -/
def better (cost : NT → Nat) (T : NT) : NT :=
  match bestOf cost (nbrsUp T T.size) with
  | none => T
  | some X => if cost X < cost T then better cost X else T
termination_by cost T

theorem better_none {cost : NT → Nat} {T : NT} (h : bestOf cost (nbrsUp T T.size) = none) : better cost T = T := by
  rw [better, h]
theorem better_ge {cost : NT → Nat} {T X : NT} (h : bestOf cost (nbrsUp T T.size) = some X) (hc : ¬ cost X < cost T) : better cost T = T := by
  rw [better, h]
  exact if_neg hc
theorem better_lt {cost : NT → Nat} {T X : NT} (h : bestOf cost (nbrsUp T T.size) = some X) (hc : cost X < cost T) : better cost T = better cost X := by
  rw [better, h]
  exact if_pos hc

theorem best_on {cost : NT → Nat} {T X : NT} {n : Nat} (hT : T.On n) (h : bestOf cost (nbrsUp T T.size) = some X) : X.On n ∧ X.Norm := by
  rcases bestOf_mem _ _ _ h with h | h
  · exact nbrs_on hT h
  · cases h

structure BetterOk (cost : NT → Nat) (T B : NT) (n : Nat) : Prop where
  on : B.On n
  norm : B.Norm
  le : cost B ≤ cost T
  again : better cost B = B

theorem better_ok (cost : NT → Nat) (n : Nat) : ∀ (k : Nat) (T : NT), cost T ≤ k → T.On n → T.Norm → BetterOk cost T (better cost T) n := by
  intro k
  induction k with
  | zero =>
    intro T hk h1 h2
    have e : better cost T = T := by
      cases hb : bestOf cost (nbrsUp T T.size) with
      | none => exact better_none hb
      | some X => exact better_ge hb (by omega)
    rw [e]
    exact ⟨h1, h2, Nat.le_refl _, e⟩
  | succ k ih =>
    intro T hk h1 h2
    cases hb : bestOf cost (nbrsUp T T.size) with
    | none =>
      have e := better_none hb
      rw [e]
      exact ⟨h1, h2, Nat.le_refl _, e⟩
    | some X =>
      by_cases hc : cost X < cost T
      · obtain ⟨x1, x2⟩ := best_on h1 hb
        rw [better_lt hb hc]
        obtain ⟨r1, r2, r3, r4⟩ := ih X (by omega) x1 x2
        exact ⟨r1, r2, by omega, r4⟩
      · have e := better_ge hb hc
        rw [e]
        exact ⟨h1, h2, Nat.le_refl _, e⟩

theorem better_all {cost : NT → Nat} {T : NT} {n : Nat} (h1 : T.On n) (h2 : T.Norm) : BetterOk cost T (better cost T) n := better_ok cost n _ T (Nat.le_refl _) h1 h2
end Go.Proofs.Ytbmlkomfelkckaa
