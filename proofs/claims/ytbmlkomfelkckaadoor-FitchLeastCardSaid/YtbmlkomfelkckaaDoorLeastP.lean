/- The law FitchLeast's search over all states, in plain Lean: it comes to the least changes. -/
import Derived.Test.YtbmlkomfelkckaaDoorLab
namespace Go.Proofs.YtbmlkomfelkckaaDoor

/-- The branch is a leaf whose state is known. -/
def knownAt (rows : List (List Int)) (site : Nat) (b : Br) : Prop := (b.a = 0 ∧ b.b = 0) ∧ 0 ≤ stateAt rows site b.leaf
instance (rows : List (List Int)) (site : Nat) (b : Br) : Decidable (knownAt rows site b) := by unfold knownAt; infer_instance

def brAt (bs : List Br) (i : Nat) : Br := bs.getD i ⟨0, 0, 0⟩

/-- The least over all states of the 'd' branches behind those whose states are 'p'. -/
def leastP (rows : List (List Int)) (site : Nat) (bs : List Br) : Nat → List Int → Nat
  | 0, p => costUp p bs bs.length
  | d + 1, p =>
    if knownAt rows site (brAt bs p.length) then leastP rows site bs d (p ++ [stateAt rows site (brAt bs p.length).leaf])
    else min (min (min (min 1000 (leastP rows site bs d (p ++ [0]))) (leastP rows site bs d (p ++ [1]))) (leastP rows site bs d (p ++ [2]))) (leastP rows site bs d (p ++ [3]))

theorem at0_append_left (p : List Int) (x : Int) (i : Nat) (h : i < p.length) : at0 (p ++ [x]) i = at0 p i := by
  unfold at0
  simp [List.getD_eq_getElem?_getD, List.getElem?_append_left h]

theorem at0_append_last (p : List Int) (x : Int) : at0 (p ++ [x]) p.length = x := by
  unfold at0
  simp [List.getD_eq_getElem?_getD]

/-- The first states fit. -/
structure FitsUp (rows : List (List Int)) (site : Nat) (bs : List Br) (p : List Int) : Prop where
  range : ∀ i, i < p.length → 0 ≤ at0 p i ∧ at0 p i < 12
  own : ∀ (i : Nat) (b : Br), i < p.length → bs[i]? = some b → b.a = 0 → b.b = 0 → 0 ≤ stateAt rows site b.leaf → at0 p i = stateAt rows site b.leaf

theorem FitsUp.snoc {rows : List (List Int)} {site : Nat} {bs : List Br} {p : List Int} (h : FitsUp rows site bs p) {x : Int} (hx : 0 ≤ x ∧ x < 12) (ho : knownAt rows site (brAt bs p.length) → x = stateAt rows site (brAt bs p.length).leaf) : FitsUp rows site bs (p ++ [x]) := by
  refine ⟨fun i hi => ?_, fun i b hi hb h1 h2 h3 => ?_⟩
  · simp only [List.length_append, List.length_cons, List.length_nil] at hi
    by_cases hil : i < p.length
    · rw [at0_append_left _ _ _ hil]; exact h.range i hil
    · obtain rfl : i = p.length := by omega
      rw [at0_append_last]; exact hx
  · simp only [List.length_append, List.length_cons, List.length_nil] at hi
    by_cases hil : i < p.length
    · rw [at0_append_left _ _ _ hil]; exact h.own i b hil hb h1 h2 h3
    · obtain rfl : i = p.length := by omega
      rw [at0_append_last]
      have e : brAt bs p.length = b := by unfold brAt; rw [List.getD_eq_getElem?_getD, hb]; rfl
      rw [e] at ho
      exact ho ⟨⟨h1, h2⟩, h3⟩

theorem leastP_ge {rows : List (List Int)} {site : Nat} {bs : List Br} {leaves : Int} {T : NT} (hT : rdRoot leaves bs = some T) (hm : ∀ i, i < bs.length → knownAt rows site (brAt bs i) → stateAt rows site (brAt bs i).leaf < 12) (hf : fnum (fun k => stateAt rows site k) T ≤ 1000) :
    ∀ (d : Nat) (p : List Int), p.length + d = bs.length → FitsUp rows site bs p → fnum (fun k => stateAt rows site k) T ≤ leastP rows site bs d p
  | 0, p, hd, h => cost_least hT ⟨fun i hi => h.range i (by omega), fun i b hb h1 h2 h3 => h.own i b (by have := (List.getElem?_eq_some_iff.1 hb).1; omega) hb h1 h2 h3⟩
  | d + 1, p, hd, h => by
    rw [leastP]
    by_cases hk : knownAt rows site (brAt bs p.length)
    · rw [if_pos hk]
      exact leastP_ge hT hm hf d _ (by simp; omega) (h.snoc ⟨hk.2, hm _ (by omega) hk⟩ (fun _ => rfl))
    · rw [if_neg hk]
      have e : ∀ x : Int, 0 ≤ x → x < 12 → fnum (fun k => stateAt rows site k) T ≤ leastP rows site bs d (p ++ [x]) := fun x h0 h1 => leastP_ge hT hm hf d _ (by simp; omega) (h.snoc ⟨h0, h1⟩ (fun q => absurd q hk))
      have e0 := e 0 (by omega) (by omega)
      have e1 := e 1 (by omega) (by omega)
      have e2 := e 2 (by omega) (by omega)
      have e3 := e 3 (by omega) (by omega)
      omega

theorem leastP_le {rows : List (List Int)} {site : Nat} {bs : List Br} {l : List Int} (hl : l.length = bs.length) (hfit : Fits rows site bs l) (hsmall : ∀ i, i < bs.length → at0 l i ≤ 3) :
    ∀ (d : Nat) (p : List Int), p.length + d = bs.length → p = l.take p.length → leastP rows site bs d p ≤ costUp l bs bs.length
  | 0, p, hd, h => by
    rw [leastP, h, show p.length = l.length by omega, List.take_length]
    exact Nat.le_refl _
  | d + 1, p, hd, h => by
    have hpl : p.length < l.length := by omega
    have hx : l[p.length]? = some (at0 l p.length) := by
      unfold at0
      rw [List.getD_eq_getElem?_getD, List.getElem?_eq_getElem hpl]
      rfl
    have hnext : p ++ [at0 l p.length] = l.take (p ++ [at0 l p.length]).length := by
      rw [List.length_append, List.length_cons, List.length_nil, List.take_add_one, hx]
      rw [← h]
      rfl
    have ih := leastP_le hl hfit hsmall d (p ++ [at0 l p.length]) (by simp; omega) hnext
    rw [leastP]
    by_cases hk : knownAt rows site (brAt bs p.length)
    · rw [if_pos hk]
      have hb : bs[p.length]? = some (brAt bs p.length) := by
        unfold brAt
        rw [List.getD_eq_getElem?_getD, List.getElem?_eq_getElem (by omega)]
        rfl
      rw [← hfit.own _ _ hb hk.1.1 hk.1.2 hk.2]
      exact ih
    · rw [if_neg hk]
      have h0 := (hfit.range p.length (by omega)).1
      have h3 := hsmall p.length (by omega)
      have hcase : at0 l p.length = 0 ∨ at0 l p.length = 1 ∨ at0 l p.length = 2 ∨ at0 l p.length = 3 := by omega
      rcases hcase with hc | hc | hc | hc <;> rw [hc] at ih <;> omega
end Go.Proofs.YtbmlkomfelkckaaDoor
