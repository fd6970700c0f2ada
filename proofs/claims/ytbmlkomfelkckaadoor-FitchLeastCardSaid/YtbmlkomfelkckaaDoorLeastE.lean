/- The search over all states comes to the least changes, where all known states are at most 3. -/
import Derived.Test.YtbmlkomfelkckaaDoorLeastP
import Derived.Test.YtbmlkomfelkckaaDoorSmall
import Derived.Test.YtbmlkomfelkckaaDoorFit2
namespace Go.Proofs.YtbmlkomfelkckaaDoor

theorem leastP_eq {rows : List (List Int)} (h : matOk rows = true) {site : Nat} (hs : site < wid rows) {bs : List Br} (ht : (rdTree (rows.length : Int) bs).isSome = true)
    (hst : ∀ (i : Nat) (r : List Int), rows[i]? = some r → r.getD site 0 ≤ 3) : leastP rows site bs bs.length [] = (fall rows site bs).n := by
  have hok := brOk_of ht
  have hp := states_picked (rows := rows) (site := site) ht
  obtain ⟨T, hT⟩ : ∃ T, rdRoot (rows.length : Int) bs = some T := by
    obtain ⟨ts, hl'⟩ := Option.isSome_iff_exists.1 ht
    exact ⟨_, by unfold rdRoot; rw [hl']; rfl⟩
  have hf := fall_root (rows := rows) (site := site) hT
  have hfew := fall_few rows site bs
  have hsz := rdRoot_size hT
  have hm' : ∀ i, i < bs.length → knownAt rows site (brAt bs i) → stateAt rows site (brAt bs i).leaf < 12 := by
    intro i hi hk
    have hb : bs[i]? = some (brAt bs i) := by
      unfold brAt
      rw [List.getD_eq_getElem?_getD, List.getElem?_eq_getElem hi]
      rfl
    rcases hok i _ hb with q | q
    · obtain ⟨_, _, _, _, h4⟩ := matOk_at h q.2.2.1 q.2.2.2 hs
      exact h4
    · exact absurd (hk.1.1.trans hk.1.2.symm) q.2.1
  have hge := leastP_ge (rows := rows) (site := site) hT hm' (by omega) bs.length [] (by simp) ⟨fun i hi => by simp at hi, fun i b hi => by simp at hi⟩
  have hsmall : ∀ i, i < bs.length → at0 (statesOf rows site bs) i ≤ 3 := by
    intro i _
    refine states_small hok (fun j b hb hab => ?_) i
    rcases hok j b hb with q | q
    · obtain ⟨r, hr, h2, _, _⟩ := matOk_at h q.2.2.1 q.2.2.2 hs
      have := hst _ r hr
      rw [List.getD_eq_getElem?_getD, h2] at this
      exact this
    · exact absurd hab q.2.1
  have hle := leastP_le (rows := rows) (site := site) hp.len (states_fit h hs ht) hsmall bs.length [] (by simp) rfl
  rw [states_cost h hs ht] at hle
  omega
end Go.Proofs.YtbmlkomfelkckaaDoor
