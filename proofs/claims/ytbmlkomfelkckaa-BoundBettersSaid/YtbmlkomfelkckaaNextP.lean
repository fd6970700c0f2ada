/- A tree's neighbours: two branches that change places. In plain Lean. -/
import Derived.Test.YtbmlkomfelkckaaGrowP
namespace Go.Proofs.Ytbmlkomfelkckaa

/-- One arm's two parts, each of which changes places with the other arm. -/
def sw1 : NT → NT → List NT
  | .leaf _, _ => []
  | .fork x1 x2, y => [.fork (.fork y x2) x1, .fork (.fork x1 y) x2]

/-- What stands at a branch, changed about: one of the two arms takes the other's part. -/
def swaps : NT → List NT
  | .leaf _ => []
  | .fork a b => sw1 a b ++ sw1 b a

/-- The neighbours that a branch makes. -/
def nbrsAt (T : NT) (p : Nat) : List NT := (swaps (T.at p)).map fun S => (T.put p S).norm

def nbrsUp (T : NT) (p : Nat) : List NT := (List.range p).flatMap (nbrsAt T)

theorem nbrsUp_succ (T : NT) (p : Nat) : nbrsUp T (p + 1) = nbrsUp T p ++ nbrsAt T p := by
  unfold nbrsUp
  rw [List.range_succ, List.flatMap_append]
  simp

theorem sw1_leaves {X Y S : NT} (h : S ∈ sw1 X Y) : S.leaves.Perm (NT.fork X Y).leaves := by
  refine List.perm_iff_count.2 fun k => ?_
  cases X with
  | leaf _ => simp [sw1] at h
  | fork a1 a2 =>
    simp only [sw1, List.mem_cons, List.not_mem_nil, or_false] at h
    rcases h with rfl | rfl <;> simp only [NT.leaves, List.count_append] <;> omega

theorem swaps_leaves {P S : NT} (h : S ∈ swaps P) : S.leaves.Perm P.leaves := by
  cases P with
  | leaf k => simp [swaps] at h
  | fork a b =>
    rcases List.mem_append.1 h with h | h
    · exact sw1_leaves h
    · exact (sw1_leaves h).trans (by simp only [NT.leaves]; exact List.perm_append_comm)

theorem put_leaves : ∀ (T : NT) (p : Nat) (S : NT), p < T.size → S.leaves.Perm (T.at p).leaves → (T.put (p : Int) S).leaves.Perm T.leaves
  | .leaf j, p, S, h, hS => by
    simp only [NT.size] at h
    obtain rfl : p = 0 := by omega
    unfold NT.put
    rw [if_pos (by omega)]
    exact hS
  | .fork a b, p, S, h, hS => by
    simp only [NT.size] at h
    unfold NT.put
    by_cases h0 : p = a.size + b.size
    · subst h0
      rw [if_pos (by omega)]
      rw [at_some pieces_fork_last] at hS
      exact hS
    · rw [if_neg (by omega)]
      by_cases h1 : p < a.size
      · have e : (NT.fork a b).at p = a.at p := at_some (by rw [pieces_fork_left h1]; exact some_at h1)
        rw [e] at hS
        rw [put_out b _ _ (by omega), NT.leaves, NT.leaves]
        exact (put_leaves a p S h1 hS).append_right _
      · have e : (NT.fork a b).at p = b.at (p - a.size) := at_some (by rw [pieces_fork_right (by omega) (by omega)]; exact some_at (by omega))
        rw [e] at hS
        rw [put_out a _ _ (by omega), show ((p : Int) - a.size) = ((p - a.size : Nat) : Int) by omega, NT.leaves, NT.leaves]
        exact (put_leaves b (p - a.size) S (by omega) hS).append_left _

/-- A neighbour has the same leaves. -/
theorem NT.On.swap {T S : NT} {n p : Nat} (h : T.On n) (hp : p < T.size) (hS : S ∈ swaps (T.at p)) : (T.put (p : Int) S).On n := h.perm (put_leaves T p S hp (swaps_leaves hS))

theorem nbrs_on {T x : NT} {n : Nat} (h : T.On n) (hx : x ∈ nbrsUp T T.size) : x.On n ∧ x.Norm := by
  obtain ⟨p, hp, hx⟩ := List.mem_flatMap.1 hx
  rw [List.mem_range] at hp
  obtain ⟨S, hS, rfl⟩ := List.mem_map.1 hx
  exact ⟨(h.swap hp hS).norm, NT.norm_norm _⟩
end Go.Proofs.Ytbmlkomfelkckaa
