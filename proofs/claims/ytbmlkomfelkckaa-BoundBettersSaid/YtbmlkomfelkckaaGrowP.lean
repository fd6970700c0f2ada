/- The tree that is made leaf by leaf. In plain Lean. -/
import Derived.Test.YtbmlkomfelkckaaFormed
namespace Go.Proofs.Ytbmlkomfelkckaa

theorem leaves_norm_count (k : Nat) : ∀ T : NT, T.norm.leaves.count k = T.leaves.count k
  | .leaf _ => rfl
  | .fork a b => by rw [NT.norm, leaves_mkFork, leaves_norm_count k a, leaves_norm_count k b, NT.leaves, List.count_append]

theorem leaves_norm (T : NT) : T.norm.leaves.Perm T.leaves := List.perm_iff_count.2 fun k => leaves_norm_count k T

theorem NT.On.perm {T S : NT} {n : Nat} (h : T.On n) (hp : S.leaves.Perm T.leaves) : S.On n :=
  ⟨hp.symm.nodup h.nodup, fun k hk => h.lt k (hp.subset hk), hp.length_eq.trans h.len, h.pos, h.few⟩

theorem NT.On.norm {T : NT} {n : Nat} (h : T.On n) : T.norm.On n := h.perm (leaves_norm T)

theorem NT.On.hang {T : NT} {n : Nat} (h : T.On n) (hn : n ≤ 11) {p : Nat} (hp : p < T.size) : (T.hangR p n).On (n + 1) := by
  have hl := hangR_leaves T p n (by omega) (by omega)
  refine ⟨hl.symm.nodup (List.nodup_cons.2 ⟨fun q => ?_, h.nodup⟩), fun k hk => ?_, ?_, by omega, by omega⟩
  · have := h.lt _ q
    omega
  · rcases List.mem_cons.1 (hl.subset hk) with rfl | hk
    · omega
    · have := h.lt k hk
      omega
  · rw [hl.length_eq, List.length_cons, h.len]

theorem one_on : (NT.leaf 0).On 1 := ⟨by simp [NT.leaves], by simp [NT.leaves], rfl, Nat.le_refl _, by decide⟩

/-- The trees that a leaf more makes of one. -/
def cands (T : NT) (k : Nat) : List NT := (List.range T.size).map fun p : Nat => T.hung (p : Int) k

/-- The first of the least. -/
def bestStep (cost : NT → Nat) (acc : Option NT) (x : NT) : Option NT :=
  match acc with
  | none => some x
  | some b => if cost x < cost b then some x else some b

def bestOf (cost : NT → Nat) (l : List NT) : Option NT := l.foldl (bestStep cost) none

theorem bestOf_snoc (cost : NT → Nat) (l : List NT) (x : NT) : bestOf cost (l ++ [x]) = bestStep cost (bestOf cost l) x := by simp [bestOf]

theorem bestOf_mem {cost : NT → Nat} : ∀ (l : List NT) (acc : Option NT) (b : NT), l.foldl (bestStep cost) acc = some b → b ∈ l ∨ acc = some b
  | [], acc, b, h => .inr h
  | x :: l, acc, b, h => by
    rw [List.foldl_cons] at h
    rcases bestOf_mem l _ b h with h1 | h1
    · exact .inl (List.mem_cons_of_mem _ h1)
    · cases acc with
      | none =>
        simp only [bestStep, Option.some.injEq] at h1
        subst h1
        exact .inl List.mem_cons_self
      | some a =>
        simp only [bestStep] at h1
        split at h1
        · simp only [Option.some.injEq] at h1
          subst h1
          exact .inl List.mem_cons_self
        · exact .inr h1

theorem bestOf_some {cost : NT → Nat} : ∀ (l : List NT) (acc : Option NT), (l ≠ [] ∨ acc.isSome = true) → (l.foldl (bestStep cost) acc).isSome = true
  | [], acc, h => by simpa using h
  | x :: l, acc, _ => by
    rw [List.foldl_cons]
    refine bestOf_some l _ (.inr ?_)
    cases acc with
    | none => rfl
    | some a => simp only [bestStep]; split <;> rfl

/-- The changes of a tree by the first rows. -/
def costOf (rows : List (List Int)) (k : Nat) (T : NT) : Nat := sumNum (T.form 0) (rows.take k)

/-- The tree of the first j + 1 leaves. -/
def growN (rows : List (List Int)) : Nat → NT
  | 0 => .leaf 0
  | j + 1 => (bestOf (costOf rows (j + 2)) (cands (growN rows j) (j + 1))).getD (.leaf 0)

theorem cands_take (T : NT) (k p : Nat) (hp : p < T.size) : (cands T k).take (p + 1) = (cands T k).take p ++ [T.hung (p : Int) k] := by
  have h : p < (cands T k).length := by simpa [cands] using hp
  rw [List.take_succ_eq_append_getElem h]
  simp [cands]

theorem cands_length (T : NT) (k : Nat) : (cands T k).length = T.size := by simp [cands]

theorem grow_best (rows : List (List Int)) (j : Nat) : bestOf (costOf rows (j + 2)) (cands (growN rows j) (j + 1)) = some (growN rows (j + 1)) := by
  have h := bestOf_some (cost := costOf rows (j + 2)) (cands (growN rows j) (j + 1)) none (.inl (by
    have h1 := cands_length (growN rows j) (j + 1)
    have h2 := (growN rows j).size_pos
    intro e
    rw [e] at h1
    simp at h1
    omega))
  obtain ⟨b, hb⟩ := Option.isSome_iff_exists.1 h
  have hb' : bestOf (costOf rows (j + 2)) (cands (growN rows j) (j + 1)) = some b := hb
  rw [growN, hb']
  rfl

theorem cand_on {T : NT} {n : Nat} (h : T.On n) (hn : T.Norm) (h11 : n ≤ 11) {x : NT} (hx : x ∈ cands T n) : x.On (n + 1) ∧ x.Norm := by
  obtain ⟨p, hp, rfl⟩ := List.mem_map.1 hx
  rw [List.mem_range] at hp
  rw [hung_norm hn]
  exact ⟨(h.hang h11 hp).norm, NT.norm_norm _⟩

theorem grow_on (rows : List (List Int)) : ∀ j, j ≤ 11 → (growN rows j).On (j + 1) ∧ (growN rows j).Norm
  | 0, _ => ⟨one_on, .leaf 0⟩
  | j + 1, h => by
    obtain ⟨h1, h2⟩ := grow_on rows j (by omega)
    rcases bestOf_mem _ _ _ (grow_best rows j) with hm | hm
    · exact cand_on h1 h2 (by omega) hm
    · cases hm
end Go.Proofs.Ytbmlkomfelkckaa
