/- What fitch.changes computes, in plain Lean; what a tree that can be read is like. -/
import Derived.Test.YtbmlkomfelkckaaMat
import Derived.Test.YtbmlkomfelkckaaRdSpec
namespace Go.Proofs.Ytbmlkomfelkckaa

/-- The states that a leaf may have, as a number. -/
def leafSet (x : Int) : Nat := if 0 ≤ x then 2 ^ x.toNat else 4095

/-- The state of a row at a site. -/
def stateAt (rows : List (List Int)) (site : Nat) (leaf : Int) : Int := (rows.getD leaf.toNat []).getD site 0

structure FS where
  sets : List Nat
  n : Nat

def fstep (rows : List (List Int)) (site : Nat) (s : FS) (b : Br) : FS :=
  if b.a = b.b then ⟨s.sets ++ [leafSet (stateAt rows site b.leaf)], s.n⟩
  else if s.sets.getD b.a.toNat 0 &&& s.sets.getD b.b.toNat 0 = 0 then ⟨s.sets ++ [s.sets.getD b.a.toNat 0 ||| s.sets.getD b.b.toNat 0], s.n + 1⟩
  else ⟨s.sets ++ [s.sets.getD b.a.toNat 0 &&& s.sets.getD b.b.toNat 0], s.n⟩

def fall (rows : List (List Int)) (site : Nat) (bs : List Br) : FS := bs.foldl (fstep rows site) ⟨[], 0⟩

theorem fall_snoc (rows : List (List Int)) (site : Nat) (bs : List Br) (b : Br) : fall rows site (bs ++ [b]) = fstep rows site (fall rows site bs) b := by simp [fall]

theorem fstep_length (rows : List (List Int)) (site : Nat) (s : FS) (b : Br) : (fstep rows site s b).sets.length = s.sets.length + 1 ∧ (fstep rows site s b).n ≤ s.n + 1 := by
  unfold fstep
  split
  · simp
  · split <;> simp

/-- What a list of branches that is a tree is like: each is a leaf in range, or a fork of two earlier ones. -/
def BrOk (leaves : Int) (bs : List Br) : Prop :=
  ∀ (i : Nat) (b : Br), bs[i]? = some b → (b.a = 0 ∧ b.b = 0 ∧ 0 ≤ b.leaf ∧ b.leaf < leaves) ∨ (b.leaf = 0 ∧ b.a ≠ b.b ∧ 0 ≤ b.a ∧ b.a < i ∧ 0 ≤ b.b ∧ b.b < i)

theorem rdStep_some {leaves : Int} {s s' : RS} {b : Br} (hk : s.Ok leaves) (h : rdStep leaves s b = some s') :
    (b.a = 0 ∧ b.b = 0 ∧ 0 ≤ b.leaf ∧ b.leaf < leaves) ∨ (b.leaf = 0 ∧ b.a ≠ b.b ∧ 0 ≤ b.a ∧ b.a < s.l.length ∧ 0 ≤ b.b ∧ b.b < s.l.length) := by
  unfold rdStep at h
  split at h
  · split at h
    · cases h
    · rename_i h1 h2
      exact .inl ⟨h1.1, h1.2, by omega, by omega⟩
  · split at h
    · cases h
    · rename_i h1 h2
      have ha : b.a ∈ s.free := Decidable.by_contra fun q => h2 (.inr (.inr (.inl q)))
      have hb : b.b ∈ s.free := Decidable.by_contra fun q => h2 (.inr (.inr (.inr q)))
      have k1 := hk.free _ ha
      have k2 := hk.free _ hb
      exact .inr ⟨Decidable.by_contra fun q => h2 (.inl q), fun q => h2 (.inr (.inl q)), k1.1, k1.2, k2.1, k2.2⟩

theorem rdAll_brOk (leaves : Int) : ∀ (bs : List Br) (s s' : RS), s.Ok leaves → rdAll leaves s bs = some s' →
    ∀ (i : Nat) (b : Br), bs[i]? = some b → (b.a = 0 ∧ b.b = 0 ∧ 0 ≤ b.leaf ∧ b.leaf < leaves) ∨ (b.leaf = 0 ∧ b.a ≠ b.b ∧ 0 ≤ b.a ∧ b.a < s.l.length + i ∧ 0 ≤ b.b ∧ b.b < s.l.length + i)
  | [], _, _, _, _, i, b, hi => by simp at hi
  | c :: bs, s, s', hk, h, 0, b, hi => by
    simp only [rdAll] at h
    obtain ⟨s1, h1, _⟩ := Option.bind_eq_some_iff.1 h
    simp at hi
    subst hi
    simpa using rdStep_some hk h1
  | c :: bs, s, s', hk, h, i + 1, b, hi => by
    simp only [rdAll] at h
    obtain ⟨s1, h1, h2⟩ := Option.bind_eq_some_iff.1 h
    obtain ⟨k1, l1⟩ := hk.step h1
    rcases rdAll_brOk leaves bs s1 s' k1 h2 i b (by simpa using hi) with h | h
    · exact .inl h
    · exact .inr ⟨h.1, h.2.1, h.2.2.1, by omega, h.2.2.2.2.1, by omega⟩

theorem brOk_of {leaves : Int} {bs : List Br} (h : (rdTree leaves bs).isSome = true) : BrOk leaves bs := by
  obtain ⟨l, hl⟩ := Option.isSome_iff_exists.1 h
  obtain ⟨_, _, _, _, s, hs, _, _⟩ := rdTree_some hl
  intro i b hi
  simpa using rdAll_brOk leaves bs _ s (RS.Ok.start leaves) hs i b hi

theorem leafSet_lt (x : Int) (h : x < 12) : leafSet x < 4096 := by
  unfold leafSet
  split
  · have h2 : x.toNat ≤ 11 := by omega
    calc 2 ^ x.toNat ≤ 2 ^ 11 := Nat.pow_le_pow_right (by decide) h2
      _ < 4096 := by decide
  · decide

/-- Rows that are a matrix: every state that is asked is one. -/
theorem matOk_at {rows : List (List Int)} (h : matOk rows = true) {leaf : Int} {site : Nat} (_h0 : 0 ≤ leaf) (h1 : leaf < rows.length) (h2 : site < wid rows) :
    ∃ r, rows[leaf.toNat]? = some r ∧ r[site]? = some (stateAt rows site leaf) ∧ -1 ≤ stateAt rows site leaf ∧ stateAt rows site leaf < 12 := by
  unfold matOk at h
  simp only [Bool.and_eq_true, decide_eq_true_eq] at h
  have hl : leaf.toNat < rows.length := by omega
  have hr := List.all_eq_true.1 h.2.2 _ (List.getElem_mem hl)
  unfold rowOk at hr
  simp only [Bool.and_eq_true, decide_eq_true_eq] at hr
  have hs : site < (rows[leaf.toNat]'hl).length := by omega
  have hx := List.all_eq_true.1 hr.2.2 _ (List.getElem_mem hs)
  have e : stateAt rows site leaf = (rows[leaf.toNat]'hl)[site]'hs := by
    simp [stateAt, List.getD_eq_getElem?_getD, hl, hs]
  refine ⟨rows[leaf.toNat]'hl, List.getElem?_eq_getElem hl, ?_, ?_⟩
  · rw [e]; exact List.getElem?_eq_getElem hs
  · rw [e]
    unfold numOk at hx
    simpa using hx

theorem fstep_lt {rows : List (List Int)} (h : matOk rows = true) {site : Nat} (hs : site < wid rows) {s : FS} {b : Br} (hb : b.a = b.b → 0 ≤ b.leaf ∧ b.leaf < rows.length) (hl : ∀ x ∈ s.sets, x < 4096) : ∀ x ∈ (fstep rows site s b).sets, x < 4096 := by
  have hg : ∀ k, s.sets.getD k 0 < 4096 := by
    intro k
    rw [List.getD_eq_getElem?_getD]
    cases hk : s.sets[k]? with
    | none => simp
    | some y => exact hl y (List.mem_of_getElem? hk)
  unfold fstep
  split
  · rename_i hc
    intro x hx
    simp only [List.mem_append, List.mem_singleton] at hx
    rcases hx with hx | rfl
    · exact hl x hx
    · obtain ⟨h0, h1⟩ := hb hc
      obtain ⟨r, _, _, _, h4⟩ := matOk_at h h0 h1 hs
      exact leafSet_lt _ h4
  · split
    · intro x hx
      simp only [List.mem_append, List.mem_singleton] at hx
      rcases hx with hx | rfl
      · exact hl x hx
      · exact Nat.or_lt_two_pow (n := 12) (hg _) (hg _)
    · intro x hx
      simp only [List.mem_append, List.mem_singleton] at hx
      rcases hx with hx | rfl
      · exact hl x hx
      · exact Nat.lt_of_le_of_lt Nat.and_le_left (hg _)
end Go.Proofs.Ytbmlkomfelkckaa
