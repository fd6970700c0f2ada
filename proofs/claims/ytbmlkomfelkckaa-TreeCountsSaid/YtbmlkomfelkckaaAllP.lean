/- Every tree in its form is among all trees; and the least of a measure. In plain Lean. -/
import Derived.Test.YtbmlkomfelkckaaLeastT
namespace Go.Proofs.Ytbmlkomfelkckaa

theorem key_mem : ∀ T : NT, T.key ∈ T.leaves
  | .leaf k => by simp [NT.key, NT.leaves]
  | .fork a b => by rw [NT.leaves, NT.key]; exact List.mem_append_left _ (key_mem a)

theorem key_least {T : NT} (h : T.Norm) : ∀ k ∈ T.leaves, T.key ≤ k := by
  induction h with
  | leaf k => intro j hj; simp only [NT.leaves, List.mem_singleton] at hj; subst hj; exact Nat.le_refl _
  | @fork a b ha hb hk iha ihb =>
    intro j hj
    rw [NT.leaves] at hj
    rw [NT.key]
    rcases List.mem_append.1 hj with hj | hj
    · exact iha j hj
    · exact Nat.le_trans hk (ihb j hj)

theorem hung_out {T : NT} (h : T.Norm) (p : Int) (k : Nat) (hp : p < 0 ∨ (T.size : Int) ≤ p) : T.hung p k = T := by
  rw [hung_norm h, hangR_out T p k hp, h.eq]

theorem hung_leaves {T : NT} (h : T.Norm) (p : Int) (k : Nat) (h0 : 0 ≤ p) (h1 : p < T.size) : (T.hung p k).leaves.Perm (k :: T.leaves) := by
  rw [hung_norm h]
  exact (leaves_norm _).trans (hangR_leaves T p k h0 h1)

/-- At the root. -/
theorem hung_root {T : NT} (k : Nat) (h : T.key < k) : T.hung ((T.size : Int) - 1) k = .fork T (.leaf k) := by
  cases T with
  | leaf j =>
    unfold NT.hung
    rw [if_pos (by simp [NT.size])]
    unfold mkFork
    rw [if_neg (by simp only [NT.key] at *; omega)]
  | fork a b =>
    unfold NT.hung
    rw [if_pos (by simp only [NT.size]; omega)]
    unfold mkFork
    rw [if_neg (by simp only [NT.key] at *; omega)]

/-- The greatest leaf taken off. -/
theorem unhung {T : NT} (h : T.Norm) (k : Nat) : T.leaves.Nodup → k ∈ T.leaves → (∀ j ∈ T.leaves, j ≤ k) → T ≠ .leaf k → ∃ (S : NT) (p : Nat), S.Norm ∧ p < S.size ∧ T = S.hung (p : Int) k ∧ S.key = T.key := by
  induction h with
  | leaf j =>
    intro _ hk _ hne
    simp only [NT.leaves, List.mem_singleton] at hk
    subst hk
    exact absurd rfl hne
  | @fork a b ha hb hab iha ihb =>
    intro hnd hk hle hne
    rw [NT.leaves] at hnd hk hle
    have hna := (List.nodup_append.1 hnd).1
    have hnb := (List.nodup_append.1 hnd).2.1
    have hdis := (List.nodup_append.1 hnd).2.2
    have hkk : a.key ≠ b.key := hdis _ (key_mem a) _ (key_mem b)
    have hak : a.key < b.key := by omega
    have hbk : b.key ≤ k := hle _ (List.mem_append_right _ (key_mem b))
    have hpa := a.size_pos
    have hpb := b.size_pos
    rcases List.mem_append.1 hk with hka | hkb
    · have hal : a ≠ .leaf k := by
        rintro rfl
        simp only [NT.key] at hak
        omega
      obtain ⟨S, p, h1, h2, h3, h4⟩ := iha hna hka (fun j hj => hle j (List.mem_append_left _ hj)) hal
      refine ⟨.fork S b, p, .fork h1 hb (by omega), by simp only [NT.size]; omega, ?_, by simp only [NT.key]; exact h4⟩
      unfold NT.hung
      rw [if_neg (by omega), ← h3, hung_out hb _ _ (.inl (by omega)), mkFork, if_neg (by omega)]
    · by_cases hbl : b = .leaf k
      · subst hbl
        refine ⟨a, a.size - 1, ha, by omega, ?_, rfl⟩
        rw [show ((a.size - 1 : Nat) : Int) = (a.size : Int) - 1 by omega, hung_root k (by simp only [NT.key] at hak; omega)]
      · obtain ⟨S, p, h1, h2, h3, h4⟩ := ihb hnb hkb (fun j hj => hle j (List.mem_append_right _ hj)) hbl
        refine ⟨.fork a S, a.size + p, .fork ha h1 (by omega), by simp only [NT.size]; omega, ?_, rfl⟩
        unfold NT.hung
        rw [if_neg (by omega), hung_out ha _ _ (.inr (by omega)), show ((a.size + p : Nat) : Int) - a.size = (p : Int) by omega, ← h3, mkFork, if_neg (by omega)]

theorem on_one {T : NT} (h : T.On 1) : T = .leaf 0 := by
  have h1 := h.len
  have h2 := size_leaves T
  cases T with
  | leaf k =>
    have := h.lt k (by simp [NT.leaves])
    obtain rfl : k = 0 := by omega
    rfl
  | fork a b =>
    have := a.size_pos
    have := b.size_pos
    simp only [NT.size] at h2
    omega

/-- Every tree in its form. -/
theorem trees_all : ∀ (k : Nat) (T : NT), T.On (k + 1) → T.Norm → T ∈ treesUp k
  | 0, T, h, _ => by rw [on_one h]; simp [treesUp]
  | k + 1, T, h, hn => by
    have hr := perm_range h.nodup h.lt h.len
    have hmem : k + 1 ∈ T.leaves := hr.mem_iff.2 (List.mem_range.2 (by omega))
    have hne : T ≠ .leaf (k + 1) := by
      rintro rfl
      have := h.len
      simp [NT.leaves] at this
    obtain ⟨S, p, h1, h2, h3, -⟩ := unhung hn (k + 1) h.nodup hmem (fun j hj => by have := h.lt j hj; omega) hne
    have hp := hung_leaves h1 (p : Int) (k + 1) (by omega) (by omega)
    rw [← h3] at hp
    have hnd := hp.nodup_iff.1 h.nodup
    have hS : S.On (k + 1) := by
      refine ⟨(List.nodup_cons.1 hnd).2, fun j hj => ?_, ?_, by omega, by have := h.few; omega⟩
      · have hj1 := h.lt j (hp.mem_iff.2 (List.mem_cons_of_mem _ hj))
        have hj2 : j ≠ k + 1 := by rintro rfl; exact (List.nodup_cons.1 hnd).1 hj
        omega
      · have := hp.length_eq
        rw [List.length_cons, h.len] at this
        omega
    rw [treesUp, List.mem_flatMap]
    exact ⟨S, trees_all k S hS h1, by rw [h3]; exact List.mem_map.2 ⟨p, List.mem_range.2 h2, rfl⟩⟩

theorem treesOf_all {n : Nat} {T : NT} (h : T.On n) (hn : T.Norm) : T ∈ treesOf (n : Int) := by
  have h1 := h.pos
  have h2 := h.few
  rw [treesOf_in h1 h2]
  exact trees_all (n - 1) T (by rw [Nat.sub_add_cancel h1]; exact h) hn

/-! ### The least -/
structure LeastOf (cost : NT → Nat) (ts : List NT) (s : LS) : Prop where
  no : s.low = none → ts = []
  got : ∀ m, s.low = some m → (∃ T ∈ ts, cost T = m) ∧ ∀ T ∈ ts, m ≤ cost T
  list : ∀ m, s.low = some m → s.l = ts.filter fun T => cost T = m

theorem leastOf_step {cost : NT → Nat} {ts : List NT} {s : LS} (h : LeastOf cost ts s) (T : NT) : LeastOf cost (ts ++ [T]) (lstep cost s T) := by
  unfold lstep
  cases hs : s.low with
  | none =>
    have := h.no hs
    subst this
    dsimp only
    refine ⟨fun h => (by cases h), fun m hm => ?_, fun m hm => ?_⟩
    · obtain rfl : cost T = m := by simpa using hm
      refine ⟨⟨T, by simp, rfl⟩, fun S hS => ?_⟩
      obtain rfl : S = T := by simpa using hS
      exact Nat.le_refl _
    · obtain rfl : cost T = m := by simpa using hm
      simp
  | some k =>
    obtain ⟨⟨S, hS1, hS2⟩, h2⟩ := h.got k hs
    have h3 := h.list k hs
    dsimp only
    by_cases h4 : cost T < k
    · rw [if_pos h4]
      refine ⟨fun h => (by cases h), fun m hm => ?_, fun m hm => ?_⟩
      · obtain rfl : cost T = m := by simpa using hm
        refine ⟨⟨T, by simp, rfl⟩, fun R hR => ?_⟩
        rcases List.mem_append.1 hR with hR | hR
        · have := h2 R hR; omega
        · obtain rfl : R = T := by simpa using hR
          exact Nat.le_refl _
      · obtain rfl : cost T = m := by simpa using hm
        rw [List.filter_append]
        have : ts.filter (fun R => cost R = cost T) = [] := by
          rw [List.filter_eq_nil_iff]
          intro R hR
          have := h2 R hR
          simp only [decide_eq_true_eq]
          omega
        rw [this]
        simp
    · rw [if_neg h4]
      by_cases h5 : cost T = k
      · rw [if_pos h5]
        refine ⟨fun h => (by cases h), fun m hm => ?_, fun m hm => ?_⟩
        · obtain rfl : k = m := by simpa using hm
          refine ⟨⟨S, List.mem_append_left _ hS1, hS2⟩, fun R hR => ?_⟩
          rcases List.mem_append.1 hR with hR | hR
          · exact h2 R hR
          · obtain rfl : R = T := by simpa using hR
            omega
        · obtain rfl : k = m := by simpa using hm
          rw [List.filter_append, h3]
          simp [h5]
      · rw [if_neg h5]
        refine ⟨fun h => (by rw [hs] at h; cases h), fun m hm => ?_, fun m hm => ?_⟩
        · obtain rfl : k = m := by rw [hs] at hm; simpa using hm
          refine ⟨⟨S, List.mem_append_left _ hS1, hS2⟩, fun R hR => ?_⟩
          rcases List.mem_append.1 hR with hR | hR
          · exact h2 R hR
          · obtain rfl : R = T := by simpa using hR
            omega
        · obtain rfl : k = m := by rw [hs] at hm; simpa using hm
          rw [List.filter_append, h3]
          simp [h5]

theorem leastOf_fold (cost : NT → Nat) (ts : List NT) : LeastOf cost ts (lfold cost ts) := by
  have h : ∀ (us ts : List NT) (s : LS), LeastOf cost ts s → LeastOf cost (ts ++ us) (us.foldl (lstep cost) s) := by
    intro us
    induction us with
    | nil => intro ts s h; simpa using h
    | cons T us ih =>
      intro ts s h
      rw [List.foldl_cons, show ts ++ T :: us = (ts ++ [T]) ++ us by simp]
      exact ih _ _ (leastOf_step h T)
  have := h ts [] ⟨[], none⟩ ⟨fun _ => rfl, fun m h => (by cases h), fun m h => (by cases h)⟩
  simpa [lfold] using this

theorem trees_ne {n : Nat} (h1 : 1 ≤ n) (h2 : n ≤ 12) : treesOf (n : Int) ≠ [] := by
  rw [treesOf_in h1 h2]
  intro h
  have := trees_length (n - 1) (by omega)
  rw [h, List.length_nil] at this
  have := count_pos (n - 1)
  omega

/-- The least is had, and by whom. -/
theorem least_got (cost : NT → Nat) {n : Nat} (h1 : 1 ≤ n) (h2 : n ≤ 12) : ∃ m, (lfold cost (treesOf (n : Int))).low = some m ∧ (∃ T, T.On n ∧ T.Norm ∧ cost T = m) ∧ (∀ T, T.On n → T.Norm → m ≤ cost T) ∧ (lfold cost (treesOf (n : Int))).l = (treesOf (n : Int)).filter fun T => cost T = m := by
  have h := leastOf_fold cost (treesOf (n : Int))
  cases hs : (lfold cost (treesOf (n : Int))).low with
  | none => exact absurd (h.no hs) (trees_ne h1 h2)
  | some m =>
    obtain ⟨⟨T, hT, hc⟩, hle⟩ := h.got m hs
    obtain ⟨o1, o2⟩ := treesOf_on hT
    exact ⟨m, rfl, ⟨T, o1, o2, hc⟩, fun S hS hn => hle S (treesOf_all hS hn), h.list m hs⟩
end Go.Proofs.Ytbmlkomfelkckaa
