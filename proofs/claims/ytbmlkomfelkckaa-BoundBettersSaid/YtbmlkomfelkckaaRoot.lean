/- The whole tree of branches that can be read: its leaves are all numbers, each once; what is reckoned branch by branch is what is reckoned over the tree. -/
import Derived.Test.YtbmlkomfelkckaaFitSpec
namespace Go.Proofs.Ytbmlkomfelkckaa

/-- The leaves of a part, in order. -/
def NT.leaves : NT → List Nat
  | .leaf k => [k]
  | .fork a b => a.leaves ++ b.leaves

/-- The sum of what is told of the parts that are free. -/
def wsum (g : NT → Nat) (l : List NT) (fr : List Int) : Nat := (fr.map fun k => g (l.getD k.toNat (.leaf 0))).sum

theorem wsum_erase (g : NT → Nat) (l : List NT) (a : Int) : ∀ fr : List Int, a ∈ fr → wsum g l (fr.erase a) + g (l.getD a.toNat (.leaf 0)) = wsum g l fr
  | [], h => by simp at h
  | x :: fr, h => by
    by_cases hx : x = a
    · subst hx
      simp [wsum]
      omega
    · have ha : a ∈ fr := by
        rcases List.mem_cons.1 h with h | h
        · exact absurd h.symm hx
        · exact h
      rw [List.erase_cons_tail (by simpa using hx)]
      have ih := wsum_erase g l a fr ha
      simp only [wsum, List.map_cons, List.sum_cons] at ih ⊢
      omega

theorem wsum_snoc (g : NT → Nat) (l : List NT) (T : NT) (fr : List Int) (h : ∀ k ∈ fr, 0 ≤ k ∧ k < l.length) : wsum g (l ++ [T]) fr = wsum g l fr := by
  unfold wsum
  congr 1
  refine List.map_congr_left (fun k hk => ?_)
  have := h k hk
  rw [List.getD_eq_getElem?_getD, List.getD_eq_getElem?_getD, List.getElem?_append_left (by omega)]

theorem wsum_add (g : NT → Nat) (l : List NT) (fr : List Int) (k : Int) : wsum g l (fr ++ [k]) = wsum g l fr + g (l.getD k.toNat (.leaf 0)) := by simp [wsum]

theorem getD_last (l : List NT) (T : NT) : (l ++ [T]).getD l.length (.leaf 0) = T := by simp [List.getD_eq_getElem?_getD]

/-- One step of reading, as a case. -/
inductive RdCase (leaves : Int) (s : RS) (b : Br) : RS → Prop
  | leaf (ha : b.a = 0) (hb : b.b = 0) (h0 : 0 ≤ b.leaf) (h1 : b.leaf < leaves) (h2 : b.leaf ∉ s.had) : RdCase leaves s b ⟨b.leaf :: s.had, s.free ++ [(s.l.length : Int)], s.l ++ [.leaf b.leaf.toNat]⟩
  | fork (h : ¬ (b.a = 0 ∧ b.b = 0)) (h0 : b.leaf = 0) (hne : b.a ≠ b.b) (ha : b.a ∈ s.free) (hb : b.b ∈ s.free) :
      RdCase leaves s b ⟨s.had, (s.free.erase b.a).erase b.b ++ [(s.l.length : Int)], s.l ++ [mkFork (s.l.getD b.a.toNat (.leaf 0)) (s.l.getD b.b.toNat (.leaf 0))]⟩

theorem rdStep_case {leaves : Int} {s s' : RS} {b : Br} (h : rdStep leaves s b = some s') : RdCase leaves s b s' := by
  unfold rdStep at h
  split at h
  · split at h
    · cases h
    · rename_i h1 h2
      cases h
      exact .leaf h1.1 h1.2 (by omega) (by omega) (fun q => h2 (.inr (.inr q)))
  · split at h
    · cases h
    · rename_i h1 h2
      cases h
      exact .fork h1 (Decidable.by_contra fun q => h2 (.inl q)) (fun q => h2 (.inr (.inl q))) (Decidable.by_contra fun q => h2 (.inr (.inr (.inl q)))) (Decidable.by_contra fun q => h2 (.inr (.inr (.inr q))))

/-- What is told of a fork, out of what is told of its parts in either order, and of the fork itself. -/
theorem wsum_step {leaves : Int} {s s' : RS} {b : Br} (hk : s.Ok leaves) (hc : RdCase leaves s b s') (g : NT → Nat) :
    (s'.l = s.l ++ [.leaf b.leaf.toNat] ∧ wsum g s'.l s'.free = wsum g s.l s.free + g (.leaf b.leaf.toNat)) ∨
    (s'.l = s.l ++ [mkFork (s.l.getD b.a.toNat (.leaf 0)) (s.l.getD b.b.toNat (.leaf 0))] ∧
      wsum g s'.l s'.free + g (s.l.getD b.a.toNat (.leaf 0)) + g (s.l.getD b.b.toNat (.leaf 0)) = wsum g s.l s.free + g (mkFork (s.l.getD b.a.toNat (.leaf 0)) (s.l.getD b.b.toNat (.leaf 0)))) := by
  cases hc with
  | leaf ha hb h0 h1 h2 =>
    refine .inl ⟨rfl, ?_⟩
    show wsum g (s.l ++ [_]) (s.free ++ [_]) = _
    rw [wsum_add, wsum_snoc _ _ _ _ hk.free, Int.toNat_natCast, getD_last]
  | fork h h0 hne ha hb =>
    refine .inr ⟨rfl, ?_⟩
    have hb' : b.b ∈ s.free.erase b.a := (List.mem_erase_of_ne (Ne.symm hne)).2 hb
    show wsum g (s.l ++ [_]) ((s.free.erase b.a).erase b.b ++ [_]) + _ + _ = _
    rw [wsum_add, wsum_snoc _ _ _ _ (fun k hk' => hk.free k (List.mem_of_mem_erase (List.mem_of_mem_erase hk'))), Int.toNat_natCast, getD_last]
    have e1 := wsum_erase g s.l b.a s.free ha
    have e2 := wsum_erase g s.l b.b (s.free.erase b.a) hb'
    omega

theorem leaves_mkFork (x y : NT) (k : Nat) : (mkFork x y).leaves.count k = x.leaves.count k + y.leaves.count k := by
  unfold mkFork
  split <;> simp [NT.leaves]
  omega

/-- The leaves that were read are those of the free parts. -/
structure RS.Lv (s : RS) : Prop where
  count : ∀ k : Nat, wsum (fun T => T.leaves.count k) s.l s.free = s.had.count (k : Int)
  nodup : s.had.Nodup

theorem RS.Lv.step {leaves : Int} {s s' : RS} {b : Br} (hk : s.Ok leaves) (h : s.Lv) (hs : rdStep leaves s b = some s') : s'.Lv := by
  have hc := rdStep_case hs
  refine ⟨fun k => ?_, ?_⟩
  · have hw := wsum_step hk hc (fun T => T.leaves.count k)
    have h1 := h.count k
    cases hc with
    | leaf ha hb h0 h1' h2 =>
      rcases hw with ⟨_, hw⟩ | ⟨hw, _⟩
      · rw [hw, h1]
        simp only [NT.leaves, List.count_cons, List.count_nil]
        have : ((b.leaf.toNat == k) = true) ↔ ((b.leaf == (k : Int)) = true) := by simp; omega
        by_cases hb : (b.leaf.toNat == k) = true
        · rw [if_pos hb, if_pos (this.1 hb)]
        · rw [if_neg hb, if_neg (fun q => hb (this.2 q))]
      · have := congrArg List.getLast? hw
        simp at this
        unfold mkFork at this
        split at this <;> cases this
    | fork hh h0 hne ha hb =>
      rcases hw with ⟨hw, _⟩ | ⟨_, hw⟩
      · have := congrArg List.getLast? hw
        simp at this
        unfold mkFork at this
        split at this <;> cases this
      · simp only [leaves_mkFork] at hw
        simp only at h1 ⊢
        omega
  · cases hc with
    | leaf ha hb h0 h1 h2 => exact List.nodup_cons.2 ⟨h2, h.nodup⟩
    | fork hh h0 hne ha hb => exact h.nodup

theorem rdAll_lv (leaves : Int) : ∀ (bs : List Br) (s s' : RS), s.Ok leaves → s.Lv → rdAll leaves s bs = some s' → s'.Lv
  | [], s, s', _, h, hs => by simp [rdAll] at hs; subst hs; exact h
  | b :: bs, s, s', hk, h, hs => by
    simp only [rdAll] at hs
    obtain ⟨s1, h1, h2⟩ := Option.bind_eq_some_iff.1 hs
    exact rdAll_lv leaves bs s1 s' (hk.step h1).1 (h.step hk h1) h2

theorem size_leaves : ∀ T : NT, T.size + 1 = 2 * T.leaves.length
  | .leaf _ => rfl
  | .fork a b => by
    have h1 := size_leaves a
    have h2 := size_leaves b
    simp only [NT.size, NT.leaves, List.length_append]
    omega

theorem nodup_of_count {l : List Nat} (h : ∀ k, l.count k ≤ 1) : l.Nodup := List.nodup_iff_count.2 h

/-- The whole tree has each leaf once, and no other. -/
theorem rdRoot_leaves {leaves : Int} {bs : List Br} {T : NT} (h : rdRoot leaves bs = some T) : T.leaves.Nodup ∧ (∀ k ∈ T.leaves, (k : Int) < leaves) ∧ (T.leaves.length : Int) = leaves := by
  have hsz := rdRoot_size h
  obtain ⟨l, h1, rfl⟩ := Option.map_eq_some_iff.1 h
  obtain ⟨a, b, c, hl, s, hs, rfl, hf⟩ := rdTree_some h1
  have hlv := rdAll_lv leaves bs _ s (RS.Ok.start leaves) ⟨fun k => rfl, List.nodup_nil⟩ hs
  have hok := (rdAll_ok leaves bs _ s (RS.Ok.start leaves) hs).1
  have hcount : ∀ k : Nat, (s.l.getD (s.l.length - 1) (.leaf 0)).leaves.count k = s.had.count (k : Int) := by
    intro k
    have := hlv.count k
    rw [hf] at this
    simp only [wsum, List.map_cons, List.map_nil, List.sum_cons, List.sum_nil, Int.toNat_natCast, Nat.add_zero] at this
    rw [hl]
    exact this
  refine ⟨nodup_of_count (fun k => ?_), fun k hk => ?_, ?_⟩
  · rw [hcount]
    exact List.nodup_iff_count.1 hlv.nodup _
  · have h0 : 0 < (s.l.getD (s.l.length - 1) (.leaf 0)).leaves.count k := List.count_pos_iff.2 hk
    rw [hcount] at h0
    exact (hok.had _ (List.count_pos_iff.1 h0)).2
  · have := size_leaves (s.l.getD (s.l.length - 1) (.leaf 0))
    omega
end Go.Proofs.Ytbmlkomfelkckaa
