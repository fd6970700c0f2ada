/- A tree's clades are nested or apart. In plain Lean. -/
import Derived.Test.YtbmlkomfelkckaaCladeP
namespace Go.Proofs.Ytbmlkomfelkckaa

/-- What is told of clades. -/
structure Nest (m : Nat) (L : List (List Int)) : Prop where
  len : L.length = m
  last : 0 < m → ∃ l, L[m - 1]? = some l ∧ l.length = m + 1
  range : ∀ l ∈ L, (∀ x ∈ l, 0 ≤ x ∧ x < (m : Int) + 1) ∧ l.Pairwise (· < ·) ∧ l.length ≤ m + 1
  nest : L.Pairwise fun l k => (∀ x ∈ l, x ∈ k) ∨ (∀ x ∈ l, x ∉ k)

theorem clades_length : ∀ T : NT, T.clades.length + 1 = T.leaves.length
  | .leaf _ => rfl
  | .fork a b => by
    have h1 := clades_length a
    have h2 := clades_length b
    rw [clades_fork]
    simp only [List.length_append, NT.leaves, List.length_cons, List.length_nil]
    omega

theorem pieces_sub : ∀ (T : NT) (p : NT), p ∈ T.pieces → p.leaves.Sublist T.leaves
  | .leaf k, p, h => by
    simp only [NT.pieces, List.mem_singleton] at h
    subst h
    exact List.Sublist.refl _
  | .fork a b, p, h => by
    simp only [NT.pieces, List.mem_append, List.mem_singleton] at h
    rcases h with (h | h) | h
    · exact (pieces_sub a p h).trans (List.sublist_append_left _ _)
    · exact (pieces_sub b p h).trans (List.sublist_append_right _ _)
    · subst h
      exact List.Sublist.refl _

/-- Of two pieces the earlier one lies in the later one, or they share no leaf. -/
theorem pieces_nest : ∀ T : NT, T.leaves.Nodup → T.pieces.Pairwise fun p q => (∀ x ∈ p.leaves, x ∈ q.leaves) ∨ (∀ x ∈ p.leaves, x ∉ q.leaves)
  | .leaf k, _ => by simp [NT.pieces]
  | .fork a b, h => by
    have h' : a.leaves.Nodup ∧ b.leaves.Nodup ∧ ∀ x ∈ a.leaves, ∀ y ∈ b.leaves, x ≠ y := List.nodup_append.1 h
    rw [NT.pieces, List.pairwise_append, List.pairwise_append]
    refine ⟨⟨pieces_nest a h'.1, pieces_nest b h'.2.1, fun p hp q hq => .inr fun x hx hy => ?_⟩, by simp, fun p hp q hq => ?_⟩
    · exact h'.2.2 x ((pieces_sub a p hp).subset hx) x ((pieces_sub b q hq).subset hy) rfl
    · simp only [List.mem_singleton] at hq
      subst hq
      refine .inl fun x hx => ?_
      have hm : p ∈ (NT.fork a b).pieces := by simp only [NT.pieces, List.mem_append]; exact .inl (List.mem_append.1 hp)
      exact (pieces_sub _ p hm).subset hx

theorem mem_cl {p : NT} {l : List Int} (h : l ∈ p.cl) : l = sortI p.lv := by
  cases p with
  | leaf k => simp [NT.cl] at h
  | fork a b => rw [lv_fork]; simpa [NT.cl] using h

theorem mem_lv {p : NT} {x : Int} : x ∈ sortI p.lv ↔ ∃ k ∈ p.leaves, (k : Int) = x := by
  rw [(sortI_perm _).mem_iff, NT.lv, List.mem_map]

theorem nest_of {leaves : Nat} {T : NT} (hn : T.leaves.Nodup) (h : ∀ k ∈ T.leaves, (k : Int) < leaves) (hl : T.leaves.length = leaves) (h1 : 1 ≤ leaves) : Nest (leaves - 1) T.clades := by
  have hlen := clades_length T
  refine ⟨by omega, fun h0 => ?_, fun l hm => ?_, ?_⟩
  · cases T with
    | leaf k => simp [NT.leaves] at hl; omega
    | fork a b =>
      have e : (NT.fork a b).clades.length = (a.clades ++ b.clades).length + 1 := by rw [clades_fork, List.length_append]; rfl
      refine ⟨sortI (a.lv ++ b.lv), ?_, ?_⟩
      · rw [show leaves - 1 - 1 = (a.clades ++ b.clades).length by omega, clades_fork, List.getElem?_append_right (Nat.le_refl _), Nat.sub_self]
        rfl
      · rw [sortI_length, ← lv_fork, lv_length]
        omega
  · obtain ⟨p, hp, hlp⟩ := List.mem_flatMap.1 hm
    have hs := pieces_sub T p hp
    have hnd : p.leaves.Nodup := hn.sublist hs
    rw [mem_cl hlp]
    refine ⟨fun x hx => ?_, ?_, ?_⟩
    · obtain ⟨k, hk, rfl⟩ := mem_lv.1 hx
      have := h k (hs.subset hk)
      omega
    · have h2 : (sortI p.lv).Nodup := (sortI_perm _).symm.nodup (List.pairwise_map.2 (hnd.imp fun {a b} h e => h (by omega)))
      have h3 := sortI_sorted p.lv
      exact (List.pairwise_and_iff.2 ⟨h3, h2⟩).imp fun ⟨h4, h5⟩ => by omega
    · rw [sortI_length, lv_length]
      have := hs.length_le
      omega
  · refine List.pairwise_flatMap.2 ⟨fun p hp => ?_, (pieces_nest T hn).imp fun {p q} hpq l hl k hk => ?_⟩
    · cases p <;> simp [NT.cl]
    · rw [mem_cl hl, mem_cl hk]
      rcases hpq with hpq | hpq
      · refine .inl fun x hx => ?_
        obtain ⟨k, hk, rfl⟩ := mem_lv.1 hx
        exact mem_lv.2 ⟨k, hpq k hk, rfl⟩
      · refine .inr fun x hx hy => ?_
        obtain ⟨k, hk, rfl⟩ := mem_lv.1 hx
        obtain ⟨k', hk', e⟩ := mem_lv.1 hy
        obtain rfl : k' = k := by omega
        exact hpq k' hk hk'

/-- How many of the first k are among others. -/
def cm (l m : List Int) (k : Nat) : Nat := ((l.take k).filter fun x => decide (x ∈ m)).length

/-- The number at hand among the first j of others. -/
def hit (x : Int) (m : List Int) (j : Nat) : Nat := if x ∈ m.take j then 1 else 0

theorem cm_le (l m : List Int) (k : Nat) : cm l m k ≤ k := Nat.le_trans (List.length_filter_le _ _) (List.length_take_le _ _)
theorem hit_le (x : Int) (m : List Int) (j : Nat) : hit x m j ≤ 1 := by unfold hit; split <;> omega
theorem hit_zero (x : Int) (m : List Int) : hit x m 0 = 0 := by simp [hit]
theorem hit_yes {x y : Int} {m : List Int} {j : Nat} (hy : m[j]? = some y) (h : x = y) (hs : m.Pairwise (· < ·)) : hit x m (j + 1) = hit x m j + 1 := by
  obtain ⟨hj, rfl⟩ := List.getElem?_eq_some_iff.1 hy
  have h1 : x ∈ m.take (j + 1) := by rw [List.take_succ_eq_append_getElem hj, List.mem_append, List.mem_singleton]; exact .inr h
  have h2 : x ∉ m.take j := by
    intro q
    obtain ⟨i, hi, e⟩ := List.mem_iff_getElem.1 q
    rw [List.length_take] at hi
    rw [List.getElem_take] at e
    have := List.pairwise_iff_getElem.1 hs i j (by omega) hj (by omega)
    omega
  unfold hit
  rw [if_pos h1, if_neg h2]
theorem hit_no {x y : Int} {m : List Int} {j : Nat} (hy : m[j]? = some y) (h : x ≠ y) : hit x m (j + 1) = hit x m j := by
  obtain ⟨hj, rfl⟩ := List.getElem?_eq_some_iff.1 hy
  have h1 : x ∈ m.take (j + 1) ↔ x ∈ m.take j := by rw [List.take_succ_eq_append_getElem hj, List.mem_append, List.mem_singleton]; exact ⟨fun q => q.resolve_right h, .inl⟩
  unfold hit
  simp only [h1]
theorem cm_zero (l m : List Int) : cm l m 0 = 0 := by simp [cm]
theorem cm_succ {l m : List Int} {k : Nat} {x : Int} (hx : l[k]? = some x) : cm l m (k + 1) = cm l m k + hit x m m.length := by
  obtain ⟨hk, rfl⟩ := List.getElem?_eq_some_iff.1 hx
  unfold cm hit
  rw [List.take_succ_eq_append_getElem hk, List.filter_append, List.length_append, List.take_length]
  congr 1
  by_cases h : l[k] ∈ m <;> simp [h]
theorem cm_all {l m : List Int} (h : (∀ x ∈ l, x ∈ m) ∨ (∀ x ∈ l, x ∉ m)) : cm l m l.length = l.length ∨ cm l m l.length = 0 := by
  unfold cm
  rw [List.take_length]
  rcases h with h | h
  · refine .inl ?_
    rw [List.filter_eq_self.2 (fun x hx => by simpa using h x hx)]
  · refine .inr ?_
    rw [List.filter_eq_nil_iff.2 (fun x hx => by simpa using h x hx)]
    rfl
end Go.Proofs.Ytbmlkomfelkckaa
