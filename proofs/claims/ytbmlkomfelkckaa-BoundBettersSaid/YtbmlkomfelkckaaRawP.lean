/- The parts of a list of branches as they stand there, not in their form. In plain Lean. -/
import Derived.Test.YtbmlkomfelkckaaFormP
import Derived.Test.YtbmlkomfelkckaaBnd
namespace Go.Proofs.Ytbmlkomfelkckaa

def rawStep (l : List NT) (b : Br) : List NT :=
  if b.a = 0 ∧ b.b = 0 then l ++ [.leaf b.leaf.toNat] else l ++ [.fork (l.getD b.a.toNat (.leaf 0)) (l.getD b.b.toNat (.leaf 0))]

def raws (bs : List Br) : List NT := bs.foldl rawStep []

def rawAt (bs : List Br) (i : Nat) : NT := (raws bs).getD i (.leaf 0)

theorem rawStep_length (l : List NT) (b : Br) : (rawStep l b).length = l.length + 1 := by
  unfold rawStep
  split <;> simp

theorem raws_length : ∀ (bs : List Br) (l : List NT), (bs.foldl rawStep l).length = l.length + bs.length
  | [], _ => rfl
  | b :: bs, l => by
    rw [List.foldl_cons, raws_length bs, rawStep_length]
    simp only [List.length_cons]
    omega

theorem getD_nt_left (c d : List NT) (i : Nat) (h : i < c.length) : (c ++ d).getD i (.leaf 0) = c.getD i (.leaf 0) := by simp [List.getD_eq_getElem?_getD, List.getElem?_append_left h]

theorem raws_keep : ∀ (bs : List Br) (l : List NT) (i : Nat), i < l.length → (bs.foldl rawStep l).getD i (.leaf 0) = l.getD i (.leaf 0)
  | [], _, _, _ => rfl
  | b :: bs, l, i, h => by
    rw [List.foldl_cons, raws_keep bs _ i (by rw [rawStep_length]; omega)]
    unfold rawStep
    split <;> exact getD_nt_left _ _ _ h

theorem raws_split (bs : List Br) (i : Nat) (b : Br) (h : bs[i]? = some b) : raws bs = (bs.drop (i + 1)).foldl rawStep (rawStep (raws (bs.take i)) b) := by
  obtain ⟨hi, hb⟩ := List.getElem?_eq_some_iff.1 h
  have h1 : bs = bs.take i ++ b :: bs.drop (i + 1) := by
    have h2 := List.take_append_drop i bs
    rw [List.drop_eq_getElem_cons hi, hb] at h2
    exact h2.symm
  conv => lhs; rw [h1]
  unfold raws
  rw [List.foldl_append, List.foldl_cons]

/-- Each part, out of those before it. -/
theorem rawAt_eq {bs : List Br} {i : Nat} {b : Br} (h : bs[i]? = some b) (hk : ¬ (b.a = 0 ∧ b.b = 0) → b.a.toNat < i ∧ b.b.toNat < i) :
    rawAt bs i = if b.a = 0 ∧ b.b = 0 then .leaf b.leaf.toNat else .fork (rawAt bs b.a.toNat) (rawAt bs b.b.toNat) := by
  have hi := (List.getElem?_eq_some_iff.1 h).1
  have hs := raws_split bs i b h
  have hl : (raws (bs.take i)).length = i := by
    unfold raws
    rw [raws_length]
    simp
    omega
  have hlow : ∀ j, j < i → rawAt bs j = (raws (bs.take i)).getD j (.leaf 0) := by
    intro j hj
    unfold rawAt
    rw [hs, raws_keep _ _ _ (by rw [rawStep_length]; omega)]
    unfold rawStep
    split <;> exact getD_nt_left _ _ _ (by omega)
  have hat : rawAt bs i = (rawStep (raws (bs.take i)) b).getD i (.leaf 0) := by
    unfold rawAt
    rw [hs, raws_keep _ _ _ (by rw [rawStep_length]; omega)]
  rw [hat]
  unfold rawStep
  by_cases hc : b.a = 0 ∧ b.b = 0
  · rw [if_pos hc, if_pos hc]
    have := getD_last (raws (bs.take i)) (.leaf b.leaf.toNat)
    rwa [hl] at this
  · obtain ⟨h1, h2⟩ := hk hc
    rw [if_neg hc, if_neg hc, hlow _ h1, hlow _ h2]
    have := getD_last (raws (bs.take i)) (.fork ((raws (bs.take i)).getD b.a.toNat (.leaf 0)) ((raws (bs.take i)).getD b.b.toNat (.leaf 0)))
    rwa [hl] at this

/-- What is read is the form of what stands there. -/
theorem raws_read {leaves : Int} : ∀ (bs : List Br) (s s' : RS) (l : List NT), s.Ok leaves → s.l = l.map NT.norm → rdAll leaves s bs = some s' → s'.l = (bs.foldl rawStep l).map NT.norm
  | [], s, s', l, _, h, hs => by simp [rdAll] at hs; subst hs; exact h
  | b :: bs, s, s', l, hk, h, hs => by
    simp only [rdAll] at hs
    obtain ⟨s1, h1, h2⟩ := Option.bind_eq_some_iff.1 hs
    refine raws_read bs s1 s' (rawStep l b) (hk.step h1).1 ?_ h2
    have hlen : l.length = s.l.length := by rw [h]; simp
    have hg : ∀ k : Int, 0 ≤ k ∧ k < s.l.length → s.l.getD k.toNat (.leaf 0) = (l.getD k.toNat (.leaf 0)).norm := by
      intro k hk
      rw [h, List.getD_eq_getElem?_getD, List.getD_eq_getElem?_getD, List.getElem?_map, List.getElem?_eq_getElem (show k.toNat < l.length by omega)]
      rfl
    unfold rawStep
    cases rdStep_case h1 with
    | leaf ha hb h0 h1 h2 =>
      rw [if_pos ⟨ha, hb⟩, List.map_append, ← h]
      rfl
    | fork hh h0 hne ha hb =>
      have ka := hk.free _ ha
      have kb := hk.free _ hb
      rw [if_neg hh, List.map_append, ← h]
      simp only [List.map_cons, List.map_nil, NT.norm]
      rw [hg _ ka, hg _ kb]

theorem rawAt_root {leaves : Int} {bs : List Br} {T : NT} (h : rdRoot leaves bs = some T) : (rawAt bs (bs.length - 1)).norm = T ∧ ∀ i, i < bs.length → (rawAt bs i).size + 1 ≤ 2 ^ (i + 1) := by
  obtain ⟨l, h1, rfl⟩ := Option.map_eq_some_iff.1 h
  obtain ⟨a, b, c, hl, s, hs, rfl, hf⟩ := rdTree_some h1
  have hr := raws_read bs _ s [] (RS.Ok.start leaves) rfl hs
  have hlen : (raws bs).length = bs.length := by
    unfold raws
    rw [raws_length]
    simp
  have hat : ∀ i, i < bs.length → s.l.getD i (.leaf 0) = (rawAt bs i).norm := by
    intro i hi
    unfold rawAt
    rw [hr, List.getD_eq_getElem?_getD, List.getD_eq_getElem?_getD, List.getElem?_map]
    show ((raws bs)[i]?.map NT.norm).getD _ = _
    rw [List.getElem?_eq_getElem (by omega)]
    rfl
  refine ⟨?_, fun i hi => ?_⟩
  · rw [← hat _ (by omega), hl]
  · have h3 : ∀ (bs : List Br) (s s' : RS), s.Ok leaves → (∀ i, i < s.l.length → (s.l.getD i (.leaf 0)).size + 1 ≤ 2 ^ (i + 1)) → rdAll leaves s bs = some s' → ∀ i, i < s'.l.length → (s'.l.getD i (.leaf 0)).size + 1 ≤ 2 ^ (i + 1) := by
      intro bs
      induction bs with
      | nil => intro s s' _ h hs; simp [rdAll] at hs; subst hs; exact h
      | cons b bs ih =>
        intro s s' hk h hs
        simp only [rdAll] at hs
        obtain ⟨s1, h1, h2⟩ := Option.bind_eq_some_iff.1 hs
        refine ih s1 s' (hk.step h1).1 ?_ h2
        intro i hi
        have key : ∀ T : NT, T.size + 1 ≤ 2 ^ (s.l.length + 1) → i < (s.l ++ [T]).length → ((s.l ++ [T]).getD i (.leaf 0)).size + 1 ≤ 2 ^ (i + 1) := by
          intro T hT hi
          simp only [List.length_append, List.length_cons, List.length_nil] at hi
          by_cases hil : i < s.l.length
          · rw [getD_nt_left _ _ _ hil]; exact h i hil
          · obtain rfl : i = s.l.length := by omega
            rw [getD_last]; exact hT
        cases rdStep_case h1 with
        | leaf ha hb h0 h1 h2 =>
          refine key _ ?_ hi
          have := Nat.two_pow_pos s.l.length
          rw [Nat.pow_succ]
          simp only [NT.size]
          omega
        | fork hh h0 hne ha hb =>
          have ka := hk.free _ ha
          have kb := hk.free _ hb
          refine key _ ?_ hi
          rw [size_mkFork, Nat.pow_succ]
          have h1 := h b.a.toNat (by omega)
          have h2 := h b.b.toNat (by omega)
          have h3 : 2 ^ (b.a.toNat + 1) ≤ 2 ^ s.l.length := Nat.pow_le_pow_right (by decide) (by omega)
          have h4 : 2 ^ (b.b.toNat + 1) ≤ 2 ^ s.l.length := Nat.pow_le_pow_right (by decide) (by omega)
          omega
    have h4 := h3 bs _ s (RS.Ok.start leaves) (fun i hi => by simp at hi) hs i (by omega)
    rw [hat i hi, norm_size] at h4
    exact h4

/-! ## The least leaf -/

def minL : List Nat → Nat
  | [] => 0
  | x :: xs => xs.foldl min x

theorem foldl_min (xs : List Nat) : ∀ x y : Nat, xs.foldl min (min x y) = min x (xs.foldl min y) := by
  induction xs with
  | nil => intro x y; rfl
  | cons z zs ih => intro x y; rw [List.foldl_cons, List.foldl_cons, Nat.min_assoc, ih]

theorem minL_append {xs ys : List Nat} (h1 : xs ≠ []) (h2 : ys ≠ []) : minL (xs ++ ys) = min (minL xs) (minL ys) := by
  cases xs with
  | nil => exact absurd rfl h1
  | cons x xs =>
    cases ys with
    | nil => exact absurd rfl h2
    | cons y ys =>
      show (xs ++ y :: ys).foldl min x = min (xs.foldl min x) (ys.foldl min y)
      rw [List.foldl_append, List.foldl_cons, foldl_min]

theorem leaves_ne : ∀ T : NT, T.leaves ≠ []
  | .leaf k => by simp [NT.leaves]
  | .fork a b => by simp [NT.leaves, leaves_ne a]

theorem key_norm : ∀ T : NT, T.norm.key = minL T.leaves
  | .leaf k => rfl
  | .fork a b => by
    rw [NT.norm, key_mkFork, key_norm a, key_norm b, NT.leaves, minL_append (leaves_ne a) (leaves_ne b)]

/-- The least of the first numbers of a list. -/
theorem minL_snoc {xs : List Nat} (h : xs ≠ []) (x : Nat) : minL (xs ++ [x]) = min (minL xs) x := minL_append h (by simp)
end Go.Proofs.Ytbmlkomfelkckaa
