/- Numbers sorted; the clades of a list of branches. In plain Lean. -/
import Derived.Test.YtbmlkomfelkckaaBelow
namespace Go.Proofs.Ytbmlkomfelkckaa

/-- Numbers, sorted. -/
def sortI (l : List Int) : List Int := l.mergeSort fun x y => decide (x ≤ y)

theorem sortI_perm (l : List Int) : (sortI l).Perm l := List.mergeSort_perm _ _
theorem sortI_sorted (l : List Int) : (sortI l).Pairwise (· ≤ ·) := by
  have h := List.pairwise_mergeSort (le := fun x y : Int => decide (x ≤ y)) (by intro a b c h1 h2; simp at *; omega) (by intro a b; simp; omega) l
  exact h.imp (fun h => by simpa using h)
theorem sortI_eq {l m : List Int} (hp : m.Perm l) (hs : m.Pairwise (· ≤ ·)) : m = sortI l := by
  refine List.Perm.eq_of_pairwise (le := (· ≤ ·)) ?_ hs (sortI_sorted l) (hp.trans (sortI_perm l).symm)
  intro a b _ _ h1 h2
  omega
theorem sortI_two (x y : List Int) : sortI (sortI x ++ sortI y) = sortI (x ++ y) := (sortI_eq ((sortI_perm _).trans (List.Perm.append (sortI_perm x) (sortI_perm y))) (sortI_sorted _))
theorem sortI_length (l : List Int) : (sortI l).length = l.length := (sortI_perm l).length_eq
theorem sortI_one (x : Int) : sortI [x] = [x] := (sortI_eq (List.Perm.refl _) (by simp)).symm

/-- What holds where the first 'a' are sorted and the least. -/
def Head (l : List Int) (a : Nat) : Prop := ∀ i j, i < a → i < j → j < l.length → l.getD i 0 ≤ l.getD j 0
def Low (l : List Int) (a b : Nat) : Prop := ∀ j, a < j → j < b → l.getD a 0 ≤ l.getD j 0

/-- Two numbers change places. -/
def swp (l : List Int) (a b : Nat) : List Int := (l.set a (l.getD b 0)).set b (l.getD a 0)

theorem swp_length (l : List Int) (a b : Nat) : (swp l a b).length = l.length := by simp [swp]
theorem swp_perm {l : List Int} {a b : Nat} (ha : a < l.length) (hb : b < l.length) : (swp l a b).Perm l := by
  have h := @List.set_set_perm _ l a b ha hb
  simpa [swp, List.getD_eq_getElem?_getD, ha, hb] using h
theorem swp_at {l : List Int} {a b i : Nat} (ha : a < l.length) (_hb : b < l.length) (hi : i < l.length) : (swp l a b).getD i 0 = if i = b then l.getD a 0 else if i = a then l.getD b 0 else l.getD i 0 := by
  simp only [swp, List.getD_eq_getElem?_getD, List.getElem?_set, List.length_set]
  by_cases h1 : b = i
  · subst h1; simp [hi]
  · by_cases h2 : a = i
    · subst h2; simp [h1, ha, Ne.symm h1]
    · simp [h1, h2, Ne.symm h1, Ne.symm h2]

theorem Head.swp {l : List Int} {a b : Nat} (h : Head l a) (hab : a < b) (hb : b < l.length) : Head (swp l a b) a := by
  intro i j hi hij hj
  rw [swp_length] at hj
  rw [swp_at (by omega) hb (by omega), swp_at (by omega) hb hj, if_neg (by omega), if_neg (by omega)]
  split
  · exact h i a hi (by omega) (by omega)
  · split
    · exact h i b hi (by omega) hb
    · exact h i j hi hij hj
theorem Low.swp {l : List Int} {a b : Nat} (h : Low l a b) (hab : a < b) (hb : b < l.length) (hlt : l.getD b 0 < l.getD a 0) : Low (swp l a b) a (b + 1) := by
  intro j hj hjb
  rw [swp_at (by omega) hb (by omega), swp_at (by omega) hb (by omega), if_neg (by omega), if_pos rfl]
  split
  · omega
  · rw [if_neg (by omega)]
    have := h j hj (by omega)
    omega
theorem Low.keep {l : List Int} {a b : Nat} (h : Low l a b) (hlt : ¬ l.getD b 0 < l.getD a 0) : Low l a (b + 1) := by
  intro j hj hjb
  by_cases e : j = b
  · subst e; omega
  · exact h j hj (by omega)
theorem Head.next {l : List Int} {a : Nat} (h : Head l a) (k : Low l a l.length) : Head l (a + 1) := by
  intro i j hi hij hj
  by_cases e : i = a
  · subst e; exact k j hij hj
  · exact h i j (by omega) hij hj
theorem Head.done {l l0 : List Int} (hp : l.Perm l0) (h : Head l l.length) : l = sortI l0 := by
  refine sortI_eq hp (List.pairwise_iff_getElem.2 fun i j hi hj hij => ?_)
  have := h i j hi hij hj
  simpa [List.getD_eq_getElem?_getD, hi, hj] using this

/-- The leaves of a part, as whole numbers. -/
def NT.lv (T : NT) : List Int := T.leaves.map fun k : Nat => (k : Int)

/-- A part's own clade. -/
def NT.cl : NT → List (List Int)
  | .leaf _ => []
  | .fork a b => [sortI (a.lv ++ b.lv)]

/-- The clades of the first k parts. -/
def clUp (bs : List Br) (k : Nat) : List (List Int) := ((raws bs).take k).flatMap NT.cl

theorem clUp_zero (bs : List Br) : clUp bs 0 = [] := by simp [clUp]

theorem clUp_succ (bs : List Br) (k : Nat) (hk : k < bs.length) : clUp bs (k + 1) = clUp bs k ++ (rawAt bs k).cl := by
  have hl : (raws bs).length = bs.length := by
    unfold raws
    rw [raws_length]
    simp
  have h : rawAt bs k = (raws bs)[k] := by
    unfold rawAt
    rw [List.getD_eq_getElem?_getD, List.getElem?_eq_getElem (by omega)]
    rfl
  rw [clUp, List.take_succ_eq_append_getElem (by omega), List.flatMap_append, h]
  simp [clUp]

theorem clUp_le (bs : List Br) : ∀ k, k ≤ bs.length → (clUp bs k).length ≤ k
  | 0, _ => by rw [clUp_zero]; exact Nat.le_refl _
  | k + 1, h => by
    have := clUp_le bs k (by omega)
    have hc : (rawAt bs k).cl.length ≤ 1 := by cases rawAt bs k <;> simp [NT.cl]
    rw [clUp_succ _ _ (by omega), List.length_append]
    omega

/-- The parts as a form lists them, as they stand. -/
def NT.pieces : NT → List NT
  | .leaf k => [.leaf k]
  | .fork a b => a.pieces ++ b.pieces ++ [.fork a b]

theorem pieces_length : ∀ T : NT, T.pieces.length = T.size
  | .leaf _ => rfl
  | .fork a b => by simp [NT.pieces, NT.size, pieces_length a, pieces_length b]; omega

theorem pieces_last : ∀ T : NT, T.pieces.getD (T.size - 1) (.leaf 0) = T
  | .leaf _ => rfl
  | .fork a b => by
    have h : (a.pieces ++ b.pieces).length = (NT.fork a b).size - 1 := by simp [pieces_length, NT.size]
    rw [← h, NT.pieces, getD_last]

theorem raws_form : ∀ (T : NT) (l : List NT), (T.form l.length).foldl rawStep l = l ++ T.pieces
  | .leaf k, l => by simp [NT.form, rawStep, NT.pieces]
  | .fork a b, l => by
    have ea := raws_form a l
    have hl : (l ++ a.pieces).length = l.length + a.size := by simp [pieces_length]
    have eb := raws_form b (l ++ a.pieces)
    rw [hl] at eb
    rw [NT.form, List.foldl_append, List.foldl_append, ea, eb]
    have pa := a.size_pos
    have pb := b.size_pos
    have e1 : ((l.length + a.size : Nat) : Int) - 1 = ((l.length + a.size - 1 : Nat) : Int) := by omega
    have e2 : ((l.length + a.size + b.size : Nat) : Int) - 1 = ((l.length + a.size + b.size - 1 : Nat) : Int) := by omega
    have hne : ¬ (((l.length + a.size - 1 : Nat) : Int) = 0 ∧ ((l.length + a.size + b.size - 1 : Nat) : Int) = 0) := by omega
    simp only [List.foldl_cons, List.foldl_nil, rawStep, e1, e2, if_neg hne, Int.toNat_natCast]
    have g1 : (l ++ a.pieces ++ b.pieces).getD (l.length + a.size - 1) (.leaf 0) = a := by
      rw [getD_nt_left _ _ _ (by rw [hl]; omega), show l.length + a.size - 1 = l.length + (a.size - 1) by omega, getD_mid _ _ _ (by rw [pieces_length]; omega), pieces_last]
    have g2 : (l ++ a.pieces ++ b.pieces).getD (l.length + a.size + b.size - 1) (.leaf 0) = b := by
      rw [show l.length + a.size + b.size - 1 = (l ++ a.pieces).length + (b.size - 1) by rw [hl]; omega, getD_mid _ _ _ (by rw [pieces_length]; omega), pieces_last]
    rw [g1, g2]
    simp [NT.pieces]

theorem raws_form0 (T : NT) : raws (T.form 0) = T.pieces := by
  have := raws_form T []
  simpa [raws] using this

/-- The clades of a tree, in its form's order. -/
def NT.clades (T : NT) : List (List Int) := T.pieces.flatMap NT.cl

theorem clUp_all (T : NT) : clUp (T.form 0) T.size = T.clades := by
  rw [clUp, raws_form0, List.take_of_length_le (by rw [pieces_length]; exact Nat.le_refl _)]
  rfl

theorem clades_fork (a b : NT) : (NT.fork a b).clades = a.clades ++ b.clades ++ [sortI (a.lv ++ b.lv)] := by simp [NT.clades, NT.pieces, NT.cl]

theorem lv_fork (a b : NT) : (NT.fork a b).lv = a.lv ++ b.lv := by simp [NT.lv, NT.leaves]

theorem leaves_pos (T : NT) : 0 < T.lv.length := by
  have := size_leaves T
  simp only [NT.lv, List.length_map]
  omega

theorem lv_length (T : NT) : T.lv.length = T.leaves.length := by simp [NT.lv]

/-- Each piece of what is read by a form is fine. -/
theorem rawOk_form {leaves : Int} {T : NT} (hn : T.leaves.Nodup) (h : ∀ k ∈ T.leaves, (k : Int) < leaves) (h1 : 1 ≤ leaves) (h12 : leaves ≤ 12) (hl : (T.leaves.length : Int) = leaves) : RawOk T.size (T.form 0) := by
  have := rawOk_of (rdRoot_form hn h h1 h12 hl)
  rwa [NT.form_length] at this
end Go.Proofs.Ytbmlkomfelkckaa
