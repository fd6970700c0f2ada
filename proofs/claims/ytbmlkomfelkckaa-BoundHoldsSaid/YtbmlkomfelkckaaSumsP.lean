/- Two matrices' rows side by side: the lower bound is the sum of the two, and so are a tree's changes. In plain Lean. -/
import Derived.Test.YtbmlkomfelkckaaLow
import Derived.Test.YtbmlkomfelkckaaFit2
namespace Go.Proofs.Ytbmlkomfelkckaa

/-- The rows of two matrices, side by side. -/
def beside (A B : List (List Int)) : List (List Int) := List.zipWith (· ++ ·) A B

theorem beside_length {A B : List (List Int)} (h : A.length = B.length) : (beside A B).length = A.length := by simp [beside, h]

theorem beside_get {A B : List (List Int)} {i : Nat} {r s : List Int} (h : A[i]? = some r) (k : B[i]? = some s) : (beside A B)[i]? = some (r ++ s) := by
  rw [beside, List.getElem?_zipWith, h, k]

/-- Rows of one length. -/
def Even (m : Nat) (A : List (List Int)) : Prop := ∀ r ∈ A, r.length = m

theorem even_of {A : List (List Int)} (h : matOk A = true) : Even (wid A) A := by
  intro r hr
  obtain ⟨i, hi, rfl⟩ := List.mem_iff_getElem.1 hr
  exact (mat_row h (List.getElem?_eq_getElem hi)).1

theorem wid_beside {A B : List (List Int)} (h : A.length = B.length) (hp : 0 < A.length) : wid (beside A B) = wid A + wid B := by
  cases A with
  | nil => simp at hp
  | cons r A =>
    cases B with
    | nil => simp at h
    | cons s B => simp [beside, wid]

theorem beside_getD {A B : List (List Int)} (h : A.length = B.length) (i : Nat) : (beside A B).getD i [] = A.getD i [] ++ B.getD i [] := by
  by_cases hi : i < A.length
  · rw [List.getD_eq_getElem?_getD, beside_get (List.getElem?_eq_getElem hi) (List.getElem?_eq_getElem (h ▸ hi)), List.getD_eq_getElem?_getD, List.getD_eq_getElem?_getD, List.getElem?_eq_getElem hi, List.getElem?_eq_getElem (h ▸ hi)]
    rfl
  · have h1 : (beside A B)[i]? = none := List.getElem?_eq_none (by rw [beside_length h]; omega)
    have h2 : A[i]? = none := List.getElem?_eq_none (by omega)
    have h3 : B[i]? = none := List.getElem?_eq_none (by omega)
    simp [List.getD_eq_getElem?_getD, h1, h2, h3]

theorem even_getD {m : Nat} {A : List (List Int)} (h : Even m A) (i : Nat) : (A.getD i []).length = m ∨ A.length ≤ i := by
  by_cases hi : i < A.length
  · left
    rw [List.getD_eq_getElem?_getD, List.getElem?_eq_getElem hi]
    exact h _ (List.getElem_mem hi)
  · right; omega

theorem state_left {A B : List (List Int)} (h : A.length = B.length) (ha : Even (wid A) A) {s : Nat} (hs : s < wid A) (leaf : Int) : stateAt (beside A B) s leaf = stateAt A s leaf := by
  unfold stateAt
  rw [beside_getD h]
  rcases even_getD ha leaf.toNat with h1 | h1
  · rw [List.getD_eq_getElem?_getD, List.getElem?_append_left (by omega), ← List.getD_eq_getElem?_getD]
  · have h2 : A[leaf.toNat]? = none := List.getElem?_eq_none h1
    have h3 : B[leaf.toNat]? = none := List.getElem?_eq_none (by omega)
    simp [List.getD_eq_getElem?_getD, h2, h3]

theorem state_right {A B : List (List Int)} (h : A.length = B.length) (ha : Even (wid A) A) (k : Nat) (leaf : Int) : stateAt (beside A B) (wid A + k) leaf = stateAt B k leaf := by
  unfold stateAt
  rw [beside_getD h]
  rcases even_getD ha leaf.toNat with h1 | h1
  · rw [List.getD_eq_getElem?_getD, List.getElem?_append_right (by omega), h1, Nat.add_sub_cancel_left, ← List.getD_eq_getElem?_getD]
  · have h2 : A[leaf.toNat]? = none := List.getElem?_eq_none h1
    have h3 : B[leaf.toNat]? = none := List.getElem?_eq_none (by omega)
    simp [List.getD_eq_getElem?_getD, h2, h3]

theorem fall_congr {X Y : List (List Int)} {s t : Nat} (h : ∀ leaf, stateAt X s leaf = stateAt Y t leaf) (bs : List Br) : fall X s bs = fall Y t bs := by
  have : fstep X s = fstep Y t := by
    funext q b
    unfold fstep
    simp only [h]
  unfold fall
  rw [this]

theorem fsum_left {A B : List (List Int)} (h : A.length = B.length) (ha : Even (wid A) A) (bs : List Br) : ∀ k, k ≤ wid A → fsum (beside A B) bs k = fsum A bs k
  | 0, _ => rfl
  | k + 1, hk => by
    rw [fsum, fsum, fsum_left h ha bs k (by omega), fall_congr (state_left h ha (by omega)) bs]

theorem fsum_right {A B : List (List Int)} (h : A.length = B.length) (ha : Even (wid A) A) (bs : List Br) : ∀ k, fsum (beside A B) bs (wid A + k) = fsum A bs (wid A) + fsum B bs k
  | 0 => by rw [Nat.add_zero, fsum_left h ha bs _ (Nat.le_refl _)]; rfl
  | k + 1 => by
    rw [← Nat.add_assoc, fsum, fsum, fsum_right h ha bs k, fall_congr (state_right h ha k) bs, Nat.add_assoc]

theorem col_left {s m : Nat} (x : Int) (hs : s < m) : ∀ (A B : List (List Int)), A.length = B.length → Even m A → hasCol (beside A B) s x = hasCol A s x
  | [], [], _, _ => rfl
  | [], _ :: _, h, _ => by simp at h
  | _ :: _, [], h, _ => by simp at h
  | r :: A, t :: B, h, ha => by
    have hr := ha r List.mem_cons_self
    have ih := col_left x hs A B (by simpa using h) (fun q hq => ha q (List.mem_cons_of_mem _ hq))
    unfold hasCol at *
    unfold beside at *
    rw [List.zipWith_cons_cons, List.any_cons, List.any_cons, ih]
    congr 1
    unfold hasRow
    rw [List.getD_eq_getElem?_getD, List.getElem?_append_left (by omega), ← List.getD_eq_getElem?_getD]

theorem col_right {k m : Nat} (x : Int) : ∀ (A B : List (List Int)), A.length = B.length → Even m A → hasCol (beside A B) (m + k) x = hasCol B k x
  | [], [], _, _ => rfl
  | [], _ :: _, h, _ => by simp at h
  | _ :: _, [], h, _ => by simp at h
  | r :: A, t :: B, h, ha => by
    have hr := ha r List.mem_cons_self
    have ih := col_right (k := k) x A B (by simpa using h) (fun q hq => ha q (List.mem_cons_of_mem _ hq))
    unfold hasCol at *
    unfold beside at *
    rw [List.zipWith_cons_cons, List.any_cons, List.any_cons, ih]
    congr 1
    unfold hasRow
    rw [List.getD_eq_getElem?_getD, List.getElem?_append_right (by omega), hr, Nat.add_sub_cancel_left, ← List.getD_eq_getElem?_getD]

theorem colUp_congr {X Y : List (List Int)} {s t : Nat} (h : ∀ x, hasCol X s x = hasCol Y t x) : ∀ n, colUp X s n = colUp Y t n
  | 0 => rfl
  | n + 1 => by rw [colUp, colUp, colUp_congr h n, h]

theorem low_left {A B : List (List Int)} (h : A.length = B.length) (ha : Even (wid A) A) : ∀ k, k ≤ wid A → lowUp (beside A B) k = lowUp A k
  | 0, _ => rfl
  | k + 1, hk => by
    rw [lowUp, lowUp, low_left h ha k (by omega), colN, colN, colUp_congr (fun x => col_left x (by omega) A B h ha)]

theorem low_right {A B : List (List Int)} (h : A.length = B.length) (ha : Even (wid A) A) : ∀ k, lowUp (beside A B) (wid A + k) = lowUp A (wid A) + lowUp B k
  | 0 => by rw [Nat.add_zero, low_left h ha _ (Nat.le_refl _)]; rfl
  | k + 1 => by
    rw [← Nat.add_assoc, lowUp, lowUp, low_right h ha k, colN, colN, colUp_congr (fun x => col_right x A B h ha), Nat.add_assoc]

theorem beside_ok {A B : List (List Int)} (h : A.length = B.length) (ha : matOk A = true) (hb : matOk B = true) (hw : wid A + wid B ≤ 4096) : matOk (beside A B) = true := by
  have h1 := ha
  have h2 := hb
  unfold matOk at h1 h2 ⊢
  simp only [Bool.and_eq_true, decide_eq_true_eq] at h1 h2 ⊢
  refine ⟨by rw [beside_length h]; exact h1.1, by rw [beside_length h]; exact h1.2.1, ?_⟩
  rw [List.all_eq_true] at *
  intro x hx
  obtain ⟨i, hi, rfl⟩ := List.mem_iff_getElem.1 hx
  have hi' : i < A.length := by rw [beside_length h] at hi; exact hi
  have hg := beside_get (List.getElem?_eq_getElem hi') (List.getElem?_eq_getElem (h ▸ hi'))
  rw [List.getElem?_eq_getElem hi] at hg
  have he : (beside A B)[i] = A[i] ++ B[i]'(h ▸ hi') := by simpa using hg
  have k1 := h1.2.2 _ (List.getElem_mem hi')
  have k2 := h2.2.2 _ (List.getElem_mem (h ▸ hi' : i < B.length))
  rw [he, wid_beside h h1.1]
  unfold rowOk at k1 k2 ⊢
  simp only [Bool.and_eq_true, decide_eq_true_eq] at k1 k2 ⊢
  refine ⟨by rw [List.length_append, k1.1, k2.1], by rw [List.length_append, k1.1, k2.1]; exact hw, ?_⟩
  rw [List.all_append, k1.2.2, k2.2.2]
  rfl

theorem low_beside {A B : List (List Int)} (h : A.length = B.length) (ha : matOk A = true) (hb : matOk B = true) (hw : wid A + wid B ≤ 4096) : lowNum (beside A B) = lowNum A + lowNum B := by
  rw [(lowNum_ok (beside_ok h ha hb hw)).1, (lowNum_ok ha).1, (lowNum_ok hb).1]
  have hp : 0 < A.length := by
    unfold matOk at ha
    simp only [Bool.and_eq_true, decide_eq_true_eq] at ha
    exact ha.1
  rw [wid_beside h hp, low_right h (even_of ha)]

theorem err_beside {A B : List (List Int)} (h : A.length = B.length) (ha : matOk A = true) (hb : matOk B = true) (hw : wid A + wid B ≤ 4096) (bs : List Br) : errBoth bs (beside A B) = errBoth bs A ∧ errBoth bs B = errBoth bs A := by
  unfold errBoth
  rw [if_pos (beside_ok h ha hb hw), if_pos ha, if_pos hb, beside_length h, ← h]
  exact ⟨rfl, rfl⟩

theorem sum_beside {A B : List (List Int)} (h : A.length = B.length) (ha : matOk A = true) (hb : matOk B = true) (hw : wid A + wid B ≤ 4096) (bs : List Br) : sumNum bs (beside A B) = sumNum bs A + sumNum bs B := by
  obtain ⟨e1, e2⟩ := err_beside h ha hb hw bs
  have hp : 0 < A.length := by
    unfold matOk at ha
    simp only [Bool.and_eq_true, decide_eq_true_eq] at ha
    exact ha.1
  unfold sumNum
  rw [e1, e2]
  split
  · rw [wid_beside h hp, fsum_right h (even_of ha)]
  · rfl

theorem sumNum_few (bs : List Br) (rows : List (List Int)) : sumNum bs rows ≤ 1000000 := by
  unfold sumNum
  split
  · rename_i h
    obtain ⟨hm, ht⟩ := errBoth_zero h
    have hf := matOk_few' hm
    have hn : bs.length ≤ 23 := by
      obtain ⟨l, hl'⟩ := Option.isSome_iff_exists.1 ht
      have := (rdTree_some hl').2.2.1
      omega
    have h1 := fsum_few rows bs (wid rows)
    have h2 : wid rows * bs.length ≤ 4096 * 23 := Nat.mul_le_mul hf.2.2 hn
    omega
  · omega

theorem lowNum_few {rows : List (List Int)} (h : matOk rows = true) : lowNum rows ≤ 1000000 := by
  rw [(lowNum_ok h).1]
  have := lowUp_le rows (wid rows)
  have := (matOk_few' h).2.2
  omega
end Go.Proofs.Ytbmlkomfelkckaa
