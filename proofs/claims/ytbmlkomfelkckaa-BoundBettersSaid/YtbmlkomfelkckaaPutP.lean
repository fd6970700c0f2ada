/- Parts of a form, and another part in the place of one. In plain Lean. -/
import Derived.Test.YtbmlkomfelkckaaHangP
import Derived.Test.YtbmlkomfelkckaaCladeP
namespace Go.Proofs.Ytbmlkomfelkckaa

/-- Another part in the place of the one that stands at p of the form. -/
def NT.put : NT → Int → NT → NT
  | .leaf j, p, S => if p = 0 then S else .leaf j
  | .fork a b, p, S => if p = (a.size : Int) + b.size then S else .fork (a.put p S) (b.put (p - a.size) S)

theorem put_out : ∀ (T : NT) (p : Int) (S : NT), (p < 0 ∨ (T.size : Int) ≤ p) → T.put p S = T
  | .leaf j, p, S, h => by
    simp only [NT.size] at h
    unfold NT.put
    rw [if_neg (by omega)]
  | .fork a b, p, S, h => by
    simp only [NT.size] at h
    unfold NT.put
    rw [if_neg (by omega), put_out a p S (by omega), put_out b _ S (by omega)]

theorem put_last : ∀ (T S : NT), T.put ((T.size : Int) - 1) S = S
  | .leaf j, S => by
    unfold NT.put
    rw [if_pos (by simp only [NT.size]; omega)]
  | .fork a b, S => by
    unfold NT.put
    rw [if_pos (by simp only [NT.size]; omega)]

/-- The piece at a place. -/
def NT.at (T : NT) (p : Nat) : NT := T.pieces.getD p (.leaf 0)

theorem at_some {T : NT} {p : Nat} {P : NT} (h : T.pieces[p]? = some P) : T.at p = P := by
  unfold NT.at
  rw [List.getD_eq_getElem?_getD, h]
  rfl

theorem some_at {T : NT} {p : Nat} (h : p < T.size) : T.pieces[p]? = some (T.at p) := by
  unfold NT.at
  rw [List.getD_eq_getElem?_getD, List.getElem?_eq_getElem (by rw [pieces_length]; exact h)]
  rfl

theorem pieces_fork_left {a b : NT} {q : Nat} (h : q < a.size) : (NT.fork a b).pieces[q]? = a.pieces[q]? := by
  rw [NT.pieces, List.append_assoc, List.getElem?_append_left (by rw [pieces_length]; exact h)]

theorem pieces_fork_right {a b : NT} {q : Nat} (h0 : a.size ≤ q) (h : q < a.size + b.size) : (NT.fork a b).pieces[q]? = b.pieces[q - a.size]? := by
  rw [NT.pieces, List.append_assoc, List.getElem?_append_right (by rw [pieces_length]; exact h0), pieces_length, List.getElem?_append_left (by rw [pieces_length]; omega)]

theorem pieces_fork_last {a b : NT} : (NT.fork a b).pieces[a.size + b.size]? = some (.fork a b) := by
  rw [NT.pieces, List.getElem?_append_right (by simp [pieces_length]), List.length_append, pieces_length, pieces_length, Nat.sub_self]
  rfl

theorem form_fork_left {a b : NT} {q base : Nat} (h : q < a.size) : ((NT.fork a b).form base)[q]? = (a.form base)[q]? := by
  rw [NT.form, List.append_assoc, List.getElem?_append_left (by rw [NT.form_length]; exact h)]

theorem form_fork_right {a b : NT} {q base : Nat} (h0 : a.size ≤ q) (h : q < a.size + b.size) : ((NT.fork a b).form base)[q]? = (b.form (base + a.size))[q - a.size]? := by
  rw [NT.form, List.append_assoc, List.getElem?_append_right (by rw [NT.form_length]; exact h0), NT.form_length, List.getElem?_append_left (by rw [NT.form_length]; omega)]

theorem form_fork_last {a b : NT} {base : Nat} : ((NT.fork a b).form base)[a.size + b.size]? = some ⟨0, ((base + a.size : Nat) : Int) - 1, ((base + a.size + b.size : Nat) : Int) - 1⟩ := by
  rw [NT.form, List.getElem?_append_right (by simp [NT.form_length]), List.length_append, NT.form_length, NT.form_length, Nat.sub_self]
  rfl

/-- What stands at a piece's place, and where its parts stand. -/
theorem piece_at : ∀ (T : NT) (base q : Nat) (P : NT), T.pieces[q]? = some P → P.size ≤ q + 1 ∧ match P with
    | .leaf j => (T.form base)[q]? = some ⟨(j : Int), 0, 0⟩
    | .fork a b => (T.form base)[q]? = some ⟨0, ((base + q : Nat) : Int) - b.size - 1, ((base + q : Nat) : Int) - 1⟩ ∧ T.pieces[q - b.size - 1]? = some a ∧ T.pieces[q - 1]? = some b
  | .leaf j, base, q, P, h => by
    obtain ⟨hq, rfl⟩ : q = 0 ∧ P = .leaf j := by
      have := (List.getElem?_eq_some_iff.1 h).1
      simp only [NT.pieces, List.length_singleton] at this
      obtain rfl : q = 0 := by omega
      exact ⟨rfl, by simpa [NT.pieces] using h.symm⟩
    subst hq
    exact ⟨by simp [NT.size], rfl⟩
  | .fork x y, base, q, P, h => by
    have hlt : q < x.size + y.size + 1 := by
      have := (List.getElem?_eq_some_iff.1 h).1
      rwa [pieces_length] at this
    by_cases h1 : q < x.size
    · rw [pieces_fork_left h1] at h
      obtain ⟨k1, k2⟩ := piece_at x base q P h
      refine ⟨k1, ?_⟩
      cases P with
      | leaf j => exact (form_fork_left h1).trans k2
      | fork a b => exact ⟨(form_fork_left h1).trans k2.1, (pieces_fork_left (by omega)).trans k2.2.1, (pieces_fork_left (by omega)).trans k2.2.2⟩
    · by_cases h2 : q < x.size + y.size
      · rw [pieces_fork_right (by omega) h2] at h
        obtain ⟨k1, k2⟩ := piece_at y (base + x.size) (q - x.size) P h
        refine ⟨by omega, ?_⟩
        cases P with
        | leaf j => exact (form_fork_right (by omega) h2).trans k2
        | fork a b =>
          have pa := a.size_pos
          have pb := b.size_pos
          simp only [NT.size] at k1
          refine ⟨(form_fork_right (by omega) h2).trans ?_, (pieces_fork_right (by omega) (by omega)).trans ?_, (pieces_fork_right (by omega) (by omega)).trans ?_⟩
          · rw [k2.1, show base + x.size + (q - x.size) = base + q by omega]
          · rw [show q - b.size - 1 - x.size = q - x.size - b.size - 1 by omega]; exact k2.2.1
          · rw [show q - 1 - x.size = q - x.size - 1 by omega]; exact k2.2.2
      · obtain rfl : q = x.size + y.size := by omega
        rw [pieces_fork_last] at h
        obtain rfl : NT.fork x y = P := by simpa using h
        have px := x.size_pos
        have py := y.size_pos
        refine ⟨by simp only [NT.size]; omega, form_fork_last.trans ?_, ?_, ?_⟩
        · simp only [Option.some.injEq, Br.mk.injEq, true_and]
          omega
        · rw [pieces_fork_left (by omega), show x.size + y.size - y.size - 1 = x.size - 1 by omega, some_at (by omega)]
          unfold NT.at
          rw [pieces_last]
        · rw [pieces_fork_right (by omega) (by omega), show x.size + y.size - 1 - x.size = y.size - 1 by omega, some_at (by omega)]
          unfold NT.at
          rw [pieces_last]

/-- A branch whose fork's places are counted from elsewhere. -/
def shiftBr (d : Int) (b : Br) : Br := if b.a = b.b then b else ⟨b.leaf, b.a + d, b.b + d⟩

theorem shift_leaf (d j : Int) : shiftBr d ⟨j, 0, 0⟩ = ⟨j, 0, 0⟩ := if_pos rfl
theorem shift_fork (d x y : Int) (h : x ≠ y) : shiftBr d ⟨0, x, y⟩ = ⟨0, x + d, y + d⟩ := if_neg h

theorem form_shift : ∀ (T : NT) (base base' : Nat) (d : Int), (base : Int) + d = base' → (T.form base).map (shiftBr d) = T.form base'
  | .leaf j, base, base', d, h => by simp [NT.form, shift_leaf]
  | .fork a b, base, base', d, h => by
    have pb := b.size_pos
    simp only [NT.form, List.map_append, form_shift a base base' d h, form_shift b (base + a.size) (base' + a.size) d (by omega), List.map_cons, List.map_nil]
    congr 1
    rw [shift_fork _ _ _ (by omega)]
    simp only [List.cons.injEq, Br.mk.injEq, true_and, and_true]
    omega

/-- A piece's branches lie side by side. -/
theorem piece_slice : ∀ (T : NT) (base q : Nat) (P : NT), T.pieces[q]? = some P → ((T.form base).drop (q + 1 - P.size)).take P.size = P.form (base + (q + 1 - P.size))
  | .leaf j, base, q, P, h => by
    obtain ⟨rfl, rfl⟩ : q = 0 ∧ P = .leaf j := by
      have := (List.getElem?_eq_some_iff.1 h).1
      simp only [NT.pieces, List.length_singleton] at this
      obtain rfl : q = 0 := by omega
      exact ⟨rfl, by simpa [NT.pieces] using h.symm⟩
    simp [NT.size, NT.form]
  | .fork x y, base, q, P, h => by
    have hP := (piece_at _ base q P h).1
    have pp := P.size_pos
    have hlt : q < x.size + y.size + 1 := by
      have := (List.getElem?_eq_some_iff.1 h).1
      rwa [pieces_length] at this
    by_cases h1 : q < x.size
    · rw [pieces_fork_left h1] at h
      have ih := piece_slice x base q P h
      rw [NT.form, List.append_assoc, List.drop_append_of_le_length (by rw [NT.form_length]; omega), List.take_append_of_le_length (by rw [List.length_drop, NT.form_length]; omega)]
      exact ih
    · by_cases h2 : q < x.size + y.size
      · rw [pieces_fork_right (by omega) h2] at h
        have ih := piece_slice y (base + x.size) (q - x.size) P h
        have hq := (piece_at y base (q - x.size) P h).1
        rw [NT.form, List.append_assoc, show q + 1 - P.size = (x.form base).length + (q - x.size + 1 - P.size) by rw [NT.form_length]; omega, List.drop_length_add_append,
          List.drop_append_of_le_length (by rw [NT.form_length]; omega), List.take_append_of_le_length (by rw [List.length_drop, NT.form_length]; omega), ih]
        congr 1
        rw [NT.form_length]
        omega
      · obtain rfl : q = x.size + y.size := by omega
        rw [pieces_fork_last] at h
        obtain rfl : NT.fork x y = P := by simpa using h
        rw [show x.size + y.size + 1 - (NT.fork x y).size = 0 by simp [NT.size], List.drop_zero, List.take_of_length_le (by rw [NT.form_length]; exact Nat.le_refl _), Nat.add_zero]

/-- A leaf hung is a part put. -/
theorem hangR_put : ∀ (T : NT) (p : Nat) (k : Nat), p < T.size → T.hangR p k = T.put p (.fork (T.at p) (.leaf k))
  | .leaf j, p, k, h => by
    simp only [NT.size] at h
    obtain rfl : p = 0 := by omega
    rfl
  | .fork a b, p, k, h => by
    simp only [NT.size] at h
    unfold NT.hangR NT.put
    by_cases h0 : p = a.size + b.size
    · subst h0
      rw [if_pos (by omega), if_pos (by omega), at_some pieces_fork_last]
    · rw [if_neg (by omega), if_neg (by omega)]
      by_cases h1 : p < a.size
      · rw [hangR_out b _ k (by omega), put_out b _ _ (by omega), hangR_put a p k h1]
        have : (NT.fork a b).at p = a.at p := at_some (by rw [pieces_fork_left h1]; exact some_at h1)
        rw [this]
      · rw [hangR_out a _ k (by omega), put_out a _ _ (by omega)]
        have e : ((p : Int) - a.size) = ((p - a.size : Nat) : Int) := by omega
        have : (NT.fork a b).at p = b.at (p - a.size) := at_some (by rw [pieces_fork_right (by omega) (by omega)]; exact some_at (by omega))
        rw [this, e, hangR_put b (p - a.size) k (by omega)]
end Go.Proofs.Ytbmlkomfelkckaa
