/- Trees that differ in the root alone have the same changes; and the list that FitchTurns makes is the other tree's form. In plain Lean. -/
import Derived.Test.YtbmlkomfelkckaaFormP
import Derived.Test.YtbmlkomfelkckaaFitPlain
namespace Go.Proofs.Ytbmlkomfelkckaa

theorem fset_norm (st : Nat → Int) : ∀ T : NT, fset st T.norm = fset st T ∧ fnum st T.norm = fnum st T
  | .leaf k => ⟨rfl, rfl⟩
  | .fork a b => by
    obtain ⟨a1, a2⟩ := fset_norm st a
    obtain ⟨b1, b2⟩ := fset_norm st b
    rw [NT.norm, fset_mkFork, fnum_mkFork, a1, a2, b1, b2]
    exact ⟨rfl, rfl⟩

theorem bit_and_ne {x y c : Nat} (hx : x.testBit c = true) (hy : y.testBit c = true) : x &&& y ≠ 0 := fun h => and_zero_bit h c ⟨hx, hy⟩

theorem and_ne_bit {x y : Nat} (h : x &&& y ≠ 0) : ∃ c, x.testBit c = true ∧ y.testBit c = true := by
  obtain ⟨c, hc⟩ := exists_bit h
  rw [Nat.testBit_and, Bool.and_eq_true] at hc
  exact ⟨c, hc⟩

/-- How many changes join three sets, the first two first. -/
def joins (x y z : Nat) : Nat := if x &&& y = 0 then (if (x ||| y) &&& z = 0 then 2 else 1) else (if (x &&& y) &&& z = 0 then 1 else 0)

theorem joins_turn (x y z : Nat) : joins x y z = joins y z x := by
  unfold joins
  by_cases hxy : x &&& y = 0
  · rw [if_pos hxy]
    by_cases hyz : y &&& z = 0
    · rw [if_pos hyz]
      by_cases hxz : z &&& x = 0
      · have e1 : (x ||| y) &&& z = 0 := by
          rw [Nat.and_or_distrib_right, hyz, Nat.and_comm x z, hxz]
          rfl
        have e2 : (y ||| z) &&& x = 0 := by
          rw [Nat.and_or_distrib_right, hxz, Nat.and_comm y x, hxy]
          rfl
        rw [if_pos e1, if_pos e2]
      · obtain ⟨c, h1, h2⟩ := and_ne_bit hxz
        rw [if_neg (bit_and_ne (c := c) (by rw [Nat.testBit_or, h2]; rfl) h1), if_neg (bit_and_ne (c := c) (by rw [Nat.testBit_or, h1]; simp) h2)]
    · rw [if_neg hyz]
      obtain ⟨c, h1, h2⟩ := and_ne_bit hyz
      have e2 : (y &&& z) &&& x = 0 := by
        rw [Nat.and_comm y z, Nat.and_assoc, Nat.and_comm y x, hxy]
        simp
      rw [if_neg (bit_and_ne (c := c) (by rw [Nat.testBit_or, h1]; simp) h2), if_pos e2]
  · rw [if_neg hxy]
    by_cases hyz : y &&& z = 0
    · rw [if_pos hyz]
      obtain ⟨c, h1, h2⟩ := and_ne_bit hxy
      have e1 : (x &&& y) &&& z = 0 := by
        rw [Nat.and_assoc, hyz]
        simp
      rw [if_pos e1, if_neg (bit_and_ne (c := c) (by rw [Nat.testBit_or, h2]; rfl) h1)]
    · rw [if_neg hyz]
      have e : (x &&& y) &&& z = (y &&& z) &&& x := by rw [Nat.and_assoc, Nat.and_comm x]
      rw [e]

theorem fnum_two (st : Nat → Int) (p q z : NT) : fnum st (.fork (.fork p q) z) = fnum st p + fnum st q + fnum st z + joins (fset st p) (fset st q) (fset st z) := by
  simp only [fnum, fset]
  unfold joins
  by_cases h1 : fset st p &&& fset st q = 0
  · simp only [h1, if_true]
    split <;> omega
  · simp only [if_neg h1]
    split <;> omega

theorem fnum_comm (st : Nat → Int) (x y : NT) : fnum st (.fork x y) = fnum st (.fork y x) := by
  simp only [fnum]
  rw [Nat.and_comm, Nat.add_comm (fnum st x)]

/-- The root plays no part. -/
theorem fnum_turn (st : Nat → Int) (p q z : NT) : fnum st (.fork p (.fork q z)) = fnum st (.fork (.fork p q) z) := by
  rw [fnum_comm st p, fnum_two, fnum_two, joins_turn (fset st p)]
  omega

/-! ## The list -/

def mv (x gone : Int) : Int := if gone < x then x - 1 else x

/-- A branch as it is taken over. -/
def turnBr (gone i : Int) (b : Br) : Br := if gone < i ∧ ¬ (b.a = 0 ∧ b.b = 0) then ⟨b.leaf, mv b.a gone, mv b.b gone⟩ else b

def turnFrom (gone last : Int) : Nat → List Br → List Br
  | _, [] => []
  | i, b :: bs => (if (i : Int) ≠ gone ∧ (i : Int) ≠ last then [turnBr gone i b] else []) ++ turnFrom gone last (i + 1) bs

theorem turnFrom_append (gone last : Int) : ∀ (xs ys : List Br) (i : Nat), turnFrom gone last i (xs ++ ys) = turnFrom gone last i xs ++ turnFrom gone last (i + xs.length) ys
  | [], ys, i => by simp [turnFrom]
  | x :: xs, ys, i => by
    simp only [List.cons_append, turnFrom, turnFrom_append gone last xs ys (i + 1), List.length_cons, List.append_assoc]
    rw [show i + 1 + xs.length = i + (xs.length + 1) by omega]

theorem turnFrom_le (gone last : Int) : ∀ (xs : List Br) (i : Nat), (turnFrom gone last i xs).length ≤ xs.length
  | [], _ => Nat.le_refl _
  | x :: xs, i => by
    have := turnFrom_le gone last xs (i + 1)
    simp only [turnFrom, List.length_append, List.length_cons]
    split <;> simp <;> omega

theorem turnFrom_next (gone last : Int) {xs : List Br} {k : Nat} {x : Br} (h : xs[k]? = some x) :
    turnFrom gone last 0 (xs.take (k + 1)) = turnFrom gone last 0 (xs.take k) ++ (if (k : Int) ≠ gone ∧ (k : Int) ≠ last then [turnBr gone k x] else []) := by
  obtain ⟨hk, hx⟩ := List.getElem?_eq_some_iff.1 h
  rw [List.take_succ_eq_append_getElem hk, turnFrom_append, hx]
  simp only [turnFrom, List.append_nil, List.length_take, Nat.zero_add]
  rw [Nat.min_eq_left (by omega)]

theorem turnFrom_low (gone last : Int) (h : gone < last) : ∀ (xs : List Br) (i : Nat), ((i + xs.length : Nat) : Int) ≤ gone → turnFrom gone last i xs = xs
  | [], i, _ => rfl
  | x :: xs, i, hi => by
    simp only [List.length_cons] at hi
    rw [turnFrom, if_pos (by omega), turnFrom_low gone last h xs (i + 1) (by omega)]
    unfold turnBr
    rw [if_neg (by omega)]
    rfl

theorem turnFrom_high (gone last : Int) (h0 : 0 ≤ gone) : ∀ (T : NT) (base i : Nat), gone < base → gone < i → ((i + T.size : Nat) : Int) ≤ last → turnFrom gone last i (T.form base) = T.form (base - 1)
  | .leaf k, base, i, h1, h2, h3 => by
    simp only [NT.size] at h3
    simp only [NT.form]
    rw [turnFrom, if_pos (by omega)]
    simp [turnFrom, turnBr]
  | .fork a b, base, i, h1, h2, h3 => by
    simp only [NT.size] at h3
    have ha := a.size_pos
    have hb := b.size_pos
    simp only [NT.form]
    rw [turnFrom_append, turnFrom_append, turnFrom_high gone last h0 a base i h1 h2 (by omega)]
    rw [NT.form_length, turnFrom_high gone last h0 b (base + a.size) (i + a.size) (by omega) (by omega) (by omega)]
    rw [show base + a.size - 1 = base - 1 + a.size by omega]
    congr 1
    simp only [List.length_append, NT.form_length]
    rw [turnFrom, if_pos (by omega)]
    unfold turnBr mv
    rw [if_pos (by show _ ∧ ¬ (_ ∧ _); simp only [not_and]; omega), if_pos (by show gone < ((base + a.size : Nat) : Int) - 1; omega), if_pos (by show gone < ((base + a.size + b.size : Nat) : Int) - 1; omega)]
    simp only [turnFrom, List.append_nil, List.cons.injEq, Br.mk.injEq, and_true, true_and]
    omega

/-- What the law makes of a form is the form of the other tree. -/
theorem turn_list (p q z : NT) : turnFrom ((p.size + q.size : Nat) : Int) ((p.size + q.size + 1 + z.size : Nat) : Int) 0 ((NT.fork (.fork p q) z).form 0) ++ [⟨0, ((p.size + q.size : Nat) : Int) - 1, ((p.size + q.size + z.size : Nat) : Int) - 1⟩] ++
    [⟨0, ((p.size : Nat) : Int) - 1, ((p.size + q.size + z.size : Nat) : Int)⟩] = (NT.fork p (.fork q z)).form 0 := by
  have hp := p.size_pos
  have hq := q.size_pos
  have hz := z.size_pos
  simp only [NT.form, NT.size, Nat.zero_add]
  rw [turnFrom_append, turnFrom_append, turnFrom_append, turnFrom_append]
  simp only [List.length_append, NT.form_length, List.length_cons, List.length_nil, Nat.zero_add]
  rw [turnFrom_low _ _ (by omega) (p.form 0) 0 (by rw [NT.form_length]; omega), turnFrom_low _ _ (by omega) (q.form p.size) p.size (by rw [NT.form_length]; omega)]
  rw [turnFrom_high _ _ (by omega) z (p.size + q.size + 1) (p.size + q.size + 1) (by omega) (by omega) (by omega)]
  rw [turnFrom, if_neg (by omega)]
  rw [turnFrom, turnFrom, if_neg (by omega)]
  simp only [turnFrom, List.append_nil, List.append_assoc, Nat.add_sub_cancel]
  congr 1
  congr 1
  congr 1
  simp only [List.cons_append, List.nil_append, List.cons.injEq, Br.mk.injEq, and_true, true_and]
  omega

/-! ## All sites together -/

theorem fsum_trees {rows : List (List Int)} {leaves : Int} {bs cs : List Br} {T U : NT} (h1 : rdRoot leaves bs = some T) (h2 : rdRoot leaves cs = some U) (h : ∀ st : Nat → Int, fnum st T = fnum st U) (k : Nat) : (fall rows k bs).n = (fall rows k cs).n := by
  rw [fall_root h1, fall_root h2, h]
end Go.Proofs.Ytbmlkomfelkckaa
