/- The text of a tree, and the raw parts of a form. In plain Lean. -/
import Derived.Test.YtbmlkomfelkckaaRawP
import Derived.Test.YtbmlkomfelkckaaStr
namespace Go.Proofs.Ytbmlkomfelkckaa

def textOf (ns : List ByteArray) : NT → ByteArray
  | .leaf k => nameAt ns k
  | .fork a b => (⟨#[40]⟩ : ByteArray) ++ textOf ns a ++ ⟨#[44]⟩ ++ textOf ns b ++ ⟨#[41]⟩

/-- The parts as a form lists them, as they stand. -/
def NT.subs : NT → List NT
  | .leaf k => [.leaf k]
  | .fork a b => a.subs ++ b.subs ++ [.fork a b]

theorem subs_length : ∀ T : NT, T.subs.length = T.size
  | .leaf _ => rfl
  | .fork a b => by simp only [NT.subs, NT.size, List.length_append, List.length_singleton, subs_length a, subs_length b]

theorem subs_last : ∀ T : NT, T.subs.getD (T.size - 1) (.leaf 0) = T
  | .leaf _ => rfl
  | .fork a b => by
    have h : (a.subs ++ b.subs).length = (NT.fork a b).size - 1 := by
      rw [List.length_append, subs_length, subs_length]
      rfl
    rw [NT.subs, List.getD_eq_getElem?_getD, List.getElem?_append_right (by omega), h]
    simp

theorem raws_formT : ∀ (T : NT) (l : List NT), (T.form l.length).foldl rawStep l = l ++ T.subs
  | .leaf k, l => by simp [NT.form, rawStep, NT.subs]
  | .fork a b, l => by
    have ha := a.size_pos
    have hb := b.size_pos
    have h1 : l.length + a.size = (l ++ a.subs).length := by rw [List.length_append, subs_length]
    rw [NT.form, List.foldl_append, List.foldl_append, raws_formT a l, h1, raws_formT b (l ++ a.subs)]
    simp only [List.foldl_cons, List.foldl_nil]
    unfold rawStep
    rw [if_neg (by simp only; omega)]
    have g1 : (l ++ a.subs ++ b.subs).getD (((l ++ a.subs).length : Int) - 1).toNat (.leaf 0) = a := by
      rw [show (((l ++ a.subs).length : Int) - 1).toNat = l.length + (a.size - 1) by omega]
      rw [getD_nt_left _ _ _ (by omega), List.getD_eq_getElem?_getD, List.getElem?_append_right (by omega), show l.length + (a.size - 1) - l.length = a.size - 1 by omega, ← List.getD_eq_getElem?_getD, subs_last]
    have g2 : (l ++ a.subs ++ b.subs).getD ((((l ++ a.subs).length + b.size : Nat) : Int) - 1).toNat (.leaf 0) = b := by
      rw [show ((((l ++ a.subs).length + b.size : Nat) : Int) - 1).toNat = (l ++ a.subs).length + (b.size - 1) by omega]
      rw [List.getD_eq_getElem?_getD, List.getElem?_append_right (by omega), show (l ++ a.subs).length + (b.size - 1) - (l ++ a.subs).length = b.size - 1 by omega, ← List.getD_eq_getElem?_getD, subs_last]
    rw [g1, g2, NT.subs]
    simp only [List.append_assoc]

theorem rawAt_form (T : NT) : rawAt (T.form 0) (T.size - 1) = T := by
  unfold rawAt raws
  have := raws_formT T []
  simp only [List.length_nil, List.nil_append] at this
  rw [this, subs_last]

theorem ba_size (a b : ByteArray) : (a ++ b).size = a.size + b.size := by simp

theorem textOf_size {ns : List ByteArray} (h : ∀ k, (nameAt ns k).size ≤ 8) : ∀ T : NT, (textOf ns T).size ≤ 11 * T.size
  | .leaf k => by have := h k; simp only [textOf, NT.size]; omega
  | .fork a b => by
    have h1 := textOf_size h a
    have h2 := textOf_size h b
    simp only [textOf, NT.size, ba_size]
    have e1 : (⟨#[40]⟩ : ByteArray).size = 1 := rfl
    have e2 : (⟨#[44]⟩ : ByteArray).size = 1 := rfl
    have e3 : (⟨#[41]⟩ : ByteArray).size = 1 := rfl
    omega

section
open Go Go.RowKit
/-- The four sums of a fork's text. -/
theorem text_sums (P : Program) (tx ty : ByteArray) (hx : tx.size ≤ 1000000) (hy : ty.size ≤ 1000000) (W : World) :
    (Op.stringOp .add ⟨#[40]⟩ tx).run P W = .ok (.string (⟨#[40]⟩ ++ tx)) W ∧
    (Op.stringOp .add (⟨#[40]⟩ ++ tx) ⟨#[44]⟩).run P W = .ok (.string (⟨#[40]⟩ ++ tx ++ ⟨#[44]⟩)) W ∧
    (Op.stringOp .add (⟨#[40]⟩ ++ tx ++ ⟨#[44]⟩) ty).run P W = .ok (.string (⟨#[40]⟩ ++ tx ++ ⟨#[44]⟩ ++ ty)) W ∧
    (Op.stringOp .add (⟨#[40]⟩ ++ tx ++ ⟨#[44]⟩ ++ ty) ⟨#[41]⟩).run P W = .ok (.string (⟨#[40]⟩ ++ tx ++ ⟨#[44]⟩ ++ ty ++ ⟨#[41]⟩)) W := by
  have e1 : (⟨#[40]⟩ : ByteArray).size = 1 := rfl
  have e2 : (⟨#[44]⟩ : ByteArray).size = 1 := rfl
  have e3 : (⟨#[41]⟩ : ByteArray).size = 1 := rfl
  refine ⟨run_string_add_sum W _ _ ?_, run_string_add_sum W _ _ ?_, run_string_add_sum W _ _ ?_, run_string_add_sum W _ _ ?_⟩ <;> (try simp only [ba_size]) <;> omega
end
end Go.Proofs.Ytbmlkomfelkckaa
