/- A tree's text, read: the tree. In plain Lean. -/
import Derived.Test.YtbmlkomfelkckaaTextP
import Derived.Test.YtbmlkomfelkckaaParseP
import Derived.Test.YtbmlkomfelkckaaPrint
import Derived.Test.YtbmlkomfelkckaaParse
namespace Go.Proofs.Ytbmlkomfelkckaa

theorem names_alone {ns : List ByteArray} (h : namesOk ns = true) (j k : Nat) (x y : ByteArray) (hjk : j < k) (hx : ns[j]? = some x) (hy : ns[k]? = some y) : x.toList ≠ y.toList := by
  intro he
  have hk := (List.getElem?_eq_some_iff.1 hy).1
  have h1 := (namesOk_true h).2.2 k hk
  have e : nameAt ns k = y := by unfold nameAt; rw [List.getD_eq_getElem?_getD, hy]; rfl
  unfold nameGood at h1
  rw [e, idx_take_some hjk hx (by rw [beq_iff_eq]; exact he.symm)] at h1
  simp at h1

/-- These bytes stand at 'i'. -/
def At (s : ByteArray) (i : Nat) (t : ByteArray) : Prop := i + t.size ≤ s.size ∧ ∀ j, j < t.size → byteAt s (i + j) = byteAt t j

theorem byteAt_left (a b : ByteArray) {j : Nat} (h : j < a.size) : byteAt (a ++ b) j = byteAt a j := by
  rw [byteAt_lt h, byteAt_lt (by rw [ba_size]; omega), ByteArray.getElem_append_left h]

theorem byteAt_right (a b : ByteArray) {j : Nat} (h : j < b.size) : byteAt (a ++ b) (a.size + j) = byteAt b j := by
  rw [byteAt_lt h, byteAt_lt (by rw [ba_size]; omega), ByteArray.getElem_append_right (by omega)]
  simp

theorem At.left {s a b : ByteArray} {i : Nat} (h : At s i (a ++ b)) : At s i a := by
  refine ⟨by have := h.1; rw [ba_size] at this; omega, fun j hj => ?_⟩
  rw [h.2 j (by rw [ba_size]; omega), byteAt_left a b hj]

theorem At.right {s a b : ByteArray} {i : Nat} (h : At s i (a ++ b)) : At s (i + a.size) b := by
  refine ⟨by have := h.1; rw [ba_size] at this; omega, fun j hj => ?_⟩
  have := h.2 (a.size + j) (by rw [ba_size]; omega)
  rw [byteAt_right a b hj] at this
  rw [← this, Nat.add_assoc]

theorem At.extract {s t : ByteArray} {i : Nat} (h : At s i t) : s.extract i (i + t.size) = t := by
  have hz : (s.extract i (i + t.size)).size = t.size := by
    rw [ByteArray.size_extract]
    have := h.1
    omega
  refine ByteArray.ext_getElem hz fun j h1 h2 => ?_
  have := h.2 j h2
  rw [byteAt_lt (by have := h.1; omega), byteAt_lt h2] at this
  rw [ByteArray.getElem_extract]
  exact UInt8.toNat_inj.1 this

theorem nameOk_words {s : ByteArray} (h : nameOk s = true) {j : Nat} (hj : j < s.size) : wordI (byteAt s j : Int) = true := by
  cases hw : wordI (byteAt s j : Int) with
  | true => rfl
  | false =>
    rw [byteAt_lt hj] at hw
    rw [nameOk_byte hj hw] at h
    cases h

theorem names_ok {ns : List ByteArray} (h : namesOk ns = true) {k : Nat} (hk : k < ns.length) : nameOk (nameAt ns k) = true ∧ 1 ≤ (nameAt ns k).size := by
  have h1 := (namesOk_true h).2.2 k hk
  unfold nameGood at h1
  rw [Bool.and_eq_true] at h1
  refine ⟨h1.1, ?_⟩
  by_cases h2 : 1 ≤ (nameAt ns k).size ∧ (nameAt ns k).size ≤ 8
  · exact h2.1
  · have := nameOk_size h2
    rw [h1.1] at this
    cases this

theorem leaf_at {s : ByteArray} {ns : List ByteArray} {i k : Nat} {had : List Nat} (hok : namesOk ns = true) (hk : k < ns.length) (hat : At s i (nameAt ns k)) (hstop : i + (nameAt ns k).size < s.size → wordI (byteAt s (i + (nameAt ns k).size) : Int) = false) (hnot : k ∉ had) :
    leafAt s ns i had = .ok (i + (nameAt ns k).size) (.leaf k) (had ++ [k]) := by
  obtain ⟨h1, h2⟩ := names_ok hok hk
  have he : wend s i = i + (nameAt ns k).size := by
    refine IsEnd.unique (wend_is s i) ⟨by omega, fun m hm1 hm2 => ⟨by have := hat.1; omega, ?_⟩, hstop⟩
    have := hat.2 (m - i) (by omega)
    rw [show i + (m - i) = m by omega] at this
    rw [this]
    exact nameOk_words h1 (by omega)
  unfold leafAt
  rw [he, if_neg (by omega)]
  have hidx : idx ns (wordOf s i (i + (nameAt ns k).size)) = some k := by
    unfold wordOf
    rw [hat.extract]
    have hx : ns[k]? = some (nameAt ns k) := by unfold nameAt; rw [List.getD_eq_getElem?_getD, List.getElem?_eq_getElem hk]; rfl
    show idxFrom (nameAt ns k).toList 0 ns = some k
    rw [idxFrom_some hx (by rw [beq_self_eq_true]) (fun j y hj hy => by
      rw [beq_eq_false_iff_ne]
      exact fun q => names_alone hok j k y (nameAt ns k) hj hy hx q.symm), Nat.zero_add]
  rw [hidx]
  simp only
  rw [if_neg hnot]

theorem rd_text {s : ByteArray} {ns : List ByteArray} (hok : namesOk ns = true) : ∀ (T : NT) (f i : Nat) (had : List Nat), (∀ k ∈ T.leaves, k < ns.length) → T.leaves.Nodup → (∀ k ∈ T.leaves, k ∉ had) → At s i (textOf ns T) →
    (i + (textOf ns T).size < s.size → wordI (byteAt s (i + (textOf ns T).size) : Int) = false) → s.size < i + f → rdP s ns f i had = .ok (i + (textOf ns T).size) T (had ++ T.leaves)
  | .leaf k, f, i, had, hk, _, hnot, hat, hstop, hf => by
    have hkl := hk k (by simp [NT.leaves])
    obtain ⟨h1, h2⟩ := names_ok hok hkl
    have hat' : At s i (nameAt ns k) := hat
    have hlt := hat'.1
    cases f with
    | zero => omega
    | succ f =>
      have hb := hat'.2 0 (by omega)
      rw [Nat.add_zero] at hb
      have hw := nameOk_words h1 (j := 0) (by omega)
      rw [← hb] at hw
      rw [rdP, if_pos (by omega), if_neg (fun q => by rw [q] at hw; revert hw; decide)]
      exact leaf_at hok hkl hat' hstop (hnot k (by simp [NT.leaves]))
  | .fork a b, f, i, had, hk, hnd, hnot, hat, hstop, hf => by
    have e1 : (⟨#[40]⟩ : ByteArray).size = 1 := rfl
    have e2 : (⟨#[44]⟩ : ByteArray).size = 1 := rfl
    have e3 : (⟨#[41]⟩ : ByteArray).size = 1 := rfl
    have hz : (textOf ns (.fork a b)).size = (textOf ns a).size + (textOf ns b).size + 3 := by
      simp only [textOf, ba_size]
      omega
    rw [textOf] at hat
    have a5 := hat.right
    have a4 := hat.left.right
    have a3 := hat.left.left.right
    have a2 := hat.left.left.left.right
    have a1 := hat.left.left.left.left
    simp only [ba_size, e1, e2] at a5 a4 a3 a2
    have l5 := a5.1
    rw [e3] at l5
    have b1 := a1.2 0 (by decide)
    have b3 := a3.2 0 (by decide)
    have b5 := a5.2 0 (by decide)
    rw [Nat.add_zero, show byteAt ⟨#[40]⟩ 0 = 40 from rfl] at b1
    rw [Nat.add_zero, show byteAt ⟨#[44]⟩ 0 = 44 from rfl] at b3
    rw [Nat.add_zero, show byteAt ⟨#[41]⟩ 0 = 41 from rfl] at b5
    simp only [NT.leaves] at hk hnd hnot
    obtain ⟨n1, n2, n3⟩ := List.nodup_append.1 hnd
    cases f with
    | zero => omega
    | succ f =>
      rw [rdP, if_pos (by omega), if_pos b1]
      rw [rd_text hok a f (i + 1) had (fun k h => hk k (by simp [h])) n1 (fun k h => hnot k (by simp [h])) a2 (fun _ => by rw [show i + 1 + (textOf ns a).size = i + (1 + (textOf ns a).size) by omega, b3]; decide) (by omega)]
      simp only
      rw [if_pos ⟨by omega, by rw [show i + 1 + (textOf ns a).size = i + (1 + (textOf ns a).size) by omega, b3]⟩]
      rw [show i + 1 + (textOf ns a).size + 1 = i + (1 + (textOf ns a).size + 1) by omega]
      rw [rd_text hok b f (i + (1 + (textOf ns a).size + 1)) (had ++ a.leaves) (fun k h => hk k (by simp [h])) n2 (fun k h => by
        rw [List.mem_append]
        rintro (q | q)
        · exact hnot k (by simp [h]) q
        · exact n3 k q k h rfl) a4 (fun _ => by rw [show i + (1 + (textOf ns a).size + 1) + (textOf ns b).size = i + (1 + (textOf ns a).size + 1 + (textOf ns b).size) by omega, b5]; decide) (by omega)]
      simp only
      rw [if_pos ⟨by omega, by rw [show i + (1 + (textOf ns a).size + 1) + (textOf ns b).size = i + (1 + (textOf ns a).size + 1 + (textOf ns b).size) by omega, b5]⟩]
      rw [hz, NT.leaves, List.append_assoc, show i + (1 + (textOf ns a).size + 1) + (textOf ns b).size + 1 = i + ((textOf ns a).size + (textOf ns b).size + 3) by omega]

theorem parse_text {ns : List ByteArray} {bs : List Br} {T : NT} (hok : namesOk ns = true) (h : rdRoot (ns.length : Int) bs = some T) : parseOut (textOf ns T) ns = ⟨0, 0, some T⟩ := by
  obtain ⟨h1, h2, h3⟩ := rdRoot_leaves h
  obtain ⟨h4, h5, h6, h7⟩ := rdRoot_size h
  have hz := textOf_size (names_8 hok) T
  have hw : whole (textOf ns T) ns = .ok (textOf ns T).size T T.leaves := by
    have := rd_text (s := textOf ns T) hok T ((textOf ns T).size + 1) 0 [] (fun k hk => by have := h2 k hk; omega) h1 (fun k _ => by simp) ⟨by omega, fun j _ => by rw [Nat.zero_add]⟩ (fun q => by omega) (by omega)
    rw [Nat.zero_add, List.nil_append] at this
    exact this
  unfold parseOut
  rw [hok, if_neg (by decide), if_neg (by omega), hw]
  simp only
  rw [if_neg (by omega), if_neg (by omega), (rdRoot_norm h).eq]
end Go.Proofs.Ytbmlkomfelkckaa
