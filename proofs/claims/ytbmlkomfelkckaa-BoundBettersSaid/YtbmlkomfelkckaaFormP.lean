/- A tree's form, read: its parts are the form's. In plain Lean. -/
import Derived.Test.YtbmlkomfelkckaaRoot
namespace Go.Proofs.Ytbmlkomfelkckaa

/-- Each fork's lesser key first. -/
def NT.norm : NT → NT
  | .leaf k => .leaf k
  | .fork a b => mkFork a.norm b.norm

/-- The parts as a form lists them, each normal. -/
def NT.parts : NT → List NT
  | .leaf k => [.leaf k]
  | .fork a b => a.parts ++ b.parts ++ [mkFork a.norm b.norm]

inductive NT.Norm : NT → Prop
  | leaf (k : Nat) : NT.Norm (.leaf k)
  | fork {a b : NT} (ha : a.Norm) (hb : b.Norm) (h : a.key ≤ b.key) : NT.Norm (.fork a b)

theorem NT.Norm.eq {T : NT} (h : T.Norm) : T.norm = T := by
  induction h with
  | leaf k => rfl
  | fork ha hb h iha ihb =>
    rw [NT.norm, iha, ihb, mkFork, if_neg (by omega)]

theorem NT.Norm.mkFork {a b : NT} (ha : a.Norm) (hb : b.Norm) : (mkFork a b).Norm := by
  unfold Proofs.Ytbmlkomfelkckaa.mkFork
  split
  · exact .fork hb ha (by omega)
  · exact .fork ha hb (by omega)

theorem NT.norm_norm : ∀ T : NT, T.norm.Norm
  | .leaf k => .leaf k
  | .fork a b => (norm_norm a).mkFork (norm_norm b)

theorem norm_size : ∀ T : NT, T.norm.size = T.size
  | .leaf k => rfl
  | .fork a b => by rw [NT.norm, size_mkFork, norm_size a, norm_size b]; rfl

theorem parts_length : ∀ T : NT, T.parts.length = T.size
  | .leaf k => rfl
  | .fork a b => by simp [NT.parts, NT.size, parts_length a, parts_length b]; omega

theorem parts_last : ∀ T : NT, T.parts.getD (T.size - 1) (.leaf 0) = T.norm
  | .leaf k => rfl
  | .fork a b => by
    have h : (a.parts ++ b.parts).length = (NT.fork a b).size - 1 := by simp [parts_length, NT.size]
    rw [← h, NT.parts, getD_last]
    rfl

theorem getD_mid (l m : List NT) (i : Nat) (_h : i < m.length) : (l ++ m).getD (l.length + i) (.leaf 0) = m.getD i (.leaf 0) := by
  rw [List.getD_eq_getElem?_getD, List.getD_eq_getElem?_getD, List.getElem?_append_right (by omega), Nat.add_sub_cancel_left]

/-- What is read of a form: its parts. -/
theorem rd_form (leaves : Int) : ∀ (T : NT) (s : RS), s.Ok leaves → T.leaves.Nodup → (∀ k ∈ T.leaves, (k : Int) < leaves ∧ (k : Int) ∉ s.had) →
    rdAll leaves s (T.form s.l.length) = some ⟨(T.leaves.map fun k : Nat => (k : Int)).reverse ++ s.had, s.free ++ [((s.l.length + T.size - 1 : Nat) : Int)], s.l ++ T.parts⟩
  | .leaf k, s, hk, hn, h => by
    obtain ⟨h1, h2⟩ := h k (by simp [NT.leaves])
    simp only [NT.form, rdAll]
    unfold rdStep
    rw [if_pos ⟨rfl, rfl⟩, if_neg (by simp only [not_or]; exact ⟨by omega, by omega, h2⟩)]
    simp [NT.leaves, NT.parts, NT.size]
  | .fork a b, s, hk, hn, h => by
    have hn' : a.leaves.Nodup ∧ b.leaves.Nodup ∧ ∀ x ∈ a.leaves, ∀ y ∈ b.leaves, x ≠ y := List.nodup_append.1 hn
    have ea := rd_form leaves a s hk hn'.1 (fun k hk' => h k (by simp [NT.leaves, hk']))
    have oka := (rdAll_ok leaves _ s _ hk ea).1
    have hl1 : (s.l ++ a.parts).length = s.l.length + a.size := by simp [parts_length]
    have eb := rd_form leaves b _ oka hn'.2.1 (fun k hk' => by
      obtain ⟨h1, h2⟩ := h k (by simp [NT.leaves, hk'])
      refine ⟨h1, ?_⟩
      simp only [List.mem_append, List.mem_reverse, List.mem_map, not_or, not_exists, not_and]
      refine ⟨fun x hx e => hn'.2.2 x hx k hk' (by omega), h2⟩)
    simp only [hl1] at eb
    have okb := (rdAll_ok leaves _ _ _ oka eb).1
    rw [NT.form, rdAll_append, rdAll_append, ea]
    simp only [Option.bind_some]
    rw [eb]
    simp only [Option.bind_some, rdAll]
    have ha := a.size_pos
    have hb := b.size_pos
    have hfree : ∀ x ∈ s.free, 0 ≤ x ∧ x < (s.l.length : Int) := fun x hx => hk.free x hx
    have n1 : ((s.l.length + a.size - 1 : Nat) : Int) ∉ s.free := fun q => by have := hfree _ q; omega
    have n2 : ((s.l.length + a.size + b.size - 1 : Nat) : Int) ∉ s.free := fun q => by have := hfree _ q; omega
    have e1 : ((s.l.length + a.size : Nat) : Int) - 1 = ((s.l.length + a.size - 1 : Nat) : Int) := by omega
    have e2 : ((s.l.length + a.size + b.size : Nat) : Int) - 1 = ((s.l.length + a.size + b.size - 1 : Nat) : Int) := by omega
    unfold rdStep
    simp only [e1, e2]
    rw [if_neg (by omega), if_neg (by
      simp only [not_or, Decidable.not_not, ne_eq]
      refine ⟨trivial, by omega, by simp, by simp⟩)]
    simp only [Option.bind_some, Option.some.injEq, RS.mk.injEq]
    have g1 : (s.l ++ a.parts ++ b.parts).getD ((s.l.length + a.size - 1 : Nat) : Int).toNat (.leaf 0) = a.norm := by
      rw [Int.toNat_natCast, List.append_assoc, show s.l.length + a.size - 1 = s.l.length + (a.size - 1) by omega, getD_mid _ _ _ (by simp [parts_length]; omega)]
      rw [List.getD_eq_getElem?_getD, List.getElem?_append_left (by rw [parts_length]; omega), ← List.getD_eq_getElem?_getD, parts_last]
    have g2 : (s.l ++ a.parts ++ b.parts).getD ((s.l.length + a.size + b.size - 1 : Nat) : Int).toNat (.leaf 0) = b.norm := by
      rw [Int.toNat_natCast, show s.l.length + a.size + b.size - 1 = (s.l ++ a.parts).length + (b.size - 1) by rw [hl1]; omega, getD_mid _ _ _ (by rw [parts_length]; omega), parts_last]
    refine ⟨?_, ?_, ?_⟩
    · simp [NT.leaves]
    · have f1 : (s.free ++ [((s.l.length + a.size - 1 : Nat) : Int)] ++ [((s.l.length + a.size + b.size - 1 : Nat) : Int)]).erase ((s.l.length + a.size - 1 : Nat) : Int) = s.free ++ [((s.l.length + a.size + b.size - 1 : Nat) : Int)] := by
        rw [List.append_assoc, List.erase_append_right _ n1]
        simp
      rw [f1, List.erase_append_right _ n2]
      simp only [List.erase_cons_head, List.append_nil, List.length_append, parts_length, NT.size]
      congr 2
      omega
    · rw [g1, g2]
      simp [NT.parts]

/-- A form is a tree, and that tree. -/
theorem rdTree_form {T : NT} {leaves : Int} (hn : T.leaves.Nodup) (h : ∀ k ∈ T.leaves, (k : Int) < leaves) (h1 : 1 ≤ leaves) (h12 : leaves ≤ 12) (hl : (T.leaves.length : Int) = leaves) : rdTree leaves (T.form 0) = some T.parts := by
  have hs := size_leaves T
  have e := rd_form leaves T ⟨[], [], []⟩ (RS.Ok.start leaves) hn (fun k hk => ⟨h k hk, by simp⟩)
  unfold rdTree
  rw [if_neg (by rw [NT.form_length]; omega)]
  simp only [List.length_nil] at e
  rw [e]
  simp

theorem rdRoot_form {T : NT} {leaves : Int} (hn : T.leaves.Nodup) (h : ∀ k ∈ T.leaves, (k : Int) < leaves) (h1 : 1 ≤ leaves) (h12 : leaves ≤ 12) (hl : (T.leaves.length : Int) = leaves) : rdRoot leaves (T.form 0) = some T.norm := by
  unfold rdRoot
  rw [rdTree_form hn h h1 h12 hl]
  simp only [Option.map_some, parts_length, parts_last]

/-- What was read is normal. -/
theorem RdCase.normal {leaves : Int} {s s' : RS} {b : Br} (hk : s.Ok leaves) (hc : RdCase leaves s b s') (h : ∀ T ∈ s.l, T.Norm) : ∀ T ∈ s'.l, T.Norm := by
  cases hc with
  | leaf ha hb h0 h1 h2 =>
    intro T hT
    simp only [List.mem_append, List.mem_singleton] at hT
    rcases hT with hT | rfl
    · exact h T hT
    · exact .leaf _
  | fork hh h0 hne ha hb =>
    have ka := hk.free _ ha
    have kb := hk.free _ hb
    have g : ∀ i, i < s.l.length → (s.l.getD i (.leaf 0)).Norm := fun i hi => by
      rw [List.getD_eq_getElem?_getD, List.getElem?_eq_getElem hi]
      exact h _ (List.getElem_mem hi)
    intro T hT
    simp only [List.mem_append, List.mem_singleton] at hT
    rcases hT with hT | rfl
    · exact h T hT
    · exact (g _ (by omega)).mkFork (g _ (by omega))

theorem rdAll_normal {leaves : Int} : ∀ (bs : List Br) (s s' : RS), s.Ok leaves → (∀ T ∈ s.l, T.Norm) → rdAll leaves s bs = some s' → ∀ T ∈ s'.l, T.Norm
  | [], s, s', _, h, hs => by simp [rdAll] at hs; subst hs; exact h
  | b :: bs, s, s', hk, h, hs => by
    simp only [rdAll] at hs
    obtain ⟨s1, h1, h2⟩ := Option.bind_eq_some_iff.1 hs
    exact rdAll_normal bs s1 s' (hk.step h1).1 ((rdStep_case h1).normal hk h) h2

theorem rdRoot_norm {leaves : Int} {bs : List Br} {T : NT} (h : rdRoot leaves bs = some T) : T.Norm := by
  obtain ⟨l, h1, rfl⟩ := Option.map_eq_some_iff.1 h
  obtain ⟨a, b, c, hl, s, hs, rfl, hf⟩ := rdTree_some h1
  have := rdAll_normal bs _ s (RS.Ok.start leaves) (by simp) hs
  rw [List.getD_eq_getElem?_getD, List.getElem?_eq_getElem (show s.l.length - 1 < s.l.length by omega)]
  exact this _ (List.getElem_mem _)

/-- A tree's form is that tree's. -/
theorem rdRoot_form_root {leaves : Int} {bs : List Br} {T : NT} (h : rdRoot leaves bs = some T) : rdRoot leaves (T.form 0) = some T := by
  obtain ⟨h1, h2, h3⟩ := rdRoot_leaves h
  obtain ⟨_, h4, h5, _⟩ := rdRoot_size h
  rw [rdRoot_form h1 h2 h4 h5 h3, (rdRoot_norm h).eq]
end Go.Proofs.Ytbmlkomfelkckaa
