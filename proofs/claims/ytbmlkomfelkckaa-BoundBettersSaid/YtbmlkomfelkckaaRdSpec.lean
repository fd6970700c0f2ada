/- What tree.read computes, in plain Lean. -/
import Derived.Test.YtbmlkomfelkckaaMem
namespace Go.Proofs.Ytbmlkomfelkckaa

structure RS where
  had : List Int
  free : List Int
  l : List NT

/-- One branch is read; none: it may not stand here. -/
def rdStep (leaves : Int) (s : RS) (b : Br) : Option RS :=
  if b.a = 0 ∧ b.b = 0 then
    if b.leaf < 0 ∨ leaves ≤ b.leaf ∨ b.leaf ∈ s.had then none
    else some ⟨b.leaf :: s.had, s.free ++ [(s.l.length : Int)], s.l ++ [.leaf b.leaf.toNat]⟩
  else if b.leaf ≠ 0 ∨ b.a = b.b ∨ b.a ∉ s.free ∨ b.b ∉ s.free then none
  else some ⟨s.had, (s.free.erase b.a).erase b.b ++ [(s.l.length : Int)], s.l ++ [mkFork (s.l.getD b.a.toNat (.leaf 0)) (s.l.getD b.b.toNat (.leaf 0))]⟩

def rdAll (leaves : Int) : RS → List Br → Option RS
  | s, [] => some s
  | s, b :: bs => (rdStep leaves s b).bind fun s' => rdAll leaves s' bs

def rdTree (leaves : Int) (bs : List Br) : Option (List NT) :=
  if leaves < 1 ∨ 12 < leaves ∨ (bs.length : Int) ≠ 2 * leaves - 1 then none
  else (rdAll leaves ⟨[], [], []⟩ bs).bind fun s => if s.free.length = 1 then some s.l else none

theorem rdAll_snoc (leaves : Int) : ∀ (bs : List Br) (s : RS) (b : Br), rdAll leaves s (bs ++ [b]) = (rdAll leaves s bs).bind fun s' => rdStep leaves s' b
  | [], s, b => by simp [rdAll]
  | c :: bs, s, b => by
    simp only [List.cons_append, rdAll]
    cases h : rdStep leaves s c with
    | none => rfl
    | some s1 => simp [rdAll_snoc leaves bs s1 b]

theorem rdAll_append (leaves : Int) : ∀ (bs cs : List Br) (s : RS), rdAll leaves s (bs ++ cs) = (rdAll leaves s bs).bind fun s' => rdAll leaves s' cs
  | [], cs, s => by simp [rdAll]
  | c :: bs, cs, s => by
    simp only [List.cons_append, rdAll]
    cases h : rdStep leaves s c with
    | none => rfl
    | some s1 => simp [rdAll_append leaves bs cs s1]

/-- What holds of every state that is reached. -/
structure RS.Ok (leaves : Int) (s : RS) : Prop where
  free : ∀ k ∈ s.free, 0 ≤ k ∧ k < s.l.length
  nodup : s.free.Nodup
  had : ∀ k ∈ s.had, 0 ≤ k ∧ k < leaves

theorem RS.Ok.start (leaves : Int) : RS.Ok leaves ⟨[], [], []⟩ := ⟨by simp, by simp, by simp⟩

theorem RS.Ok.step {leaves : Int} {s s' : RS} {b : Br} (h : s.Ok leaves) (hs : rdStep leaves s b = some s') : s'.Ok leaves ∧ s'.l.length = s.l.length + 1 := by
  unfold rdStep at hs
  split at hs
  · split at hs
    · cases hs
    · rename_i hc
      cases hs
      refine ⟨⟨?_, ?_, ?_⟩, by simp⟩
      · intro k hk
        simp only [List.mem_append, List.mem_singleton, List.length_append, List.length_singleton] at hk ⊢
        rcases hk with hk | rfl
        · have := h.free k hk; omega
        · omega
      · refine List.nodup_append.2 ⟨h.nodup, by simp, ?_⟩
        intro x hx y hy
        simp at hy
        have := h.free x hx
        omega
      · intro k hk
        simp only [List.mem_cons] at hk
        rcases hk with rfl | hk
        · omega
        · exact h.had k hk
  · split at hs
    · cases hs
    · cases hs
      refine ⟨⟨?_, ?_, h.had⟩, by simp⟩
      · intro k hk
        simp only [List.mem_append, List.mem_singleton, List.length_append, List.length_singleton] at hk ⊢
        rcases hk with hk | rfl
        · have := h.free k (List.mem_of_mem_erase (List.mem_of_mem_erase hk)); omega
        · omega
      · refine List.nodup_append.2 ⟨(h.nodup.erase _).erase _, by simp, ?_⟩
        intro x hx y hy
        simp at hy
        have := h.free x (List.mem_of_mem_erase (List.mem_of_mem_erase hx))
        omega

theorem rdAll_ok (leaves : Int) : ∀ (bs : List Br) (s s' : RS), s.Ok leaves → rdAll leaves s bs = some s' → s'.Ok leaves ∧ s'.l.length = s.l.length + bs.length
  | [], s, s', h, hs => by simp [rdAll] at hs; subst hs; exact ⟨h, by simp⟩
  | b :: bs, s, s', h, hs => by
    simp only [rdAll] at hs
    obtain ⟨s1, h1, h2⟩ := Option.bind_eq_some_iff.1 hs
    obtain ⟨k1, l1⟩ := h.step h1
    obtain ⟨k2, l2⟩ := rdAll_ok leaves bs s1 s' k1 h2
    exact ⟨k2, by simp [l2, l1]; omega⟩

/-- Where a step fails the whole fails. -/
theorem rdAll_fails {leaves : Int} {bs : List Br} {k : Nat} {s : RS} {b : Br} (hk : bs[k]? = some b) (h1 : rdAll leaves ⟨[], [], []⟩ (bs.take k) = some s) (h2 : rdStep leaves s b = none) : rdAll leaves ⟨[], [], []⟩ bs = none := by
  have hlt := (List.getElem?_eq_some_iff.1 hk).1
  have e : bs = bs.take k ++ b :: bs.drop (k + 1) := by
    have h := (List.getElem?_eq_some_iff.1 hk).2
    rw [← h, List.getElem_cons_drop hlt, List.take_append_drop]
  rw [e, rdAll_append, h1]
  simp [rdAll, h2]

theorem rdAll_more {leaves : Int} {bs : List Br} {k : Nat} {s s' : RS} {b : Br} (hk : bs[k]? = some b) (h1 : rdAll leaves ⟨[], [], []⟩ (bs.take k) = some s) (h2 : rdStep leaves s b = some s') : rdAll leaves ⟨[], [], []⟩ (bs.take (k + 1)) = some s' := by
  have hlt := (List.getElem?_eq_some_iff.1 hk).1
  have h := (List.getElem?_eq_some_iff.1 hk).2
  rw [List.take_succ_eq_append_getElem hlt, h, rdAll_snoc, h1]
  exact h2

/-! ### How great the parts are -/
def sizes (l : List NT) (fr : List Int) : Nat := (fr.map fun k => (l.getD k.toNat (.leaf 0)).size).sum

theorem sizes_erase (l : List NT) (a : Int) : ∀ fr : List Int, a ∈ fr → sizes l (fr.erase a) + (l.getD a.toNat (.leaf 0)).size = sizes l fr
  | [], h => by simp at h
  | x :: fr, h => by
    by_cases hx : x = a
    · subst hx
      simp [sizes]
      omega
    · have ha : a ∈ fr := by
        rcases List.mem_cons.1 h with h | h
        · exact absurd h.symm hx
        · exact h
      rw [List.erase_cons_tail (by simpa using hx)]
      have ih := sizes_erase l a fr ha
      simp only [sizes, List.map_cons, List.sum_cons] at ih ⊢
      omega

theorem sizes_snoc (l : List NT) (T : NT) (fr : List Int) (h : ∀ k ∈ fr, 0 ≤ k ∧ k < l.length) : sizes (l ++ [T]) fr = sizes l fr := by
  unfold sizes
  congr 1
  refine List.map_congr_left (fun k hk => ?_)
  have := h k hk
  rw [List.getD_eq_getElem?_getD, List.getD_eq_getElem?_getD, List.getElem?_append_left (by omega)]

theorem sizes_add (l : List NT) (fr : List Int) (k : Int) : sizes l (fr ++ [k]) = sizes l fr + (l.getD k.toNat (.leaf 0)).size := by simp [sizes]

theorem size_mkFork (x y : NT) : (mkFork x y).size = x.size + y.size + 1 := by
  unfold mkFork
  split <;> simp only [NT.size]
  omega

/-- All branches that were read hang below those that are free; the last one is free. -/
structure RS.Sum (s : RS) : Prop where
  all : sizes s.l s.free = s.l.length
  last : 0 < s.l.length → ((s.l.length - 1 : Nat) : Int) ∈ s.free

theorem RS.Sum.start : RS.Sum ⟨[], [], []⟩ := ⟨rfl, by simp⟩

theorem RS.Sum.step {leaves : Int} {s s' : RS} {b : Br} (hk : s.Ok leaves) (h : s.Sum) (hs : rdStep leaves s b = some s') : s'.Sum := by
  unfold rdStep at hs
  split at hs
  · split at hs
    · cases hs
    · cases hs
      refine ⟨?_, ?_⟩
      · show sizes (s.l ++ [_]) (s.free ++ [_]) = _
        rw [sizes_add, sizes_snoc _ _ _ hk.free, h.all]
        simp [NT.size]
      · intro _
        simp
  · split at hs
    · cases hs
    · rename_i hc
      cases hs
      have ha : b.a ∈ s.free := by
        rcases Decidable.em (b.a ∈ s.free) with q | q
        · exact q
        · exact absurd (.inr (.inr (.inl q))) hc
      have hb : b.b ∈ s.free := by
        rcases Decidable.em (b.b ∈ s.free) with q | q
        · exact q
        · exact absurd (.inr (.inr (.inr q))) hc
      have hne : b.a ≠ b.b := fun q => hc (.inr (.inl q))
      have hb' : b.b ∈ s.free.erase b.a := (List.mem_erase_of_ne (Ne.symm hne)).2 hb
      refine ⟨?_, ?_⟩
      · show sizes (s.l ++ [_]) ((s.free.erase b.a).erase b.b ++ [_]) = _
        rw [sizes_add, sizes_snoc _ _ _ (fun k hk' => hk.free k (List.mem_of_mem_erase (List.mem_of_mem_erase hk')))]
        have e1 := sizes_erase s.l b.a s.free ha
        have e2 := sizes_erase s.l b.b (s.free.erase b.a) hb'
        have e3 := h.all
        have e4 := size_mkFork (s.l.getD b.a.toNat (.leaf 0)) (s.l.getD b.b.toNat (.leaf 0))
        simp only [Int.toNat_natCast, List.length_append, List.length_singleton]
        rw [List.getD_eq_getElem?_getD, List.getElem?_append_right (Nat.le_refl _), Nat.sub_self]
        simp only [List.getElem?_cons_zero, Option.getD_some]
        omega
      · intro _
        simp

theorem rdAll_sum (leaves : Int) : ∀ (bs : List Br) (s s' : RS), s.Ok leaves → s.Sum → rdAll leaves s bs = some s' → s'.Sum
  | [], s, s', _, h, hs => by simp [rdAll] at hs; subst hs; exact h
  | b :: bs, s, s', hk, h, hs => by
    simp only [rdAll] at hs
    obtain ⟨s1, h1, h2⟩ := Option.bind_eq_some_iff.1 hs
    exact rdAll_sum leaves bs s1 s' (hk.step h1).1 (h.step hk h1) h2

theorem rdTree_some {leaves : Int} {bs : List Br} {l : List NT} (h : rdTree leaves bs = some l) :
    1 ≤ leaves ∧ leaves ≤ 12 ∧ (bs.length : Int) = 2 * leaves - 1 ∧ l.length = bs.length ∧ ∃ s, rdAll leaves ⟨[], [], []⟩ bs = some s ∧ s.l = l ∧ s.free = [((bs.length - 1 : Nat) : Int)] := by
  unfold rdTree at h
  split at h
  · cases h
  · rename_i hc
    obtain ⟨s, h1, h2⟩ := Option.bind_eq_some_iff.1 h
    split at h2
    · rename_i ho
      cases h2
      have hlen := (rdAll_ok leaves bs _ s (RS.Ok.start leaves) h1).2
      simp at hlen
      have hsum := rdAll_sum leaves bs _ s (RS.Ok.start leaves) RS.Sum.start h1
      refine ⟨by omega, by omega, by omega, hlen, s, h1, rfl, ?_⟩
      have hm := hsum.last (by omega)
      rw [hlen] at hm
      obtain ⟨x, hx⟩ := List.length_eq_one_iff.1 ho
      rw [hx] at hm ⊢
      simp at hm
      rw [hm]
    · cases h2

/-- The whole tree of the branches. -/
def rdRoot (leaves : Int) (bs : List Br) : Option NT := (rdTree leaves bs).map fun l => l.getD (l.length - 1) (.leaf 0)

theorem rdRoot_size {leaves : Int} {bs : List Br} {T : NT} (h : rdRoot leaves bs = some T) : T.size = bs.length ∧ 1 ≤ leaves ∧ leaves ≤ 12 ∧ (bs.length : Int) = 2 * leaves - 1 := by
  obtain ⟨l, h1, rfl⟩ := Option.map_eq_some_iff.1 h
  obtain ⟨a, b, c, hl, s, hs, rfl, hf⟩ := rdTree_some h1
  have hsum := rdAll_sum leaves bs _ s (RS.Ok.start leaves) RS.Sum.start hs
  have e := hsum.all
  rw [hf, hl] at e
  simp [sizes] at e
  rw [hl]
  exact ⟨by simpa using e, a, b, c⟩
end Go.Proofs.Ytbmlkomfelkckaa
