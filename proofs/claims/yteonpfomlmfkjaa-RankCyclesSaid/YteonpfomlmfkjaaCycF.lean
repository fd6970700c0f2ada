/- The document's circles: how far it is back to s, and the greedy way. In plain Lean. -/
import Derived.Test.YteonpfomlmfkjaaCycR
namespace Go.Proofs.Yteonpfomlmfkjaa

/-- k arcs lead from a node to s, through greater nodes. -/
inductive To (arcs : List (Int × Int)) (s : Int) : Nat → Int → Prop
  | zero : To arcs s 0 s
  | step {k : Nat} {a b : Int} : (a, b) ∈ arcs → s < a → To arcs s k b → To arcs s (k + 1) a

theorem To.cases {arcs : List (Int × Int)} {s : Int} {k : Nat} {a : Int} (h : To arcs s k a) : (k = 0 ∧ a = s) ∨ (s < a ∧ ∃ j b, k = j + 1 ∧ (a, b) ∈ arcs ∧ To arcs s j b) := by
  cases h with
  | zero => exact .inl ⟨rfl, rfl⟩
  | @step j _ b h1 h2 h3 => exact .inr ⟨h2, j, b, rfl, h1, h3⟩

theorem To.ge {arcs : List (Int × Int)} {s : Int} {k : Nat} {a : Int} (h : To arcs s k a) : s ≤ a := by
  rcases h.cases with ⟨_, rfl⟩ | ⟨h, _⟩ <;> omega

theorem Way.gt {arcs : List (Int × Int)} {s : Int} {Q : List Int} (h : Way arcs s Q) : ∀ (i : Nat) x, 1 ≤ i → Q[i]? = some x → s < x := by
  induction h with
  | start => intro i x hi hx; rw [List.getElem?_eq_none (by simp; omega)] at hx; cases hx
  | @step Q y hQ _ hy ih =>
    intro i x hi hx
    by_cases hl : i < Q.length
    · rw [List.getElem?_append_left hl] at hx
      exact ih i x hi hx
    · rw [List.getElem?_append_right (by omega)] at hx
      have := (List.getElem?_eq_some_iff.1 hx).1
      simp at this
      rw [show i - Q.length = 0 by omega] at hx
      obtain rfl : y = x := by simpa using hx
      exact hy

theorem circ_to {arcs : List (Int × Int)} {s : Int} {R : List Int} (h : Circ arcs s R) : ∀ (d i : Nat) r, i + d + 1 = R.length → 1 ≤ i → R[i]? = some r → To arcs s (d + 1) r
  | 0, i, r, hd, hi, hr => by
    have h1 := lastOf_get h.1.pos
    rw [show R.length - 1 = i by omega, hr] at h1
    refine .step ?_ (h.1.gt i r hi hr) .zero
    rw [Option.some.inj h1]
    exact h.2
  | d + 1, i, r, hd, hi, hr => by
    obtain ⟨q, hq⟩ : ∃ q, R[i + 1]? = some q := ⟨_, List.getElem?_eq_getElem (by omega)⟩
    exact .step (h.1.arcs i r q hr hq) (h.1.gt i r hi hr) (circ_to h d (i + 1) q (by omega) (by omega) hq)

theorem to_circ {arcs : List (Int × Int)} {s : Int} : ∀ (j : Nat) (Q : List Int), Way arcs s Q → To arcs s (j + 1) (lastOf Q) → ∃ C, Circ arcs s C ∧ C.length = Q.length + j
  | 0, Q, hQ, hT => by
    rcases hT.cases with ⟨h, _⟩ | ⟨_, k, b, hk, hb, hT'⟩
    · omega
    · obtain rfl : k = 0 := by omega
      rcases hT'.cases with ⟨_, rfl⟩ | ⟨_, _, _, h, _⟩
      · exact ⟨Q, ⟨hQ, hb⟩, rfl⟩
      · omega
  | j + 1, Q, hQ, hT => by
    rcases hT.cases with ⟨h, _⟩ | ⟨_, k, b, hk, hb, hT'⟩
    · omega
    · obtain rfl : k = j + 1 := by omega
      rcases hT'.cases with ⟨h, _⟩ | ⟨hsb, _⟩
      · omega
      · obtain ⟨C, h1, h2⟩ := to_circ j (Q ++ [b]) (.step hQ hb hsb) (by rw [lastOf_snoc]; exact hT')
        exact ⟨C, h1, by rw [h2, List.length_append]; simp; omega⟩

theorem Way.prefix' {arcs : List (Int × Int)} {s : Int} {Q : List Int} (h : Way arcs s Q) : ∀ i, 1 ≤ i → i ≤ Q.length → Way arcs s (Q.take i) := by
  induction h with
  | start =>
    intro i h1 h2
    obtain rfl : i = 1 := by simp at h2; omega
    exact .start
  | @step Q x hQ hx hs ih =>
    intro i h1 h2
    by_cases hi : i ≤ Q.length
    · rw [List.take_append_of_le_length hi]
      exact ih i h1 hi
    · rw [List.take_of_length_le (by rw [List.length_append] at h2 ⊢; simp at h2 ⊢; omega)]
      exact .step hQ hx hs

/-- How far each node lies from s. -/
def Far (arcs : List (Int × Int)) (s : Int) (m : Nat) (h : Int → Int) : Prop := ∀ x : Int, 0 ≤ x → x < (m : Int) → (h x = -1 ∧ ∀ j, ¬ To arcs s j x) ∨ ∃ j : Nat, h x = (j : Int) ∧ To arcs s j x ∧ ∀ i, i < j → ¬ To arcs s i x

theorem Far.le {arcs : List (Int × Int)} {s : Int} {m : Nat} {h : Int → Int} (hF : Far arcs s m h) {x : Int} (h0 : 0 ≤ x) (h1 : x < (m : Int)) {j : Nat} (hT : To arcs s j x) : ∃ k : Nat, h x = (k : Int) ∧ k ≤ j ∧ To arcs s k x := by
  rcases hF x h0 h1 with ⟨_, h⟩ | ⟨k, hk, h2, h3⟩
  · exact absurd hT (h j)
  · exact ⟨k, hk, Nat.le_of_not_lt fun hlt => h3 j hlt hT, h2⟩

/-- The least distance of those that s leads to. -/
def Nearest (arcs : List (Int × Int)) (s : Int) (h : Int → Int) (t : Int) : Prop := (t = -1 ∧ ∀ b, (s, b) ∈ arcs → h b = -1) ∨ ∃ T : Nat, t = (T : Int) ∧ (∃ b, (s, b) ∈ arcs ∧ h b = (T : Int)) ∧ ∀ b, (s, b) ∈ arcs → h b = -1 ∨ (T : Int) ≤ h b

theorem circ_first {arcs : List (Int × Int)} {s : Int} {R : List Int} (h : Circ arcs s R) : ∃ b, (s, b) ∈ arcs ∧ To arcs s (R.length - 1) b := by
  have hp := h.1.pos
  have h0 := h.1.head
  by_cases h1 : R.length = 1
  · have h2 := lastOf_get hp
    rw [show R.length - 1 = 0 by omega, h0] at h2
    refine ⟨s, ?_, by rw [h1]; exact .zero⟩
    have := h.2
    rw [← Option.some.inj h2] at this
    exact this
  · obtain ⟨r, hr⟩ : ∃ r, R[1]? = some r := ⟨_, List.getElem?_eq_getElem (by omega)⟩
    refine ⟨r, h.1.arcs 0 s r h0 hr, ?_⟩
    have := circ_to h (R.length - 2) 1 r (by omega) (by omega) hr
    rwa [show R.length - 2 + 1 = R.length - 1 by omega] at this

theorem nearest_none {arcs : List (Int × Int)} {s : Int} {m : Nat} {h : Int → Int} (hok : Ranged m arcs) (hF : Far arcs s m h) (hN : Nearest arcs s h (-1)) (Q : List Int) : ¬ Circ arcs s Q := by
  intro hQ
  obtain ⟨b, h1, h2⟩ := circ_first hQ
  obtain ⟨_, _, b0, b1⟩ := hok _ h1
  obtain ⟨k, hk, _⟩ := hF.le (x := b) b0 b1 h2
  rcases hN with ⟨_, h3⟩ | ⟨T, hT, _⟩
  · have := h3 b h1; omega
  · omega

theorem nearest_le {arcs : List (Int × Int)} {s : Int} {m T : Nat} {h : Int → Int} (hok : Ranged m arcs) (hF : Far arcs s m h) (hN : Nearest arcs s h (T : Int)) {Q : List Int} (hQ : Circ arcs s Q) : T + 1 ≤ Q.length := by
  obtain ⟨b, h1, h2⟩ := circ_first hQ
  obtain ⟨_, _, b0, b1⟩ := hok _ h1
  obtain ⟨k, hk, hkl, _⟩ := hF.le (x := b) b0 b1 h2
  have := hQ.1.pos
  rcases hN with ⟨h3, _⟩ | ⟨T', hT, _, h3⟩
  · omega
  · rcases h3 b h1 with h4 | h4 <;> omega

/-- The greedy way, with k arcs to go behind the next one. -/
structure Greedy (arcs : List (Int × Int)) (s : Int) (h : Int → Int) (T k : Nat) (Q : List Int) : Prop where
  way : Way arcs s Q
  len : Q.length + k = T + 1
  on : ∃ b, (lastOf Q, b) ∈ arcs ∧ h b = (k : Int)
  least : ∀ R, Circ arcs s R → R.length = T + 1 → lxLe Q (R.take Q.length)

theorem Greedy.start {arcs : List (Int × Int)} {s : Int} {T : Nat} {h : Int → Int} (hN : Nearest arcs s h (T : Int)) : Greedy arcs s h T T [s] := by
  refine ⟨.start, by simp; omega, ?_, fun R hR hl => ?_⟩
  · rcases hN with ⟨h1, _⟩ | ⟨T', h1, ⟨b, h2, h3⟩, _⟩
    · omega
    · exact ⟨b, h2, by omega⟩
  · left
    have h0 := hR.1.head
    obtain ⟨hl0, he⟩ := List.getElem?_eq_some_iff.1 h0
    cases R with
    | nil => simp at hl0
    | cons r R =>
      simp at he
      subst he
      rfl

/-- The next node: the least that lies as far. -/
def NextIs (arcs : List (Int × Int)) (s : Int) (h : Int → Int) (k : Nat) (u : Int) (x : Int) : Prop := (u, x) ∈ arcs ∧ s < x ∧ h x = (k : Int) ∧ ∀ b, (u, b) ∈ arcs → s < b → h b = (k : Int) → x ≤ b

theorem Greedy.has {arcs : List (Int × Int)} {s : Int} {m T k : Nat} {h : Int → Int} {Q : List Int} (hok : Ranged m arcs) (hF : Far arcs s m h) (hG : Greedy arcs s h T (k + 1) Q) : ∃ b, (lastOf Q, b) ∈ arcs ∧ s < b ∧ h b = ((k + 1 : Nat) : Int) := by
  obtain ⟨b, h1, h2⟩ := hG.on
  obtain ⟨_, _, b0, b1⟩ := hok _ h1
  refine ⟨b, h1, ?_, h2⟩
  rcases hF b b0 b1 with ⟨h3, _⟩ | ⟨j, hj, h4, _⟩
  · omega
  · rcases h4.cases with ⟨h5, _⟩ | ⟨h5, _⟩
    · omega
    · exact h5

theorem Greedy.next {arcs : List (Int × Int)} {s : Int} {m T k : Nat} {h : Int → Int} {Q : List Int} {x : Int} (hok : Ranged m arcs) (hF : Far arcs s m h) (hN : Nearest arcs s h (T : Int)) (hG : Greedy arcs s h T (k + 1) Q) (hx : NextIs arcs s h (k + 1) (lastOf Q) x) : Greedy arcs s h T k (Q ++ [x]) := by
  obtain ⟨x1, x2, x3, x4⟩ := hx
  obtain ⟨_, _, b0, b1⟩ := hok _ x1
  have hlen := hG.len
  refine ⟨.step hG.way x1 x2, by rw [List.length_append]; simp; omega, ?_, fun R hR hl => ?_⟩
  · rw [lastOf_snoc]
    rcases hF x b0 b1 with ⟨h3, _⟩ | ⟨j, hj, h4, h5⟩
    · omega
    · obtain rfl : j = k + 1 := by omega
      rcases h4.cases with ⟨h6, _⟩ | ⟨_, j', b, hj', hb, hT⟩
      · omega
      · obtain rfl : j' = k := by omega
        refine ⟨b, hb, ?_⟩
        obtain ⟨_, _, c0, c1⟩ := hok _ hb
        obtain ⟨q, hq, hqk, hTq⟩ := hF.le (x := b) c0 c1 hT
        have : ¬ q < j' := fun hlt => h5 (q + 1) (by omega) (.step hb x2 hTq)
        omega
  · have hq := hG.way.pos
    obtain ⟨r, hr⟩ : ∃ r, R[Q.length]? = some r := ⟨_, List.getElem?_eq_getElem (by omega)⟩
    have htk : R.take (Q.length + 1) = R.take Q.length ++ [r] := by
      obtain ⟨h1, h2⟩ := List.getElem?_eq_some_iff.1 hr
      rw [List.take_succ_eq_append_getElem h1, h2]
    rw [List.length_append, List.length_singleton, htk]
    rcases hG.least R hR hl with he | hlt
    · -- the same so far
      have hrs := hR.1.gt Q.length r hq hr
      have hT := circ_to hR k Q.length r (by omega) hq hr
      have hlast : (lastOf Q, r) ∈ arcs := by
        have h1 := lastOf_get hq
        rw [he, List.length_take] at h1
        rw [Nat.min_eq_left (by omega), List.getElem?_take, if_pos (by omega)] at h1
        have h2 := hR.1.arcs (Q.length - 1) _ r h1 (by rw [show Q.length - 1 + 1 = Q.length by omega]; exact hr)
        rw [← he] at h2
        exact h2
      obtain ⟨_, _, c0, c1⟩ := hok _ hlast
      obtain ⟨q, hq', hqk, hTq⟩ := hF.le (x := r) c0 c1 hT
      have hqe : q = k + 1 := by
        apply Classical.byContradiction
        intro hne
        rcases hTq.cases with ⟨_, h6⟩ | ⟨_, j', _, hj', _⟩
        · omega
        · subst hj'
          obtain ⟨C, hC, hCl⟩ := to_circ j' (Q ++ [r]) (.step hG.way hlast hrs) (by rw [lastOf_snoc]; exact hTq)
          have := nearest_le hok hF hN hC
          rw [hCl, List.length_append, List.length_singleton] at this
          omega
      subst hqe
      have hle := x4 r hlast hrs hq'
      rw [← he]
      by_cases e : x = r
      · exact .inl (by rw [e])
      · exact .inr (lxLt_snoc (by omega) Q)
    · exact .inr (lxLt_append hlt)

theorem Greedy.done {arcs : List (Int × Int)} {s : Int} {m T : Nat} {h : Int → Int} {Q : List Int} (hok : Ranged m arcs) (hF : Far arcs s m h) (hN : Nearest arcs s h (T : Int)) (hG : Greedy arcs s h T 0 Q) : Best arcs s Q ∧ Q.length = T + 1 := by
  have hlen := hG.len
  obtain ⟨b, h1, h2⟩ := hG.on
  obtain ⟨_, _, b0, b1⟩ := hok _ h1
  have hbs : b = s := by
    rcases hF b b0 b1 with ⟨h3, _⟩ | ⟨j, hj, h4, _⟩
    · omega
    · rcases h4.cases with ⟨_, h5⟩ | ⟨_, j', _, h5, _⟩
      · exact h5
      · omega
  subst hbs
  refine ⟨⟨⟨hG.way, h1⟩, fun R hR => ?_⟩, by omega⟩
  have hle := nearest_le hok hF hN hR
  by_cases e : R.length = T + 1
  · refine .inr ⟨by omega, ?_⟩
    have := hG.least R hR e
    rwa [List.take_of_length_le (by omega)] at this
  · exact .inl (by omega)

theorem Best.unique {arcs : List (Int × Int)} {s : Int} {P Q : List Int} (hP : Best arcs s P) (hQ : Best arcs s Q) : P = Q := by
  rcases hP.least Q hQ.circ with h1 | ⟨h1, h2⟩
  · rcases hQ.least P hP.circ with h3 | ⟨h3, _⟩ <;> omega
  · rcases hQ.least P hP.circ with h3 | ⟨_, h4⟩
    · omega
    · exact lxLe_antisymm h2 h4

/-- What a round of the document's circles takes: as the search does. -/
theorem cycUp_take {n : Nat} {arcs : List (Int × Int)} (hok : Ranged n arcs) {k : Nat} (hk : k < n) {Q : List Int} (hQ : Best arcs (k : Int) Q) : cycUp n arcs (k + 1) = match cycUp n arcs k with | none => some Q | some l => if l.length ≤ Q.length then some l else some Q := by
  rw [cycUp_succ]
  cases hc : cycUp n arcs k with
  | none =>
    simp only
    rcases roundOf_spec hok (s := (k : Int)) ⟨by omega, by omega⟩ n with ⟨P, k1, k2, _⟩ | ⟨_, k2⟩
    · rw [k1, k2.unique hQ]; rfl
    · have := k2 Q hQ.circ; omega
  | some l =>
    simp only
    have hl := cycUp_pos hok (Nat.le_of_lt hk) hc
    rcases roundOf_spec hok (s := (k : Int)) ⟨by omega, by omega⟩ (l.length - 1) with ⟨P, k1, k2, k3⟩ | ⟨k1, k2⟩
    · have := k2.unique hQ
      subst this
      rw [k1, if_neg (by omega)]; rfl
    · have := k2 Q hQ.circ
      rw [k1, if_pos (by omega)]; rfl

theorem cycUp_skip {n : Nat} {arcs : List (Int × Int)} (hok : Ranged n arcs) {k : Nat} (hk : k < n) (hno : ∀ Q, ¬ Circ arcs (k : Int) Q) : cycUp n arcs (k + 1) = cycUp n arcs k := by
  rw [cycUp_succ]
  cases hc : cycUp n arcs k with
  | none =>
    simp only
    rcases roundOf_spec hok (s := (k : Int)) ⟨by omega, by omega⟩ n with ⟨P, _, k2, _⟩ | ⟨k1, _⟩
    · exact absurd k2.circ (hno P)
    · rw [k1]; rfl
  | some l =>
    simp only
    rcases roundOf_spec hok (s := (k : Int)) ⟨by omega, by omega⟩ (l.length - 1) with ⟨P, _, k2, _⟩ | ⟨k1, _⟩
    · exact absurd k2.circ (hno P)
    · rw [k1]; rfl
end Go.Proofs.Yteonpfomlmfkjaa
