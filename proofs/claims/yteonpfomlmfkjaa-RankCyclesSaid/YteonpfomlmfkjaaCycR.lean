/- The least of all circles; an order or a circle. In plain Lean. -/
import Derived.Test.YteonpfomlmfkjaaCycQ
import Derived.Test.YteonpfomlmfkjaaRankQ
namespace Go.Proofs.Yteonpfomlmfkjaa

def Ranged (n : Nat) (arcs : List (Int × Int)) : Prop := ∀ a ∈ arcs, 0 ≤ a.1 ∧ a.1 < (n : Int) ∧ 0 ≤ a.2 ∧ a.2 < (n : Int)

/-- The best circle of the first k nodes: none, or the shortest, the least node's, the least. -/
theorem cycUp_spec {n : Nat} {arcs : List (Int × Int)} (hok : Ranged n arcs) : ∀ k, k ≤ n →
    (cycUp n arcs k = none ∧ ∀ s : Nat, s < k → ∀ Q, ¬ Circ arcs (s : Int) Q) ∨ ∃ (s : Nat) (P : List Int), s < k ∧ cycUp n arcs k = some P ∧ Best arcs (s : Int) P ∧ ∀ (t : Nat) Q, t < k → Circ arcs (t : Int) Q → P.length ≤ Q.length ∧ (P.length = Q.length → s ≤ t)
  | 0, _ => .inl ⟨rfl, fun s hs => by omega⟩
  | k + 1, hk => by
    rw [cycUp_succ]
    rcases cycUp_spec hok k (by omega) with ⟨h1, h2⟩ | ⟨s, P, h1, h2, h3, h4⟩
    · rw [h1]
      simp only
      rcases roundOf_spec hok (s := (k : Int)) ⟨by omega, by omega⟩ n with ⟨P, k1, k2, k3⟩ | ⟨k1, k2⟩
      · rw [k1]
        refine .inr ⟨k, P, by omega, rfl, k2, fun t Q ht hQ => ?_⟩
        by_cases e : t = k
        · subst e
          rcases k2.least Q hQ with h | ⟨h, _⟩
          · exact ⟨by omega, fun _ => Nat.le_refl _⟩
          · exact ⟨by omega, fun _ => Nat.le_refl _⟩
        · exact absurd hQ (h2 t (by omega) Q)
      · rw [k1]
        refine .inl ⟨rfl, fun s hs Q hQ => ?_⟩
        by_cases e : s = k
        · subst e
          have := k2 Q hQ
          omega
        · exact h2 s (by omega) Q hQ
    · rw [h2]
      simp only
      have hp := h3.circ.1.pos
      rcases roundOf_spec hok (s := (k : Int)) ⟨by omega, by omega⟩ (P.length - 1) with ⟨R, k1, k2, k3⟩ | ⟨k1, k2⟩
      · rw [k1]
        refine .inr ⟨k, R, by omega, rfl, k2, fun t Q ht hQ => ?_⟩
        by_cases e : t = k
        · subst e
          rcases k2.least Q hQ with h | ⟨h, _⟩
          · exact ⟨by omega, fun _ => Nat.le_refl _⟩
          · exact ⟨by omega, fun _ => Nat.le_refl _⟩
        · have := h4 t Q (by omega) hQ
          exact ⟨by omega, fun h => by omega⟩
      · rw [k1]
        refine .inr ⟨s, P, by omega, rfl, h3, fun t Q ht hQ => ?_⟩
        by_cases e : t = k
        · subst e
          have := k2 Q hQ
          exact ⟨by omega, fun _ => by omega⟩
        · exact h4 t Q (by omega) hQ

theorem cycUp_pos {n : Nat} {arcs : List (Int × Int)} (hok : Ranged n arcs) {k : Nat} (hk : k ≤ n) {l : List Int} (h : cycUp n arcs k = some l) : 0 < l.length := by
  rcases cycUp_spec hok k hk with ⟨h1, _⟩ | ⟨s, P, _, h2, h3, _⟩
  · rw [h1] at h; cases h
  · rw [h2] at h
    obtain rfl := Option.some.inj h
    exact h3.circ.1.pos

/-- An arc leads to a higher rank. -/
theorem rank_lt {n : Nat} {arcs : List (Int × Int)} {L : List Int} (h : Order n arcs L) (hok : Ranged n arcs) {u v : Int} (ha : (u, v) ∈ arcs) : rank n arcs u < rank n arcs v := by
  obtain ⟨_, _, h3, h4⟩ := hok _ ha
  rw [rank_eq h ((h.mem v).2 ⟨h3, h4⟩)]
  have : rank n arcs u + 1 ≤ sup0 ((arcs.filter fun a => a.2 == v).map fun a => rank n arcs a.1 + 1) := le_sup0 (List.mem_map.2 ⟨(u, v), List.mem_filter.2 ⟨ha, by simp⟩, rfl⟩)
  omega

/-- Where there is an order there is no circle. -/
theorem order_no_circ {n : Nat} {arcs : List (Int × Int)} {L : List Int} (h : Order n arcs L) (hok : Ranged n arcs) (s : Int) (Q : List Int) : ¬ Circ arcs s Q := by
  rintro ⟨hQ, hm⟩
  have key : rank n arcs s ≤ rank n arcs (lastOf Q) := by
    clear hm
    induction hQ with
    | start => exact Int.le_refl _
    | @step Q x _ hx _ ih =>
      rw [lastOf_snoc]
      have := rank_lt h hok hx
      omega
  have := rank_lt h hok hm
  omega

/-- A way of one arc or more whose inner nodes are not less than t. -/
inductive Thru (arcs : List (Int × Int)) (t : Int) (u : Int) : Int → Prop
  | one {v : Int} : (u, v) ∈ arcs → Thru arcs t u v
  | step {x v : Int} : Thru arcs t u x → t ≤ x → (x, v) ∈ arcs → Thru arcs t u v

theorem Thru.mono {arcs : List (Int × Int)} {t t' u v : Int} (h : Thru arcs t' u v) (k : t ≤ t') : Thru arcs t u v := by
  induction h with
  | one h => exact .one h
  | step _ hx h ih => exact .step ih (by omega) h

theorem Thru.comp {arcs : List (Int × Int)} {t u x v : Int} (h : Thru arcs t u x) (hx : t ≤ x) (k : Thru arcs t x v) : Thru arcs t u v := by
  induction k with
  | one k => exact .step h hx k
  | step _ hy k ih => exact .step ih hy k

theorem Thru.split {arcs : List (Int × Int)} {t u v : Int} (h : Thru arcs t u v) : Thru arcs (t + 1) u v ∨ (Thru arcs t u t ∧ Thru arcs (t + 1) t v) := by
  induction h with
  | one h => exact .inl (.one h)
  | @step x v h hx k ih =>
    by_cases e : x = t
    · subst e
      exact .inr ⟨h, .one k⟩
    · rcases ih with ih | ⟨i1, i2⟩
      · exact .inl (.step ih (by omega) k)
      · exact .inr ⟨i1, .step i2 (by omega) k⟩

theorem Thru.circ {arcs : List (Int × Int)} {t : Int} (h : Thru arcs (t + 1) t t) : ∃ Q, Circ arcs t Q := by
  have key : ∀ {v : Int}, Thru arcs (t + 1) t v → t < v → ∃ Q, Way arcs t Q ∧ lastOf Q = v := by
    intro v hv
    induction hv with
    | @one v hv => intro ht; exact ⟨[t] ++ [v], .step .start hv ht, lastOf_snoc _ _⟩
    | @step x v _ hx hv ih =>
      intro ht
      obtain ⟨Q, h1, h2⟩ := ih (by omega)
      exact ⟨Q ++ [v], .step h1 (by rw [h2]; exact hv) ht, lastOf_snoc _ _⟩
  cases h with
  | one h => exact ⟨[t], .start, h⟩
  | @step x _ h hx k =>
    obtain ⟨Q, h1, h2⟩ := key h (by omega)
    exact ⟨Q, h1, by rw [h2]; exact k⟩

theorem no_thru {n : Nat} {arcs : List (Int × Int)} (hok : Ranged n arcs) (h : ∀ (s : Nat), s < n → ∀ Q, ¬ Circ arcs (s : Int) Q) : ∀ (d t : Nat), t + d = n → ∀ v : Int, (t : Int) ≤ v → ¬ Thru arcs (t : Int) v v
  | 0, t, ht, v, hv, hT => by
    have : v < (n : Int) := by
      have key : ∀ {y : Int}, Thru arcs (t : Int) v y → v < (n : Int) := by
        intro y hy
        induction hy with
        | one hy => exact (hok _ hy).2.1
        | step _ _ _ ih => exact ih
      exact key hT
    omega
  | d + 1, t, ht, v, hv, hT => by
    have hc : ¬ Thru arcs (t : Int) (t : Int) (t : Int) := by
      intro hh
      have h1 : Thru arcs ((t : Int) + 1) (t : Int) (t : Int) := by
        rcases hh.split with h1 | ⟨_, h1⟩
        · exact h1
        · exact h1
      obtain ⟨Q, hQ⟩ := h1.circ
      exact h t (by omega) Q hQ
    by_cases e : v = (t : Int)
    · subst e; exact hc hT
    · rcases hT.split with h1 | ⟨h1, h2⟩
      · have := no_thru hok h d (t + 1) (by omega) v (by omega)
        apply this
        have e2 : ((t + 1 : Nat) : Int) = (t : Int) + 1 := by omega
        rw [e2]; exact h1
      · exact hc ((h2.mono (by omega)).comp hv h1)

/-- Where no order is, a circle is. -/
theorem not_full_circ {n : Nat} {arcs : List (Int × Int)} (hok : Ranged n arcs) (hf : (kahn n arcs n).length ≠ n) : ∃ (s : Nat) (Q : List Int), s < n ∧ Circ arcs (s : Int) Q := by
  apply Classical.byContradiction
  intro hno
  have hno' : ∀ (s : Nat), s < n → ∀ Q, ¬ Circ arcs (s : Int) Q := fun s hs Q hQ => hno ⟨s, Q, hs, hQ⟩
  have hT := no_thru hok hno' n 0 (by omega)
  -- where the order stands still
  have hstill : nextFree n arcs (kahn n arcs n) = none := by
    cases hq : nextFree n arcs (kahn n arcs n) with
    | none => rfl
    | some v =>
      exfalso
      have hall : ∀ k, k ≤ n → (kahn n arcs k).length = k := by
        intro k
        induction k with
        | zero => intro _; rfl
        | succ k ih =>
          intro hk
          cases hn : nextFree n arcs (kahn n arcs k) with
          | some u => rw [kahn_step hn, List.length_append, ih (by omega)]; rfl
          | none =>
            rw [kahn_stop hn n (by omega), hn] at hq
            cases hq
      exact hf (hall n (Nat.le_refl _))
  have hpred : ∀ v : Int, (0 ≤ v ∧ v < (n : Int)) ∧ v ∉ kahn n arcs n → ∃ u, ((0 ≤ u ∧ u < (n : Int)) ∧ u ∉ kahn n arcs n) ∧ (u, v) ∈ arcs := by
    rintro v ⟨hv, hvn⟩
    have h1 := List.find?_eq_none.1 hstill v (mem_nodes.2 hv)
    have h2 : waitN arcs (kahn n arcs n) v ≠ 0 := fun h => h1 (by simp [freeB, hvn, h])
    apply Classical.byContradiction
    intro hh
    apply h2
    refine waitN_zero.2 fun a ha e => ?_
    apply Classical.byContradiction
    intro hn
    obtain ⟨a1, a2, _, _⟩ := hok a ha
    exact hh ⟨a.1, ⟨⟨a1, a2⟩, hn⟩, by rw [← e]; exact ha⟩
  have hex : ∃ v : Int, (0 ≤ v ∧ v < (n : Int)) ∧ v ∉ kahn n arcs n := by
    apply Classical.byContradiction
    intro hh
    apply hf
    have h1 := nodup_le (nodes n) (kahn n arcs n) (nodes_nodup n) fun v hv => Classical.byContradiction fun hn => hh ⟨v, mem_nodes.1 hv, hn⟩
    have h2 := kahn_most n arcs n
    rw [nodes_length] at h1
    omega
  have hchain : ∀ f : Nat, ∃ h : Int, ∃ l : List Int, l.length = f ∧ (∀ u ∈ h :: l, (0 ≤ u ∧ u < (n : Int)) ∧ u ∉ kahn n arcs n) ∧ (h :: l).Pairwise (Thru arcs 0) := by
    intro f
    induction f with
    | zero =>
      obtain ⟨v, hv⟩ := hex
      exact ⟨v, [], rfl, fun u hu => by rw [List.mem_singleton.1 hu]; exact hv, List.pairwise_singleton _ _⟩
    | succ f ih =>
      obtain ⟨h, l, h1, h2, h3⟩ := ih
      obtain ⟨u, hu, ha⟩ := hpred h (h2 h (by simp))
      refine ⟨u, h :: l, by simp [h1], fun w hw => ?_, ?_⟩
      · rcases List.mem_cons.1 hw with rfl | hw
        · exact hu
        · exact h2 w hw
      · rw [List.pairwise_cons]
        refine ⟨fun w hw => ?_, h3⟩
        rcases List.mem_cons.1 hw with rfl | hw
        · exact .one ha
        · exact (Thru.one ha).comp (h2 h (by simp)).1.1 ((List.pairwise_cons.1 h3).1 w hw)
  obtain ⟨h, l, h1, h2, h3⟩ := hchain n
  have hnd : (h :: l).Pairwise (fun a b => 0 ≤ a → a ≠ b) := h3.imp fun {a b} hab h0 e => by subst e; exact hT a (by simpa using h0) hab
  have hnod : (h :: l).Nodup := by
    rw [List.Nodup]
    refine List.pairwise_iff_getElem.2 fun i j hi hj hij => ?_
    exact List.pairwise_iff_getElem.1 hnd i j hi hj hij (h2 _ (List.getElem_mem _)).1.1
  have := nodup_le (h :: l) (nodes n) hnod fun u hu => mem_nodes.2 (h2 u hu).1
  rw [nodes_length, List.length_cons] at this
  omega

/-- Either an order or a circle. -/
theorem order_or_circle {n : Nat} {arcs : List (Int × Int)} (hok : Ranged n arcs) : (kahn n arcs n).length = n ↔ cycUp n arcs n = none := by
  constructor
  · intro h
    rcases cycUp_spec hok n (Nat.le_refl _) with ⟨h1, _⟩ | ⟨s, P, _, _, h3, _⟩
    · exact h1
    · exact absurd h3.circ (order_no_circ (full_order h) hok _ _)
  · intro h
    apply Classical.byContradiction
    intro hf
    obtain ⟨s, Q, hs, hQ⟩ := not_full_circ hok hf
    rcases cycUp_spec hok n (Nat.le_refl _) with ⟨_, h2⟩ | ⟨_, P, _, h2, _⟩
    · exact h2 s hs Q hQ
    · rw [h2] at h; cases h

theorem Way.head {arcs : List (Int × Int)} {s : Int} {Q : List Int} (h : Way arcs s Q) : Q[0]? = some s := by
  induction h with
  | start => rfl
  | @step Q x hQ _ _ ih => rw [List.getElem?_append_left hQ.pos]; exact ih

theorem Way.ge {arcs : List (Int × Int)} {s : Int} {Q : List Int} (h : Way arcs s Q) : ∀ x ∈ Q, s ≤ x := by
  induction h with
  | start => intro x hx; rw [List.mem_singleton.1 hx]; exact Int.le_refl _
  | @step Q y _ _ hy ih =>
    intro x hx
    rcases List.mem_append.1 hx with hx | hx
    · exact ih x hx
    · rw [List.mem_singleton.1 hx]; omega

theorem lastOf_get {Q : List Int} (h : 0 < Q.length) : Q[Q.length - 1]? = some (lastOf Q) := by
  rw [← List.getLast?_eq_getElem?]
  unfold lastOf
  rw [List.getLastD_eq_getLast?]
  cases hq : Q.getLast? with
  | none => rw [List.getLast?_eq_none_iff] at hq; subst hq; simp at h
  | some x => rfl

theorem Way.arcs {arcs : List (Int × Int)} {s : Int} {Q : List Int} (h : Way arcs s Q) : ∀ (i : Nat) x y, Q[i]? = some x → Q[i + 1]? = some y → (x, y) ∈ arcs := by
  induction h with
  | start => intro i x y _ h2; simp at h2
  | @step Q z hQ hz _ ih =>
    intro i x y h1 h2
    by_cases hi : i + 1 < Q.length
    · rw [List.getElem?_append_left (by omega)] at h1
      rw [List.getElem?_append_left hi] at h2
      exact ih i x y h1 h2
    · have hl := (List.getElem?_eq_some_iff.1 h2).1
      rw [List.length_append, List.length_singleton] at hl
      have e : i + 1 = Q.length := by omega
      rw [List.getElem?_append_right (by omega), e, Nat.sub_self] at h2
      obtain rfl : z = y := by simpa using h2
      rw [List.getElem?_append_left (by omega)] at h1
      have := lastOf_get hQ.pos
      rw [show Q.length - 1 = i by omega, h1] at this
      rw [Option.some.inj this]
      exact hz
end Go.Proofs.Yteonpfomlmfkjaa
