/- The search level by level finds the least of the shortest circles. In plain Lean. -/
import Derived.Test.YteonpfomlmfkjaaCycP
namespace Go.Proofs.Yteonpfomlmfkjaa

/-- The lesser list, of lists of one length. -/
def lxLt : List Int → List Int → Prop
  | x :: a, y :: b => x < y ∨ (x = y ∧ lxLt a b)
  | _, _ => False

def lxLe (a b : List Int) : Prop := a = b ∨ lxLt a b

theorem lxLt_irrefl : ∀ a : List Int, ¬ lxLt a a
  | [], h => h
  | x :: a, h => by
    rcases h with h | ⟨_, h⟩
    · omega
    · exact lxLt_irrefl a h

theorem lxLt_trans : ∀ {a b c : List Int}, lxLt a b → lxLt b c → lxLt a c
  | [], _, _, h, _ => h.elim
  | _ :: _, [], _, h, _ => h.elim
  | _ :: _, _ :: _, [], _, h => h.elim
  | x :: a, y :: b, z :: c, h, k => by
    rcases h with h | ⟨rfl, h⟩
    · rcases k with k | ⟨rfl, _⟩
      · exact .inl (by omega)
      · exact .inl h
    · rcases k with k | ⟨rfl, k⟩
      · exact .inl k
      · exact .inr ⟨rfl, lxLt_trans h k⟩

theorem lxLe_lt {a b c : List Int} (h : lxLe a b) (k : lxLt b c) : lxLt a c := by
  rcases h with rfl | h
  · exact k
  · exact lxLt_trans h k
theorem lxLt_le {a b c : List Int} (h : lxLt a b) (k : lxLe b c) : lxLt a c := by
  rcases k with rfl | k
  · exact h
  · exact lxLt_trans h k
theorem lxLe_trans {a b c : List Int} (h : lxLe a b) (k : lxLe b c) : lxLe a c := by
  rcases h with rfl | h
  · exact k
  · exact .inr (lxLt_le h k)
theorem lxLe_antisymm {a b : List Int} (h : lxLe a b) (k : lxLe b a) : a = b := by
  rcases h with h | h
  · exact h
  · exact absurd (lxLt_le h k) (lxLt_irrefl a)

theorem lxLt_append {x y : List Int} : ∀ {a b : List Int}, lxLt a b → lxLt (a ++ x) (b ++ y)
  | [], _, h => h.elim
  | _ :: _, [], h => h.elim
  | _ :: _, _ :: _, h => by
    rcases h with h | ⟨rfl, h⟩
    · exact .inl h
    · exact .inr ⟨rfl, lxLt_append h⟩
theorem lxLt_snoc {x y : Int} (h : x < y) : ∀ a : List Int, lxLt (a ++ [x]) (a ++ [y])
  | [] => .inl h
  | _ :: a => .inr ⟨rfl, lxLt_snoc h a⟩
theorem lxLe_snoc {a b : List Int} (h : lxLe a b) (y : Int) : lxLe (a ++ [y]) (b ++ [y]) := by
  rcases h with rfl | h
  · exact .inl rfl
  · exact .inr (lxLt_append h)

/-- A way from s through greater nodes. -/
inductive Way (arcs : List (Int × Int)) (s : Int) : List Int → Prop
  | start : Way arcs s [s]
  | step {Q : List Int} {x : Int} : Way arcs s Q → (lastOf Q, x) ∈ arcs → s < x → Way arcs s (Q ++ [x])

theorem Way.pos {arcs : List (Int × Int)} {s : Int} {Q : List Int} (h : Way arcs s Q) : 0 < Q.length := by
  cases h with
  | start => simp
  | step _ _ _ => simp

/-- A circle. -/
def Circ (arcs : List (Int × Int)) (s : Int) (P : List Int) : Prop := Way arcs s P ∧ (lastOf P, s) ∈ arcs

theorem scan_none {s : Int} {P : List Int} : ∀ {l : List Int} {line : List (List Int)}, scan s P l line = none → s ∈ l
  | [], _, h => by simp [scan] at h
  | x :: l, line, h => by
    rw [scan] at h
    split at h
    · rename_i e; simp [e]
    · split at h
      · exact List.mem_cons_of_mem _ (scan_none h)
      · exact List.mem_cons_of_mem _ (scan_none h)

theorem scan_some {s : Int} {P : List Int} : ∀ {l : List Int} {line line' : List (List Int)}, l.Pairwise (· ≤ ·) → scan s P l line = some line' →
    s ∉ l ∧ ∃ xs : List Int, line' = line ++ xs.map (fun x => P ++ [x]) ∧ xs.Pairwise (· < ·) ∧ ∀ x, x ∈ xs ↔ x ∈ l ∧ s < x ∧ x ∉ nodesOf line
  | [], line, line', _, h => by
    obtain rfl : line = line' := by simpa [scan] using h
    exact ⟨by simp, [], by simp, List.Pairwise.nil, by simp⟩
  | x :: l, line, line', hs, h => by
    rw [List.pairwise_cons] at hs
    rw [scan] at h
    split at h
    · cases h
    · rename_i hxs
      split at h
      · rename_i hc
        obtain ⟨h1, xs, h2, h3, h4⟩ := scan_some hs.2 h
        refine ⟨by rw [List.mem_cons, not_or]; exact ⟨fun e => hxs e.symm, h1⟩, x :: xs, by rw [h2]; simp, ?_, fun y => ?_⟩
        · rw [List.pairwise_cons]
          refine ⟨fun y hy => ?_, h3⟩
          obtain ⟨k1, _, k3⟩ := (h4 y).1 hy
          rw [nodesOf_snoc] at k3
          have := hs.1 y k1
          have : y ≠ x := fun e => k3 (by simp [e])
          omega
        · rw [List.mem_cons, List.mem_cons, h4 y, nodesOf_snoc]
          constructor
          · rintro (rfl | ⟨k1, k2, k3⟩)
            · exact ⟨.inl rfl, hc⟩
            · exact ⟨.inr k1, k2, fun h => k3 (by simp [h])⟩
          · rintro ⟨rfl | k1, k2, k3⟩
            · exact .inl rfl
            · by_cases e : y = x
              · exact .inl e
              · exact .inr ⟨k1, k2, by simp [k3, e]⟩
      · rename_i hc
        obtain ⟨h1, xs, h2, h3, h4⟩ := scan_some hs.2 h
        refine ⟨by rw [List.mem_cons, not_or]; exact ⟨fun e => hxs e.symm, h1⟩, xs, h2, h3, fun y => ?_⟩
        rw [h4 y, List.mem_cons]
        constructor
        · rintro ⟨k1, k2⟩
          exact ⟨.inr k1, k2⟩
        · rintro ⟨rfl | k1, k2⟩
          · exact absurd k2 hc
          · exact ⟨k1, k2⟩

theorem mem_adj {arcs : List (Int × Int)} {v x : Int} : x ∈ adj arcs v ↔ (v, x) ∈ arcs := by
  unfold adj
  rw [mem_sortI, mem_outs']
theorem adj_sorted (arcs : List (Int × Int)) (v : Int) : (adj arcs v).Pairwise (· ≤ ·) := sortI_sorted _

/-- At the head of a level. -/
structure Bfs (arcs : List (Int × Int)) (s : Int) (n L k : Nat) (line : List (List Int)) : Prop where
  le : k ≤ line.length
  lk : L ≤ k + 1
  pos : 0 < L
  way : ∀ Q ∈ line, Way arcs s Q
  len : ∀ i, k ≤ i → i < line.length → (line.getD i []).length = L
  short : ∀ Q ∈ line.take k, Q.length < L
  nodup : (nodesOf line).Nodup
  range : ∀ u ∈ nodesOf line, 0 ≤ u ∧ u < (n : Int)
  all : ∀ Q, Way arcs s Q → Q.length ≤ L → lastOf Q ∈ nodesOf line
  least : ∀ Q, Way arcs s Q → Q.length = L → lastOf Q ∉ nodesOf (line.take k) → ∃ i, k ≤ i ∧ i < line.length ∧ lastOf (line.getD i []) = lastOf Q ∧ lxLe (line.getD i []) Q
  sorted : ∀ i j, k ≤ i → i < j → j < line.length → lxLt (line.getD i []) (line.getD j [])
  none : ∀ Q, Way arcs s Q → Q.length < L → (lastOf Q, s) ∉ arcs

/-- Within a level: up to place 'at'. -/
structure Mid (arcs : List (Int × Int)) (s : Int) (n k : Nat) (line0 : List (List Int)) (at_ : Nat) (new : List (List Int)) : Prop where
  ent : ∀ Q ∈ new, ∃ i x, k ≤ i ∧ i < at_ ∧ Q = line0.getD i [] ++ [x] ∧ (lastOf (line0.getD i []), x) ∈ arcs ∧ s < x
  sorted : new.Pairwise lxLt
  nodup : (nodesOf (line0 ++ new)).Nodup
  range : ∀ u ∈ nodesOf (line0 ++ new), 0 ≤ u ∧ u < (n : Int)
  cov : ∀ i y, k ≤ i → i < at_ → (lastOf (line0.getD i []), y) ∈ arcs → s < y → y ∈ nodesOf line0 ∨ ∃ Q ∈ new, lastOf Q = y ∧ lxLe Q (line0.getD i [] ++ [y])
  nos : ∀ i, k ≤ i → i < at_ → (lastOf (line0.getD i []), s) ∉ arcs

theorem nodesOf_append (a b : List (List Int)) : nodesOf (a ++ b) = nodesOf a ++ nodesOf b := by simp [nodesOf]

theorem getD_left {line new : List (List Int)} {i : Nat} (h : i < line.length) : (line ++ new).getD i [] = line.getD i [] := by
  rw [List.getD_eq_getElem?_getD, List.getD_eq_getElem?_getD, List.getElem?_append_left h]

theorem getD_mem {line : List (List Int)} {i : Nat} (h : i < line.length) : line.getD i [] ∈ line := by
  rw [List.getD_eq_getElem?_getD, List.getElem?_eq_getElem h]
  exact List.getElem_mem _

theorem Mid.step {arcs : List (Int × Int)} {s : Int} {n L k : Nat} {line0 : List (List Int)} {at_ : Nat} {new line' : List (List Int)} (hB : Bfs arcs s n L k line0) (hok : ∀ a ∈ arcs, 0 ≤ a.1 ∧ a.1 < (n : Int) ∧ 0 ≤ a.2 ∧ a.2 < (n : Int)) (h : Mid arcs s n k line0 at_ new) (hk : k ≤ at_) (hat : at_ < line0.length)
    (hs : scan s (line0.getD at_ []) (adj arcs (lastOf (line0.getD at_ []))) (line0 ++ new) = some line') : ∃ new', line' = line0 ++ new' ∧ Mid arcs s n k line0 (at_ + 1) new' := by
  obtain ⟨h1, xs, h2, h3, h4⟩ := scan_some (adj_sorted _ _) hs
  have hmem : ∀ x, x ∈ xs ↔ (lastOf (line0.getD at_ []), x) ∈ arcs ∧ s < x ∧ x ∉ nodesOf (line0 ++ new) := fun x => by rw [h4 x, mem_adj]
  have hnx : nodesOf (xs.map fun x => line0.getD at_ [] ++ [x]) = xs := by
    unfold nodesOf
    rw [List.map_map]
    conv => rhs; rw [← List.map_id xs]
    exact List.map_congr_left fun x _ => lastOf_snoc _ _
  refine ⟨new ++ xs.map fun x => line0.getD at_ [] ++ [x], by rw [h2, List.append_assoc], ?_, ?_, ?_, ?_, ?_, ?_⟩
  · intro Q hQ
    rcases List.mem_append.1 hQ with hQ | hQ
    · obtain ⟨i, x, k1, k2, k3⟩ := h.ent Q hQ
      exact ⟨i, x, k1, by omega, k3⟩
    · obtain ⟨x, hx, rfl⟩ := List.mem_map.1 hQ
      obtain ⟨k1, k2, _⟩ := (hmem x).1 hx
      exact ⟨at_, x, hk, by omega, rfl, k1, k2⟩
  · refine List.pairwise_append.2 ⟨h.sorted, ?_, fun Q hQ R hR => ?_⟩
    · rw [List.pairwise_map]
      exact h3.imp fun hxy => lxLt_snoc hxy _
    · obtain ⟨i, x, k1, k2, rfl, _⟩ := h.ent Q hQ
      obtain ⟨y, _, rfl⟩ := List.mem_map.1 hR
      exact lxLt_append (hB.sorted i at_ k1 k2 hat)
  · rw [← List.append_assoc, nodesOf_append, hnx]
    refine List.nodup_append.2 ⟨h.nodup, h3.imp fun hxy e => by omega, fun a ha b hb => ?_⟩
    rintro rfl
    exact ((hmem a).1 hb).2.2 ha
  · rw [← List.append_assoc, nodesOf_append, hnx]
    intro u hu
    rcases List.mem_append.1 hu with hu | hu
    · exact h.range u hu
    · obtain ⟨_, _, k3, k4⟩ := hok _ ((hmem u).1 hu).1
      exact ⟨k3, k4⟩
  · intro i y k1 k2 k3 k4
    by_cases hi : i < at_
    · rcases h.cov i y k1 hi k3 k4 with c | ⟨Q, hQ, c⟩
      · exact .inl c
      · exact .inr ⟨Q, List.mem_append_left _ hQ, c⟩
    · obtain rfl : i = at_ := by omega
      by_cases hy : y ∈ nodesOf (line0 ++ new)
      · rw [nodesOf_append] at hy
        rcases List.mem_append.1 hy with hy | hy
        · exact .inl hy
        · obtain ⟨Q, hQ, hl⟩ := List.mem_map.1 hy
          refine .inr ⟨Q, List.mem_append_left _ hQ, hl, .inr ?_⟩
          obtain ⟨i', x, c1, c2, rfl, _⟩ := h.ent Q hQ
          exact lxLt_append (hB.sorted i' i c1 c2 hat)
      · have hx := (hmem y).2 ⟨k3, k4, hy⟩
        exact .inr ⟨line0.getD i [] ++ [y], List.mem_append_right _ (List.mem_map.2 ⟨y, hx, rfl⟩), lastOf_snoc _ _, .inl rfl⟩
  · intro i k1 k2
    by_cases hi : i < at_
    · exact h.nos i k1 hi
    · obtain rfl : i = at_ := by omega
      exact fun hm => h1 (mem_adj.2 hm)

/-- A circle of the level: the first place whose node leads back to s. -/
structure Best (arcs : List (Int × Int)) (s : Int) (P : List Int) : Prop where
  circ : Circ arcs s P
  least : ∀ Q, Circ arcs s Q → P.length < Q.length ∨ (P.length = Q.length ∧ lxLe P Q)

theorem Bfs.found {arcs : List (Int × Int)} {s : Int} {n L k : Nat} {line0 : List (List Int)} {at_ : Nat} (hB : Bfs arcs s n L k line0) (hk : k ≤ at_) (hat : at_ < line0.length) (hs : (lastOf (line0.getD at_ []), s) ∈ arcs) (hn : ∀ i, k ≤ i → i < at_ → (lastOf (line0.getD i []), s) ∉ arcs) :
    Best arcs s (line0.getD at_ []) ∧ (line0.getD at_ []).length = L := by
  have hl := hB.len at_ hk hat
  refine ⟨⟨⟨hB.way _ (getD_mem hat), hs⟩, fun Q hQ => ?_⟩, hl⟩
  rw [hl]
  rcases Nat.lt_trichotomy Q.length L with h | h | h
  · exact absurd hQ.2 (hB.none Q hQ.1 h)
  · refine .inr ⟨h.symm, ?_⟩
    have hnew : lastOf Q ∉ nodesOf (line0.take k) := by
      intro hm
      obtain ⟨R, hR, he⟩ := List.mem_map.1 hm
      have h1 := hB.none R (hB.way R (List.mem_of_mem_take hR)) (hB.short R hR)
      rw [he] at h1
      exact h1 hQ.2
    obtain ⟨i, h1, h2, h3, h4⟩ := hB.least Q hQ.1 h hnew
    have h5 : ¬ i < at_ := fun hi => hn i h1 hi (by rw [h3]; exact hQ.2)
    by_cases e : i = at_
    · subst e; exact h4
    · exact lxLe_trans (.inr (hB.sorted at_ i hk (by omega) h2)) h4
  · exact .inl h

theorem Way.snoc_inv {arcs : List (Int × Int)} {s : Int} {Q : List Int} {L : Nat} (h : Way arcs s Q) (hl : Q.length = L + 1) (hL : 0 < L) : ∃ R x, Q = R ++ [x] ∧ Way arcs s R ∧ R.length = L ∧ (lastOf R, x) ∈ arcs ∧ s < x := by
  cases h with
  | start => simp at hl; omega
  | @step R x h1 h2 h3 => exact ⟨R, x, rfl, h1, by simpa using hl, h2, h3⟩

/-- A level on. -/
theorem Bfs.next {arcs : List (Int × Int)} {s : Int} {n L k : Nat} {line0 new : List (List Int)} (hB : Bfs arcs s n L k line0) (h : Mid arcs s n k line0 line0.length new) (hne : k < line0.length) : Bfs arcs s n (L + 1) line0.length (line0 ++ new) := by
  have htk : (line0 ++ new).take line0.length = line0 := List.take_left
  have hget : ∀ i, line0.length ≤ i → (line0 ++ new).getD i [] = new.getD (i - line0.length) [] := fun i hi => by
    rw [List.getD_eq_getElem?_getD, List.getD_eq_getElem?_getD, List.getElem?_append_right hi]
  have hleast : ∀ Q, Way arcs s Q → Q.length = L + 1 → lastOf Q ∉ nodesOf line0 → ∃ R ∈ new, lastOf R = lastOf Q ∧ lxLe R Q := by
    intro Q hQ hl hn
    obtain ⟨R, x, rfl, h1, h2, h3, h4⟩ := hQ.snoc_inv hl hB.pos
    rw [lastOf_snoc] at hn ⊢
    have hnew : lastOf R ∉ nodesOf (line0.take k) := by
      intro hm
      obtain ⟨T, hT, he⟩ := List.mem_map.1 hm
      apply hn
      have := hB.all (T ++ [x]) (.step (hB.way T (List.mem_of_mem_take hT)) (by rw [he]; exact h3) h4) (by have := hB.short T hT; rw [List.length_append]; exact this)
      rwa [lastOf_snoc] at this
    obtain ⟨i, k1, k2, k3, k4⟩ := hB.least R h1 h2 hnew
    rcases h.cov i x k1 k2 (by rw [k3]; exact h3) h4 with c | ⟨T, hT, c1, c2⟩
    · exact absurd c hn
    · exact ⟨T, hT, c1, lxLe_trans c2 (lxLe_snoc k4 x)⟩
  refine ⟨by rw [List.length_append]; omega, by have := hB.lk; omega, Nat.succ_pos _, fun Q hQ => ?_, fun i k1 k2 => ?_, fun Q hQ => ?_, h.nodup, h.range, fun Q hQ hl => ?_, fun Q hQ hl hn => ?_, fun i j k1 k2 k3 => ?_, fun Q hQ hl hm => ?_⟩
  · rcases List.mem_append.1 hQ with hQ | hQ
    · exact hB.way Q hQ
    · obtain ⟨i, x, k1, k2, rfl, k4, k5⟩ := h.ent Q hQ
      exact .step (hB.way _ (getD_mem k2)) k4 k5
  · rw [hget i k1]
    rw [List.length_append] at k2
    obtain ⟨j, x, c1, c2, c3, _⟩ := h.ent _ (getD_mem (line := new) (i := i - line0.length) (by omega))
    rw [c3, List.length_append, hB.len j c1 c2]
    rfl
  · rw [htk] at hQ
    obtain ⟨i, hi⟩ := List.mem_iff_getElem?.1 hQ
    have hil := (List.getElem?_eq_some_iff.1 hi).1
    by_cases hik : i < k
    · have := hB.short Q (List.mem_iff_getElem?.2 ⟨i, by rw [List.getElem?_take, if_pos hik]; exact hi⟩)
      omega
    · have := hB.len i (by omega) hil
      rw [List.getD_eq_getElem?_getD, hi] at this
      simp at this
      omega
  · rw [nodesOf_append]
    by_cases hle : Q.length ≤ L
    · exact List.mem_append_left _ (hB.all Q hQ hle)
    · by_cases hn : lastOf Q ∈ nodesOf line0
      · exact List.mem_append_left _ hn
      · obtain ⟨R, hR, k1, _⟩ := hleast Q hQ (by omega) hn
        exact List.mem_append_right _ (List.mem_map.2 ⟨R, hR, k1⟩)
  · rw [htk] at hn
    obtain ⟨R, hR, k1, k2⟩ := hleast Q hQ hl hn
    obtain ⟨i, hi⟩ := List.mem_iff_getElem?.1 hR
    have hil := (List.getElem?_eq_some_iff.1 hi).1
    have e : (line0 ++ new).getD (line0.length + i) [] = R := by
      rw [hget _ (by omega), Nat.add_sub_cancel_left, List.getD_eq_getElem?_getD, hi]
      rfl
    exact ⟨line0.length + i, by omega, by rw [List.length_append]; omega, by rw [e]; exact k1, by rw [e]; exact k2⟩
  · rw [List.length_append] at k3
    rw [hget i k1, hget j (by omega)]
    have := List.pairwise_iff_getElem.1 h.sorted (i - line0.length) (j - line0.length) (by omega) (by omega) (by omega)
    rw [List.getD_eq_getElem?_getD, List.getD_eq_getElem?_getD, List.getElem?_eq_getElem (by omega), List.getElem?_eq_getElem (by omega)]
    exact this
  · by_cases hlt : Q.length < L
    · exact hB.none Q hQ hlt hm
    · have hnew : lastOf Q ∉ nodesOf (line0.take k) := by
        intro hmm
        obtain ⟨T, hT, he⟩ := List.mem_map.1 hmm
        exact hB.none T (hB.way T (List.mem_of_mem_take hT)) (hB.short T hT) (by rw [he]; exact hm)
      obtain ⟨i, k1, k2, k3, _⟩ := hB.least Q hQ (by omega) hnew
      exact h.nos i k1 k2 (by rw [k3]; exact hm)

/-- A level that nobody is in: no circle at all. -/
theorem Bfs.empty {arcs : List (Int × Int)} {s : Int} {n L k : Nat} {line : List (List Int)} (hB : Bfs arcs s n L k line) (h : line.length ≤ k) : ∀ Q, ¬ Circ arcs s Q := by
  have htk : line.take k = line := List.take_of_length_le h
  have hsh := hB.short
  rw [htk] at hsh
  -- every way ends where a short one does
  have key : ∀ Q, Way arcs s Q → lastOf Q ∈ nodesOf line := by
    intro Q hQ
    induction hQ with
    | start => exact hB.all [s] .start (by have := hB.pos; show 1 ≤ L; omega)
    | @step Q x hQ hx hs ih =>
      obtain ⟨T, hT, he⟩ := List.mem_map.1 ih
      have := hB.all (T ++ [x]) (.step (hB.way T hT) (by rw [he]; exact hx) hs) (by have := hsh T hT; rw [List.length_append]; exact this)
      rw [lastOf_snoc] at this ⊢
      exact this
  intro Q hQ
  obtain ⟨T, hT, he⟩ := List.mem_map.1 (key Q hQ.1)
  exact hB.none T (hB.way T hT) (hsh T hT) (by rw [he]; exact hQ.2)

theorem lev_spec {arcs : List (Int × Int)} {s : Int} {n L k : Nat} {line0 : List (List Int)} (hB : Bfs arcs s n L k line0) (hok : ∀ a ∈ arcs, 0 ≤ a.1 ∧ a.1 < (n : Int) ∧ 0 ≤ a.2 ∧ a.2 < (n : Int)) (hne : k < line0.length) :
    ∀ (c at_ : Nat) (new : List (List Int)), at_ + c = line0.length → k ≤ at_ → Mid arcs s n k line0 at_ new →
      (∃ P l, lev arcs s c at_ (line0 ++ new) = (some P, l) ∧ Best arcs s P ∧ P.length = L) ∨ (∃ line', lev arcs s c at_ (line0 ++ new) = (Option.none, line') ∧ Bfs arcs s n (L + 1) line0.length line')
  | 0, at_, new, hc, hk, hM => by
    obtain rfl : at_ = line0.length := by omega
    exact .inr ⟨_, rfl, hB.next hM hne⟩
  | c + 1, at_, new, hc, hk, hM => by
    have hat : at_ < line0.length := by omega
    rw [lev_succ, getD_left hat]
    cases hsc : scan s (line0.getD at_ []) (adj arcs (lastOf (line0.getD at_ []))) (line0 ++ new) with
    | none =>
      obtain ⟨h1, h2⟩ := hB.found hk hat (mem_adj.1 (scan_none hsc)) hM.nos
      exact .inl ⟨line0.getD at_ [], line0 ++ new, by rw [levNext, getD_left hat], h1, h2⟩
    | some line' =>
      obtain ⟨new', rfl, hM'⟩ := hM.step hB hok hk hat hsc
      exact lev_spec hB hok hne c (at_ + 1) new' (by omega) (by omega) hM'

theorem Bfs.mid {arcs : List (Int × Int)} {s : Int} {n L k : Nat} {line0 : List (List Int)} (hB : Bfs arcs s n L k line0) : Mid arcs s n k line0 k [] :=
  ⟨fun Q hQ => (by cases hQ), List.Pairwise.nil, by rw [List.append_nil]; exact hB.nodup, by rw [List.append_nil]; exact hB.range, fun i y h1 h2 => by omega, fun i h1 h2 => by omega⟩

theorem Bfs.count {arcs : List (Int × Int)} {s : Int} {n L k : Nat} {line : List (List Int)} (hB : Bfs arcs s n L k line) : line.length ≤ n := by
  have := nodup_le (nodesOf line) (nodes n) hB.nodup fun u hu => mem_nodes.2 (hB.range u hu)
  rwa [nodes_length, nodesOf_length] at this

theorem rnd_spec {arcs : List (Int × Int)} {s : Int} {n : Nat} (hok : ∀ a ∈ arcs, 0 ≤ a.1 ∧ a.1 < (n : Int) ∧ 0 ≤ a.2 ∧ a.2 < (n : Int)) :
    ∀ (m L k : Nat) (line : List (List Int)), Bfs arcs s n L k line →
      (∃ P, rnd arcs s m k line = some P ∧ Best arcs s P ∧ P.length < L + m) ∨ (rnd arcs s m k line = Option.none ∧ ∀ Q, Circ arcs s Q → L + m ≤ Q.length ∧ L + m ≤ n)
  | 0, L, k, line, hB => by
    refine .inr ⟨rfl, fun Q hQ => ?_⟩
    have h1 : ¬ line.length ≤ k := fun h => hB.empty h Q hQ
    have h2 := hB.count
    have h3 := hB.lk
    refine ⟨?_, by omega⟩
    apply Classical.byContradiction
    intro h
    exact hB.none Q hQ.1 (by omega) hQ.2
  | m + 1, L, k, line, hB => by
    by_cases hk : line.length ≤ k
    · refine .inr ⟨by rw [rnd, if_pos hk], fun Q hQ => absurd hQ (hB.empty hk Q)⟩
    · rw [rnd_succ (by omega)]
      have := lev_spec hB hok (by omega) (line.length - k) k [] (by omega) (Nat.le_refl _) hB.mid
      rw [List.append_nil] at this
      rcases this with ⟨P, l, h1, h2, h3⟩ | ⟨line', h1, h2⟩
      · rw [h1]
        exact .inl ⟨P, rfl, h2, by omega⟩
      · rw [h1]
        show (∃ P, rnd arcs s m line.length line' = some P ∧ _) ∨ (rnd arcs s m line.length line' = Option.none ∧ _)
        rcases rnd_spec hok m (L + 1) line.length line' h2 with ⟨P, k1, k2, k3⟩ | ⟨k1, k2⟩
        · exact .inl ⟨P, k1, k2, by omega⟩
        · exact .inr ⟨k1, fun Q hQ => by have := k2 Q hQ; omega⟩

theorem Bfs.start {arcs : List (Int × Int)} {s : Int} {n : Nat} (hs : 0 ≤ s ∧ s < (n : Int)) : Bfs arcs s n 1 0 [[s]] := by
  have hone : ∀ Q, Way arcs s Q → Q.length ≤ 1 → Q = [s] := by
    intro Q hQ hl
    cases hQ with
    | start => rfl
    | step h _ _ =>
      have := h.pos
      rw [List.length_append, List.length_singleton] at hl
      omega
  refine ⟨Nat.zero_le _, Nat.le_refl _, Nat.succ_pos _, fun Q hQ => ?_, fun i _ hi => ?_, fun Q hQ => (by cases hQ), List.pairwise_singleton _ _, fun u hu => ?_, fun Q hQ hl => ?_, fun Q hQ hl _ => ?_, fun i j _ h1 h2 => ?_, fun Q hQ hl => ?_⟩
  · rw [List.mem_singleton.1 hQ]; exact .start
  · simp at hi; subst hi; rfl
  · simp [nodesOf, lastOf] at hu; subst hu; exact hs
  · rw [hone Q hQ hl]; simp [nodesOf]
  · rw [hone Q hQ (by omega)]
    exact ⟨0, Nat.le_refl _, by simp, rfl, .inl rfl⟩
  · simp at h2; omega
  · have := hQ.pos; omega

/-- What a round answers. -/
theorem roundOf_spec {arcs : List (Int × Int)} {s : Int} {n : Nat} (hok : ∀ a ∈ arcs, 0 ≤ a.1 ∧ a.1 < (n : Int) ∧ 0 ≤ a.2 ∧ a.2 < (n : Int)) (hs : 0 ≤ s ∧ s < (n : Int)) (most : Nat) :
    (∃ P, roundOf arcs s most = some P ∧ Best arcs s P ∧ P.length ≤ most) ∨ (roundOf arcs s most = Option.none ∧ ∀ Q, Circ arcs s Q → most < Q.length ∧ most < n) := by
  rcases rnd_spec hok most 1 0 [[s]] (Bfs.start hs) with ⟨P, h1, h2, h3⟩ | ⟨h1, h2⟩
  · exact .inl ⟨P, h1, h2, by omega⟩
  · exact .inr ⟨h1, fun Q hQ => by have := h2 Q hQ; omega⟩
end Go.Proofs.Yteonpfomlmfkjaa
