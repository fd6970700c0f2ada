/- What the law FitchBounds counts, in plain Lean, and that the least changes lie between. -/
import Derived.Test.YtbmlkomfelkckaaFitPlain
namespace Go.Proofs.Ytbmlkomfelkckaa

structure BS where
  cnt : List Nat
  known : Nat
  states : Nat
  most : Nat

def bstep (s : BS) (x : Int) : BS :=
  if x < 0 then s
  else ⟨s.cnt.set x.toNat (s.cnt.getD x.toNat 0 + 1), s.known + 1, if s.cnt.getD x.toNat 0 = 0 then s.states + 1 else s.states, max s.most (s.cnt.getD x.toNat 0 + 1)⟩

def BS.start : BS := ⟨List.replicate 12 0, 0, 0, 0⟩

structure BS.Ok (xs : List Int) (s : BS) : Prop where
  len : s.cnt.length = 12
  cnt : ∀ c : Nat, c < 12 → s.cnt.getD c 0 = xs.countP (fun x => decide (x = (c : Int)))
  known : s.known = xs.countP (fun x => decide (0 ≤ x))
  states : s.states = (List.range 12).countP (fun c : Nat => xs.any fun x => decide (x = (c : Int)))
  most : ∃ c : Nat, c < 12 ∧ s.most ≤ xs.countP (fun x => decide (x = (c : Int)))

theorem BS.Ok.start : BS.start.Ok [] := by
  refine ⟨rfl, fun c hc => ?_, rfl, by decide, 0, by decide, Nat.le_refl _⟩
  unfold BS.start
  simp only [List.getD_eq_getElem?_getD, List.getElem?_replicate, hc, if_true, Option.getD_some]
  rfl

theorem getD_set_nat (l : List Nat) (i x : Nat) (hi : i < l.length) (q : Nat) : (l.set i x).getD q 0 = if q = i then x else l.getD q 0 := by
  rw [List.getD_eq_getElem?_getD, List.getD_eq_getElem?_getD, List.getElem?_set]
  by_cases h : q = i
  · subst h; simp [hi]
  · rw [if_neg (fun e => h e.symm), if_neg h]

theorem countP_more (p q : Nat → Bool) (d : Nat) : ∀ l : List Nat, l.Nodup → d ∈ l → p d = false → q d = true → (∀ c, c ≠ d → p c = q c) → l.countP q = l.countP p + 1
  | [], _, h, _, _, _ => by simp at h
  | x :: l, hn, h, h1, h2, h3 => by
    rw [List.nodup_cons] at hn
    simp only [List.countP_cons]
    by_cases hx : x = d
    · subst hx
      rw [h1, h2]
      have : l.countP q = l.countP p := List.countP_congr (fun c hc => by rw [h3 c (fun e => hn.1 (e ▸ hc))])
      simp [this]
    · have hd : d ∈ l := by
        rcases List.mem_cons.1 h with h | h
        · exact absurd h.symm hx
        · exact h
      have := countP_more p q d l hn.2 hd h1 h2 h3
      rw [h3 x hx]
      omega

theorem BS.Ok.step {xs : List Int} {s : BS} (h : s.Ok xs) (x : Int) (hx : x < 12) : (bstep s x).Ok (xs ++ [x]) := by
  unfold bstep
  by_cases h0 : x < 0
  · rw [if_pos h0]
    have e : ∀ c : Nat, (xs ++ [x]).countP (fun x => decide (x = (c : Int))) = xs.countP (fun x => decide (x = (c : Int))) := by
      intro c
      rw [List.countP_append]
      have : decide (x = (c : Int)) = false := by rw [decide_eq_false_iff_not]; omega
      simp [this]
    refine ⟨h.len, fun c hc => ?_, ?_, ?_, ?_⟩
    · rw [e]; exact h.cnt c hc
    · rw [List.countP_append, h.known]
      have : decide (0 ≤ x) = false := by rw [decide_eq_false_iff_not]; omega
      simp [this]
    · rw [h.states]
      refine List.countP_congr (fun c hc => ?_)
      have : decide (x = (c : Int)) = false := by rw [decide_eq_false_iff_not]; omega
      simp [List.any_append, this]
    · obtain ⟨c, hc, hm⟩ := h.most
      exact ⟨c, hc, by rw [e]; exact hm⟩
  · rw [if_neg h0]
    obtain ⟨d, rfl⟩ : ∃ d : Nat, x = (d : Int) := ⟨x.toNat, by omega⟩
    have hd : d < 12 := by omega
    have e : ∀ c : Nat, (xs ++ [(d : Int)]).countP (fun x => decide (x = (c : Int))) = xs.countP (fun x => decide (x = (c : Int))) + if c = d then 1 else 0 := by
      intro c
      rw [List.countP_append]
      by_cases hcd : c = d
      · subst hcd; simp
      · have : decide ((d : Int) = (c : Int)) = false := by rw [decide_eq_false_iff_not]; omega
        simp [this, hcd]
    simp only [Int.toNat_natCast]
    refine ⟨by simp [h.len], fun c hc => ?_, ?_, ?_, ?_⟩
    · rw [getD_set_nat _ _ _ (by rw [h.len]; exact hd), e]
      by_cases hcd : c = d
      · subst hcd; rw [if_pos rfl, if_pos rfl, h.cnt _ hd]
      · rw [if_neg hcd, if_neg hcd, h.cnt c hc]; rfl
    · rw [List.countP_append, h.known]
      simp
    · have hcd := h.cnt d hd
      obtain ⟨y, hy⟩ : ∃ y, s.cnt.getD d 0 = y := ⟨_, rfl⟩
      show (if s.cnt.getD d 0 = 0 then s.states + 1 else s.states) = _
      rw [hy] at hcd
      simp only [hy, hcd]
      clear hy hcd
      by_cases hz : xs.countP (fun x => decide (x = (d : Int))) = 0
      · rw [if_pos hz, h.states]
        refine (countP_more _ _ d _ List.nodup_range (List.mem_range.2 hd) ?_ ?_ ?_).symm
        · rw [List.countP_eq_zero] at hz
          rw [List.any_eq_false]
          exact hz
        · simp
        · intro c hc
          have : decide ((d : Int) = (c : Int)) = false := by rw [decide_eq_false_iff_not]; omega
          rw [List.any_append]
          simp [this]
      · rw [if_neg hz, h.states]
        refine List.countP_congr (fun c hc => ?_)
        have hz' := List.countP_pos_iff.1 (Nat.pos_of_ne_zero hz)
        rw [List.any_append]
        by_cases hcd : c = d
        · subst hcd
          have : (xs.any fun x => decide (x = (c : Int))) = true := List.any_eq_true.2 hz'
          simp [this]
        · have : decide ((d : Int) = (c : Int)) = false := by rw [decide_eq_false_iff_not]; omega
          simp [this]
    · obtain ⟨c, hc, hm⟩ := h.most
      have hcd := h.cnt d hd
      by_cases hmx : s.most ≤ s.cnt.getD d 0 + 1
      · refine ⟨d, hd, ?_⟩
        rw [e, if_pos rfl]
        simp only []
        omega
      · refine ⟨c, hc, ?_⟩
        rw [e]
        simp only []
        omega

/-- The states at a site, row by row. -/
def column (rows : List (List Int)) (site n : Nat) : List Int := (List.range n).map fun k : Nat => stateAt rows site k

theorem column_snoc (rows : List (List Int)) (site n : Nat) : column rows site (n + 1) = column rows site n ++ [stateAt rows site n] := by simp [column, List.range_succ]

def ball (rows : List (List Int)) (site n : Nat) : BS := (column rows site n).foldl bstep BS.start

theorem ball_succ (rows : List (List Int)) (site n : Nat) : ball rows site (n + 1) = bstep (ball rows site n) (stateAt rows site n) := by
  unfold ball
  rw [column_snoc, List.foldl_append]
  rfl

theorem ball_ok {rows : List (List Int)} (h : matOk rows = true) {site : Nat} (hs : site < wid rows) : ∀ n, n ≤ rows.length → (ball rows site n).Ok (column rows site n)
  | 0, _ => BS.Ok.start
  | n + 1, hn => by
    rw [ball_succ, column_snoc]
    obtain ⟨_, _, _, _, h4⟩ := matOk_at h (leaf := (n : Int)) (by omega) (by omega) hs
    exact (ball_ok h hs n (by omega)).step _ h4

theorem nodup_len : ∀ (l m : List Nat), l.Nodup → (∀ x ∈ l, x ∈ m) → l.length ≤ m.length
  | [], _, _, _ => Nat.zero_le _
  | a :: l, m, hn, h => by
    rw [List.nodup_cons] at hn
    have ha := h a (by simp)
    have h2 := nodup_len l (m.erase a) hn.2 (fun x hx => (List.mem_erase_of_ne (fun e : x = a => hn.1 (e ▸ hx))).2 (h x (by simp [hx])))
    rw [List.length_erase_of_mem ha] at h2
    have := List.length_pos_of_mem ha
    simp only [List.length_cons]
    omega

theorem perm_range {l : List Nat} {n : Nat} (h1 : l.Nodup) (h2 : ∀ k ∈ l, k < n) (h3 : l.length = n) : l.Perm (List.range n) := by
  refine (List.perm_ext_iff_of_nodup h1 List.nodup_range).2 (fun a => ⟨fun h => List.mem_range.2 (h2 a h), fun h => ?_⟩)
  have hsub : l ⊆ List.range n := fun a h => List.mem_range.2 (h2 a h)
  refine Decidable.by_contra fun hna => ?_
  have h4 := nodup_len l ((List.range n).erase a) h1 (fun x hx => (List.mem_erase_of_ne (fun e : x = a => hna (e ▸ hx))).2 (hsub hx))
  rw [List.length_erase_of_mem h, List.length_range] at h4
  have := List.mem_range.1 h
  omega

/-- The whole tree's leaves, as rows. -/
theorem root_range {leaves : Nat} {bs : List Br} {T : NT} (h : rdRoot (leaves : Int) bs = some T) : T.leaves.Perm (List.range leaves) := by
  obtain ⟨h1, h2, h3⟩ := rdRoot_leaves h
  exact perm_range h1 (fun k hk => by have := h2 k hk; omega) (by omega)

theorem countP_column {rows : List (List Int)} {site n : Nat} {l : List Nat} (h : l.Perm (List.range n)) (p : Int → Bool) : l.countP (fun k : Nat => p (stateAt rows site k)) = (column rows site n).countP p := by
  rw [h.countP_eq, column, List.countP_map]
  rfl

theorem any_column {rows : List (List Int)} {site n : Nat} {l : List Nat} (h : l.Perm (List.range n)) (p : Int → Bool) : (l.any fun k : Nat => p (stateAt rows site k)) = (column rows site n).any p := by
  rw [column, List.any_map, Bool.eq_iff_iff, List.any_eq_true, List.any_eq_true]
  constructor
  · rintro ⟨k, hk, hp⟩
    exact ⟨k, h.mem_iff.1 hk, hp⟩
  · rintro ⟨k, hk, hp⟩
    exact ⟨k, h.mem_iff.2 hk, hp⟩

theorem split_count (c : Nat) : ∀ l : List Int, l.countP (fun x : Int => decide (0 ≤ x ∧ x ≠ c)) + l.countP (fun x => decide (x = (c : Int))) = l.countP (fun x => decide (0 ≤ x))
  | [] => rfl
  | x :: l => by
    have := split_count c l
    simp only [List.countP_cons, decide_eq_true_eq]
    by_cases h1 : x = (c : Int)
    · rw [if_neg (by omega), if_pos h1, if_pos (by omega)]; omega
    · by_cases h2 : 0 ≤ x
      · rw [if_pos ⟨h2, h1⟩, if_neg h1, if_pos h2]; omega
      · rw [if_neg (by omega), if_neg h1, if_neg h2]; omega

/-- The least changes lie between. -/
theorem bounds_hold {rows : List (List Int)} (h : matOk rows = true) {site : Nat} (hs : site < wid rows) {bs : List Br} {T : NT} (hT : rdRoot (rows.length : Int) bs = some T) :
    (fall rows site bs).n + (ball rows site rows.length).most ≤ (ball rows site rows.length).known ∧ (ball rows site rows.length).states ≤ (fall rows site bs).n + 1 ∧
    ((ball rows site rows.length).states = 0 → (fall rows site bs).n = 0) ∧ (ball rows site rows.length).known ≤ rows.length := by
  rw [fall_root hT]
  have hp := root_range hT
  have ok := ball_ok h hs rows.length (Nat.le_refl _)
  obtain ⟨c, hc, hm⟩ := ok.most
  have h1 := fnum_outs (fun k => stateAt rows site k) c hc T
  have h2 : outs (fun k => stateAt rows site k) c T.leaves = (column rows site rows.length).countP (fun x : Int => decide (0 ≤ x ∧ x ≠ c)) := countP_column (rows := rows) (site := site) hp (fun x : Int => decide (0 ≤ x ∧ x ≠ c))
  have h3 := split_count c (column rows site rows.length)
  have h4 := kinds_fnum (fun k => stateAt rows site k) T
  have h5 : (List.range 12).countP (fun s : Nat => T.leaves.any fun k => decide (stateAt rows site k = (s : Int))) = (ball rows site rows.length).states := by
    rw [ok.states]
    refine List.countP_congr (fun s _ => ?_)
    rw [any_column (rows := rows) (site := site) hp (fun x => decide (x = (s : Int)))]
  have hk := ok.known
  rw [h5] at h4
  refine ⟨by omega, h4, fun hz => ?_, ?_⟩
  · have : (column rows site rows.length).countP (fun x => decide (0 ≤ x)) = 0 := by
      rw [List.countP_eq_zero]
      intro x hx
      rw [ok.states, List.countP_eq_zero] at hz
      obtain ⟨k, hk, rfl⟩ := List.mem_map.1 hx
      have hk' := List.mem_range.1 hk
      obtain ⟨_, _, _, h3, h4⟩ := matOk_at h (leaf := (k : Int)) (by omega) (by omega) hs
      simp only [decide_eq_true_eq]
      intro h0
      have := hz (stateAt rows site k).toNat (List.mem_range.2 (by omega))
      rw [List.any_eq_true] at this
      exact this ⟨_, hx, by simp; omega⟩
    omega
  · rw [hk]
    refine Nat.le_trans List.countP_le_length ?_
    simp [column]
end Go.Proofs.Ytbmlkomfelkckaa
