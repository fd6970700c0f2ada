/- The document's reckoning of changes, for each branch and each state what the part below it costs: it comes to the same least changes and to the same states. In plain Lean. -/
import Derived.Test.YtbmlkomfelkckaaPick
namespace Go.Proofs.Ytbmlkomfelkckaa

/-- The least of a row's costs below a fork of state 's', over that state and the first 'k'. -/
def bstUp (row : List Nat) (s : Nat) : Nat → Nat
  | 0 => row.getD s 0
  | k + 1 => if k = s then bstUp row s k else min (bstUp row s k) (row.getD k 0 + 1)

def leafCost (own : Int) (s : Nat) : Nat := if 0 ≤ own ∧ own ≠ s then 1000 else 0

/-- What a branch costs at a state. -/
def cellCost (rows : List (List Int)) (site : Nat) (out : List (List Nat)) (b : Br) (s : Nat) : Nat :=
  if b.a = 0 ∧ b.b = 0 then leafCost (stateAt rows site b.leaf) s else bstUp (out.getD b.a.toNat []) s 12 + bstUp (out.getD b.b.toNat []) s 12

def crow (rows : List (List Int)) (site : Nat) (out : List (List Nat)) (b : Br) : List Nat := (List.range 12).map (cellCost rows site out b)

def cstepR (rows : List (List Int)) (site : Nat) (out : List (List Nat)) (b : Br) : List (List Nat) := out ++ [crow rows site out b]

def crows (rows : List (List Int)) (site : Nat) (bs : List Br) : List (List Nat) := bs.foldl (cstepR rows site) []

theorem crows_snoc (rows : List (List Int)) (site : Nat) (bs : List Br) (b : Br) : crows rows site (bs ++ [b]) = crows rows site bs ++ [crow rows site (crows rows site bs) b] := by simp [crows, cstepR]

theorem crow_length (rows : List (List Int)) (site : Nat) (out : List (List Nat)) (b : Br) : (crow rows site out b).length = 12 := by simp [crow]

theorem crow_at (rows : List (List Int)) (site : Nat) (out : List (List Nat)) (b : Br) {s : Nat} (h : s < 12) : (crow rows site out b).getD s 0 = cellCost rows site out b s := by
  unfold crow
  rw [List.getD_eq_getElem?_getD, List.getElem?_map, List.getElem?_range h]
  rfl

theorem crows_length (rows : List (List Int)) (site : Nat) : ∀ (bs : List Br) (out : List (List Nat)), (bs.foldl (cstepR rows site) out).length = out.length + bs.length
  | [], _ => rfl
  | b :: bs, out => by
    rw [List.foldl_cons, crows_length rows site bs]
    simp [cstepR]
    omega

theorem crows_more (rows : List (List Int)) (site : Nat) : ∀ (bs : List Br) (out : List (List Nat)), ∃ qs, bs.foldl (cstepR rows site) out = out ++ qs
  | [], out => ⟨[], by simp⟩
  | b :: bs, out => by
    obtain ⟨qs, h⟩ := crows_more rows site bs (cstepR rows site out b)
    refine ⟨crow rows site out b :: qs, ?_⟩
    rw [List.foldl_cons, h]
    simp [cstepR]

theorem crow_more (rows : List (List Int)) (site : Nat) (out qs : List (List Nat)) (b : Br) (h : ¬ (b.a = 0 ∧ b.b = 0) → b.a.toNat < out.length ∧ b.b.toNat < out.length) : crow rows site (out ++ qs) b = crow rows site out b := by
  unfold crow
  refine List.map_congr_left (fun s _ => ?_)
  unfold cellCost
  by_cases hab : b.a = 0 ∧ b.b = 0
  · rw [if_pos hab, if_pos hab]
  · obtain ⟨h1, h2⟩ := h hab
    have e : ∀ k, k < out.length → (out ++ qs).getD k [] = out.getD k [] := fun k hk => by simp [List.getD_eq_getElem?_getD, List.getElem?_append_left hk]
    rw [if_neg hab, if_neg hab, e _ h1, e _ h2]

/-- Each row, out of those before it. -/
theorem crows_at {rows : List (List Int)} {site : Nat} {bs : List Br} {i : Nat} {b : Br} (hb : bs[i]? = some b) (h : ¬ (b.a = 0 ∧ b.b = 0) → b.a.toNat < i ∧ b.b.toNat < i) :
    (crows rows site bs).getD i [] = crow rows site (crows rows site bs) b := by
  have hi := (List.getElem?_eq_some_iff.1 hb).1
  have hsplit : bs = bs.take i ++ b :: bs.drop (i + 1) := by
    have h1 := List.take_append_drop i bs
    rw [List.drop_eq_getElem_cons hi] at h1
    have h2 : bs[i] = b := by
      have := List.getElem?_eq_getElem hi
      rw [hb] at this
      exact (Option.some.inj this).symm
    rw [h2] at h1
    exact h1.symm
  have hlen : (crows rows site (bs.take i)).length = i := by
    unfold crows
    rw [crows_length]
    simp
    omega
  have hp : crows rows site bs = (bs.drop (i + 1)).foldl (cstepR rows site) (crows rows site (bs.take i) ++ [crow rows site (crows rows site (bs.take i)) b]) := by
    conv => lhs; rw [hsplit]
    unfold crows
    rw [List.foldl_append, List.foldl_cons]
    rfl
  obtain ⟨qs, hq⟩ := crows_more rows site (bs.drop (i + 1)) (crows rows site (bs.take i) ++ [crow rows site (crows rows site (bs.take i)) b])
  rw [hq] at hp
  rw [hp, List.append_assoc, crow_more rows site _ _ b (by rw [hlen]; exact h), List.getD_eq_getElem?_getD, List.getElem?_append_right (by omega), hlen]
  simp

/-! ## The least of a row -/

theorem bstUp_self (row : List Nat) (s : Nat) : ∀ k, bstUp row s k ≤ row.getD s 0
  | 0 => Nat.le_refl _
  | k + 1 => by
    have := bstUp_self row s k
    unfold bstUp
    split
    · exact this
    · omega

theorem bstUp_le (row : List Nat) (s j : Nat) : ∀ k, j < k → bstUp row s k ≤ row.getD j 0 + 1
  | 0, h => by omega
  | k + 1, h => by
    unfold bstUp
    by_cases hj : j = k
    · subst hj
      split
      · rename_i e
        subst e
        have := bstUp_self row j j
        omega
      · omega
    · have := bstUp_le row s j k (by omega)
      split
      · exact this
      · omega

theorem bstUp_ge (row : List Nat) (s m : Nat) (h0 : m ≤ row.getD s 0) : ∀ k, (∀ j, j < k → j ≠ s → m ≤ row.getD j 0 + 1) → m ≤ bstUp row s k
  | 0, _ => h0
  | k + 1, h => by
    have := bstUp_ge row s m h0 k (fun j hj => h j (by omega))
    unfold bstUp
    split
    · exact this
    · rename_i e
      have := h k (by omega) e
      omega

/-- A row's costs: 'n' where a state is among the low ones, one more where it is among the high ones, else two more at least. -/
structure RowOk (n lo hi : Nat) (row : List Nat) : Prop where
  len : row.length = 12
  low : ∀ s, s < 12 → lo.testBit s = true → row.getD s 0 = n
  high : ∀ s, s < 12 → lo.testBit s = false → hi.testBit s = true → row.getD s 0 = n + 1
  rest : ∀ s, s < 12 → lo.testBit s = false → hi.testBit s = false → n + 2 ≤ row.getD s 0
  few : ∀ s, s < 12 → row.getD s 0 ≤ n + 1000

theorem RowOk.ge {n lo hi : Nat} {row : List Nat} (h : RowOk n lo hi row) {s : Nat} (hs : s < 12) : n ≤ row.getD s 0 ∧ (lo.testBit s = false → n + 1 ≤ row.getD s 0) := by
  cases h1 : lo.testBit s
  · cases h2 : hi.testBit s
    · have := h.rest s hs h1 h2
      exact ⟨by omega, fun _ => by omega⟩
    · have := h.high s hs h1 h2
      exact ⟨by omega, fun _ => by omega⟩
  · have := h.low s hs h1
    exact ⟨by omega, fun q => by cases q⟩

theorem exists_low {x : Nat} (h0 : x ≠ 0) (h1 : x < 4096) : ∃ c, c < 12 ∧ x.testBit c = true := ⟨low x, low_lt x, low_bit h0 h1⟩

theorem RowOk.best {n lo hi : Nat} {row : List Nat} (h : RowOk n lo hi row) (h0 : lo ≠ 0) (h1 : lo < 4096) {s : Nat} (hs : s < 12) : bstUp row s 12 = n + if lo.testBit s then 0 else 1 := by
  obtain ⟨c, hc, hb⟩ := exists_low h0 h1
  have hle := bstUp_le row s c 12 hc
  rw [h.low c hc hb] at hle
  have hself := bstUp_self row s 12
  cases ht : lo.testBit s
  · have h2 := (h.ge hs).2 ht
    have hge := bstUp_ge row s (n + 1) h2 12 (fun j hj _ => by have := (h.ge hj).1; omega)
    simp
    omega
  · rw [h.low s hs ht] at hself
    have hge := bstUp_ge row s n (by rw [h.low s hs ht]; exact Nat.le_refl _) 12 (fun j hj _ => by have := (h.ge hj).1; omega)
    simp
    omega

/-- The least of a row over the states 0 to 'k'. -/
def minUp (row : List Nat) : Nat → Nat
  | 0 => row.getD 0 0
  | k + 1 => min (minUp row k) (row.getD (k + 1) 0)

theorem minUp_le (row : List Nat) (j : Nat) : ∀ k, j ≤ k → minUp row k ≤ row.getD j 0
  | 0, h => by
    obtain rfl : j = 0 := by omega
    exact Nat.le_refl _
  | k + 1, h => by
    unfold minUp
    by_cases hj : j = k + 1
    · subst hj; omega
    · have := minUp_le row j k (by omega)
      omega

theorem minUp_ge (row : List Nat) (m : Nat) : ∀ k, (∀ j, j ≤ k → m ≤ row.getD j 0) → m ≤ minUp row k
  | 0, h => h 0 (by omega)
  | k + 1, h => by
    have := minUp_ge row m k (fun j hj => h j (by omega))
    have := h (k + 1) (by omega)
    unfold minUp
    omega

theorem RowOk.least {n lo hi : Nat} {row : List Nat} (h : RowOk n lo hi row) (h0 : lo ≠ 0) (h1 : lo < 4096) : minUp row 11 = n := by
  obtain ⟨c, hc, hb⟩ := exists_low h0 h1
  have hle := minUp_le row c 11 (by omega)
  rw [h.low c hc hb] at hle
  have hge := minUp_ge row n 11 (fun j hj => (h.ge (show j < 12 by omega)).1)
  omega

/-! ## Each row is as the price tells -/

theorem bit12 {c : Nat} (h : c < 12) : (4095 : Nat).testBit c = true := by
  have : (4095 : Nat) = 2 ^ 12 - 1 := rfl
  rw [this, Nat.testBit_two_pow_sub_one]
  exact decide_eq_true h

theorem rowOk_leaf (rows : List (List Int)) (site : Nat) (out : List (List Nat)) (b : Br) (h : b.a = 0 ∧ b.b = 0) : RowOk 0 (leafSet (stateAt rows site b.leaf)) 0 (crow rows site out b) := by
  have hat : ∀ s, s < 12 → (crow rows site out b).getD s 0 = leafCost (stateAt rows site b.leaf) s := fun s hs => by
    rw [crow_at _ _ _ _ hs]
    unfold cellCost
    rw [if_pos h]
  refine ⟨crow_length _ _ _ _, fun s hs hl => ?_, fun s hs _ hh => by simp at hh, fun s hs hl _ => ?_, fun s hs => ?_⟩
  · rw [hat s hs]
    unfold leafCost
    rw [if_neg ((leafSet_bit _ s hs).1 hl)]
  · rw [hat s hs]
    unfold leafCost
    have hb := leafSet_bit (stateAt rows site b.leaf) s hs
    rw [hl] at hb
    simp only [Bool.false_eq_true, false_iff, Decidable.not_not] at hb
    rw [if_pos hb]
    omega
  · rw [hat s hs]
    unfold leafCost
    split <;> omega

theorem rowOk_and {rows : List (List Int)} {site : Nat} {out : List (List Nat)} {b : Br} (h : ¬ (b.a = 0 ∧ b.b = 0)) {na nb la ha lb hb : Nat} (pa : la ≠ 0 ∧ la < 4096) (pb : lb ≠ 0 ∧ lb < 4096)
    (ra : RowOk na la ha (out.getD b.a.toNat [])) (rb : RowOk nb lb hb (out.getD b.b.toNat [])) : RowOk (na + nb) (la &&& lb) (la ^^^ lb) (crow rows site out b) := by
  have hat : ∀ s, s < 12 → (crow rows site out b).getD s 0 = (na + if la.testBit s then 0 else 1) + (nb + if lb.testBit s then 0 else 1) := fun s hs => by
    rw [crow_at _ _ _ _ hs]
    unfold cellCost
    rw [if_neg h, ra.best pa.1 pa.2 hs, rb.best pb.1 pb.2 hs]
  refine ⟨crow_length _ _ _ _, fun s hs hl => ?_, fun s hs hl hh => ?_, fun s hs hl hh => ?_, fun s hs => ?_⟩
  · rw [hat s hs]
    rw [Nat.testBit_and] at hl
    cases h1 : la.testBit s <;> cases h2 : lb.testBit s <;> rw [h1, h2] at hl <;> simp at hl ⊢
  · rw [hat s hs]
    rw [Nat.testBit_and] at hl
    rw [Nat.testBit_xor] at hh
    cases h1 : la.testBit s <;> cases h2 : lb.testBit s <;> rw [h1, h2] at hl hh <;> simp at hl hh ⊢ <;> omega
  · rw [hat s hs]
    rw [Nat.testBit_and] at hl
    rw [Nat.testBit_xor] at hh
    cases h1 : la.testBit s <;> cases h2 : lb.testBit s <;> rw [h1, h2] at hl hh <;> simp at hl hh ⊢ <;> omega
  · rw [hat s hs]
    split <;> split <;> omega

theorem rowOk_or {rows : List (List Int)} {site : Nat} {out : List (List Nat)} {b : Br} (h : ¬ (b.a = 0 ∧ b.b = 0)) {na nb la ha lb hb : Nat} (pa : la ≠ 0 ∧ la < 4096) (pb : lb ≠ 0 ∧ lb < 4096) (hz : la &&& lb = 0)
    (ra : RowOk na la ha (out.getD b.a.toNat [])) (rb : RowOk nb lb hb (out.getD b.b.toNat [])) : RowOk (na + nb + 1) (la ||| lb) (4095 ^^^ (la ||| lb)) (crow rows site out b) := by
  have hat : ∀ s, s < 12 → (crow rows site out b).getD s 0 = (na + if la.testBit s then 0 else 1) + (nb + if lb.testBit s then 0 else 1) := fun s hs => by
    rw [crow_at _ _ _ _ hs]
    unfold cellCost
    rw [if_neg h, ra.best pa.1 pa.2 hs, rb.best pb.1 pb.2 hs]
  refine ⟨crow_length _ _ _ _, fun s hs hl => ?_, fun s hs hl hh => ?_, fun s hs hl hh => ?_, fun s hs => ?_⟩
  · rw [hat s hs]
    have hno := and_zero_bit hz s
    rw [Nat.testBit_or] at hl
    cases h1 : la.testBit s <;> cases h2 : lb.testBit s <;> rw [h1, h2] at hl hno <;> simp at hl hno ⊢ <;> omega
  · rw [hat s hs]
    rw [Nat.testBit_or] at hl
    cases h1 : la.testBit s <;> cases h2 : lb.testBit s <;> rw [h1, h2] at hl <;> simp at hl ⊢ <;> omega
  · rw [Nat.testBit_xor, hl, bit12 hs] at hh
    cases hh
  · rw [hat s hs]
    split <;> split <;> omega

/-- What holds while the branches are read. -/
structure SankOk (rows : List (List Int)) (site : Nat) (s : RS) (ps : List Pr) (out : List (List Nat)) : Prop where
  plen : ps.length = s.l.length
  len : out.length = s.l.length
  each : ∀ i, i < s.l.length → RowOk (fnum (fun k => stateAt rows site k) (s.l.getD i (.leaf 0))) (ps.getD i ⟨0, 0⟩).lo (ps.getD i ⟨0, 0⟩).hi (out.getD i []) ∧
    (ps.getD i ⟨0, 0⟩).lo = fset (fun k => stateAt rows site k) (s.l.getD i (.leaf 0)) ∧ fset (fun k => stateAt rows site k) (s.l.getD i (.leaf 0)) < 4096

theorem getD_left_pr (c : List Pr) (x : Pr) (i : Nat) (h : i < c.length) : (c ++ [x]).getD i ⟨0, 0⟩ = c.getD i ⟨0, 0⟩ := by simp [List.getD_eq_getElem?_getD, List.getElem?_append_left h]
theorem getD_last_pr (c : List Pr) (x : Pr) : (c ++ [x]).getD c.length ⟨0, 0⟩ = x := by simp [List.getD_eq_getElem?_getD]
theorem getD_left_row (c : List (List Nat)) (x : List Nat) (i : Nat) (h : i < c.length) : (c ++ [x]).getD i [] = c.getD i [] := by simp [List.getD_eq_getElem?_getD, List.getElem?_append_left h]
theorem getD_last_row (c : List (List Nat)) (x : List Nat) : (c ++ [x]).getD c.length [] = x := by simp [List.getD_eq_getElem?_getD]

theorem SankOk.step {rows : List (List Int)} {site : Nat} {leaves : Int} {s s' : RS} {ps : List Pr} {out : List (List Nat)} {b : Br} (hk : s.Ok leaves) (h : SankOk rows site s ps out) (hs : rdStep leaves s b = some s')
    (hst : ∀ k : Nat, (k : Int) < leaves → stateAt rows site k < 12) : SankOk rows site s' (pstep rows site ps b) (cstepR rows site out b) := by
  have hc := rdStep_case hs
  rw [pstep_new]
  unfold cstepR
  have hp := h.plen
  have hl := h.len
  have key : ∀ (T : NT), (RowOk (fnum (fun k => stateAt rows site k) T) (pnew rows site ps b).lo (pnew rows site ps b).hi (crow rows site out b) ∧ (pnew rows site ps b).lo = fset (fun k => stateAt rows site k) T ∧ fset (fun k => stateAt rows site k) T < 4096) →
      ∀ i, i < (s.l ++ [T]).length → RowOk (fnum (fun k => stateAt rows site k) ((s.l ++ [T]).getD i (.leaf 0))) ((ps ++ [pnew rows site ps b]).getD i ⟨0, 0⟩).lo ((ps ++ [pnew rows site ps b]).getD i ⟨0, 0⟩).hi ((out ++ [crow rows site out b]).getD i []) ∧
        ((ps ++ [pnew rows site ps b]).getD i ⟨0, 0⟩).lo = fset (fun k => stateAt rows site k) ((s.l ++ [T]).getD i (.leaf 0)) ∧ fset (fun k => stateAt rows site k) ((s.l ++ [T]).getD i (.leaf 0)) < 4096 := by
    intro T hT i hi
    simp only [List.length_append, List.length_cons, List.length_nil] at hi
    by_cases hil : i < s.l.length
    · rw [getD_left_nt _ _ _ hil, getD_left_pr _ _ _ (by omega), getD_left_row _ _ _ (by omega)]
      exact h.each i hil
    · obtain rfl : i = s.l.length := by omega
      rw [getD_last]
      rw [← hp, getD_last_pr, hp, ← hl, getD_last_row]
      exact hT
  cases hc with
  | leaf ha hb h0 h1 h2 =>
    refine ⟨by simp [hp], by simp [hl], key _ ?_⟩
    have e : pnew rows site ps b = ⟨leafSet (stateAt rows site b.leaf), 0⟩ := by unfold pnew; rw [if_pos (ha.trans hb.symm)]
    rw [e]
    have hx := hst b.leaf.toNat (by omega)
    rw [Int.toNat_of_nonneg h0] at hx
    simp only [fset, fnum]
    rw [Int.toNat_of_nonneg h0]
    exact ⟨rowOk_leaf rows site out b ⟨ha, hb⟩, rfl, leafSet_lt _ hx⟩
  | fork hh h0 hne ha hb =>
    have ka := hk.free _ ha
    have kb := hk.free _ hb
    refine ⟨by simp [hp], by simp [hl], key _ ?_⟩
    obtain ⟨ra, ea, sa⟩ := h.each b.a.toNat (by omega)
    obtain ⟨rb, eb, sb⟩ := h.each b.b.toNat (by omega)
    have za := fset_ne (fun k => stateAt rows site k) (s.l.getD b.a.toNat (.leaf 0))
    have zb := fset_ne (fun k => stateAt rows site k) (s.l.getD b.b.toNat (.leaf 0))
    rw [fset_mkFork, fnum_mkFork]
    unfold pnew
    rw [if_neg hne, ea, eb]
    rw [ea] at ra
    rw [eb] at rb
    by_cases hz : fset (fun k => stateAt rows site k) (s.l.getD b.a.toNat (.leaf 0)) &&& fset (fun k => stateAt rows site k) (s.l.getD b.b.toNat (.leaf 0)) = 0
    · rw [if_pos hz, if_pos hz, if_pos hz]
      exact ⟨rowOk_or hh ⟨za, sa⟩ ⟨zb, sb⟩ hz ra rb, rfl, Nat.or_lt_two_pow (n := 12) sa sb⟩
    · rw [if_neg hz, if_neg hz, if_neg hz]
      exact ⟨rowOk_and hh ⟨za, sa⟩ ⟨zb, sb⟩ ra rb, rfl, Nat.lt_of_le_of_lt Nat.and_le_left sa⟩

theorem sankOk_all {rows : List (List Int)} {site : Nat} {leaves : Int} (hst : ∀ k : Nat, (k : Int) < leaves → stateAt rows site k < 12) : ∀ (bs : List Br) (s s' : RS) (ps : List Pr) (out : List (List Nat)), s.Ok leaves → SankOk rows site s ps out → rdAll leaves s bs = some s' →
    SankOk rows site s' (bs.foldl (pstep rows site) ps) (bs.foldl (cstepR rows site) out)
  | [], s, s', ps, out, _, h, hs => by simp [rdAll] at hs; subst hs; exact h
  | b :: bs, s, s', ps, out, hk, h, hs => by
    simp only [rdAll] at hs
    obtain ⟨s1, h1, h2⟩ := Option.bind_eq_some_iff.1 hs
    exact sankOk_all hst bs s1 s' _ _ (hk.step h1).1 (h.step hk h1 hst) h2

theorem RdCase.sizes {leaves : Int} {s s' : RS} {b : Br} (hk : s.Ok leaves) (hc : RdCase leaves s b s') (h : ∀ i, i < s.l.length → (s.l.getD i (.leaf 0)).size + 1 ≤ 2 ^ (i + 1)) :
    ∀ i, i < s'.l.length → (s'.l.getD i (.leaf 0)).size + 1 ≤ 2 ^ (i + 1) := by
  have key : ∀ T : NT, T.size + 1 ≤ 2 ^ (s.l.length + 1) → ∀ i, i < (s.l ++ [T]).length → ((s.l ++ [T]).getD i (.leaf 0)).size + 1 ≤ 2 ^ (i + 1) := by
    intro T hT i hi
    simp only [List.length_append, List.length_cons, List.length_nil] at hi
    by_cases hil : i < s.l.length
    · rw [getD_left_nt _ _ _ hil]; exact h i hil
    · obtain rfl : i = s.l.length := by omega
      rw [getD_last]; exact hT
  cases hc with
  | leaf ha hb h0 h1 h2 =>
    refine key _ ?_
    have := Nat.two_pow_pos s.l.length
    rw [Nat.pow_succ]
    simp only [NT.size]
    omega
  | fork hh h0 hne ha hb =>
    have ka := hk.free _ ha
    have kb := hk.free _ hb
    refine key _ ?_
    rw [size_mkFork, Nat.pow_succ]
    have h1 := h b.a.toNat (by omega)
    have h2 := h b.b.toNat (by omega)
    have h3 : 2 ^ (b.a.toNat + 1) ≤ 2 ^ s.l.length := Nat.pow_le_pow_right (by decide) (by omega)
    have h4 : 2 ^ (b.b.toNat + 1) ≤ 2 ^ s.l.length := Nat.pow_le_pow_right (by decide) (by omega)
    omega

theorem parts_size {leaves : Int} : ∀ (bs : List Br) (s s' : RS), s.Ok leaves → (∀ i, i < s.l.length → (s.l.getD i (.leaf 0)).size + 1 ≤ 2 ^ (i + 1)) → rdAll leaves s bs = some s' → ∀ i, i < s'.l.length → (s'.l.getD i (.leaf 0)).size + 1 ≤ 2 ^ (i + 1)
  | [], s, s', _, h, hs => by simp [rdAll] at hs; subst hs; exact h
  | b :: bs, s, s', hk, h, hs => by
    simp only [rdAll] at hs
    obtain ⟨s1, h1, h2⟩ := Option.bind_eq_some_iff.1 hs
    exact parts_size bs s1 s' (hk.step h1).1 ((rdStep_case h1).sizes hk h) h2

/-- What the document's reckoning comes to. -/
theorem sank_each {rows : List (List Int)} (h : matOk rows = true) {site : Nat} (hs : site < wid rows) {bs : List Br} (ht : (rdTree (rows.length : Int) bs).isSome = true) :
    (∀ i, i < bs.length → ∃ n, RowOk n ((pall rows site bs).getD i ⟨0, 0⟩).lo ((pall rows site bs).getD i ⟨0, 0⟩).hi ((crows rows site bs).getD i []) ∧ n ≤ 8388608) ∧ minUp ((crows rows site bs).getD (bs.length - 1) []) 11 = (fall rows site bs).n := by
  obtain ⟨T, hT⟩ : ∃ T, rdRoot (rows.length : Int) bs = some T := by
    obtain ⟨ts, hl'⟩ := Option.isSome_iff_exists.1 ht
    exact ⟨_, by unfold rdRoot; rw [hl']; rfl⟩
  rw [fall_root hT]
  obtain ⟨ts, h1, rfl⟩ := Option.map_eq_some_iff.1 hT
  obtain ⟨a, b, c, hl, s, hrd, rfl, hf⟩ := rdTree_some h1
  have hst : ∀ k : Nat, (k : Int) < (rows.length : Int) → stateAt rows site k < 12 := fun k hk => by
    obtain ⟨_, _, _, _, h4⟩ := matOk_at h (leaf := (k : Int)) (by omega) hk hs
    exact h4
  have hok := sankOk_all hst bs _ s [] [] (RS.Ok.start _) ⟨rfl, rfl, fun i hi => by simp at hi⟩ hrd
  have hsz : ∀ T : NT, fnum (fun k => stateAt rows site k) T < T.size := by
    intro T
    induction T with
    | leaf k => simp [fnum, NT.size]
    | fork a b iha ihb =>
      simp only [fnum, NT.size]
      split <;> omega
  have hsum := rdAll_sum _ bs _ s (RS.Ok.start _) RS.Sum.start hrd
  have hbig := parts_size bs _ s (RS.Ok.start _) (fun i hi => by simp at hi) hrd
  refine ⟨fun i hi => ⟨_, (hok.each i (by omega)).1, ?_⟩, ?_⟩
  · have h2 := hsz (s.l.getD i (.leaf 0))
    have h3 := hbig i (by omega)
    have h4 : 2 ^ (i + 1) ≤ 2 ^ 23 := Nat.pow_le_pow_right (by decide) (by omega)
    have h5 : (2 : Nat) ^ 23 = 8388608 := rfl
    omega
  · obtain ⟨r1, r2, r3⟩ := hok.each (bs.length - 1) (by omega)
    have := r1.least (by rw [r2]; exact fset_ne _ _) (by rw [r2]; exact r3)
    show minUp (((bs.foldl (cstepR rows site) [])).getD (bs.length - 1) []) 11 = fnum _ (s.l.getD (s.l.length - 1) (.leaf 0))
    rw [this, hl]
end Go.Proofs.Ytbmlkomfelkckaa
