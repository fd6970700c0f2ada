/- The least changes as a function of the whole tree, and their bounds: no less than the states less one, no more than the known leaves outside any one state. -/
import Derived.Test.YtbmlkomfelkckaaRoot
namespace Go.Proofs.Ytbmlkomfelkckaa

/-- The states that a part's top may have, and its changes. -/
def fset (st : Nat → Int) : NT → Nat
  | .leaf k => leafSet (st k)
  | .fork a b => if fset st a &&& fset st b = 0 then fset st a ||| fset st b else fset st a &&& fset st b

def fnum (st : Nat → Int) : NT → Nat
  | .leaf _ => 0
  | .fork a b => if fset st a &&& fset st b = 0 then fnum st a + fnum st b + 1 else fnum st a + fnum st b

theorem fset_mkFork (st : Nat → Int) (a b : NT) : fset st (mkFork a b) = if fset st a &&& fset st b = 0 then fset st a ||| fset st b else fset st a &&& fset st b := by
  unfold mkFork
  split
  · simp only [fset]
    rw [Nat.and_comm, Nat.or_comm]
  · rfl

theorem fnum_mkFork (st : Nat → Int) (a b : NT) : fnum st (mkFork a b) = if fset st a &&& fset st b = 0 then fnum st a + fnum st b + 1 else fnum st a + fnum st b := by
  unfold mkFork
  split
  · simp only [fnum]
    rw [Nat.and_comm, Nat.add_comm (fnum st b)]
  · rfl

/-- What was reckoned branch by branch is what the parts are. -/
structure FallOk (rows : List (List Int)) (site : Nat) (s : RS) (f : FS) : Prop where
  sets : f.sets = s.l.map (fset fun k => stateAt rows site k)
  n : f.n = wsum (fnum fun k => stateAt rows site k) s.l s.free

theorem getD_map_fset (st : Nat → Int) (l : List NT) (k : Int) (h0 : 0 ≤ k) (h : k < l.length) : (l.map (fset st)).getD k.toNat 0 = fset st (l.getD k.toNat (.leaf 0)) := by
  have : k.toNat < l.length := by omega
  simp [List.getD_eq_getElem?_getD, this]

theorem FallOk.step {rows : List (List Int)} {site : Nat} {leaves : Int} {s s' : RS} {f : FS} {b : Br} (hk : s.Ok leaves) (h : FallOk rows site s f) (hs : rdStep leaves s b = some s') : FallOk rows site s' (fstep rows site f b) := by
  have hc := rdStep_case hs
  have hw := wsum_step hk hc (fnum fun k => stateAt rows site k)
  unfold fstep
  cases hc with
  | leaf ha hb h0 h1 h2 =>
    rw [if_pos (by rw [ha, hb])]
    refine ⟨?_, ?_⟩
    · rw [List.map_append, ← h.sets]
      show _ = _ ++ [leafSet (stateAt rows site (b.leaf.toNat : Nat))]
      rw [Int.toNat_of_nonneg h0]
    · rcases hw with ⟨_, hw⟩ | ⟨hw, _⟩
      · simp only [fnum] at hw
        rw [hw, ← h.n]; rfl
      · have := congrArg List.getLast? hw
        simp at this
        unfold mkFork at this
        split at this <;> cases this
  | fork hh h0 hne ha hb =>
    rw [if_neg hne]
    have ka := hk.free _ ha
    have kb := hk.free _ hb
    rcases hw with ⟨hw, _⟩ | ⟨_, hw⟩
    · have := congrArg List.getLast? hw
      simp at this
      unfold mkFork at this
      split at this <;> cases this
    · rw [h.sets, getD_map_fset _ _ _ ka.1 ka.2, getD_map_fset _ _ _ kb.1 kb.2]
      rw [fnum_mkFork] at hw
      have hn := h.n
      by_cases hz : fset (fun k => stateAt rows site k) (s.l.getD b.a.toNat (.leaf 0)) &&& fset (fun k => stateAt rows site k) (s.l.getD b.b.toNat (.leaf 0)) = 0
      · rw [if_pos hz]
        rw [if_pos hz] at hw
        refine ⟨?_, ?_⟩
        · simp only [List.map_append, List.map_cons, List.map_nil, fset_mkFork]
          rw [if_pos hz]
        · show f.n + 1 = _
          omega
      · rw [if_neg hz]
        rw [if_neg hz] at hw
        refine ⟨?_, ?_⟩
        · simp only [List.map_append, List.map_cons, List.map_nil, fset_mkFork]
          rw [if_neg hz]
        · show f.n = _
          omega

theorem fallOk_all (rows : List (List Int)) (site : Nat) (leaves : Int) : ∀ (bs : List Br) (s s' : RS) (f : FS), s.Ok leaves → FallOk rows site s f → rdAll leaves s bs = some s' → FallOk rows site s' (bs.foldl (fstep rows site) f)
  | [], s, s', f, _, h, hs => by simp [rdAll] at hs; subst hs; exact h
  | b :: bs, s, s', f, hk, h, hs => by
    simp only [rdAll] at hs
    obtain ⟨s1, h1, h2⟩ := Option.bind_eq_some_iff.1 hs
    exact fallOk_all rows site leaves bs s1 s' _ (hk.step h1).1 (h.step hk h1) h2

/-- The changes, by the whole tree. -/
theorem fall_root {rows : List (List Int)} {site : Nat} {leaves : Int} {bs : List Br} {T : NT} (h : rdRoot leaves bs = some T) : (fall rows site bs).n = fnum (fun k => stateAt rows site k) T := by
  obtain ⟨l, h1, rfl⟩ := Option.map_eq_some_iff.1 h
  obtain ⟨a, b, c, hl, s, hs, rfl, hf⟩ := rdTree_some h1
  have := (fallOk_all rows site leaves bs _ s ⟨[], 0⟩ (RS.Ok.start leaves) ⟨rfl, rfl⟩ hs).n
  unfold fall
  rw [this, hf]
  simp only [wsum, List.map_cons, List.map_nil, List.sum_cons, List.sum_nil, Int.toNat_natCast, Nat.add_zero]
  rw [hl]

/-! ## Bounds -/

/-- The known leaves outside a state. -/
def outs (st : Nat → Int) (c : Nat) (l : List Nat) : Nat := l.countP fun k => decide (0 ≤ st k ∧ st k ≠ c)

theorem leafSet_bit (x : Int) (c : Nat) (hc : c < 12) : (leafSet x).testBit c = true ↔ ¬ (0 ≤ x ∧ x ≠ c) := by
  unfold leafSet
  by_cases hx : 0 ≤ x
  · rw [if_pos hx, Nat.testBit_two_pow]
    simp only [decide_eq_true_eq]
    omega
  · rw [if_neg hx]
    have : (4095 : Nat).testBit c = true := by
      have : (4095 : Nat) = 2 ^ 12 - 1 := rfl
      rw [this, Nat.testBit_two_pow_sub_one]
      simpa using hc
    simp [this]
    omega

theorem and_zero_bit {x y : Nat} (h : x &&& y = 0) (c : Nat) : ¬ (x.testBit c = true ∧ y.testBit c = true) := by
  intro ⟨h1, h2⟩
  have := Nat.testBit_and x y c
  rw [h, h1, h2] at this
  simp at this

/-- No more changes than the known leaves outside a state. -/
theorem fnum_le (st : Nat → Int) (c : Nat) (hc : c < 12) : ∀ T : NT, ((fset st T).testBit c = true → fnum st T ≤ outs st c T.leaves) ∧ ((fset st T).testBit c = false → fnum st T + 1 ≤ outs st c T.leaves)
  | .leaf k => by
    have := leafSet_bit (st k) c hc
    refine ⟨fun _ => Nat.zero_le _, fun h => ?_⟩
    simp only [fset] at h
    have h1 : 0 ≤ st k ∧ st k ≠ c := Decidable.by_contra fun q => by rw [this.2 q] at h; cases h
    simp [fnum, NT.leaves, outs, h1.1, h1.2]
  | .fork a b => by
    obtain ⟨a1, a2⟩ := fnum_le st c hc a
    obtain ⟨b1, b2⟩ := fnum_le st c hc b
    have hs : outs st c (NT.fork a b).leaves = outs st c a.leaves + outs st c b.leaves := by simp [outs, NT.leaves]
    rw [hs]
    simp only [fset, fnum]
    by_cases hz : fset st a &&& fset st b = 0
    · rw [if_pos hz, if_pos hz, Nat.testBit_or]
      have hb := and_zero_bit hz c
      cases ha' : (fset st a).testBit c <;> cases hb' : (fset st b).testBit c <;> simp_all <;> omega
    · rw [if_neg hz, if_neg hz, Nat.testBit_and]
      cases ha' : (fset st a).testBit c <;> cases hb' : (fset st b).testBit c <;> simp_all <;> omega

theorem fnum_outs (st : Nat → Int) (c : Nat) (hc : c < 12) (T : NT) : fnum st T ≤ outs st c T.leaves := by
  obtain ⟨h1, h2⟩ := fnum_le st c hc T
  cases h : (fset st T).testBit c
  · have := h2 h; omega
  · exact h1 h

theorem exists_bit {x : Nat} (h : x ≠ 0) : ∃ c, x.testBit c = true := by
  refine Classical.byContradiction fun q => h (Nat.eq_of_testBit_eq fun i => ?_)
  rw [Nat.zero_testBit]
  cases hx : x.testBit i
  · rfl
  · exact absurd ⟨i, hx⟩ q

theorem leafSet_ne (x : Int) : leafSet x ≠ 0 := by
  unfold leafSet
  split
  · exact Nat.ne_of_gt (Nat.two_pow_pos _)
  · decide

theorem fset_ne (st : Nat → Int) : ∀ T : NT, fset st T ≠ 0
  | .leaf k => leafSet_ne _
  | .fork a b => by
    simp only [fset]
    split
    · intro h
      obtain ⟨c, hc⟩ := exists_bit (fset_ne st a)
      have := Nat.testBit_or (fset st a) (fset st b) c
      rw [h, hc] at this
      simp at this
    · assumption

/-- The states among the leaves, without one. -/
def kinds (st : Nat → Int) (l : List Nat) (c : Nat) : Nat := (List.range 12).countP fun s => decide (s ≠ c) && l.any fun k => decide (st k = s)

theorem countP_or_le (p q : Nat → Bool) : ∀ l : List Nat, l.countP (fun s => p s || q s) ≤ l.countP p + l.countP q
  | [] => by simp
  | x :: l => by
    have := countP_or_le p q l
    simp only [List.countP_cons]
    cases p x <;> cases q x <;> simp <;> omega

theorem kinds_add (st : Nat → Int) (l1 l2 : List Nat) (c : Nat) : kinds st (l1 ++ l2) c ≤ kinds st l1 c + kinds st l2 c := by
  refine Nat.le_trans ?_ (countP_or_le _ _ _)
  refine Nat.le_of_eq ?_
  unfold kinds
  congr 1
  funext s
  rw [List.any_append, Bool.and_or_distrib_left]

theorem countP_one (c : Nat) : ∀ l : List Nat, l.Nodup → l.countP (fun s => decide (s = c)) ≤ 1 := fun l h => by
  have := List.nodup_iff_count.1 h c
  unfold List.count at this
  refine Nat.le_trans (Nat.le_of_eq ?_) this
  congr 1

theorem kinds_ne (st : Nat → Int) (l : List Nat) (c d : Nat) : kinds st l c ≤ kinds st l d + 1 := by
  have h1 : kinds st l c ≤ (List.range 12).countP (fun s => (decide (s ≠ d) && l.any fun k => decide (st k = s)) || decide (s = d)) := by
    unfold kinds
    refine List.countP_mono_left (fun s _ h => ?_)
    by_cases hs : s = d
    · simp [hs]
    · simp only [Bool.and_eq_true] at h
      simp [hs, h.2]
  have h2 := countP_or_le (fun s => decide (s ≠ d) && l.any fun k => decide (st k = s)) (fun s => decide (s = d)) (List.range 12)
  have h3 := countP_one d _ (List.nodup_range (n := 12))
  unfold kinds at *
  omega

theorem kinds_le (st : Nat → Int) : ∀ (T : NT) (c : Nat), (fset st T).testBit c = true → kinds st T.leaves c ≤ fnum st T
  | .leaf k, c, h => by
    simp only [fnum, NT.leaves, kinds, Nat.le_zero_eq, List.countP_eq_zero, List.mem_range, List.any_cons, List.any_nil, Bool.or_false]
    intro s hs
    simp only [Bool.and_eq_true, decide_eq_true_eq, not_and]
    intro h1 h2
    simp only [fset, leafSet, h2] at h
    rw [if_pos (by omega), Nat.testBit_two_pow] at h
    simp at h
    omega
  | .fork a b, c, h => by
    have hadd := kinds_add st a.leaves b.leaves c
    simp only [fset] at h
    simp only [fnum, NT.leaves]
    by_cases hz : fset st a &&& fset st b = 0
    · rw [if_pos hz, Nat.testBit_or] at h
      rw [if_pos hz]
      simp only [Bool.or_eq_true] at h
      rcases h with h | h
      · have h1 := kinds_le st a c h
        obtain ⟨d, hd⟩ := exists_bit (fset_ne st b)
        have h2 := kinds_le st b d hd
        have h3 := kinds_ne st b.leaves c d
        omega
      · have h1 := kinds_le st b c h
        obtain ⟨d, hd⟩ := exists_bit (fset_ne st a)
        have h2 := kinds_le st a d hd
        have h3 := kinds_ne st a.leaves c d
        omega
    · rw [if_neg hz, Nat.testBit_and] at h
      rw [if_neg hz]
      simp only [Bool.and_eq_true] at h
      have h1 := kinds_le st a c h.1
      have h2 := kinds_le st b c h.2
      omega

/-- As many kinds as there are, less one, are changes. -/
theorem kinds_fnum (st : Nat → Int) (T : NT) : (List.range 12).countP (fun s : Nat => T.leaves.any fun k => decide (st k = (s : Int))) ≤ fnum st T + 1 := by
  obtain ⟨c, hc⟩ := exists_bit (fset_ne st T)
  have h := kinds_le st T c hc
  have h2 := kinds_ne st T.leaves 12 c
  have h3 : kinds st T.leaves 12 = (List.range 12).countP (fun s : Nat => T.leaves.any fun k => decide (st k = (s : Int))) := by
    unfold kinds
    refine List.countP_congr (fun s hs => ?_)
    have := List.mem_range.1 hs
    simp
    omega
  omega
end Go.Proofs.Ytbmlkomfelkckaa
