/- The states that the document's reckoning picks are those that fitch.States tells. In plain Lean. -/
import Derived.Test.YtbmlkomfelkckaaDoorBest
namespace Go.Proofs.YtbmlkomfelkckaaDoor

/-- The first of the least values of 'f' at 0 to 'k'. -/
def pickUp (f : Nat → Nat) : Nat → Nat
  | 0 => 0
  | k + 1 => if f (k + 1) < f (pickUp f k) then k + 1 else pickUp f k

theorem pickUp_bound (f : Nat → Nat) : ∀ k, pickUp f k ≤ k
  | 0 => Nat.le_refl _
  | k + 1 => by
    have := pickUp_bound f k
    unfold pickUp
    split <;> omega

theorem pickUp_min (f : Nat → Nat) : ∀ k i, i ≤ k → f (pickUp f k) ≤ f i
  | 0, i, h => by
    obtain rfl : i = 0 := by omega
    exact Nat.le_refl _
  | k + 1, i, h => by
    unfold pickUp
    by_cases hi : i = k + 1
    · subst hi
      split <;> omega
    · have := pickUp_min f k i (by omega)
      split <;> omega

theorem pickUp_first (f : Nat → Nat) : ∀ k i, i < pickUp f k → f (pickUp f k) < f i
  | 0, i, h => by simp [pickUp] at h
  | k + 1, i, h => by
    unfold pickUp at h ⊢
    by_cases hc : f (k + 1) < f (pickUp f k)
    · rw [if_pos hc] at h ⊢
      have := pickUp_min f k i (by omega)
      omega
    · rw [if_neg hc] at h ⊢
      exact pickUp_first f k i h

theorem pickUp_low {f : Nat → Nat} {m x : Nat} (h0 : x ≠ 0) (h1 : x < 4096) (hbit : ∀ i, i < 12 → (x.testBit i = true ↔ f i = m)) (hge : ∀ i, i < 12 → m ≤ f i) : pickUp f 11 = low x := by
  have hl := low_lt x
  have hb := low_bit h0 h1
  have e1 := (hbit _ hl).1 hb
  have p1 := pickUp_bound f 11
  have p2 := pickUp_min f 11 (low x) (by omega)
  have p3 := hge (pickUp f 11) (by omega)
  have p4 := (hbit (pickUp f 11) (by omega)).2 (by omega)
  have p5 := low_le p4 (by omega)
  by_cases hlt : low x < pickUp f 11
  · have := pickUp_first f 11 _ hlt
    omega
  · omega

theorem ways_root {p : Pr} {up : Nat} : ways p true up = p.lo := by
  unfold ways
  rw [if_pos rfl]

/-- One branch's pick. -/
theorem pick_ways {n : Nat} {p : Pr} {row : List Nat} (h : RowOk n p.lo p.hi row) (hp : p.Ok) (root : Bool) (up : Int) (hr : root = true → up = -1) (hu : root = false → 0 ≤ up ∧ up < 12) :
    pickUp (fun k => row.getD k 0 + dfr k up) 11 = low (ways p root up.toNat) := by
  obtain ⟨q1, q2, q3⟩ := hp
  cases root with
  | true =>
    rw [ways_root]
    have e := hr rfl
    have hd : ∀ k, dfr k up = 0 := fun k => by unfold dfr; rw [if_pos (.inl (by omega))]
    refine pickUp_low (m := n) (Nat.ne_of_gt q1) q2 (fun i hi => ?_) (fun i hi => ?_)
    · show _ ↔ row.getD i 0 + dfr i up = n
      rw [hd]
      have := h.ge hi
      cases hb : p.lo.testBit i
      · have := this.2 hb
        simp only [Bool.false_eq_true, false_iff]
        omega
      · have := h.low i hi hb
        simp only [true_iff]
        omega
    · show n ≤ row.getD i 0 + dfr i up
      have := (h.ge hi).1
      omega
  | false =>
    obtain ⟨u0, u1⟩ := hu rfl
    obtain ⟨u, rfl⟩ : ∃ u : Nat, up = (u : Int) := ⟨up.toNat, by omega⟩
    rw [Int.toNat_natCast]
    have hu12 : u < 12 := by omega
    have hd : ∀ k : Nat, dfr k (u : Int) = if k = u then 0 else 1 := fun k => by
      unfold dfr
      by_cases e : k = u
      · rw [if_pos (.inr (by omega)), if_pos e]
      · rw [if_neg (by omega), if_neg e]
    have hpow : 2 ^ u < 2 ^ 12 := Nat.pow_lt_pow_right (by decide) hu12
    unfold ways
    rw [if_neg (by decide)]
    by_cases c1 : p.lo.testBit u = true
    · rw [if_pos ((and_pow_ne _ _).2 c1)]
      refine pickUp_low (m := n) (Nat.ne_of_gt (Nat.two_pow_pos _)) hpow (fun i hi => ?_) (fun i hi => ?_)
      · show _ ↔ row.getD i 0 + dfr i (u : Int) = n
        rw [hd, Nat.testBit_two_pow]
        by_cases e : i = u
        · subst e
          rw [h.low i hi c1]
          simp
        · have := (h.ge hi).1
          rw [if_neg e]
          simp only [decide_eq_true_eq]
          constructor
          · intro q; omega
          · intro q; omega
      · show n ≤ row.getD i 0 + dfr i (u : Int)
        have := (h.ge hi).1
        omega
    · rw [if_neg (fun q => c1 ((and_pow_ne _ _).1 q))]
      have c1' : p.lo.testBit u = false := by simpa using c1
      have hgu := (h.ge hu12).2 c1'
      have hge : ∀ i, i < 12 → n + 1 ≤ row.getD i 0 + dfr i (u : Int) := by
        intro i hi
        rw [hd]
        by_cases e : i = u
        · subst e; omega
        · rw [if_neg e]
          have := (h.ge hi).1
          omega
      have hlow : ∀ i, i < 12 → i ≠ u → (p.lo.testBit i = true ↔ row.getD i 0 + dfr i (u : Int) = n + 1) := by
        intro i hi e
        rw [hd, if_neg e]
        cases hb : p.lo.testBit i
        · have := (h.ge hi).2 hb
          simp only [Bool.false_eq_true, false_iff]
          omega
        · have := h.low i hi hb
          simp only [true_iff]
          omega
      by_cases c2 : p.hi.testBit u = true
      · rw [if_pos ((and_pow_ne _ _).2 c2)]
        refine pickUp_low (m := n + 1) (Nat.ne_of_gt (Nat.lt_of_lt_of_le q1 Nat.left_le_or)) (Nat.or_lt_two_pow (n := 12) q2 hpow) (fun i hi => ?_) hge
        show _ ↔ row.getD i 0 + dfr i (u : Int) = n + 1
        rw [Nat.testBit_or, Nat.testBit_two_pow]
        by_cases e : i = u
        · subst e
          rw [hd, if_pos rfl, h.high i hi c1' c2]
          simp
        · rw [← hlow i hi e]
          have : decide (u = i) = false := decide_eq_false (fun q => e q.symm)
          rw [this, Bool.or_false]
      · rw [if_neg (fun q => c2 ((and_pow_ne _ _).1 q))]
        have c2' : p.hi.testBit u = false := by simpa using c2
        refine pickUp_low (m := n + 1) (Nat.ne_of_gt q1) q2 (fun i hi => ?_) hge
        show _ ↔ row.getD i 0 + dfr i (u : Int) = n + 1
        by_cases e : i = u
        · subst e
          have := h.rest i hi c1' c2'
          rw [c1']
          simp only [Bool.false_eq_true, false_iff]
          omega
        · exact hlow i hi e

/-! ## From the root down -/

def rcost (C : List (List Nat)) (i : Nat) (up : Int) (k : Nat) : Nat := (C.getD i []).getD k 0 + dfr k up

def rstep (bs : List Br) (C : List (List Nat)) (i : Nat) (s : SS) : SS :=
  if (bs.getD i ⟨0, 0, 0⟩).a = 0 ∧ (bs.getD i ⟨0, 0, 0⟩).b = 0 then ⟨s.l.set i ((pickUp (rcost C i (s.above.getD i 0)) 11 : Nat) : Int), s.above⟩
  else ⟨s.l.set i ((pickUp (rcost C i (s.above.getD i 0)) 11 : Nat) : Int), (s.above.set (bs.getD i ⟨0, 0, 0⟩).a.toNat ((pickUp (rcost C i (s.above.getD i 0)) 11 : Nat) : Int)).set (bs.getD i ⟨0, 0, 0⟩).b.toNat ((pickUp (rcost C i (s.above.getD i 0)) 11 : Nat) : Int)⟩

def rpass (bs : List Br) (C : List (List Nat)) : Nat → SS → SS
  | 0, s => s
  | i + 1, s => rpass bs C i (rstep bs C i s)

/-- What the two ways share. -/
structure Twin (n : Nat) (s r : SS) : Prop where
  ok : s.Ok n
  l : r.l = s.l
  above : r.above = s.above.set (n - 1) (-1)

theorem Twin.step {rows : List (List Int)} {site : Nat} {bs : List Br} {n i : Nat} {s r : SS} (h : Twin n s r) (hn : bs.length = n) (hi : i < n) (hok : BrOk rows.length bs) (hm : matOk rows = true) (hsi : site < wid rows)
    (hrow : ∃ m, RowOk m ((pall rows site bs).getD i ⟨0, 0⟩).lo ((pall rows site bs).getD i ⟨0, 0⟩).hi ((crows rows site bs).getD i [])) : Twin n (sstep bs (pall rows site bs) i s) (rstep bs (crows rows site bs) i r) := by
  obtain ⟨m, hrow⟩ := hrow
  have hp := pall_at hm hsi hok (i := i) (by omega)
  obtain ⟨b, hb⟩ : ∃ b, bs[i]? = some b := ⟨_, List.getElem?_eq_getElem (by omega)⟩
  have hbd : bs.getD i ⟨0, 0, 0⟩ = b := by rw [List.getD_eq_getElem?_getD, hb]; rfl
  have hal : s.above.length = n := h.ok.alen
  have hat := h.ok.at i
  have hab : r.above.getD i 0 = if i = n - 1 then -1 else s.above.getD i 0 := by
    rw [h.above, getD_set_int _ _ _ (by omega)]
  have hpick : pickUp (rcost (crows rows site bs) i (r.above.getD i 0)) 11 = low (ways ((pall rows site bs).getD i ⟨0, 0⟩) (decide (i + 1 = bs.length)) (s.above.getD i 0).toNat) := by
    have e : rcost (crows rows site bs) i (r.above.getD i 0) = fun k => ((crows rows site bs).getD i []).getD k 0 + dfr k (r.above.getD i 0) := rfl
    rw [e]
    by_cases hl : i = n - 1
    · rw [if_pos hl] at hab
      rw [hab, decide_eq_true (show i + 1 = bs.length by omega), pick_ways hrow hp true (-1) (fun _ => rfl) (fun q => by cases q), ways_root, ways_root]
    · rw [if_neg hl] at hab
      rw [hab, decide_eq_false (show ¬ i + 1 = bs.length by omega), pick_ways hrow hp false _ (fun q => by cases q) (fun _ => hat)]
  have hlf := brOk_leaf hok hb
  have hst := h.ok.step bs (pall rows site bs) i
  unfold rstep
  unfold sstep at hst ⊢
  rw [hpick]
  simp only [hbd] at hst ⊢
  generalize low (ways ((pall rows site bs).getD i ⟨0, 0⟩) (decide (i + 1 = bs.length)) (s.above.getD i 0).toNat) = st at *
  by_cases hab' : b.a = b.b
  · rw [if_pos hab'] at hst ⊢
    rw [if_pos (hlf.1 hab')]
    exact ⟨hst, by rw [h.l], h.above⟩
  · rw [if_neg hab'] at hst ⊢
    rw [if_neg (fun q => hab' (hlf.2 q))]
    refine ⟨hst, by rw [h.l], ?_⟩
    have hk : b.a.toNat < i ∧ b.b.toNat < i := by
      rcases hok i b hb with q | q
      · exact absurd (q.1.trans q.2.1.symm) hab'
      · omega
    show (r.above.set b.a.toNat (st : Int)).set b.b.toNat (st : Int) = ((s.above.set b.a.toNat (st : Int)).set b.b.toNat (st : Int)).set (n - 1) (-1)
    rw [h.above, List.set_comm (i := n - 1) (j := b.a.toNat) _ _ (by omega), List.set_comm (i := n - 1) (j := b.b.toNat) _ _ (by omega)]

theorem twin_pass {rows : List (List Int)} {site : Nat} {bs : List Br} {n : Nat} (hn : bs.length = n) (hok : BrOk rows.length bs) (hm : matOk rows = true) (hsi : site < wid rows)
    (hrow : ∀ i, i < n → ∃ m, RowOk m ((pall rows site bs).getD i ⟨0, 0⟩).lo ((pall rows site bs).getD i ⟨0, 0⟩).hi ((crows rows site bs).getD i [])) :
    ∀ (j : Nat) (s r : SS), j ≤ n → Twin n s r → Twin n (spass bs (pall rows site bs) j s) (rpass bs (crows rows site bs) j r)
  | 0, _, _, _, h => h
  | j + 1, _, _, hj, h => twin_pass hn hok hm hsi hrow j _ _ (by omega) (h.step hn (by omega) hok hm hsi (hrow j (by omega)))

def rstart (n : Nat) : SS := ⟨List.replicate n 0, (List.replicate n 0).set (n - 1) (-1)⟩

theorem rstates_eq {rows : List (List Int)} (h : matOk rows = true) {site : Nat} (hs : site < wid rows) {bs : List Br} (ht : (rdTree (rows.length : Int) bs).isSome = true) :
    (rpass bs (crows rows site bs) bs.length (rstart bs.length)).l = statesOf rows site bs := by
  obtain ⟨hr, _⟩ := sank_each h hs ht
  have := twin_pass (rows := rows) (site := site) rfl (brOk_of ht) h hs (fun i hi => by obtain ⟨m, hm, _⟩ := hr i hi; exact ⟨m, hm⟩) bs.length ⟨List.replicate bs.length 0, List.replicate bs.length 0⟩ (rstart bs.length) (Nat.le_refl _) ⟨SS.Ok.start _, rfl, rfl⟩
  exact this.l

/-- What holds of the forks' states while they are told. -/
structure ROk (n : Nat) (s : SS) : Prop where
  len : s.l.length = n
  alen : s.above.length = n
  above : ∀ x ∈ s.above, -1 ≤ x ∧ x < 12

theorem ROk.start (n : Nat) : ROk n (rstart n) := by
  refine ⟨by simp [rstart], by simp [rstart], fun x hx => ?_⟩
  rcases List.mem_or_eq_of_mem_set hx with hx | rfl
  · rw [(List.mem_replicate.1 hx).2]; decide
  · decide

theorem ROk.step {n : Nat} {s : SS} (h : ROk n s) (bs : List Br) (C : List (List Nat)) (i : Nat) : ROk n (rstep bs C i s) := by
  have hl : ∀ f, (-1 : Int) ≤ ((pickUp f 11 : Nat) : Int) ∧ ((pickUp f 11 : Nat) : Int) < 12 := fun f => by have := pickUp_bound f 11; omega
  unfold rstep
  split
  · exact ⟨by simp [h.len], h.alen, h.above⟩
  · refine ⟨by simp [h.len], by simp [h.alen], fun x hx => ?_⟩
    rcases List.mem_or_eq_of_mem_set hx with hx | rfl
    · rcases List.mem_or_eq_of_mem_set hx with hx | rfl
      · exact h.above x hx
      · exact hl _
    · exact hl _
end Go.Proofs.YtbmlkomfelkckaaDoor
