/- What fitch.States computes, in plain Lean. -/
import Derived.Test.YtbmlkomfelkckaaFitSpec
import Derived.Test.YtbmlkomfelkckaaLoB
namespace Go.Proofs.Ytbmlkomfelkckaa

structure Pr where
  lo : Nat
  hi : Nat

def pstep (rows : List (List Int)) (site : Nat) (ps : List Pr) (b : Br) : List Pr :=
  if b.a = b.b then ps ++ [⟨leafSet (stateAt rows site b.leaf), 0⟩]
  else if (ps.getD b.a.toNat ⟨0, 0⟩).lo &&& (ps.getD b.b.toNat ⟨0, 0⟩).lo = 0 then
    ps ++ [⟨(ps.getD b.a.toNat ⟨0, 0⟩).lo ||| (ps.getD b.b.toNat ⟨0, 0⟩).lo, 4095 ^^^ ((ps.getD b.a.toNat ⟨0, 0⟩).lo ||| (ps.getD b.b.toNat ⟨0, 0⟩).lo)⟩]
  else ps ++ [⟨(ps.getD b.a.toNat ⟨0, 0⟩).lo &&& (ps.getD b.b.toNat ⟨0, 0⟩).lo, (ps.getD b.a.toNat ⟨0, 0⟩).lo ^^^ (ps.getD b.b.toNat ⟨0, 0⟩).lo⟩]

def pall (rows : List (List Int)) (site : Nat) (bs : List Br) : List Pr := bs.foldl (pstep rows site) []

theorem pall_snoc (rows : List (List Int)) (site : Nat) (bs : List Br) (b : Br) : pall rows site (bs ++ [b]) = pstep rows site (pall rows site bs) b := by simp [pall]

/-- What holds of every price. -/
def Pr.Ok (p : Pr) : Prop := 0 < p.lo ∧ p.lo < 4096 ∧ p.hi < 4096

theorem leafSet_pos (x : Int) : 0 < leafSet x := by
  unfold leafSet
  split
  · exact Nat.two_pow_pos _
  · decide

theorem pstep_ok {rows : List (List Int)} (h : matOk rows = true) {site : Nat} (hs : site < wid rows) {ps : List Pr} {b : Br} (hb : b.a = b.b → 0 ≤ b.leaf ∧ b.leaf < rows.length)
    (hf : b.a ≠ b.b → b.a.toNat < ps.length ∧ b.b.toNat < ps.length) (hl : ∀ p ∈ ps, p.Ok) : ∀ p ∈ pstep rows site ps b, p.Ok := by
  have hg : ∀ k, k < ps.length → (ps.getD k ⟨0, 0⟩).Ok := by
    intro k hk
    rw [List.getD_eq_getElem?_getD, List.getElem?_eq_getElem hk]
    exact hl _ (List.getElem_mem hk)
  have key : ∀ q : Pr, q.Ok → ∀ p ∈ ps ++ [q], p.Ok := by
    intro q hq p hp
    simp only [List.mem_append, List.mem_singleton] at hp
    rcases hp with hp | rfl
    · exact hl p hp
    · exact hq
  unfold pstep
  split
  · rename_i hc
    obtain ⟨h0, h1⟩ := hb hc
    obtain ⟨r, _, _, _, h4⟩ := matOk_at h h0 h1 hs
    exact key _ ⟨leafSet_pos _, leafSet_lt _ h4, show (0 : Nat) < 4096 by decide⟩
  · rename_i hc
    obtain ⟨f1, f2⟩ := hf hc
    have g1 := hg _ f1
    have g2 := hg _ f2
    split
    · refine key _ ⟨Nat.lt_of_lt_of_le g1.1 Nat.left_le_or, Nat.or_lt_two_pow (n := 12) g1.2.1 g2.2.1, ?_⟩
      exact Nat.xor_lt_two_pow (n := 12) (by decide) (Nat.or_lt_two_pow (n := 12) g1.2.1 g2.2.1)
    · rename_i hz
      exact key _ ⟨Nat.pos_of_ne_zero hz, Nat.lt_of_le_of_lt Nat.and_le_left g1.2.1, Nat.xor_lt_two_pow (n := 12) g1.2.1 g2.2.1⟩

theorem pstep_length (rows : List (List Int)) (site : Nat) (ps : List Pr) (b : Br) : (pstep rows site ps b).length = ps.length + 1 := by
  unfold pstep
  split
  · simp
  · split <;> simp

/-- The states that are chosen, and those of the forks above, as far as they are known. -/
structure SS where
  l : List Int
  above : List Int

/-- What a branch of price 'p' may have, below a fork of state 'up'. -/
def ways (p : Pr) (root : Bool) (up : Nat) : Nat :=
  if root then p.lo
  else if p.lo &&& 2 ^ up ≠ 0 then 2 ^ up
  else if p.hi &&& 2 ^ up ≠ 0 then p.lo ||| 2 ^ up
  else p.lo

def sstep (bs : List Br) (ps : List Pr) (i : Nat) (s : SS) : SS :=
  let st : Int := (low (ways (ps.getD i ⟨0, 0⟩) (decide (i + 1 = bs.length)) (s.above.getD i 0).toNat) : Int)
  let b := bs.getD i ⟨0, 0, 0⟩
  if b.a = b.b then ⟨s.l.set i st, s.above⟩ else ⟨s.l.set i st, (s.above.set b.a.toNat st).set b.b.toNat st⟩

def spass (bs : List Br) (ps : List Pr) : Nat → SS → SS
  | 0, s => s
  | i + 1, s => spass bs ps i (sstep bs ps i s)

def statesOf (rows : List (List Int)) (site : Nat) (bs : List Br) : List Int :=
  (spass bs (pall rows site bs) bs.length ⟨List.replicate bs.length 0, List.replicate bs.length 0⟩).l

theorem ways_ok {p : Pr} (h : p.Ok) (root : Bool) (up : Nat) (hu : up < 12) : 0 < ways p root up ∧ ways p root up < 4096 := by
  have hp : 2 ^ up < 4096 := Nat.pow_lt_pow_right (by decide) (show up < 12 from hu)
  unfold ways
  split
  · exact ⟨h.1, h.2.1⟩
  · split
    · exact ⟨Nat.two_pow_pos _, hp⟩
    · split
      · exact ⟨Nat.lt_of_lt_of_le h.1 Nat.left_le_or, Nat.or_lt_two_pow (n := 12) h.2.1 hp⟩
      · exact ⟨h.1, h.2.1⟩

structure SS.Ok (n : Nat) (s : SS) : Prop where
  len : s.l.length = n
  alen : s.above.length = n
  above : ∀ x ∈ s.above, 0 ≤ x ∧ x < 12

theorem SS.Ok.start (n : Nat) : SS.Ok n ⟨List.replicate n 0, List.replicate n 0⟩ := ⟨by simp, by simp, fun x hx => by rw [(List.mem_replicate.1 hx).2]; decide⟩

theorem SS.Ok.at {n : Nat} {s : SS} (h : s.Ok n) (i : Nat) : 0 ≤ s.above.getD i 0 ∧ s.above.getD i 0 < 12 := by
  rw [List.getD_eq_getElem?_getD]
  cases hk : s.above[i]? with
  | none => simp
  | some y => exact h.above y (List.mem_of_getElem? hk)

theorem SS.Ok.step {n : Nat} {s : SS} (h : s.Ok n) (bs : List Br) (ps : List Pr) (i : Nat) : (sstep bs ps i s).Ok n := by
  have hl : ∀ x, (0 : Int) ≤ (low x : Int) ∧ (low x : Int) < 12 := fun x => ⟨by omega, by have := low_lt x; omega⟩
  unfold sstep
  simp only
  split
  · exact ⟨by simp [h.len], h.alen, h.above⟩
  · refine ⟨by simp [h.len], by simp [h.alen], fun x hx => ?_⟩
    rcases List.mem_or_eq_of_mem_set hx with hx | rfl
    · rcases List.mem_or_eq_of_mem_set hx with hx | rfl
      · exact h.above x hx
      · exact hl _
    · exact hl _
end Go.Proofs.Ytbmlkomfelkckaa
