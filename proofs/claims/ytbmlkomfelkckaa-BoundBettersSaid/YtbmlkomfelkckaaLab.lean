/- States laid on the branches, and their changes: no fewer than the least changes. -/
import Derived.Test.YtbmlkomfelkckaaBnd
namespace Go.Proofs.Ytbmlkomfelkckaa

def at0 (l : List Int) (i : Nat) : Int := l.getD i 0
def dif (l : List Int) (i j : Nat) : Nat := if at0 l j = at0 l i then 0 else 1

/-- The changes at a branch. -/
def ownCost (l : List Int) (i : Nat) (b : Br) : Nat := if b.a = 0 ∧ b.b = 0 then 0 else dif l i b.a.toNat + dif l i b.b.toNat

/-- The changes of the first branches together. -/
def costUp (l : List Int) (bs : List Br) : Nat → Nat
  | 0 => 0
  | k + 1 => costUp l bs k + match bs[k]? with
    | some b => ownCost l k b
    | none => 0

structure CS where
  cs : List Nat
  n : Nat

/-- The changes below each branch, and all. -/
def cstep (l : List Int) (s : CS) (b : Br) : CS :=
  ⟨s.cs ++ [if b.a = 0 ∧ b.b = 0 then 0 else s.cs.getD b.a.toNat 0 + s.cs.getD b.b.toNat 0 + ownCost l s.cs.length b], s.n + ownCost l s.cs.length b⟩

def call (l : List Int) (bs : List Br) : CS := bs.foldl (cstep l) ⟨[], 0⟩

theorem call_snoc (l : List Int) (bs : List Br) (b : Br) : call l (bs ++ [b]) = cstep l (call l bs) b := by simp [call]

theorem call_len (l : List Int) : ∀ (bs : List Br) (s : CS), (bs.foldl (cstep l) s).cs.length = s.cs.length + bs.length
  | [], s => rfl
  | b :: bs, s => by
    rw [List.foldl_cons, call_len l bs]
    simp [cstep]
    omega

theorem call_n (l : List Int) (bs : List Br) : ∀ k, k ≤ bs.length → (call l (bs.take k)).n = costUp l bs k
  | 0, _ => by simp [call, costUp]
  | k + 1, h => by
    have hb : bs[k]? = some (bs[k]'(by omega)) := List.getElem?_eq_getElem (by omega)
    rw [show bs.take (k + 1) = bs.take k ++ [bs[k]'(by omega)] by rw [List.take_add_one, hb]; rfl, call_snoc, costUp, hb]
    have h2 := call_len l (bs.take k) ⟨[], 0⟩
    have h3 : (call l (bs.take k)).cs.length = k := by
      unfold call
      rw [h2]
      simp
      omega
    unfold cstep
    rw [h3, call_n l bs k (by omega)]

/-- The sum of what is told of the free places. -/
def psum (c : List Nat) (fr : List Int) : Nat := (fr.map fun k => c.getD k.toNat 0).sum

theorem psum_erase (c : List Nat) (a : Int) : ∀ fr : List Int, a ∈ fr → psum c (fr.erase a) + c.getD a.toNat 0 = psum c fr
  | [], h => by simp at h
  | x :: fr, h => by
    by_cases hx : x = a
    · subst hx
      simp [psum, -List.getD_eq_getElem?_getD]
      omega
    · have ha : a ∈ fr := by
        rcases List.mem_cons.1 h with h | h
        · exact absurd h.symm hx
        · exact h
      rw [List.erase_cons_tail (by simpa using hx)]
      have ih := psum_erase c a fr ha
      simp only [psum, List.map_cons, List.sum_cons] at ih ⊢
      omega

theorem psum_snoc (c : List Nat) (x : Nat) (fr : List Int) (h : ∀ k ∈ fr, 0 ≤ k ∧ k < c.length) : psum (c ++ [x]) fr = psum c fr := by
  unfold psum
  congr 1
  refine List.map_congr_left (fun k hk => ?_)
  have := h k hk
  rw [List.getD_eq_getElem?_getD, List.getD_eq_getElem?_getD, List.getElem?_append_left (by omega)]

theorem psum_add (c : List Nat) (fr : List Int) (k : Int) : psum c (fr ++ [k]) = psum c fr + c.getD k.toNat 0 := by simp [psum]

theorem getD_last_nat (c : List Nat) (x : Nat) : (c ++ [x]).getD c.length 0 = x := by simp [List.getD_eq_getElem?_getD]
theorem getD_left_nat (c : List Nat) (x i : Nat) (h : i < c.length) : (c ++ [x]).getD i 0 = c.getD i 0 := by simp [List.getD_eq_getElem?_getD, List.getElem?_append_left h]
theorem getD_left_nt (c : List NT) (x : NT) (i : Nat) (h : i < c.length) : (c ++ [x]).getD i (.leaf 0) = c.getD i (.leaf 0) := by simp [List.getD_eq_getElem?_getD, List.getElem?_append_left h]

/-- What was reckoned is told of the free parts; and something is told of every part. -/
structure CostOk (P : Nat → NT → Nat → Prop) (s : RS) (c : CS) : Prop where
  len : c.cs.length = s.l.length
  sum : c.n = psum c.cs s.free
  each : ∀ i, i < s.l.length → P i (s.l.getD i (.leaf 0)) (c.cs.getD i 0)

theorem CostOk.step {P : Nat → NT → Nat → Prop} {leaves : Int} {l : List Int} {s s' : RS} {c : CS} {b : Br} (hk : s.Ok leaves) (h : CostOk P s c) (hs : rdStep leaves s b = some s')
    (hleaf : ∀ k : Nat, b.a = 0 → b.b = 0 → b.leaf = (k : Int) → (k : Int) < leaves → P s.l.length (.leaf k) 0)
    (hfork : ∀ ta tb ca cb, ¬ (b.a = 0 ∧ b.b = 0) → b.a.toNat < s.l.length → b.b.toNat < s.l.length → P b.a.toNat ta ca → P b.b.toNat tb cb → P s.l.length (mkFork ta tb) (ca + cb + (dif l s.l.length b.a.toNat + dif l s.l.length b.b.toNat))) :
    CostOk P s' (cstep l c b) := by
  have hc := rdStep_case hs
  have hlen := h.len
  cases hc with
  | leaf ha hb h0 h1 h2 =>
    have e : ownCost l c.cs.length b = 0 := by unfold ownCost; rw [if_pos ⟨ha, hb⟩]
    unfold cstep
    rw [e, if_pos ⟨ha, hb⟩]
    refine ⟨by simp [hlen], ?_, fun i hi => ?_⟩
    · simp only []
      rw [psum_add, psum_snoc _ _ _ (by rw [hlen]; exact hk.free), Int.toNat_natCast, ← hlen, getD_last_nat, h.sum]
    · simp only [List.length_append, List.length_cons, List.length_nil] at hi
      by_cases hil : i < s.l.length
      · rw [getD_left_nt _ _ _ hil, getD_left_nat _ _ _ (by omega)]
        exact h.each i hil
      · obtain rfl : i = s.l.length := by omega
        rw [getD_last]
        rw [← hlen, getD_last_nat, hlen]
        exact hleaf b.leaf.toNat ha hb (by omega) (by omega)
  | fork hh h0 hne ha hb =>
    have ka := hk.free _ ha
    have kb := hk.free _ hb
    have hb' : b.b ∈ s.free.erase b.a := (List.mem_erase_of_ne (Ne.symm hne)).2 hb
    have e : ownCost l c.cs.length b = dif l s.l.length b.a.toNat + dif l s.l.length b.b.toNat := by unfold ownCost; rw [if_neg hh, hlen]
    unfold cstep
    rw [e, if_neg hh]
    refine ⟨by simp [hlen], ?_, fun i hi => ?_⟩
    · simp only []
      rw [psum_add, psum_snoc _ _ _ (fun k hk' => by rw [hlen]; exact hk.free k (List.mem_of_mem_erase (List.mem_of_mem_erase hk'))), Int.toNat_natCast, ← hlen, getD_last_nat, h.sum]
      have e1 := psum_erase c.cs b.a s.free ha
      have e2 := psum_erase c.cs b.b (s.free.erase b.a) hb'
      rw [hlen]
      omega
    · simp only [List.length_append, List.length_cons, List.length_nil] at hi
      by_cases hil : i < s.l.length
      · rw [getD_left_nt _ _ _ hil, getD_left_nat _ _ _ (by omega)]
        exact h.each i hil
      · obtain rfl : i = s.l.length := by omega
        rw [getD_last]
        rw [← hlen, getD_last_nat, hlen]
        exact hfork _ _ _ _ hh (by omega) (by omega) (h.each b.a.toNat (by omega)) (h.each b.b.toNat (by omega))

theorem costOk_all {P : Nat → NT → Nat → Prop} {leaves : Int} {l : List Int} (cs : List Br)
    (hleaf : ∀ (i k : Nat) (b : Br), cs[i]? = some b → b.a = 0 → b.b = 0 → b.leaf = (k : Int) → (k : Int) < leaves → P i (.leaf k) 0)
    (hfork : ∀ (i : Nat) (b : Br) ta tb ca cb, cs[i]? = some b → ¬ (b.a = 0 ∧ b.b = 0) → b.a.toNat < i → b.b.toNat < i → P b.a.toNat ta ca → P b.b.toNat tb cb → P i (mkFork ta tb) (ca + cb + (dif l i b.a.toNat + dif l i b.b.toNat))) :
    ∀ (bs : List Br) (s s' : RS) (c : CS), (∀ j, bs[j]? = cs[s.l.length + j]?) → s.Ok leaves → CostOk P s c → rdAll leaves s bs = some s' → CostOk P s' (bs.foldl (cstep l) c)
  | [], s, s', c, _, _, h, hs => by simp [rdAll] at hs; subst hs; exact h
  | b :: bs, s, s', c, hcs, hk, h, hs => by
    simp only [rdAll] at hs
    obtain ⟨s1, h1, h2⟩ := Option.bind_eq_some_iff.1 hs
    have hb : cs[s.l.length]? = some b := by have := hcs 0; simpa using this.symm
    have hl := (hk.step h1).2
    refine costOk_all cs hleaf hfork bs s1 s' _ (fun j => ?_) (hk.step h1).1 (h.step hk h1 (fun k => hleaf _ k b hb) (fun ta tb ca cb => hfork _ b ta tb ca cb hb)) h2
    have := hcs (j + 1)
    rw [hl, show s.l.length + 1 + j = s.l.length + (j + 1) by omega, ← this]
    simp

/-- What is told of every part is told of the whole tree and of all changes. -/
theorem cost_root {P : Nat → NT → Nat → Prop} {leaves : Int} {l : List Int} {bs : List Br} {T : NT} (h : rdRoot leaves bs = some T)
    (hleaf : ∀ (i k : Nat) (b : Br), bs[i]? = some b → b.a = 0 → b.b = 0 → b.leaf = (k : Int) → (k : Int) < leaves → P i (.leaf k) 0)
    (hfork : ∀ (i : Nat) (b : Br) ta tb ca cb, bs[i]? = some b → ¬ (b.a = 0 ∧ b.b = 0) → b.a.toNat < i → b.b.toNat < i → P b.a.toNat ta ca → P b.b.toNat tb cb → P i (mkFork ta tb) (ca + cb + (dif l i b.a.toNat + dif l i b.b.toNat))) :
    P (bs.length - 1) T (costUp l bs bs.length) := by
  obtain ⟨ts, h1, rfl⟩ := Option.map_eq_some_iff.1 h
  obtain ⟨a, b, c, hl, s, hs, rfl, hf⟩ := rdTree_some h1
  have hlen := (rdAll_ok leaves bs _ s (RS.Ok.start leaves) hs).2
  have ok := costOk_all (P := P) (l := l) bs hleaf hfork bs _ s ⟨[], 0⟩ (fun j => by simp) (RS.Ok.start leaves) ⟨rfl, rfl, fun i hi => by simp at hi⟩ hs
  have hn : (bs.foldl (cstep l) ⟨[], 0⟩).n = costUp l bs bs.length := by
    have := call_n l bs bs.length (Nat.le_refl _)
    rwa [List.take_length] at this
  rw [← hn, ok.sum, hf]
  have h3 : 0 < bs.length := by omega
  simp only [List.length_nil, Nat.zero_add] at hlen
  have := ok.each (bs.length - 1) (by omega)
  simp only [psum, List.map_cons, List.map_nil, List.sum_cons, List.sum_nil, Int.toNat_natCast, Nat.add_zero]
  rw [hlen]
  exact this

/-! ## No fewer -/

def LowAt (st : Nat → Int) (l : List Int) (i : Nat) (T : NT) (c : Nat) : Prop :=
  ((fset st T).testBit (at0 l i).toNat = true → fnum st T ≤ c) ∧ ((fset st T).testBit (at0 l i).toNat = false → fnum st T + 1 ≤ c)

/-- States that fit: each is one, and a known leaf has its own. -/
structure Fits (rows : List (List Int)) (site : Nat) (bs : List Br) (l : List Int) : Prop where
  range : ∀ i, i < bs.length → 0 ≤ at0 l i ∧ at0 l i < 12
  own : ∀ (i : Nat) (b : Br), bs[i]? = some b → b.a = 0 → b.b = 0 → 0 ≤ stateAt rows site b.leaf → at0 l i = stateAt rows site b.leaf

theorem low_fork {st : Nat → Int} {l : List Int} {i j k : Nat} {ta tb : NT} {ca cb : Nat} (_hi : 0 ≤ at0 l i) (hj : 0 ≤ at0 l j) (hk : 0 ≤ at0 l k) (ha : LowAt st l j ta ca) (hb : LowAt st l k tb cb) : LowAt st l i (mkFork ta tb) (ca + cb + (dif l i j + dif l i k)) := by
  have key : ∀ (j : Nat) (t : NT) (c : Nat), 0 ≤ at0 l j → LowAt st l j t c → ((fset st t).testBit (at0 l i).toNat = true → fnum st t ≤ c + dif l i j) ∧ ((fset st t).testBit (at0 l i).toNat = false → fnum st t + 1 ≤ c + dif l i j) := by
    intro j t c hj h
    unfold dif
    by_cases he : at0 l j = at0 l i
    · rw [if_pos he]
      unfold LowAt at h
      rw [he] at h
      exact h
    · rw [if_neg he]
      obtain ⟨h1, h2⟩ := h
      cases hc : (fset st t).testBit (at0 l j).toNat
      · have := h2 hc
        exact ⟨fun _ => by omega, fun _ => by omega⟩
      · have := h1 hc
        exact ⟨fun _ => by omega, fun _ => by omega⟩
  obtain ⟨a1, a2⟩ := key j ta ca hj ha
  obtain ⟨b1, b2⟩ := key k tb cb hk hb
  clear key ha hb _hi hj hk
  unfold LowAt
  rw [fset_mkFork, fnum_mkFork]
  by_cases hz : fset st ta &&& fset st tb = 0
  · rw [if_pos hz, if_pos hz, Nat.testBit_or]
    have hb := and_zero_bit hz (at0 l i).toNat
    cases ha' : (fset st ta).testBit (at0 l i).toNat <;> cases hb' : (fset st tb).testBit (at0 l i).toNat <;> simp_all <;> omega
  · rw [if_neg hz, if_neg hz, Nat.testBit_and]
    cases ha' : (fset st ta).testBit (at0 l i).toNat <;> cases hb' : (fset st tb).testBit (at0 l i).toNat <;> simp_all <;> omega

/-- No states that fit have fewer changes. -/
theorem cost_least {rows : List (List Int)} {site : Nat} {leaves : Int} {bs : List Br} {T : NT} {l : List Int} (h : rdRoot leaves bs = some T) (hl : Fits rows site bs l) : fnum (fun k => stateAt rows site k) T ≤ costUp l bs bs.length := by
  have := cost_root (P := LowAt (fun k => stateAt rows site k) l) (l := l) h (fun i k b hb h1 h2 h3 _ => ?_) (fun i b ta tb ca cb hb h1 h2 h3 h4 h5 => ?_)
  · obtain ⟨h1, h2⟩ := this
    cases hc : (fset (fun k => stateAt rows site k) T).testBit (at0 l (bs.length - 1)).toNat
    · have := h2 hc; omega
    · exact h1 hc
  · have hi := (List.getElem?_eq_some_iff.1 hb).1
    have hr := hl.range i hi
    have hbit := leafSet_bit (stateAt rows site k) (at0 l i).toNat (by omega)
    have ho := hl.own i b hb h1 h2
    rw [h3] at ho
    refine ⟨fun _ => Nat.le_refl _, fun hf => ?_⟩
    simp only [fset] at hf
    rw [hf] at hbit
    simp only [Bool.false_eq_true, false_iff, Decidable.not_not] at hbit
    have := ho hbit.1
    omega
  · have hi := (List.getElem?_eq_some_iff.1 hb).1
    exact low_fork (hl.range i hi).1 (hl.range _ (by omega)).1 (hl.range _ (by omega)).1 h4 h5
end Go.Proofs.Ytbmlkomfelkckaa
