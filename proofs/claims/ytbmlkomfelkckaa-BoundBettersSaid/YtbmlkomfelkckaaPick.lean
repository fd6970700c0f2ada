/- The states that fitch.States tells: they fit, and have just the least changes. -/
import Derived.Test.YtbmlkomfelkckaaLab
import Derived.Test.YtbmlkomfelkckaaStSpec
namespace Go.Proofs.Ytbmlkomfelkckaa

theorem low_bit {x : Nat} (h0 : x ≠ 0) (h1 : x < 4096) : x.testBit (low x) = true := by
  unfold low
  cases h : (List.range 12).find? fun k => x.testBit k with
  | some k => simpa using List.find?_some h
  | none =>
    exfalso
    obtain ⟨c, hc⟩ := exists_bit h0
    have h2 := List.find?_eq_none.1 h
    by_cases hc12 : c < 12
    · exact h2 c (List.mem_range.2 hc12) hc
    · have : x < 2 ^ c := Nat.lt_of_lt_of_le h1 (show 2 ^ 12 ≤ 2 ^ c from Nat.pow_le_pow_right (by decide) (by omega))
      rw [Nat.testBit_lt_two_pow this] at hc
      cases hc

theorem find_le (x : Nat) (k : Nat) (hk : x.testBit k = true) : ∀ (n s : Nat), s ≤ k → k < s + n → ∃ j, (List.range' s n).find? (fun i => x.testBit i) = some j ∧ j ≤ k
  | 0, s, h1, h2 => by omega
  | n + 1, s, h1, h2 => by
    rw [List.range'_succ, List.find?_cons]
    by_cases hs : x.testBit s = true
    · rw [hs]
      exact ⟨s, rfl, h1⟩
    · have hs' : x.testBit s = false := by simpa using hs
      rw [hs']
      have : s ≠ k := fun e => hs (e ▸ hk)
      exact find_le x k hk n (s + 1) (by omega) (by omega)

theorem low_le {x k : Nat} (hk : x.testBit k = true) (h : k < 12) : low x ≤ k := by
  obtain ⟨j, h1, h2⟩ := find_le x k hk 12 0 (by omega) (by omega)
  unfold low
  rw [List.range_eq_range', h1]
  exact h2

theorem low_pow (k : Nat) (h : k < 12) : low (2 ^ k) = k := by
  have h1 := low_bit (x := 2 ^ k) (Nat.ne_of_gt (Nat.two_pow_pos k)) (show 2 ^ k < 2 ^ 12 from Nat.pow_lt_pow_right (by decide) h)
  rw [Nat.testBit_two_pow] at h1
  simpa using (of_decide_eq_true h1).symm

/-! ## Each branch hangs from one other -/

theorem gone_stays {leaves : Int} {x : Int} : ∀ (bs : List Br) (s s' : RS), s.Ok leaves → x ∉ s.free → x < s.l.length → rdAll leaves s bs = some s' → ∀ b ∈ bs, ¬ (b.a = 0 ∧ b.b = 0) → b.a ≠ x ∧ b.b ≠ x
  | [], _, _, _, _, _, _, b, hb, _ => by simp at hb
  | c :: bs, s, s', hk, hx, hl, hs, b, hb, hf => by
    simp only [rdAll] at hs
    obtain ⟨s1, h1, h2⟩ := Option.bind_eq_some_iff.1 hs
    have hk1 := hk.step h1
    have hc := rdStep_case h1
    rcases List.mem_cons.1 hb with rfl | hb
    · cases hc with
      | leaf ha hb h0 h1 h2 => exact absurd ⟨ha, hb⟩ hf
      | fork h h0 hne ha hb => exact ⟨fun e => hx (e ▸ ha), fun e => hx (e ▸ hb)⟩
    · refine gone_stays bs s1 s' hk1.1 ?_ (by rw [hk1.2]; omega) h2 b hb hf
      cases hc with
      | leaf ha hb h0 h1 h2 =>
        simp only [List.mem_append, List.mem_singleton, not_or]
        exact ⟨hx, by omega⟩
      | fork h h0 hne ha hb =>
        simp only [List.mem_append, List.mem_singleton, not_or]
        exact ⟨fun q => hx (List.mem_of_mem_erase (List.mem_of_mem_erase q)), by omega⟩

theorem parents_apart {leaves : Int} : ∀ (bs : List Br) (s s' : RS), s.Ok leaves → rdAll leaves s bs = some s' → ∀ (i j : Nat) (x y : Br), i < j → bs[i]? = some x → bs[j]? = some y → ¬ (x.a = 0 ∧ x.b = 0) → ¬ (y.a = 0 ∧ y.b = 0) → x.a ≠ y.a ∧ x.a ≠ y.b ∧ x.b ≠ y.a ∧ x.b ≠ y.b
  | [], _, _, _, _, i, j, x, y, _, hi, _, _, _ => by simp at hi
  | c :: bs, s, s', hk, hs, 0, j, x, y, hij, hi, hj, hx, hy => by
    simp only [rdAll] at hs
    obtain ⟨s1, h1, h2⟩ := Option.bind_eq_some_iff.1 hs
    have hk1 := hk.step h1
    have hc := rdStep_case h1
    obtain rfl : c = x := by simpa using hi
    obtain ⟨j', rfl⟩ : ∃ j', j = j' + 1 := ⟨j - 1, by omega⟩
    have hm : y ∈ bs := List.mem_of_getElem? (by simpa using hj)
    cases hc with
    | leaf ha hb h0 h1 h2 => exact absurd ⟨ha, hb⟩ hx
    | fork h h0 hne ha hb =>
      have ka := hk.free _ ha
      have kb := hk.free _ hb
      have hn1 : (s.free.erase c.a).Nodup := hk.nodup.erase _
      have ga : c.a ∉ (s.free.erase c.a).erase c.b ++ [(s.l.length : Int)] := by
        rw [List.mem_append, List.mem_singleton, hn1.mem_erase_iff, hk.nodup.mem_erase_iff]
        omega
      have gb : c.b ∉ (s.free.erase c.a).erase c.b ++ [(s.l.length : Int)] := by
        rw [List.mem_append, List.mem_singleton, hn1.mem_erase_iff]
        omega
      have q1 := gone_stays bs _ s' hk1.1 ga (by rw [hk1.2]; omega) h2 y hm hy
      have q2 := gone_stays bs _ s' hk1.1 gb (by rw [hk1.2]; omega) h2 y hm hy
      exact ⟨fun e => q1.1 e.symm, fun e => q1.2 e.symm, fun e => q2.1 e.symm, fun e => q2.2 e.symm⟩
  | c :: bs, s, s', hk, hs, i + 1, j, x, y, hij, hi, hj, hx, hy => by
    simp only [rdAll] at hs
    obtain ⟨s1, h1, h2⟩ := Option.bind_eq_some_iff.1 hs
    obtain ⟨j', rfl⟩ : ∃ j', j = j' + 1 := ⟨j - 1, by omega⟩
    exact parents_apart bs s1 s' (hk.step h1).1 h2 i j' x y (by omega) (by simpa using hi) (by simpa using hj) hx hy

/-! ## The prices, branch by branch -/

/-- A branch's price, out of those before it. -/
def pnew (rows : List (List Int)) (site : Nat) (ps : List Pr) (b : Br) : Pr :=
  if b.a = b.b then ⟨leafSet (stateAt rows site b.leaf), 0⟩
  else if (ps.getD b.a.toNat ⟨0, 0⟩).lo &&& (ps.getD b.b.toNat ⟨0, 0⟩).lo = 0 then
    ⟨(ps.getD b.a.toNat ⟨0, 0⟩).lo ||| (ps.getD b.b.toNat ⟨0, 0⟩).lo, 4095 ^^^ ((ps.getD b.a.toNat ⟨0, 0⟩).lo ||| (ps.getD b.b.toNat ⟨0, 0⟩).lo)⟩
  else ⟨(ps.getD b.a.toNat ⟨0, 0⟩).lo &&& (ps.getD b.b.toNat ⟨0, 0⟩).lo, (ps.getD b.a.toNat ⟨0, 0⟩).lo ^^^ (ps.getD b.b.toNat ⟨0, 0⟩).lo⟩

theorem pstep_new (rows : List (List Int)) (site : Nat) (ps : List Pr) (b : Br) : pstep rows site ps b = ps ++ [pnew rows site ps b] := by
  unfold pstep pnew
  split
  · rfl
  · split <;> rfl

theorem pall_len (rows : List (List Int)) (site : Nat) : ∀ (bs : List Br) (ps : List Pr), (bs.foldl (pstep rows site) ps).length = ps.length + bs.length
  | [], _ => rfl
  | b :: bs, ps => by
    rw [List.foldl_cons, pall_len rows site bs, pstep_length]
    simp only [List.length_cons]
    omega

theorem pall_more (rows : List (List Int)) (site : Nat) : ∀ (bs : List Br) (ps : List Pr), ∃ qs, bs.foldl (pstep rows site) ps = ps ++ qs
  | [], ps => ⟨[], by simp⟩
  | b :: bs, ps => by
    obtain ⟨qs, h⟩ := pall_more rows site bs (pstep rows site ps b)
    refine ⟨pnew rows site ps b :: qs, ?_⟩
    rw [List.foldl_cons, h, pstep_new]
    simp

theorem pnew_more (rows : List (List Int)) (site : Nat) (ps qs : List Pr) (b : Br) (h : b.a ≠ b.b → b.a.toNat < ps.length ∧ b.b.toNat < ps.length) : pnew rows site (ps ++ qs) b = pnew rows site ps b := by
  unfold pnew
  by_cases hab : b.a = b.b
  · rw [if_pos hab, if_pos hab]
  · obtain ⟨h1, h2⟩ := h hab
    have e : ∀ k, k < ps.length → (ps ++ qs).getD k ⟨0, 0⟩ = ps.getD k ⟨0, 0⟩ := fun k hk => by simp [List.getD_eq_getElem?_getD, List.getElem?_append_left hk]
    rw [e _ h1, e _ h2]

theorem pall_get {rows : List (List Int)} {site : Nat} {bs : List Br} {i : Nat} {b : Br} (hb : bs[i]? = some b) (h : b.a ≠ b.b → b.a.toNat < i ∧ b.b.toNat < i) :
    (pall rows site bs).getD i ⟨0, 0⟩ = pnew rows site (pall rows site bs) b := by
  have hi := (List.getElem?_eq_some_iff.1 hb).1
  have hsplit : bs = bs.take i ++ b :: bs.drop (i + 1) := by
    have h1 := List.take_append_drop i bs
    rw [List.drop_eq_getElem_cons hi] at h1
    have h2 : bs[i] = b := by
      have := List.getElem?_eq_getElem hi
      rw [hb] at this
      exact (Option.some.inj this).symm
    rw [h2] at h1
    exact h1.symm
  have hlen : (pall rows site (bs.take i)).length = i := by
    unfold pall
    rw [pall_len]
    simp
    omega
  have hp : pall rows site bs = (bs.drop (i + 1)).foldl (pstep rows site) (pall rows site (bs.take i) ++ [pnew rows site (pall rows site (bs.take i)) b]) := by
    conv => lhs; rw [hsplit]
    unfold pall
    rw [List.foldl_append, List.foldl_cons, pstep_new]
  obtain ⟨qs, hq⟩ := pall_more rows site (bs.drop (i + 1)) (pall rows site (bs.take i) ++ [pnew rows site (pall rows site (bs.take i)) b])
  rw [hq] at hp
  rw [hp, List.append_assoc, pnew_more rows site _ _ b (by rw [hlen]; exact h), List.getD_eq_getElem?_getD, List.getElem?_append_right (by omega), hlen]
  simp

/-! ## What is told of the states -/

/-- Each state is the least of the ways that its branch has, below the state of its fork. -/
structure Picked (bs : List Br) (ps : List Pr) (l : List Int) : Prop where
  len : l.length = bs.length
  range : ∀ i, 0 ≤ at0 l i ∧ at0 l i < 12
  kid : ∀ (i : Nat) (b : Br), bs[i]? = some b → b.a ≠ b.b → at0 l b.a.toNat = (low (ways (ps.getD b.a.toNat ⟨0, 0⟩) false (at0 l i).toNat) : Int) ∧ at0 l b.b.toNat = (low (ways (ps.getD b.b.toNat ⟨0, 0⟩) false (at0 l i).toNat) : Int)
  root : 0 < bs.length → at0 l (bs.length - 1) = (low (ps.getD (bs.length - 1) ⟨0, 0⟩).lo : Int)

/-- What holds while the states are told, from the last branch down to 'j'. -/
structure PickTo (bs : List Br) (ps : List Pr) (j : Nat) (s : SS) : Prop where
  ok : s.Ok bs.length
  range : ∀ i, 0 ≤ at0 s.l i ∧ at0 s.l i < 12
  said : ∀ i, j ≤ i → i < bs.length → at0 s.l i = (low (ways (ps.getD i ⟨0, 0⟩) (decide (i + 1 = bs.length)) (s.above.getD i 0).toNat) : Int)
  above : ∀ (i : Nat) (b : Br), j ≤ i → bs[i]? = some b → b.a ≠ b.b → s.above.getD b.a.toNat 0 = at0 s.l i ∧ s.above.getD b.b.toNat 0 = at0 s.l i

theorem getD_set_int (l : List Int) (i : Nat) (x : Int) (hi : i < l.length) (q : Nat) : (l.set i x).getD q 0 = if q = i then x else l.getD q 0 := by
  rw [List.getD_eq_getElem?_getD, List.getD_eq_getElem?_getD, List.getElem?_set]
  by_cases h : q = i
  · subst h; simp [hi]
  · rw [if_neg (fun e => h e.symm), if_neg h]

theorem PickTo.step {bs : List Br} {ps : List Pr} {j : Nat} {s : SS} (h : PickTo bs ps (j + 1) s) (hj : j < bs.length)
    (hkid : ∀ (i : Nat) (b : Br), bs[i]? = some b → b.a ≠ b.b → b.a.toNat < i ∧ b.b.toNat < i)
    (hapart : ∀ (i k : Nat) (x y : Br), i < k → bs[i]? = some x → bs[k]? = some y → x.a ≠ x.b → y.a ≠ y.b → x.a.toNat ≠ y.a.toNat ∧ x.a.toNat ≠ y.b.toNat ∧ x.b.toNat ≠ y.a.toNat ∧ x.b.toNat ≠ y.b.toNat) :
    PickTo bs ps j (sstep bs ps j s) := by
  have hok := h.ok.step bs ps j
  obtain ⟨b, hb⟩ : ∃ b, bs[j]? = some b := ⟨_, List.getElem?_eq_getElem hj⟩
  have hbd : bs.getD j ⟨0, 0, 0⟩ = b := by rw [List.getD_eq_getElem?_getD, hb]; rfl
  obtain ⟨st, hst⟩ : ∃ st : Nat, low (ways (ps.getD j ⟨0, 0⟩) (decide (j + 1 = bs.length)) (s.above.getD j 0).toNat) = st := ⟨_, rfl⟩
  have hst12 : st < 12 := by rw [← hst]; exact low_lt _
  have hl : ∀ q, at0 (s.l.set j (st : Int)) q = if q = j then (st : Int) else at0 s.l q := fun q => getD_set_int _ _ _ (by rw [h.ok.len]; exact hj) q
  have hrange : ∀ i, 0 ≤ at0 (s.l.set j (st : Int)) i ∧ at0 (s.l.set j (st : Int)) i < 12 := by
    intro i
    rw [hl]
    split
    · omega
    · exact h.range i
  unfold sstep at hok ⊢
  simp only [hst, hbd] at hok ⊢
  by_cases hab : b.a = b.b
  · rw [if_pos hab] at hok ⊢
    refine ⟨hok, hrange, fun i h1 h2 => ?_, fun i x h1 hx hxf => ?_⟩
    · show at0 (s.l.set j (st : Int)) i = _
      rw [hl]
      by_cases hij : i = j
      · subst hij; rw [if_pos rfl, hst]
      · rw [if_neg hij]; exact h.said i (by omega) h2
    · show _ = at0 (s.l.set j (st : Int)) i ∧ _ = at0 (s.l.set j (st : Int)) i
      have hij : i ≠ j := fun e => by
        subst e
        rw [hb] at hx
        cases hx
        exact hxf hab
      rw [hl, if_neg hij]
      exact h.above i x (by omega) hx hxf
  · rw [if_neg hab] at hok ⊢
    obtain ⟨ka, kb⟩ := hkid j b hb hab
    have ha1 : ∀ q, ((s.above.set b.a.toNat (st : Int)).set b.b.toNat (st : Int)).getD q 0 = if q = b.b.toNat then (st : Int) else if q = b.a.toNat then (st : Int) else s.above.getD q 0 := fun q => by
      rw [getD_set_int _ _ _ (by rw [List.length_set, h.ok.alen]; omega), getD_set_int _ _ _ (by rw [h.ok.alen]; omega)]
    refine ⟨hok, hrange, fun i h1 h2 => ?_, fun i x h1 hx hxf => ?_⟩
    · show at0 (s.l.set j (st : Int)) i = (low (ways _ _ (((s.above.set b.a.toNat (st : Int)).set b.b.toNat (st : Int)).getD i 0).toNat) : Int)
      rw [ha1, if_neg (show ¬ i = b.b.toNat by omega), if_neg (show ¬ i = b.a.toNat by omega), hl]
      by_cases hij : i = j
      · subst hij; rw [if_pos rfl, hst]
      · rw [if_neg hij]; exact h.said i (by omega) h2
    · show ((s.above.set b.a.toNat (st : Int)).set b.b.toNat (st : Int)).getD x.a.toNat 0 = at0 (s.l.set j (st : Int)) i ∧ ((s.above.set b.a.toNat (st : Int)).set b.b.toNat (st : Int)).getD x.b.toNat 0 = at0 (s.l.set j (st : Int)) i
      rw [hl, ha1, ha1]
      by_cases hij : i = j
      · subst hij
        rw [hb] at hx
        cases hx
        rw [if_pos rfl, if_pos rfl, if_pos rfl]
        refine ⟨?_, rfl⟩
        split <;> rfl
      · obtain ⟨n1, n2, n3, n4⟩ := hapart j i b x (by omega) hb hx hab hxf
        rw [if_neg hij, if_neg (Ne.symm n3), if_neg (Ne.symm n1), if_neg (Ne.symm n4), if_neg (Ne.symm n2)]
        exact h.above i x (by omega) hx hxf

theorem pickTo_all {bs : List Br} {ps : List Pr}
    (hkid : ∀ (i : Nat) (b : Br), bs[i]? = some b → b.a ≠ b.b → b.a.toNat < i ∧ b.b.toNat < i)
    (hapart : ∀ (i k : Nat) (x y : Br), i < k → bs[i]? = some x → bs[k]? = some y → x.a ≠ x.b → y.a ≠ y.b → x.a.toNat ≠ y.a.toNat ∧ x.a.toNat ≠ y.b.toNat ∧ x.b.toNat ≠ y.a.toNat ∧ x.b.toNat ≠ y.b.toNat) :
    ∀ (j : Nat) (s : SS), j ≤ bs.length → PickTo bs ps j s → PickTo bs ps 0 (spass bs ps j s)
  | 0, _, _, h => h
  | j + 1, _, hj, h => pickTo_all hkid hapart j _ (by omega) (h.step (by omega) hkid hapart)

/-- What the reading tells of branches that are a tree. -/
theorem tree_kids {leaves : Int} {bs : List Br} (h : (rdTree leaves bs).isSome = true) :
    (∀ (i : Nat) (b : Br), bs[i]? = some b → b.a ≠ b.b → b.a.toNat < i ∧ b.b.toNat < i) ∧
    (∀ (i k : Nat) (x y : Br), i < k → bs[i]? = some x → bs[k]? = some y → x.a ≠ x.b → y.a ≠ y.b → x.a.toNat ≠ y.a.toNat ∧ x.a.toNat ≠ y.b.toNat ∧ x.b.toNat ≠ y.a.toNat ∧ x.b.toNat ≠ y.b.toNat) := by
  have hok := brOk_of h
  have hkid : ∀ (i : Nat) (b : Br), bs[i]? = some b → b.a ≠ b.b → 0 ≤ b.a ∧ 0 ≤ b.b ∧ b.a < i ∧ b.b < i := by
    intro i b hb hab
    rcases hok i b hb with h | h
    · exact absurd (h.1.trans h.2.1.symm) hab
    · exact ⟨h.2.2.1, h.2.2.2.2.1, h.2.2.2.1, h.2.2.2.2.2⟩
  refine ⟨fun i b hb hab => by have := hkid i b hb hab; omega, fun i k x y hik hx hy hxf hyf => ?_⟩
  obtain ⟨ts, ht⟩ := Option.isSome_iff_exists.1 h
  obtain ⟨_, _, _, _, s, hs, _, _⟩ := rdTree_some ht
  have := parents_apart bs _ s (RS.Ok.start leaves) hs i k x y hik hx hy (fun q => hxf (by omega)) (fun q => hyf (by omega))
  have h1 := hkid i x hx hxf
  have h2 := hkid k y hy hyf
  omega

theorem at0_replicate (n i : Nat) : at0 (List.replicate n 0) i = 0 := by
  unfold at0
  rw [List.getD_eq_getElem?_getD, List.getElem?_replicate]
  split <;> rfl

/-- The states that are told are picked. -/
theorem states_picked {rows : List (List Int)} {site : Nat} {leaves : Int} {bs : List Br} (h : (rdTree leaves bs).isSome = true) : Picked bs (pall rows site bs) (statesOf rows site bs) := by
  obtain ⟨hkid, hapart⟩ := tree_kids h
  have h0 : PickTo bs (pall rows site bs) bs.length ⟨List.replicate bs.length 0, List.replicate bs.length 0⟩ :=
    ⟨SS.Ok.start _, fun i => by rw [at0_replicate]; omega, fun i h1 h2 => by omega, fun i b h1 hb => by have := (List.getElem?_eq_some_iff.1 hb).1; omega⟩
  have hp := pickTo_all hkid hapart bs.length _ (Nat.le_refl _) h0
  unfold statesOf
  generalize spass bs (pall rows site bs) bs.length ⟨List.replicate bs.length 0, List.replicate bs.length 0⟩ = s at hp
  refine ⟨hp.ok.len, hp.range, fun i b hb hab => ?_, fun hn => ?_⟩
  · have hi := (List.getElem?_eq_some_iff.1 hb).1
    obtain ⟨ka, kb⟩ := hkid i b hb hab
    obtain ⟨e1, e2⟩ := hp.above i b (Nat.zero_le _) hb hab
    have s1 := hp.said b.a.toNat (Nat.zero_le _) (by omega)
    have s2 := hp.said b.b.toNat (Nat.zero_le _) (by omega)
    rw [e1, decide_eq_false (by omega)] at s1
    rw [e2, decide_eq_false (by omega)] at s2
    exact ⟨s1, s2⟩
  · have s1 := hp.said (bs.length - 1) (Nat.zero_le _) (by omega)
    rw [decide_eq_true (by omega)] at s1
    exact s1

/-! ## Just the least changes -/

def Hit (st : Nat → Int) (ps : List Pr) (l : List Int) (i : Nat) (T : NT) (c : Nat) : Prop :=
  (ps.getD i ⟨0, 0⟩).lo = fset st T ∧ fset st T < 4096 ∧ ((ps.getD i ⟨0, 0⟩).lo.testBit (at0 l i).toNat = true → c = fnum st T) ∧ ((ps.getD i ⟨0, 0⟩).hi.testBit (at0 l i).toNat = true → c = fnum st T + 1)

theorem and_pow_ne (x up : Nat) : (x &&& 2 ^ up ≠ 0) ↔ x.testBit up = true := by
  constructor
  · intro h
    obtain ⟨c, hc⟩ := exists_bit h
    rw [Nat.testBit_and, Nat.testBit_two_pow, Bool.and_eq_true] at hc
    obtain ⟨h1, h2⟩ := hc
    rw [of_decide_eq_true h2]
    exact h1
  · intro h e
    have := Nat.testBit_and x (2 ^ up) up
    rw [e, h, Nat.testBit_two_pow] at this
    simp at this

/-- What a child's state is, below a fork's. -/
theorem pick_case {p : Pr} {up : Nat} (hp : p.Ok) (hu : up < 12) :
    (p.lo.testBit up = true ∧ low (ways p false up) = up) ∨
    (p.lo.testBit up = false ∧ p.lo.testBit (low (ways p false up)) = true) ∨
    (p.lo.testBit up = false ∧ p.hi.testBit up = true ∧ low (ways p false up) = up) := by
  unfold ways
  rw [if_neg (by decide)]
  by_cases h1 : p.lo.testBit up = true
  · rw [if_pos ((and_pow_ne _ _).2 h1)]
    exact .inl ⟨h1, low_pow up hu⟩
  · rw [if_neg (fun q => h1 ((and_pow_ne _ _).1 q))]
    have h1' : p.lo.testBit up = false := by simpa using h1
    by_cases h2 : p.hi.testBit up = true
    · rw [if_pos ((and_pow_ne _ _).2 h2)]
      have hb : (p.lo ||| 2 ^ up).testBit (low (p.lo ||| 2 ^ up)) = true :=
        low_bit (Nat.ne_of_gt (Nat.lt_of_lt_of_le hp.1 Nat.left_le_or)) (Nat.or_lt_two_pow (n := 12) hp.2.1 (show 2 ^ up < 2 ^ 12 from Nat.pow_lt_pow_right (by decide) hu))
      rw [Nat.testBit_or, Nat.testBit_two_pow, Bool.or_eq_true] at hb
      rcases hb with hb | hb
      · exact .inr (.inl ⟨h1', hb⟩)
      · exact .inr (.inr ⟨h1', h2, (of_decide_eq_true hb).symm⟩)
    · rw [if_neg (fun q => h2 ((and_pow_ne _ _).1 q))]
      exact .inr (.inl ⟨h1', low_bit (Nat.ne_of_gt hp.1) hp.2.1⟩)

theorem hit_kid {st : Nat → Int} {ps : List Pr} {l : List Int} {i j : Nat} {T : NT} {c : Nat} (h : Hit st ps l j T c) (hp : (ps.getD j ⟨0, 0⟩).Ok) (hi : 0 ≤ at0 l i ∧ at0 l i < 12)
    (hl : at0 l j = (low (ways (ps.getD j ⟨0, 0⟩) false (at0 l i).toNat) : Int)) : c + dif l i j = fnum st T + if (fset st T).testBit (at0 l i).toNat then 0 else 1 := by
  obtain ⟨h1, _, h3, h4⟩ := h
  unfold dif
  have hd : (at0 l j).toNat = low (ways (ps.getD j ⟨0, 0⟩) false (at0 l i).toNat) := by omega
  rcases pick_case hp (up := (at0 l i).toNat) (by omega) with ⟨c1, c2⟩ | ⟨c1, c2⟩ | ⟨c1, c2, c3⟩
  · rw [h1] at c1
    rw [if_pos (by omega), c1]
    have := h3 (by rw [hd, c2, h1]; exact c1)
    simp [this]
  · have hne : at0 l j ≠ at0 l i := fun e => by
      rw [← hd, e, c1] at c2
      cases c2
    rw [if_neg hne]
    have := h3 (by rw [hd]; exact c2)
    rw [h1] at c1
    rw [c1, this]
    rfl
  · rw [if_pos (by omega)]
    have := h4 (by rw [hd, c3]; exact c2)
    rw [h1] at c1
    rw [c1, this]
    rfl

theorem hit_fork {st : Nat → Int} {ps : List Pr} {l : List Int} {rows : List (List Int)} {site i : Nat} {b : Br} {ta tb : NT} {ca cb : Nat} (hps : ps.getD i ⟨0, 0⟩ = pnew rows site ps b) (hab : b.a ≠ b.b)
    (ha : Hit st ps l b.a.toNat ta ca) (hb : Hit st ps l b.b.toNat tb cb) (pa : (ps.getD b.a.toNat ⟨0, 0⟩).Ok) (pb : (ps.getD b.b.toNat ⟨0, 0⟩).Ok) (hi : 0 ≤ at0 l i ∧ at0 l i < 12)
    (la : at0 l b.a.toNat = (low (ways (ps.getD b.a.toNat ⟨0, 0⟩) false (at0 l i).toNat) : Int)) (lb : at0 l b.b.toNat = (low (ways (ps.getD b.b.toNat ⟨0, 0⟩) false (at0 l i).toNat) : Int)) :
    Hit st ps l i (mkFork ta tb) (ca + cb + (dif l i b.a.toNat + dif l i b.b.toNat)) := by
  have ka := hit_kid ha pa hi la
  have kb := hit_kid hb pb hi lb
  have hL : (at0 l i).toNat < 12 := by omega
  have ea := ha.1
  have eb := hb.1
  have sa := ha.2.1
  have sb := hb.2.1
  unfold Hit
  rw [hps, fset_mkFork, fnum_mkFork]
  unfold pnew
  rw [if_neg hab, ea, eb]
  clear ea eb ha hb la lb hps
  generalize (at0 l i).toNat = L at *
  by_cases hz : fset st ta &&& fset st tb = 0
  · rw [if_pos hz, if_pos hz, if_pos hz]
    have hno := and_zero_bit hz L
    have hall : (4095 : Nat).testBit L = true := by
      have : (4095 : Nat) = 2 ^ 12 - 1 := rfl
      rw [this, Nat.testBit_two_pow_sub_one]
      exact decide_eq_true hL
    refine ⟨rfl, Nat.or_lt_two_pow (n := 12) sa sb, fun h => ?_, fun h => ?_⟩
    · simp only [Nat.testBit_or] at h
      cases h1 : (fset st ta).testBit L <;> cases h2 : (fset st tb).testBit L <;> rw [h1] at ka h hno <;> rw [h2] at kb h hno <;> simp at ka kb h hno <;> omega
    · simp only [Nat.testBit_xor, Nat.testBit_or, hall] at h
      cases h1 : (fset st ta).testBit L <;> cases h2 : (fset st tb).testBit L <;> rw [h1] at ka h hno <;> rw [h2] at kb h hno <;> simp at ka kb h hno <;> omega
  · rw [if_neg hz, if_neg hz, if_neg hz]
    refine ⟨rfl, Nat.lt_of_le_of_lt Nat.and_le_left sa, fun h => ?_, fun h => ?_⟩
    · simp only [Nat.testBit_and] at h
      cases h1 : (fset st ta).testBit L <;> cases h2 : (fset st tb).testBit L <;> rw [h1] at ka h <;> rw [h2] at kb h <;> simp at ka kb h <;> omega
    · simp only [Nat.testBit_xor] at h
      cases h1 : (fset st ta).testBit L <;> cases h2 : (fset st tb).testBit L <;> rw [h1] at ka h <;> rw [h2] at kb h <;> simp at ka kb h <;> omega

theorem pall_ok {rows : List (List Int)} (h : matOk rows = true) {site : Nat} (hs : site < wid rows) {bs : List Br} (hok : BrOk rows.length bs) : ∀ k, k ≤ bs.length → ∀ p ∈ pall rows site (bs.take k), p.Ok
  | 0, _ => by simp [pall]
  | k + 1, hk => by
    have hb : bs[k]? = some (bs[k]'(by omega)) := List.getElem?_eq_getElem (by omega)
    have hlen : (pall rows site (bs.take k)).length = k := by
      unfold pall
      rw [pall_len]
      simp
      omega
    rw [show bs.take (k + 1) = bs.take k ++ [bs[k]'(by omega)] by rw [List.take_add_one, hb]; rfl, pall_snoc]
    have ho := hok k _ hb
    refine pstep_ok h hs (fun hab => ?_) (fun hab => ?_) (pall_ok h hs hok k (by omega))
    · rcases ho with h | h
      · exact ⟨h.2.2.1, h.2.2.2⟩
      · exact absurd hab h.2.1
    · rcases ho with h | h
      · exact absurd (h.1.trans h.2.1.symm) hab
      · rw [hlen]; omega

theorem pall_at {rows : List (List Int)} (h : matOk rows = true) {site : Nat} (hs : site < wid rows) {bs : List Br} (hok : BrOk rows.length bs) {i : Nat} (hi : i < bs.length) : ((pall rows site bs).getD i ⟨0, 0⟩).Ok := by
  have h1 := pall_ok h hs hok bs.length (Nat.le_refl _)
  rw [List.take_length] at h1
  have hlen : (pall rows site bs).length = bs.length := by
    unfold pall
    rw [pall_len]
    simp
  rw [List.getD_eq_getElem?_getD, List.getElem?_eq_getElem (by omega)]
  exact h1 _ (List.getElem_mem _)

theorem brOk_leaf {leaves : Int} {bs : List Br} (hok : BrOk leaves bs) {i : Nat} {b : Br} (hb : bs[i]? = some b) : (b.a = b.b ↔ b.a = 0 ∧ b.b = 0) := by
  rcases hok i b hb with h | h
  · exact ⟨fun _ => ⟨h.1, h.2.1⟩, fun _ => h.1.trans h.2.1.symm⟩
  · exact ⟨fun e => absurd e h.2.1, fun e => e.1.trans e.2.symm⟩

/-- The states that are told have just the least changes. -/
theorem states_cost {rows : List (List Int)} (h : matOk rows = true) {site : Nat} (hs : site < wid rows) {bs : List Br} (ht : (rdTree (rows.length : Int) bs).isSome = true) :
    costUp (statesOf rows site bs) bs bs.length = (fall rows site bs).n := by
  have hp := states_picked (rows := rows) (site := site) ht
  have hok := brOk_of ht
  obtain ⟨hkid, _⟩ := tree_kids ht
  obtain ⟨T, hT⟩ : ∃ T, rdRoot (rows.length : Int) bs = some T := by
    obtain ⟨ts, hl'⟩ := Option.isSome_iff_exists.1 ht
    exact ⟨_, by unfold rdRoot; rw [hl']; rfl⟩
  rw [fall_root hT]
  generalize statesOf rows site bs = l at hp ⊢
  have := cost_root (P := Hit (fun k => stateAt rows site k) (pall rows site bs) l) (l := l) hT (fun i k b hb h1 h2 h3 _ => ?_) (fun i b ta tb ca cb hb h1 h2 h3 h4 h5 => ?_)
  · have hn : 0 < bs.length := by have := (rdRoot_size hT).2; omega
    obtain ⟨e1, e2, e3, _⟩ := this
    refine e3 ?_
    have e4 := hp.root hn
    have hpo := pall_at h hs hok (i := bs.length - 1) (by omega)
    rw [show (at0 l (bs.length - 1)).toNat = low ((pall rows site bs).getD (bs.length - 1) ⟨0, 0⟩).lo by omega]
    exact low_bit (Nat.ne_of_gt hpo.1) hpo.2.1
  · have hg := pall_get (rows := rows) (site := site) hb (hkid i b hb)
    have hab : b.a = b.b := h1.trans h2.symm
    unfold pnew at hg
    rw [if_pos hab, h3] at hg
    obtain ⟨_, _, _, _, h4⟩ := matOk_at h (leaf := (k : Int)) (by omega) (by omega) hs
    unfold Hit
    rw [hg]
    exact ⟨rfl, leafSet_lt _ h4, fun _ => rfl, fun q => by simp at q⟩
  · have hi := (List.getElem?_eq_some_iff.1 hb).1
    have hab : b.a ≠ b.b := fun e => h1 ((brOk_leaf hok hb).1 e)
    obtain ⟨la, lb⟩ := hp.kid i b hb hab
    exact hit_fork (pall_get (rows := rows) (site := site) hb (hkid i b hb)) hab h4 h5 (pall_at h hs hok (by omega)) (pall_at h hs hok (by omega)) (hp.range i) la lb

/-- The states that are told fit. -/
theorem states_fit {rows : List (List Int)} (h : matOk rows = true) {site : Nat} (hs : site < wid rows) {bs : List Br} (ht : (rdTree (rows.length : Int) bs).isSome = true) : Fits rows site bs (statesOf rows site bs) := by
  have hok := brOk_of ht
  obtain ⟨hkid, hapart⟩ := tree_kids ht
  have h0 : PickTo bs (pall rows site bs) bs.length ⟨List.replicate bs.length 0, List.replicate bs.length 0⟩ :=
    ⟨SS.Ok.start _, fun i => by rw [at0_replicate]; omega, fun i h1 h2 => by omega, fun i b h1 hb => by have := (List.getElem?_eq_some_iff.1 hb).1; omega⟩
  have hp := pickTo_all hkid hapart bs.length _ (Nat.le_refl _) h0
  unfold statesOf
  generalize spass bs (pall rows site bs) bs.length ⟨List.replicate bs.length 0, List.replicate bs.length 0⟩ = s at hp
  refine ⟨fun i _ => hp.range i, fun i b hb h1 h2 h3 => ?_⟩
  have hi := (List.getElem?_eq_some_iff.1 hb).1
  have hg := pall_get (rows := rows) (site := site) hb (hkid i b hb)
  unfold pnew at hg
  rw [if_pos (h1.trans h2.symm)] at hg
  have hsaid := hp.said i (Nat.zero_le _) hi
  rw [hg] at hsaid
  have hx : stateAt rows site b.leaf < 12 := by
    rcases hok i b hb with q | q
    · obtain ⟨_, _, _, _, h4⟩ := matOk_at h q.2.2.1 q.2.2.2 hs
      exact h4
    · exact absurd (h1.trans h2.symm) q.2.1
  obtain ⟨x, hxx⟩ : ∃ x : Nat, stateAt rows site b.leaf = (x : Int) := ⟨(stateAt rows site b.leaf).toNat, by omega⟩
  have hset : leafSet (stateAt rows site b.leaf) = 2 ^ x := by
    unfold leafSet
    rw [if_pos h3, hxx, Int.toNat_natCast]
  rw [hset] at hsaid
  have hway : ∀ root up, low (ways ⟨2 ^ x, 0⟩ root up) = x := by
    intro root up
    unfold ways
    have hl := low_pow x (by omega)
    cases root
    · simp only [Bool.false_eq_true, if_false]
      by_cases q : (2 ^ x &&& 2 ^ up ≠ 0)
      · rw [if_pos q]
        have := (and_pow_ne _ _).1 q
        rw [Nat.testBit_two_pow] at this
        rw [← of_decide_eq_true this]
        exact hl
      · rw [if_neg q, if_neg (by simp)]
        exact hl
    · simp only [if_true]
      exact hl
  rw [hway] at hsaid
  rw [hsaid, hxx]
end Go.Proofs.Ytbmlkomfelkckaa
