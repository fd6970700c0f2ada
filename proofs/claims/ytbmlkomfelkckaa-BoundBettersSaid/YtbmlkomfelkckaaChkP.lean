/- How the document's answer checks a tree: marks in two rows. It is the reading's own verdict. -/
import Derived.Test.YtbmlkomfelkckaaBnd
namespace Go.Proofs.Ytbmlkomfelkckaa

structure KS where
  seen : List Bool
  kid : List Bool

def kbad1 (leaves : Nat) (s : KS) (b : Br) : Prop := b.leaf < 0 ∨ (leaves : Int) ≤ b.leaf ∨ s.seen.getD b.leaf.toNat false = true
def kbad2 (i : Nat) (s : KS) (b : Br) : Prop := b.leaf ≠ 0 ∨ b.a < 0 ∨ b.b < 0 ∨ (i : Int) ≤ b.a ∨ (i : Int) ≤ b.b ∨ b.a = b.b ∨ s.kid.getD b.a.toNat false = true ∨ s.kid.getD b.b.toNat false = true
instance (leaves : Nat) (s : KS) (b : Br) : Decidable (kbad1 leaves s b) := by unfold kbad1; infer_instance
instance (i : Nat) (s : KS) (b : Br) : Decidable (kbad2 i s b) := by unfold kbad2; infer_instance

def kstep (leaves i : Nat) (s : KS) (b : Br) : Option KS :=
  if b.a = 0 ∧ b.b = 0 then if kbad1 leaves s b then none else some ⟨s.seen.set b.leaf.toNat true, s.kid⟩
  else if kbad2 i s b then none else some ⟨s.seen, (s.kid.set b.a.toNat true).set b.b.toNat true⟩

def kstart (leaves n : Nat) : KS := ⟨List.replicate leaves false, List.replicate n false⟩

/-- The marks tell what was read. -/
structure KRel (leaves n : Nat) (r : RS) (s : KS) : Prop where
  slen : s.seen.length = leaves
  klen : s.kid.length = n
  seen : ∀ k : Nat, k < leaves → (s.seen.getD k false = true ↔ (k : Int) ∈ r.had)
  kid : ∀ k : Nat, k < r.l.length → (s.kid.getD k false = true ↔ (k : Int) ∉ r.free)
  rest : ∀ k : Nat, r.l.length ≤ k → s.kid.getD k false = false

theorem getD_replicate_false (n k : Nat) : (List.replicate n false).getD k false = false := by
  rw [List.getD_eq_getElem?_getD, List.getElem?_replicate]
  split <;> rfl

theorem KRel.start (leaves n : Nat) : KRel leaves n ⟨[], [], []⟩ (kstart leaves n) := by
  refine ⟨by simp [kstart], by simp [kstart], fun k _ => ?_, fun k hk => by simp at hk, fun k _ => ?_⟩
  · simp [kstart, getD_replicate_false, -List.getD_eq_getElem?_getD]
  · exact getD_replicate_false _ _

theorem getD_set_bool (l : List Bool) (i : Nat) (x : Bool) (q : Nat) (hi : i < l.length) : (l.set i x).getD q false = if q = i then x else l.getD q false := by
  rw [List.getD_eq_getElem?_getD, List.getD_eq_getElem?_getD, List.getElem?_set]
  by_cases h : q = i
  · subst h; simp [hi]
  · rw [if_neg (fun e => h e.symm), if_neg h]

theorem KRel.step {leaves n : Nat} {r : RS} {s : KS} {b : Br} (hk : r.Ok leaves) (h : KRel leaves n r s) (hi : r.l.length < n) :
    (rdStep leaves r b = none ∧ kstep leaves r.l.length s b = none) ∨ ∃ r' s', rdStep leaves r b = some r' ∧ kstep leaves r.l.length s b = some s' ∧ KRel leaves n r' s' := by
  unfold rdStep kstep
  by_cases hab : b.a = 0 ∧ b.b = 0
  · rw [if_pos hab, if_pos hab]
    have hiff : (b.leaf < 0 ∨ (leaves : Int) ≤ b.leaf ∨ b.leaf ∈ r.had) ↔ kbad1 leaves s b := by
      unfold kbad1
      by_cases h0 : b.leaf < 0
      · simp [h0]
      · by_cases h1 : (leaves : Int) ≤ b.leaf
        · simp [h1]
        · have := h.seen b.leaf.toNat (by omega)
          rw [Int.toNat_of_nonneg (by omega)] at this
          rw [this]
    by_cases hb : kbad1 leaves s b
    · exact .inl ⟨by rw [if_pos (hiff.2 hb)], by rw [if_pos hb]⟩
    · refine .inr ⟨_, _, by rw [if_neg (fun q => hb (hiff.1 q))], by rw [if_neg hb], ?_⟩
      have hb' : ¬ (b.leaf < 0 ∨ (leaves : Int) ≤ b.leaf ∨ b.leaf ∈ r.had) := fun q => hb (hiff.1 q)
      have hl0 : 0 ≤ b.leaf := by omega
      have hl1 : b.leaf < leaves := by omega
      refine ⟨by simp [h.slen], h.klen, fun k hkl => ?_, fun k hkl => ?_, fun k hkl => ?_⟩
      · rw [getD_set_bool _ _ _ _ (by rw [h.slen]; omega)]
        by_cases hkb : k = b.leaf.toNat
        · rw [if_pos hkb]
          have : (k : Int) = b.leaf := by omega
          simp [this]
        · rw [if_neg hkb, h.seen k hkl, List.mem_cons]
          have : ¬ (k : Int) = b.leaf := by omega
          simp [this]
      · simp only [List.length_append, List.length_cons, List.length_nil] at hkl
        by_cases hkn : k = r.l.length
        · subst hkn
          rw [h.rest _ (Nat.le_refl _)]
          simp
        · rw [h.kid k (by omega), List.mem_append, List.mem_singleton]
          have : ¬ (k : Int) = (r.l.length : Int) := by omega
          simp [this]
      · simp only [List.length_append, List.length_cons, List.length_nil] at hkl
        exact h.rest k (by omega)
  · rw [if_neg hab, if_neg hab]
    have hfree : ∀ x : Int, x ∈ r.free ↔ (0 ≤ x ∧ x < (r.l.length : Int) ∧ ¬ s.kid.getD x.toNat false = true) := by
      intro x
      constructor
      · intro hx
        have := hk.free x hx
        refine ⟨this.1, this.2, fun q => ?_⟩
        have hk2 := (h.kid x.toNat (by omega)).1 q
        rw [Int.toNat_of_nonneg this.1] at hk2
        exact hk2 hx
      · rintro ⟨h0, h1, h2⟩
        have := h.kid x.toNat (by omega)
        rw [Int.toNat_of_nonneg h0] at this
        exact Decidable.by_contra fun q => h2 (this.2 q)
    have hiff : (b.leaf ≠ 0 ∨ b.a = b.b ∨ b.a ∉ r.free ∨ b.b ∉ r.free) ↔ kbad2 r.l.length s b := by
      unfold kbad2
      rw [hfree, hfree]
      have ex : ∀ y : Bool, ∃ x : Int, (y = true ↔ x = 1) := fun y => by
        cases y
        · exact ⟨0, by simp⟩
        · exact ⟨1, by simp⟩
      obtain ⟨x3, k3⟩ := ex (s.kid.getD b.a.toNat false)
      obtain ⟨x4, k4⟩ := ex (s.kid.getD b.b.toNat false)
      rw [k3, k4]
      omega
    by_cases hb : kbad2 r.l.length s b
    · exact .inl ⟨by rw [if_pos (hiff.2 hb)], by rw [if_pos hb]⟩
    · refine .inr ⟨_, _, by rw [if_neg (fun q => hb (hiff.1 q))], by rw [if_neg hb], ?_⟩
      have hb' : ¬ (b.leaf ≠ 0 ∨ b.a = b.b ∨ b.a ∉ r.free ∨ b.b ∉ r.free) := fun q => hb (hiff.1 q)
      have hne : b.a ≠ b.b := fun q => hb' (.inr (.inl q))
      have ha : b.a ∈ r.free := Decidable.by_contra fun q => hb' (.inr (.inr (.inl q)))
      have hb2 : b.b ∈ r.free := Decidable.by_contra fun q => hb' (.inr (.inr (.inr q)))
      have ia := hk.free _ ha
      have ib := hk.free _ hb2
      refine ⟨h.slen, by simp [h.klen], h.seen, fun k hkl => ?_, fun k hkl => ?_⟩
      · simp only [List.length_append, List.length_cons, List.length_nil] at hkl
        rw [getD_set_bool _ _ _ _ (by rw [List.length_set, h.klen]; omega), getD_set_bool _ _ _ _ (by rw [h.klen]; omega)]
        have hmem : (k : Int) ∈ (r.free.erase b.a).erase b.b ++ [(r.l.length : Int)] ↔ ((k : Int) ≠ b.a ∧ (k : Int) ≠ b.b ∧ (k : Int) ∈ r.free) ∨ (k : Int) = (r.l.length : Int) := by
          rw [List.mem_append, List.mem_singleton]
          have hn1 : (r.free.erase b.a).Nodup := hk.nodup.erase _
          rw [hn1.mem_erase_iff, hk.nodup.mem_erase_iff]
          constructor
          · rintro (⟨h1, h2, h3⟩ | h)
            · exact .inl ⟨h2, h1, h3⟩
            · exact .inr h
          · rintro (⟨h1, h2, h3⟩ | h)
            · exact .inl ⟨h2, h1, h3⟩
            · exact .inr h
        rw [hmem]
        by_cases hkb : k = b.b.toNat
        · rw [if_pos hkb]
          have e1 : (k : Int) = b.b := by omega
          simp [e1]; omega
        · rw [if_neg hkb]
          by_cases hka : k = b.a.toNat
          · rw [if_pos hka]
            have e1 : (k : Int) = b.a := by omega
            simp [e1]; omega
          · rw [if_neg hka]
            by_cases hkn : k = r.l.length
            · subst hkn
              rw [h.rest _ (Nat.le_refl _)]
              simp
            · rw [h.kid k (by omega)]
              have e1 : (k : Int) ≠ b.a := by omega
              have e2 : (k : Int) ≠ b.b := by omega
              have e3 : (k : Int) ≠ (r.l.length : Int) := by omega
              simp [e1, e2, e3]
      · simp only [List.length_append, List.length_cons, List.length_nil] at hkl
        rw [getD_set_bool _ _ _ _ (by rw [List.length_set, h.klen]; omega), getD_set_bool _ _ _ _ (by rw [h.klen]; omega), if_neg (by omega), if_neg (by omega)]
        exact h.rest k (by omega)

/-- Where all was read: just one part is free if and only if every leaf was seen and every branch but the last hangs from another. -/
theorem KRel.last {leaves n : Nat} {bs : List Br} {r : RS} {s : KS} (hn : bs.length = n) (hl : (n : Int) = 2 * (leaves : Int) - 1) (_h1 : 1 ≤ leaves) (h12 : leaves ≤ 12) (hr : rdAll leaves ⟨[], [], []⟩ bs = some r) (h : KRel leaves n r s) :
    ((rdTree leaves bs).isSome = true ↔ (∀ k : Nat, k < leaves → s.seen.getD k false = true) ∧ (∀ k : Nat, k < n - 1 → s.kid.getD k false = true)) := by
  have hok := rdAll_ok leaves bs _ r (RS.Ok.start leaves) hr
  have hlen : r.l.length = n := by simpa [hn] using hok.2
  have hsum := rdAll_sum leaves bs _ r (RS.Ok.start leaves) RS.Sum.start hr
  have htree : rdTree leaves bs = if r.free.length = 1 then some r.l else none := by
    unfold rdTree
    rw [if_neg (by omega), hr]
    rfl
  constructor
  · intro hs
    obtain ⟨l, hl'⟩ := Option.isSome_iff_exists.1 hs
    obtain ⟨a, b, c, hll, s', hs', rfl, hf⟩ := rdTree_some hl'
    obtain rfl : s' = r := Option.some.inj (hs'.symm.trans hr)
    refine ⟨fun k hk => (h.seen k hk).2 ?_, fun k hk => (h.kid k (by omega)).2 ?_⟩
    · have hT : rdRoot (leaves : Int) bs = some (s'.l.getD (s'.l.length - 1) (.leaf 0)) := by unfold rdRoot; rw [hl']; rfl
      have hp := (root_range hT).mem_iff.2 (List.mem_range.2 hk)
      have hlv := rdAll_lv leaves bs _ s' (RS.Ok.start leaves) ⟨fun k => rfl, List.nodup_nil⟩ hr
      have hc := hlv.count k
      rw [hf] at hc
      simp only [wsum, List.map_cons, List.map_nil, List.sum_cons, List.sum_nil, Int.toNat_natCast, Nat.add_zero] at hc
      have h0 : 0 < s'.had.count (k : Int) := by
        rw [← hc, hn, ← hlen]
        exact List.count_pos_iff.2 hp
      exact List.count_pos_iff.1 h0
    · rw [hf]
      simp
      omega
  · rintro ⟨_, hkid⟩
    rw [htree]
    have hone : ∀ x ∈ r.free, x = ((n - 1 : Nat) : Int) := by
      intro x hx
      have hx' := hok.1.free x hx
      refine Decidable.by_contra fun q => ?_
      have := (h.kid x.toNat (by omega)).1 (hkid x.toNat (by omega))
      rw [Int.toNat_of_nonneg hx'.1] at this
      exact this hx
    have hle : r.free.length ≤ 1 := by
      have hnd := hok.1.nodup
      match hf : r.free with
      | [] => simp
      | [x] => simp
      | x :: y :: t =>
        rw [hf] at hone hnd
        have e1 := hone x (by simp)
        have e2 := hone y (by simp)
        rw [e1, e2] at hnd
        simp at hnd
    have hge : r.free.length ≠ 0 := by
      intro h0
      have hf := List.length_eq_zero_iff.1 h0
      have := hsum.last (by omega)
      rw [hf] at this
      simp at this
    rw [if_pos (by omega)]
    rfl

def kall (leaves : Nat) : Nat → KS → List Br → Option KS
  | _, s, [] => some s
  | i, s, b :: bs => (kstep leaves i s b).bind fun s' => kall leaves (i + 1) s' bs
end Go.Proofs.Ytbmlkomfelkckaa
