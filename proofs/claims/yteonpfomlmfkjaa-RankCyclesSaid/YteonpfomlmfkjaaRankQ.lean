/- The free nodes, falling, while the arcs of one node are taken away. In plain Lean. -/
import Derived.Test.YteonpfomlmfkjaaRankP
namespace Go.Proofs.Yteonpfomlmfkjaa

/-- The nodes with P, the greatest first. -/
structure Ready (n : Nat) (P : Int → Prop) (R : List Int) : Prop where
  sorted : R.Pairwise (· > ·)
  mem : ∀ u, u ∈ R ↔ (0 ≤ u ∧ u < (n : Int)) ∧ P u

theorem Ready.congr {n : Nat} {P Q : Int → Prop} {R : List Int} (h : Ready n P R) (k : ∀ u, 0 ≤ u → u < (n : Int) → (P u ↔ Q u)) : Ready n Q R :=
  ⟨h.sorted, fun u => (h.mem u).trans ⟨fun ⟨a, b⟩ => ⟨a, (k u a.1 a.2).1 b⟩, fun ⟨a, b⟩ => ⟨a, (k u a.1 a.2).2 b⟩⟩⟩

theorem Ready.length {n : Nat} {P : Int → Prop} {R : List Int} (h : Ready n P R) : R.length ≤ n := by
  have := nodup_le R (nodes n) (h.sorted.imp fun h e => by omega) fun u hu => mem_nodes.2 ((h.mem u).1 hu).1
  rwa [nodes_length] at this

/-- The last one goes. -/
theorem Ready.pop {n : Nat} {P : Int → Prop} {R : List Int} {v : Int} (h : Ready n P (R ++ [v])) : Ready n (fun u => P u ∧ u ≠ v) R := by
  obtain ⟨h1, h2⟩ := h
  rw [List.pairwise_append] at h1
  refine ⟨h1.1, fun u => ⟨fun hu => ?_, fun ⟨a, b, c⟩ => ?_⟩⟩
  · obtain ⟨a, b⟩ := (h2 u).1 (List.mem_append_left _ hu)
    refine ⟨a, b, fun e => ?_⟩
    have := h1.2.2 u hu v (by simp)
    omega
  · rcases List.mem_append.1 ((h2 u).2 ⟨a, b⟩) with hu | hu
    · exact hu
    · exact absurd (List.mem_singleton.1 hu) c

/-- One comes in. -/
theorem Ready.ins {n : Nat} {P : Int → Prop} {R : List Int} {x : Int} (h : Ready n P R) (h0 : 0 ≤ x ∧ x < (n : Int)) (hx : ¬ P x) : Ready n (fun u => P u ∨ u = x) (R.take (R.countP fun y => decide (x < y)) ++ x :: R.drop (R.countP fun y => decide (x < y))) := by
  obtain ⟨h1, h2⟩ := h
  have hne : x ∉ R := fun hm => hx ((h2 x).1 hm).2
  have key : ∀ R : List Int, R.Pairwise (· > ·) → x ∉ R → (R.take (R.countP fun y => decide (x < y)) ++ x :: R.drop (R.countP fun y => decide (x < y))).Pairwise (· > ·) := by
    intro R
    induction R with
    | nil => intro _ _; simp
    | cons y R ih =>
      intro hs hn
      rw [List.pairwise_cons] at hs
      rw [List.mem_cons, not_or] at hn
      by_cases hxy : x < y
      · rw [List.countP_cons_of_pos (by simpa using hxy), List.take_succ_cons, List.drop_succ_cons, List.cons_append, List.pairwise_cons]
        refine ⟨fun z hz => ?_, ih hs.2 hn.2⟩
        rw [List.mem_append, List.mem_cons] at hz
        rcases hz with hz | rfl | hz
        · exact hs.1 z (List.mem_of_mem_take hz)
        · exact hxy
        · exact hs.1 z (List.mem_of_mem_drop hz)
      · have h0 : R.countP (fun y => decide (x < y)) = 0 := by
          rw [List.countP_eq_zero]
          intro z hz
          have := hs.1 z hz
          simp
          omega
        rw [List.countP_cons_of_neg (by simpa using hxy), h0, List.take_zero, List.nil_append, List.drop_zero, List.pairwise_cons, List.pairwise_cons]
        refine ⟨fun z hz => ?_, hs⟩
        rcases List.mem_cons.1 hz with rfl | hz
        · have := hn.1; omega
        · have := hs.1 z hz; have := hn.1; omega
  refine ⟨key R h1 hne, fun u => ?_⟩
  rw [List.mem_append, List.mem_cons]
  have hm : u ∈ R ↔ u ∈ R.take (R.countP fun y => decide (x < y)) ∨ u ∈ R.drop (R.countP fun y => decide (x < y)) := by
    conv => lhs; rw [← List.take_append_drop (R.countP fun y => decide (x < y)) R]
    exact List.mem_append
  constructor
  · rintro (hu | rfl | hu)
    · obtain ⟨a, b⟩ := (h2 u).1 (hm.2 (.inl hu)); exact ⟨a, .inl b⟩
    · exact ⟨h0, .inr rfl⟩
    · obtain ⟨a, b⟩ := (h2 u).1 (hm.2 (.inr hu)); exact ⟨a, .inl b⟩
  · rintro ⟨a, b | rfl⟩
    · rcases hm.1 ((h2 u).2 ⟨a, b⟩) with hu | hu
      · exact .inl hu
      · exact .inr (.inr hu)
    · exact .inr (.inl rfl)

theorem ready_none {n : Nat} {arcs : List (Int × Int)} {out : List Int} (h : Ready n (fun u => u ∉ out ∧ waitN arcs out u = 0) []) : nextFree n arcs out = none := by
  unfold nextFree
  rw [List.find?_eq_none]
  intro u hu hf
  have h1 : u ∉ out ∧ waitN arcs out u = 0 := by simpa [freeB] using hf
  have := (h.mem u).2 ⟨mem_nodes.1 hu, h1⟩
  cases this

theorem ready_next {n : Nat} {arcs : List (Int × Int)} {out R : List Int} {v : Int} (h : Ready n (fun u => u ∉ out ∧ waitN arcs out u = 0) (R ++ [v])) : nextFree n arcs out = some v := by
  have hf : ∀ u, u ∈ R ++ [v] ↔ (0 ≤ u ∧ u < (n : Int)) ∧ freeB arcs out u = true := fun u => (h.mem u).trans (by simp [freeB])
  obtain ⟨hv, hfv⟩ := (hf v).1 (by simp)
  unfold nextFree
  cases hq : (nodes n).find? (freeB arcs out) with
  | none => exact absurd hfv (List.find?_eq_none.1 hq v (mem_nodes.2 hv))
  | some w =>
    rw [List.find?_eq_some_iff_append] at hq
    obtain ⟨hw, l1, l2, hab, has⟩ := hq
    congr 1
    apply Classical.byContradiction
    intro hne
    have hwn : w ∈ nodes n := by rw [hab]; simp
    have hwR := (hf w).2 ⟨mem_nodes.1 hwn, hw⟩
    have hgt : v < w := by
      rcases List.mem_append.1 hwR with hwR | hwR
      · exact (List.pairwise_append.1 h.sorted).2.2 w hwR v (by simp)
      · exact absurd (List.mem_singleton.1 hwR) hne
    have hvn : v ∈ nodes n := mem_nodes.2 hv
    have hs := nodes_sorted n
    rw [hab] at hvn hs
    rw [List.pairwise_append, List.pairwise_cons] at hs
    rcases List.mem_append.1 hvn with h1 | h1
    · have := has v h1
      rw [hfv] at this
      cases this
    · rcases List.mem_cons.1 h1 with h2 | h2
      · omega
      · have := hs.2.1.1 v h2
        omega

theorem count_outs (arcs : List (Int × Int)) (v u : Int) : (outs arcs v).count u = arcs.countP fun a => a.1 == v && a.2 == u := by
  unfold outs
  rw [List.count_eq_countP, List.countP_map, List.countP_filter]
  congr 1
  funext a
  simp [Bool.and_comm]

theorem waitN_snoc {arcs : List (Int × Int)} {out : List Int} {v : Int} (hv : v ∉ out) (u : Int) : waitN arcs out u = waitN arcs (out ++ [v]) u + (outs arcs v).count u := by
  rw [count_outs]
  unfold waitN
  induction arcs with
  | nil => rfl
  | cons a arcs ih =>
    simp only [List.countP_cons, ih]
    have key : (if (a.2 == u && !out.contains a.1) = true then 1 else 0) = (if (a.2 == u && !(out ++ [v]).contains a.1) = true then 1 else 0) + (if (a.1 == v && a.2 == u) = true then 1 else 0) := by
      by_cases h1 : a.2 = u
      · by_cases h2 : a.1 = v
        · have h3 : a.1 ∉ out := by rw [h2]; exact hv
          simp [h1, h2, hv]
        · by_cases h4 : a.1 ∈ out <;> simp [h1, h2, h4]
      · simp [h1]
    omega

/-- What still leads to u while the first j arcs of v are taken away. -/
def still (arcs : List (Int × Int)) (out : List Int) (v : Int) (j : Nat) (u : Int) : Int := (waitN arcs out u : Int) - (((outs arcs v).take j).count u : Nat)

theorem still_zero (arcs : List (Int × Int)) (out : List Int) (v : Int) (u : Int) : still arcs out v 0 u = (waitN arcs out u : Nat) := by simp [still]
theorem still_all {arcs : List (Int × Int)} {out : List Int} {v : Int} (hv : v ∉ out) {j : Nat} (hj : (outs arcs v).length ≤ j) (u : Int) : still arcs out v j u = (waitN arcs (out ++ [v]) u : Nat) := by
  unfold still
  rw [List.take_of_length_le hj, waitN_snoc hv u]
  omega
theorem still_succ {arcs : List (Int × Int)} {out : List Int} {v x : Int} {j : Nat} (hx : (outs arcs v)[j]? = some x) (u : Int) : still arcs out v (j + 1) u = if u = x then still arcs out v j u - 1 else still arcs out v j u := by
  obtain ⟨hj, hxe⟩ := List.getElem?_eq_some_iff.1 hx
  unfold still
  rw [List.take_succ_eq_append_getElem hj, hxe, List.count_append]
  by_cases e : u = x
  · subst e
    rw [if_pos rfl]
    simp
    omega
  · rw [if_neg e]
    have : List.count u [x] = 0 := by simp [Ne.symm e]
    omega

theorem still_pos {arcs : List (Int × Int)} {out : List Int} {v x : Int} {j : Nat} (hv : v ∉ out) (hx : (outs arcs v)[j]? = some x) : 1 ≤ still arcs out v j x := by
  have h1 := still_succ (out := out) hx x
  rw [if_pos rfl] at h1
  have h2 : (((outs arcs v).take (j + 1)).count x : Nat) ≤ (outs arcs v).count x := (List.take_sublist _ _).count_le _
  have h3 := waitN_snoc (arcs := arcs) hv x
  unfold still at *
  omega

theorem still_le (arcs : List (Int × Int)) (out : List Int) (v : Int) (j : Nat) (u : Int) : still arcs out v j u ≤ (arcs.length : Nat) := by
  have : waitN arcs out u ≤ arcs.length := List.countP_le_length
  unfold still
  omega

/-- What is free stays so while the arcs of v are taken away: either nobody comes in, or x. -/
theorem ready_step {n : Nat} {arcs : List (Int × Int)} {k : Nat} {v x : Int} {j : Nat} (hn : nextFree n arcs (kahn n arcs k) = some v) (hx : (outs arcs v)[j]? = some x) :
    x ∉ kahn n arcs k ++ [v] ∧ (still arcs (kahn n arcs k) v (j + 1) x ≠ 0 → ∀ u, (u ∉ kahn n arcs k ++ [v] ∧ still arcs (kahn n arcs k) v j u = 0) ↔ (u ∉ kahn n arcs k ++ [v] ∧ still arcs (kahn n arcs k) v (j + 1) u = 0)) ∧
      (still arcs (kahn n arcs k) v (j + 1) x = 0 → ∀ u, ((u ∉ kahn n arcs k ++ [v] ∧ still arcs (kahn n arcs k) v j u = 0) ∨ u = x) ↔ (u ∉ kahn n arcs k ++ [v] ∧ still arcs (kahn n arcs k) v (j + 1) u = 0)) := by
  obtain ⟨_, hv, hw⟩ := next_mem hn
  have hpos := still_pos hv hx
  have hxo : x ∉ kahn n arcs k ++ [v] := by
    intro hm
    have h0 : waitN arcs (kahn n arcs k) x = 0 := by
      rcases List.mem_append.1 hm with hm | hm
      · obtain ⟨i, hi⟩ := List.mem_iff_getElem?.1 hm
        exact waitN_zero.2 fun a ha e => List.mem_of_mem_take (kahn_topo n arcs k i x hi a ha e)
      · rw [List.mem_singleton.1 hm]; exact hw
    unfold still at hpos
    omega
  refine ⟨hxo, fun hne u => ?_, fun he u => ?_⟩
  · by_cases e : u = x
    · subst e
      constructor
      · rintro ⟨_, h⟩; omega
      · rintro ⟨_, h⟩; exact absurd h hne
    · rw [still_succ hx, if_neg e]
  · by_cases e : u = x
    · subst e
      exact ⟨fun _ => ⟨hxo, he⟩, fun _ => .inr rfl⟩
    · rw [still_succ hx, if_neg e]
      exact ⟨fun h => h.resolve_right e, fun h => .inl h⟩

theorem rk_le (arcs : List (Int × Int)) : ∀ f v, rk arcs f v ≤ (f : Nat)
  | 0, _ => Int.le_refl _
  | f + 1, v => sup0_le.2 ⟨by omega, fun x hx => by
    obtain ⟨a, _, rfl⟩ := List.mem_map.1 hx
    have := rk_le arcs f a.1
    omega⟩

/-- The rank of x as far as the nodes of S tell. -/
def rkUp (F : Int → Int) (arcs : List (Int × Int)) (S : List Int) (x : Int) : Int := sup0 ((arcs.filter fun a => a.2 == x && S.contains a.1).map fun a => F a.1 + 1)

theorem mem_outs {arcs : List (Int × Int)} {v x : Int} : x ∈ outs arcs v ↔ (v, x) ∈ arcs := by
  unfold outs
  rw [List.mem_map]
  constructor
  · rintro ⟨a, ha, rfl⟩
    obtain ⟨h1, h2⟩ := List.mem_filter.1 ha
    have : a.1 = v := by simpa using h2
    rw [← this]
    exact h1
  · intro h
    exact ⟨(v, x), List.mem_filter.2 ⟨h, by simp⟩, rfl⟩

theorem rkUp_nil (F : Int → Int) (arcs : List (Int × Int)) (x : Int) : rkUp F arcs [] x = 0 := by
  have : (arcs.filter fun a => a.2 == x && ([] : List Int).contains a.1) = [] := by
    rw [List.filter_eq_nil_iff]
    intro a _
    simp
  unfold rkUp
  rw [this]
  rfl

theorem rkUp_snoc (F : Int → Int) (arcs : List (Int × Int)) (S : List Int) (v x : Int) : rkUp F arcs (S ++ [v]) x = if x ∈ outs arcs v then max (rkUp F arcs S x) (F v + 1) else rkUp F arcs S x := by
  have hm : ∀ (S : List Int) (b : Int), rkUp F arcs S x ≤ b ↔ 0 ≤ b ∧ ∀ a ∈ arcs, a.2 = x → a.1 ∈ S → F a.1 + 1 ≤ b := by
    intro S b
    unfold rkUp
    rw [sup0_le]
    refine and_congr Iff.rfl ⟨fun h a ha h1 h2 => h _ (List.mem_map.2 ⟨a, List.mem_filter.2 ⟨ha, by simp [h1, h2]⟩, rfl⟩), fun h y hy => ?_⟩
    obtain ⟨a, ha, rfl⟩ := List.mem_map.1 hy
    obtain ⟨h1, h2⟩ := List.mem_filter.1 ha
    rw [Bool.and_eq_true, beq_iff_eq, List.contains_iff_mem] at h2
    exact h a h1 h2.1 h2.2
  split
  · rename_i hx
    have hvx := mem_outs.1 hx
    refine Int.le_antisymm ((hm _ _).2 ⟨?_, fun a ha h1 h2 => ?_⟩) (Int.max_le.2 ⟨(hm _ _).2 ⟨?_, fun a ha h1 h2 => ?_⟩, ?_⟩)
    · exact Int.le_trans (((hm S _).1 (Int.le_refl _)).1) (Int.le_max_left _ _)
    · rcases List.mem_append.1 h2 with h2 | h2
      · exact Int.le_trans (((hm S _).1 (Int.le_refl _)).2 a ha h1 h2) (Int.le_max_left _ _)
      · rw [List.mem_singleton.1 h2]; exact Int.le_max_right _ _
    · exact ((hm _ _).1 (Int.le_refl _)).1
    · exact ((hm (S ++ [v]) _).1 (Int.le_refl _)).2 a ha h1 (List.mem_append_left _ h2)
    · exact ((hm (S ++ [v]) _).1 (Int.le_refl _)).2 (v, x) hvx rfl (by simp)
  · rename_i hx
    refine Int.le_antisymm ((hm _ _).2 ⟨((hm _ _).1 (Int.le_refl _)).1, fun a ha h1 h2 => ?_⟩) ((hm _ _).2 ⟨((hm _ _).1 (Int.le_refl _)).1, fun a ha h1 h2 => ((hm (S ++ [v]) _).1 (Int.le_refl _)).2 a ha h1 (List.mem_append_left _ h2)⟩)
    rcases List.mem_append.1 h2 with h2 | h2
    · exact ((hm S _).1 (Int.le_refl _)).2 a ha h1 h2
    · have e := List.mem_singleton.1 h2
      exact absurd (mem_outs.2 (by rw [← e, ← h1]; exact ha)) hx

/-- A node's rank is known once all that lead to it are. -/
theorem rkUp_at {n : Nat} {arcs : List (Int × Int)} {L : List Int} (h : Order n arcs L) {S : List Int} {v : Int} (hv : v ∈ L) (hS : ∀ a ∈ arcs, a.2 = v → a.1 ∈ S) : rkUp (rank n arcs) arcs S v = rank n arcs v := by
  rw [rank_eq h hv]
  unfold rkUp
  congr 2
  refine List.filter_congr fun a ha => ?_
  by_cases e : a.2 = v
  · have := hS a ha e
    simp [e, this]
  · simp [e]

/-- While the arcs of v are gone through. -/
def rkMid (F : Int → Int) (arcs : List (Int × Int)) (S : List Int) (v : Int) (j : Nat) (x : Int) : Int := if x ∈ (outs arcs v).take j then max (rkUp F arcs S x) (F v + 1) else rkUp F arcs S x

theorem rkMid_zero (F : Int → Int) (arcs : List (Int × Int)) (S : List Int) (v x : Int) : rkMid F arcs S v 0 x = rkUp F arcs S x := by simp [rkMid]
theorem rkMid_all (F : Int → Int) (arcs : List (Int × Int)) (S : List Int) (v x : Int) {j : Nat} (hj : (outs arcs v).length ≤ j) : rkMid F arcs S v j x = rkUp F arcs (S ++ [v]) x := by
  rw [rkUp_snoc, rkMid, List.take_of_length_le hj]
theorem rkMid_succ {F : Int → Int} {arcs : List (Int × Int)} {S : List Int} {v x : Int} {j : Nat} (hx : (outs arcs v)[j]? = some x) (u : Int) : rkMid F arcs S v (j + 1) u = if u = x then max (rkMid F arcs S v j u) (F v + 1) else rkMid F arcs S v j u := by
  obtain ⟨hj, hxe⟩ := List.getElem?_eq_some_iff.1 hx
  unfold rkMid
  rw [List.take_succ_eq_append_getElem hj, hxe]
  by_cases e : u = x
  · subst e
    rw [if_pos (by simp), if_pos rfl]
    split
    · omega
    · rfl
  · rw [if_neg e]
    have : (u ∈ (outs arcs v).take j ++ [x]) ↔ u ∈ (outs arcs v).take j := by simp [e]
    simp only [this]

/-- No node leads to itself. -/
theorem Order.no_loop {n : Nat} {arcs : List (Int × Int)} {L : List Int} (h : Order n arcs L) {k : Nat} {v : Int} (hk : L[k]? = some v) : v ∉ outs arcs v := by
  intro hm
  have h1 := h.topo k v hk (v, v) (mem_outs.1 hm) rfl
  obtain ⟨j, hj⟩ := List.mem_iff_getElem?.1 h1
  rw [List.getElem?_take] at hj
  split at hj
  · have h2 := h.nodup
    obtain ⟨hk1, hk2⟩ := List.getElem?_eq_some_iff.1 hk
    obtain ⟨hj1, hj2⟩ := List.getElem?_eq_some_iff.1 hj
    have := List.pairwise_iff_getElem.1 h2 j k hj1 hk1 (by assumption)
    exact this (by rw [hj2]; exact hk2.symm)
  · cases hj
end Go.Proofs.Yteonpfomlmfkjaa
