/- Two leaves of a tree change places: as many best trees then as before. In plain Lean. -/
import Derived.Test.YtbmlkomfelkckaaAllP
import Derived.Test.YtbmlkomfelkckaaTurnP
import Derived.Test.YtbmlkomfelkckaaHoldsP
import Derived.Test.YtbmlkomfelkckaaBestT
namespace Go.Proofs.Ytbmlkomfelkckaa

/-! ### All trees differ -/

theorem mkFork_lt {a b : NT} (h : a.key ≤ b.key) : mkFork a b = .fork a b := by unfold mkFork; rw [if_neg (by omega)]

/-- Hanging at p is undone, and p is found again. -/
theorem hung_inj {T : NT} (h : T.Norm) (k : Nat) : (∀ j ∈ T.leaves, j < k) → ∀ {S : NT}, S.Norm → (∀ j ∈ S.leaves, j < k) → ∀ p q : Nat, p < T.size → q < S.size → T.hung (p : Int) k = S.hung (q : Int) k → T = S ∧ p = q := by
  induction h with
  | leaf j =>
    intro hT S hS hSk p q hp hq he
    have hj : j < k := hT j (by simp [NT.leaves])
    simp only [NT.size] at hp
    obtain rfl : p = 0 := by omega
    rw [NT.hung, if_pos (by rfl), mkFork_lt (by simp only [NT.key]; omega)] at he
    by_cases hr : q = S.size - 1
    · subst hr
      rw [show ((S.size - 1 : Nat) : Int) = (S.size : Int) - 1 by omega, hung_root k (hSk _ (key_mem S))] at he
      injection he with h1 h2
      subst h1
      exact ⟨rfl, by simp [NT.size]⟩
    · cases S with
      | leaf i => simp only [NT.size] at hq hr; omega
      | fork a b =>
        cases hS with
        | fork ha hb hk =>
        simp only [NT.size] at hq hr
        have e := congrArg NT.size he
        have hs := hung_norm (NT.Norm.fork ha hb hk) (q : Int) k
        rw [hs, norm_size, hangR_size _ _ _ (by omega) (by simp only [NT.size]; omega)] at e
        simp only [NT.size] at e
        have := a.size_pos
        have := b.size_pos
        omega
  | @fork a b ha hb hab iha ihb =>
    intro hT S hS hSk p q hp hq he
    have hTk : (NT.fork a b).key < k := hT _ (key_mem _)
    have hpa := a.size_pos
    have hpb := b.size_pos
    have hal : ∀ j ∈ a.leaves, j < k := fun j hj => hT j (by rw [NT.leaves]; exact List.mem_append_left _ hj)
    have hbl : ∀ j ∈ b.leaves, j < k := fun j hj => hT j (by rw [NT.leaves]; exact List.mem_append_right _ hj)
    cases S with
    | leaf i =>
      simp only [NT.size] at hq
      obtain rfl : q = 0 := by omega
      have e := congrArg NT.size he
      rw [hung_norm (NT.Norm.fork ha hb hab) (p : Int) k, norm_size, hangR_size _ _ _ (by omega) (by omega), hung_norm hS, norm_size, hangR_size _ _ _ (by omega) (by simp [NT.size])] at e
      simp only [NT.size] at e
      omega
    | fork c d =>
      have hS0 := hS
      cases hS with
      | fork hc hd hcd =>
      have hSk' : (NT.fork c d).key < k := hSk _ (key_mem _)
      have hcl : ∀ j ∈ c.leaves, j < k := fun j hj => hSk j (by rw [NT.leaves]; exact List.mem_append_left _ hj)
      have hdl : ∀ j ∈ d.leaves, j < k := fun j hj => hSk j (by rw [NT.leaves]; exact List.mem_append_right _ hj)
      have hpc := c.size_pos
      have hpd := d.size_pos
      have key_hung : ∀ {X : NT}, X.Norm → (∀ j ∈ X.leaves, j < k) → ∀ p : Int, (X.hung p k).key = X.key := by
        intro X hX
        induction hX with
        | leaf i =>
          intro hl p
          have := hl i (by simp [NT.leaves])
          unfold NT.hung
          split
          · rw [key_mkFork]; simp only [NT.key]; omega
          · rfl
        | @fork x y hx hy hxy ihx ihy =>
          intro hl p
          have hx' : ∀ j ∈ x.leaves, j < k := fun j hj => hl j (by rw [NT.leaves]; exact List.mem_append_left _ hj)
          have hy' : ∀ j ∈ y.leaves, j < k := fun j hj => hl j (by rw [NT.leaves]; exact List.mem_append_right _ hj)
          have := hx' _ (key_mem x)
          unfold NT.hung
          split
          · rw [key_mkFork]; simp only [NT.key]; omega
          · rw [key_mkFork, ihx hx' p, ihy hy' _]; simp only [NT.key]; omega
      have hmk : ∀ {x y : NT}, x.Norm → y.Norm → (∀ j ∈ x.leaves, j < k) → (∀ j ∈ y.leaves, j < k) → x.key ≤ y.key → ∀ p r : Int, mkFork (x.hung p k) (y.hung r k) = .fork (x.hung p k) (y.hung r k) := by
        intro x y hx hy hxl hyl hxy p r
        exact mkFork_lt (by rw [key_hung hx hxl, key_hung hy hyl]; exact hxy)
      have leaf_hung : ∀ {X : NT}, X.Norm → (∀ j ∈ X.leaves, j < k) → ∀ r : Int, X.hung r k ≠ .leaf k := by
        intro X hX hXl r hr
        have := congrArg NT.key hr
        rw [key_hung hX hXl] at this
        have h2 := hXl _ (key_mem X)
        simp only [NT.key] at this
        omega
      have size_hung : ∀ {X : NT}, X.Norm → ∀ r : Nat, r < X.size → (X.hung (r : Int) k).size = X.size + 2 := by
        intro X hX r hr
        rw [hung_norm hX, norm_size, hangR_size _ _ _ (by omega) (by omega)]
      by_cases hpr : (p : Int) = (a.size : Int) + b.size
      · have eT : (NT.fork a b).hung (p : Int) k = .fork (.fork a b) (.leaf k) := by
          rw [NT.hung, if_pos hpr, mkFork_lt (by simp only [NT.key] at hTk ⊢; omega)]
        by_cases hqr : (q : Int) = (c.size : Int) + d.size
        · have eS : (NT.fork c d).hung (q : Int) k = .fork (.fork c d) (.leaf k) := by
            rw [NT.hung, if_pos hqr, mkFork_lt (by simp only [NT.key] at hSk' ⊢; omega)]
          rw [eT, eS] at he
          injection he with h1 h2
          injection h1 with h3 h4
          subst h3; subst h4
          exact ⟨rfl, by omega⟩
        · rw [eT, NT.hung, if_neg hqr, hmk hc hd hcl hdl hcd] at he
          injection he with h1 h2
          exact absurd h2.symm (leaf_hung hd hdl _)
      · have eT : (NT.fork a b).hung (p : Int) k = .fork (a.hung p k) (b.hung ((p : Int) - a.size) k) := by
          rw [NT.hung, if_neg hpr, hmk ha hb hal hbl hab]
        by_cases hqr : (q : Int) = (c.size : Int) + d.size
        · have eS : (NT.fork c d).hung (q : Int) k = .fork (.fork c d) (.leaf k) := by
            rw [NT.hung, if_pos hqr, mkFork_lt (by simp only [NT.key] at hSk' ⊢; omega)]
          rw [eT, eS] at he
          injection he with h1 h2
          exact absurd h2 (leaf_hung hb hbl _)
        · have eS : (NT.fork c d).hung (q : Int) k = .fork (c.hung q k) (d.hung ((q : Int) - c.size) k) := by
            rw [NT.hung, if_neg hqr, hmk hc hd hcl hdl hcd]
          rw [eT, eS] at he
          injection he with h1 h2
          have mem_hung : ∀ {X : NT}, X.Norm → ∀ r : Nat, r < X.size → k ∈ (X.hung (r : Int) k).leaves := by
            intro X hX r hr
            exact (hung_leaves hX _ _ (by omega) (by omega)).mem_iff.2 List.mem_cons_self
          simp only [NT.size] at hp hq
          by_cases hpl : p < a.size
          · rw [hung_out hb _ _ (.inl (by omega))] at h2
            by_cases hql : q < c.size
            · rw [hung_out hd _ _ (.inl (by omega))] at h2
              obtain ⟨h3, h4⟩ := iha hal hc hcl p q hpl hql h1
              exact ⟨by rw [h3, h2], h4⟩
            · exfalso
              have e : ((q : Int) - c.size) = ((q - c.size : Nat) : Int) := by omega
              rw [e] at h2
              have := mem_hung hd (q - c.size) (by omega)
              rw [← h2] at this
              exact absurd (hbl k this) (by omega)
          · have ep : ((p : Int) - a.size) = ((p - a.size : Nat) : Int) := by omega
            rw [hung_out ha _ _ (.inr (by omega))] at h1
            rw [ep] at h2
            by_cases hql : q < c.size
            · exfalso
              rw [hung_out hd _ _ (.inl (by omega))] at h2
              have := mem_hung hb (p - a.size) (by omega)
              rw [h2] at this
              exact absurd (hdl k this) (by omega)
            · have e : ((q : Int) - c.size) = ((q - c.size : Nat) : Int) := by omega
              rw [hung_out hc _ _ (.inr (by omega))] at h1
              rw [e] at h2
              obtain ⟨h3, h4⟩ := ihb hbl hd hdl (p - a.size) (q - c.size) (by omega) (by omega) h2
              subst h1; subst h3
              exact ⟨rfl, by omega⟩

theorem trees_nodup : ∀ k, k ≤ 11 → (treesUp k).Nodup
  | 0, _ => by simp [treesUp]
  | k + 1, hk => by
    rw [treesUp]
    have ih := trees_nodup k (by omega)
    have hon := trees_on k (by omega)
    have hl : ∀ T ∈ treesUp k, ∀ j ∈ T.leaves, j < k + 1 := fun T hT j hj => (hon T hT).1.lt j hj
    refine List.pairwise_flatMap.2 ⟨fun T hT => ?_, ?_⟩
    · unfold cands
      refine List.pairwise_map.2 (List.Pairwise.imp_of_mem ?_ (List.nodup_range (n := T.size)))
      intro p q hp hq hne he
      exact hne (hung_inj (hon T hT).2 (k + 1) (hl T hT) (hon T hT).2 (hl T hT) p q (List.mem_range.1 hp) (List.mem_range.1 hq) he).2
    · refine List.Pairwise.imp_of_mem ?_ ih
      intro T S hT hS hne X hX Y hY hXY
      obtain ⟨p, hp, rfl⟩ := List.mem_map.1 hX
      obtain ⟨q, hq, hqe⟩ := List.mem_map.1 hY
      rw [← hXY] at hqe
      exact hne (hung_inj (hon T hT).2 (k + 1) (hl T hT) (hon S hS).2 (hl S hS) p q (List.mem_range.1 hp) (List.mem_range.1 hq) hqe.symm).1

theorem treesOf_nodup (n : Int) : (treesOf n).Nodup := by
  unfold treesOf
  split
  · exact trees_nodup _ (by omega)
  · exact List.nodup_nil

/-! ### Two leaves change places -/
def sw2 (i j k : Nat) : Nat := if k = i then j else if k = j then i else k

theorem sw2_sw2 (i j k : Nat) : sw2 i j (sw2 i j k) = k := by
  unfold sw2
  by_cases h1 : k = i
  · rw [if_pos h1]
    by_cases h2 : j = i
    · rw [if_pos h2]; omega
    · rw [if_neg h2, if_pos rfl]; omega
  · rw [if_neg h1]
    by_cases h2 : k = j
    · rw [if_pos h2, if_pos rfl]; omega
    · rw [if_neg h2, if_neg h1, if_neg h2]

theorem sw2_lt {i j k n : Nat} (hi : i < n) (hj : j < n) (hk : k < n) : sw2 i j k < n := by
  unfold sw2
  split
  · omega
  · split <;> omega

def NT.ren (f : Nat → Nat) : NT → NT
  | .leaf k => .leaf (f k)
  | .fork a b => .fork (a.ren f) (b.ren f)

theorem ren_leaves (f : Nat → Nat) : ∀ T : NT, (T.ren f).leaves = T.leaves.map f
  | .leaf k => rfl
  | .fork a b => by rw [NT.ren, NT.leaves, NT.leaves, ren_leaves f a, ren_leaves f b, List.map_append]

theorem fset_ren (st : Nat → Int) (f : Nat → Nat) : ∀ T : NT, fset st (T.ren f) = fset (fun k => st (f k)) T ∧ fnum st (T.ren f) = fnum (fun k => st (f k)) T
  | .leaf k => ⟨rfl, rfl⟩
  | .fork a b => by
    obtain ⟨a1, a2⟩ := fset_ren st f a
    obtain ⟨b1, b2⟩ := fset_ren st f b
    rw [NT.ren, fset, fnum, fset, fnum, a1, a2, b1, b2]
    exact ⟨rfl, rfl⟩

theorem mkFork_comm {a b : NT} (h : a.key ≠ b.key) : mkFork a b = mkFork b a := by
  unfold mkFork
  by_cases hk : b.key < a.key
  · rw [if_pos hk, if_neg (by omega)]
  · rw [if_neg hk, if_pos (by omega)]

/-- Named anew, and put in order: as if the order had been made first. -/
theorem norm_ren {f : Nat → Nat} (hf : ∀ x y, f x = f y → x = y) : ∀ {T : NT}, T.leaves.Nodup → (T.norm.ren f).norm = (T.ren f).norm
  | .leaf k, _ => rfl
  | .fork a b, h => by
    rw [NT.leaves] at h
    have ha := norm_ren hf (List.nodup_append.1 h).1
    have hb := norm_ren hf (List.nodup_append.1 h).2.1
    have hdis := (List.nodup_append.1 h).2.2
    have hkk : (a.norm.ren f).norm.key ≠ (b.norm.ren f).norm.key := by
      intro he
      have m1 := key_mem (a.norm.ren f).norm
      have m2 := key_mem (b.norm.ren f).norm
      rw [he] at m1
      have m1 := (leaves_norm _).mem_iff.1 m1
      have m2 := (leaves_norm _).mem_iff.1 m2
      rw [ren_leaves] at m1 m2
      obtain ⟨x, hx, hx'⟩ := List.mem_map.1 m1
      obtain ⟨y, hy, hy'⟩ := List.mem_map.1 m2
      exact hdis x ((leaves_norm _).mem_iff.1 hx) y ((leaves_norm _).mem_iff.1 hy) (hf _ _ (hx'.trans hy'.symm))
    rw [NT.ren, NT.norm, NT.norm]
    conv => lhs; unfold mkFork
    split
    · rw [NT.ren, NT.norm, mkFork_comm (Ne.symm hkk), ha, hb]
    · rw [NT.ren, NT.norm, ha, hb]

/-- The tree with two leaves changed, in its form. -/
def NT.turned (i j : Nat) (T : NT) : NT := (T.ren (sw2 i j)).norm

theorem ren_ren (f : Nat → Nat) (hf : ∀ x, f (f x) = x) : ∀ T : NT, (T.ren f).ren f = T
  | .leaf k => by rw [NT.ren, NT.ren, hf]
  | .fork a b => by rw [NT.ren, NT.ren, ren_ren f hf a, ren_ren f hf b]

theorem sw2_inj {i j : Nat} : ∀ x y, sw2 i j x = sw2 i j y → x = y := fun x y h => by rw [← sw2_sw2 i j x, h, sw2_sw2]

theorem nodup_map_inj {f : Nat → Nat} (hf : ∀ x y, f x = f y → x = y) {l : List Nat} (h : l.Nodup) : (l.map f).Nodup :=
  List.pairwise_map.2 (List.Pairwise.imp (fun hne he => hne (hf _ _ he)) h)

theorem ren_on {T : NT} {n i j : Nat} (h : T.On n) (hi : i < n) (hj : j < n) : (T.ren (sw2 i j)).On n := by
  refine ⟨?_, fun k hk => ?_, ?_, h.pos, h.few⟩
  · rw [ren_leaves]
    exact nodup_map_inj sw2_inj h.nodup
  · rw [ren_leaves] at hk
    obtain ⟨x, hx, rfl⟩ := List.mem_map.1 hk
    exact sw2_lt hi hj (h.lt x hx)
  · rw [ren_leaves, List.length_map]
    exact h.len

theorem turned_on {T : NT} {n i j : Nat} (h : T.On n) (hi : i < n) (hj : j < n) : (T.turned i j).On n ∧ (T.turned i j).Norm := by
  have h1 := ren_on h hi hj
  have hp := leaves_norm (T.ren (sw2 i j))
  exact ⟨⟨hp.nodup_iff.2 h1.nodup, fun k hk => h1.lt k (hp.mem_iff.1 hk), hp.length_eq.trans h1.len, h1.pos, h1.few⟩, NT.norm_norm _⟩

theorem turned_turned {T : NT} {n i j : Nat} (h : T.On n) (hn : T.Norm) (hi : i < n) (hj : j < n) : (T.turned i j).turned i j = T := by
  unfold NT.turned
  rw [norm_ren sw2_inj (ren_on h hi hj).nodup, ren_ren _ (sw2_sw2 i j), hn.eq]

/-- Two rows change places. -/
def swRows (rows : List (List Int)) (i j : Nat) : List (List Int) := (rows.set i (rows.getD j [])).set j (rows.getD i [])

theorem swRows_length (rows : List (List Int)) (i j : Nat) : (swRows rows i j).length = rows.length := by simp [swRows]

theorem swRows_get {rows : List (List Int)} {i j : Nat} (hi : i < rows.length) (hj : j < rows.length) (k : Nat) : (swRows rows i j).getD k [] = rows.getD (sw2 i j k) [] := by
  unfold swRows sw2
  simp only [List.getD_eq_getElem?_getD, List.getElem?_set, List.length_set]
  by_cases hkj : j = k
  · subst hkj
    rw [if_pos rfl, if_pos hj]
    by_cases hki : j = i
    · subst hki
      rw [if_pos rfl]
      rfl
    · rw [if_neg hki, if_pos rfl]
      rfl
  · rw [if_neg hkj]
    by_cases hki : i = k
    · subst hki
      rw [if_pos rfl, if_pos hi, if_pos rfl]
      rfl
    · rw [if_neg hki, if_neg (by omega), if_neg (by omega)]

theorem mem_getD {rows : List (List Int)} {r : List Int} (h : r ∈ rows) : ∃ k, k < rows.length ∧ rows.getD k [] = r := by
  obtain ⟨k, hk, rfl⟩ := List.getElem_of_mem h
  exact ⟨k, hk, by simp [hk]⟩

theorem getD_mem {rows : List (List Int)} {k : Nat} (h : k < rows.length) : rows.getD k [] ∈ rows := by
  have e : rows.getD k [] = rows[k] := by simp [h]
  rw [e]
  exact List.getElem_mem h

theorem wid_getD (rows : List (List Int)) : wid rows = (rows.getD 0 []).length := by
  cases rows <;> rfl

theorem swRows_ok {rows : List (List Int)} {i j : Nat} (hm : matOk rows = true) (hi : i < rows.length) (hj : j < rows.length) : matOk (swRows rows i j) = true ∧ wid (swRows rows i j) = wid rows := by
  unfold matOk at hm
  simp only [Bool.and_eq_true, decide_eq_true_eq, List.all_eq_true] at hm
  obtain ⟨h1, h2, h3⟩ := hm
  have hw : wid (swRows rows i j) = wid rows := by
    rw [wid_getD, swRows_get hi hj]
    have := h3 _ (getD_mem (sw2_lt hi hj h1))
    unfold rowOk at this
    simp only [Bool.and_eq_true, decide_eq_true_eq] at this
    exact this.1
  refine ⟨?_, hw⟩
  unfold matOk
  rw [swRows_length, hw]
  simp only [Bool.and_eq_true, decide_eq_true_eq, List.all_eq_true]
  refine ⟨h1, h2, fun r hr => ?_⟩
  obtain ⟨k, hk, rfl⟩ := mem_getD hr
  rw [swRows_get hi hj]
  rw [swRows_length] at hk
  exact h3 _ (getD_mem (sw2_lt hi hj hk))

theorem stateAt_sw {rows : List (List Int)} {i j : Nat} (hi : i < rows.length) (hj : j < rows.length) (site k : Nat) : stateAt (swRows rows i j) site (k : Int) = stateAt rows site ((sw2 i j k : Nat) : Int) := by
  unfold stateAt
  rw [Int.toNat_natCast, Int.toNat_natCast, swRows_get hi hj]

theorem fsum_turned {rows : List (List Int)} {T : NT} {i j : Nat} (h : T.On rows.length) (hi : i < rows.length) (hj : j < rows.length) : ∀ s, fsum (swRows rows i j) (T.form 0) s = fsum rows ((T.turned i j).form 0) s
  | 0 => rfl
  | s + 1 => by
    rw [fsum, fsum, fsum_turned h hi hj s, fall_root h.root, fall_root (turned_on h hi hj).1.root, (fset_norm _ _).2, (fset_norm _ _).2]
    unfold NT.turned
    rw [(fset_norm _ _).2, (fset_ren _ _ _).2]
    congr 2
    funext k
    exact stateAt_sw hi hj s k

/-- The changes that the turned rows ask of a tree are those that the rows ask of the turned tree. -/
theorem sum_turned {rows : List (List Int)} {T : NT} {i j : Nat} (hm : matOk rows = true) (h : T.On rows.length) (hi : i < rows.length) (hj : j < rows.length) : sumNum (T.form 0) (swRows rows i j) = sumNum ((T.turned i j).form 0) rows := by
  obtain ⟨h1, h2⟩ := swRows_ok hm hi hj
  unfold sumNum
  rw [if_pos (errBoth_on h1 (by rw [swRows_length]; exact h)), if_pos (errBoth_on hm (turned_on h hi hj).1), h2, fsum_turned h hi hj]

theorem nodup_le {α : Type} : ∀ (l m : List α), l.Nodup → (∀ x ∈ l, x ∈ m) → l.length ≤ m.length
  | [], _, _, _ => Nat.zero_le _
  | a :: l, m, hn, h => by
    rw [List.nodup_cons] at hn
    have ha := h a (by simp)
    obtain ⟨m1, m2, rfl⟩ := List.append_of_mem ha
    have ih := nodup_le l (m1 ++ m2) hn.2 (fun x hx => by
      have hx' := h x (List.mem_cons_of_mem _ hx)
      have hne : x ≠ a := by rintro rfl; exact hn.1 hx
      simp only [List.mem_append, List.mem_cons] at hx' ⊢
      rcases hx' with h | h | h
      · exact .inl h
      · exact absurd h hne
      · exact .inr h)
    simp only [List.length_append, List.length_cons] at ih ⊢
    omega

/-- As many best trees, and as good. -/
theorem best_turned {rows : List (List Int)} {i j : Nat} (hm : matOk rows = true) (hi : i < rows.length) (hj : j < rows.length) : (bestAll (swRows rows i j)).l.length = (bestAll rows).l.length ∧ lowI (bestAll (swRows rows i j)).low = lowI (bestAll rows).low := by
  have hn := matOk_few' hm
  have hone : ∀ T ∈ treesOf (rows.length : Int), T.On rows.length ∧ T.Norm := fun T hT => treesOf_on hT
  unfold bestAll
  rw [swRows_length]
  obtain ⟨m1, l1, ⟨T1, o1, n1, c1⟩, le1, f1⟩ := least_got (fun T => sumNum (T.form 0) (swRows rows i j)) (n := rows.length) (by omega) (by omega)
  obtain ⟨m2, l2, ⟨T2, o2, n2, c2⟩, le2, f2⟩ := least_got (fun T => sumNum (T.form 0) rows) (n := rows.length) (by omega) (by omega)
  have hcost : ∀ T : NT, T.On rows.length → sumNum (T.form 0) (swRows rows i j) = sumNum ((T.turned i j).form 0) rows := fun T h => sum_turned hm h hi hj
  have hcost' : ∀ T : NT, T.On rows.length → T.Norm → sumNum (T.form 0) rows = sumNum ((T.turned i j).form 0) (swRows rows i j) := fun T h h' => by
    rw [hcost _ (turned_on h hi hj).1, turned_turned h h' hi hj]
  have e : m1 = m2 := by
    have a1 := le2 (T1.turned i j) (turned_on o1 hi hj).1 (turned_on o1 hi hj).2
    have a2 := le1 (T2.turned i j) (turned_on o2 hi hj).1 (turned_on o2 hi hj).2
    rw [← hcost T1 o1, c1] at a1
    rw [← hcost' T2 o2 n2, c2] at a2
    omega
  subst e
  refine ⟨?_, by rw [l1, l2]⟩
  rw [f1, f2]
  have half : ∀ (c d : NT → Nat), (∀ T : NT, T.On rows.length → T.Norm → c T = d (T.turned i j)) → ((treesOf (rows.length : Int)).filter fun T => c T = m1).length ≤ ((treesOf (rows.length : Int)).filter fun T => d T = m1).length := by
    intro c d hcd
    rw [← List.length_map (f := NT.turned i j)]
    refine nodup_le _ _ ?_ ?_
    · refine List.pairwise_map.2 (List.Pairwise.imp_of_mem ?_ ((treesOf_nodup (rows.length : Int)).filter _))
      intro S T hS hT hne he
      have hS := hone S (List.mem_filter.1 hS).1
      have hT := hone T (List.mem_filter.1 hT).1
      have := congrArg (NT.turned i j) he
      rw [turned_turned hS.1 hS.2 hi hj, turned_turned hT.1 hT.2 hi hj] at this
      exact hne this
    · intro S hS
      obtain ⟨T, hT, rfl⟩ := List.mem_map.1 hS
      obtain ⟨hT1, hT2⟩ := List.mem_filter.1 hT
      obtain ⟨hT3, hT4⟩ := hone T hT1
      obtain ⟨t1, t2⟩ := turned_on hT3 hi hj
      refine List.mem_filter.2 ⟨treesOf_all t1 t2, ?_⟩
      rw [decide_eq_true_eq] at hT2 ⊢
      rw [← hcd T hT3 hT4]
      exact hT2
  exact Nat.le_antisymm (half _ _ fun T h h' => hcost T h) (half _ _ fun T h h' => hcost' T h h')
end Go.Proofs.Ytbmlkomfelkckaa
