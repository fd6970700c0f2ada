/- The lower bound holds for every tree. In plain Lean. -/
import Derived.Test.YtbmlkomfelkckaaLow
import Derived.Test.YtbmlkomfelkckaaBnd
import Derived.Test.YtbmlkomfelkckaaBetter
namespace Go.Proofs.Ytbmlkomfelkckaa

theorem colUp_count (rows : List (List Int)) (s : Nat) : ∀ n, colUp rows s n = (List.range n).countP (fun x : Nat => hasCol rows s (x : Int))
  | 0 => rfl
  | n + 1 => by
    rw [colUp, colUp_count rows s n, List.range_succ, List.countP_append]
    congr 1
    by_cases h : hasCol rows s (n : Int) = true <;> simp [h]

theorem hasCol_column (rows : List (List Int)) (s : Nat) (x : Int) : hasCol rows s x = (column rows s rows.length).any fun y => decide (y = x) := by
  rw [Bool.eq_iff_iff, hasCol, List.any_eq_true, List.any_eq_true]
  constructor
  · rintro ⟨r, hr, hx⟩
    obtain ⟨i, hi, rfl⟩ := List.mem_iff_getElem.1 hr
    refine ⟨stateAt rows s (i : Int), List.mem_map.2 ⟨i, List.mem_range.2 hi, rfl⟩, ?_⟩
    unfold hasRow at hx
    rw [beq_iff_eq] at hx
    rw [decide_eq_true_eq, stateAt, Int.toNat_natCast, List.getD_eq_getElem?_getD (l := rows), List.getElem?_eq_getElem hi]
    exact hx
  · rintro ⟨y, hy, hx⟩
    obtain ⟨k, hk, rfl⟩ := List.mem_map.1 hy
    rw [List.mem_range] at hk
    rw [decide_eq_true_eq, stateAt, Int.toNat_natCast, List.getD_eq_getElem?_getD (l := rows), List.getElem?_eq_getElem hk] at hx
    refine ⟨rows[k], List.getElem_mem hk, ?_⟩
    unfold hasRow
    rw [beq_iff_eq]
    exact hx

theorem col_le {rows : List (List Int)} {s : Nat} {bs : List Br} {T : NT} (hT : rdRoot (rows.length : Int) bs = some T) : colN rows s ≤ (fall rows s bs).n + 1 := by
  rw [fall_root hT]
  have h4 := kinds_fnum (fun k => stateAt rows s k) T
  have h5 : (List.range 12).countP (fun x : Nat => T.leaves.any fun k => decide (stateAt rows s k = (x : Int))) = colN rows s := by
    rw [colN, colUp_count]
    refine List.countP_congr (fun x _ => ?_)
    rw [any_column (rows := rows) (site := s) (root_range hT) (fun y => decide (y = (x : Int))), hasCol_column]
  rw [h5] at h4
  exact h4

theorem lowUp_sum {rows : List (List Int)} {bs : List Br} {T : NT} (hT : rdRoot (rows.length : Int) bs = some T) : ∀ s, lowUp rows s ≤ fsum rows bs s
  | 0 => Nat.le_refl _
  | s + 1 => by
    have h1 := lowUp_sum hT s
    have h2 := col_le (s := s) hT
    rw [lowUp, fsum]
    omega

theorem root_some {leaves : Int} {bs : List Br} (h : (rdTree leaves bs).isSome = true) : ∃ T, rdRoot leaves bs = some T := by
  obtain ⟨l, hl⟩ := Option.isSome_iff_exists.1 h
  exact ⟨_, by rw [rdRoot, hl]; rfl⟩

theorem err_root {bs : List Br} {rows : List (List Int)} (h : errBoth bs rows = 0) : matOk rows = true ∧ ∃ T, rdRoot (rows.length : Int) bs = some T := by
  obtain ⟨h1, h2⟩ := errBoth_zero h
  exact ⟨h1, root_some h2⟩

theorem low_sum {rows : List (List Int)} {bs : List Br} (h : errBoth bs rows = 0) : lowNum rows ≤ sumNum bs rows := by
  obtain ⟨h1, T, hT⟩ := err_root h
  rw [(lowNum_ok h1).1, sumNum, if_pos h]
  exact lowUp_sum hT _

theorem okTree_on {T : NT} {n : Nat} (h : T.On n) : okTree (n : Int) (T.form 0) = 0 := by
  have h1 := rdTree_form h.nodup (leaves := (n : Int)) (fun k hk => by have := h.lt k hk; omega) (by have := h.pos; omega) (by have := h.few; omega) (by have := h.len; omega)
  unfold okTree
  rw [h1]
  rfl

theorem errBoth_on {T : NT} {rows : List (List Int)} (hm : matOk rows = true) (h : T.On rows.length) : errBoth (T.form 0) rows = 0 := by
  unfold errBoth
  rw [if_pos hm]
  exact okTree_on h

/-- A tree's changes are those of its normal form. -/
theorem fsum_root {rows : List (List Int)} {bs cs : List Br} {T : NT} (h1 : rdRoot (rows.length : Int) bs = some T) (h2 : rdRoot (rows.length : Int) cs = some T) : ∀ s, fsum rows bs s = fsum rows cs s
  | 0 => rfl
  | s + 1 => by rw [fsum, fsum, fsum_root h1 h2 s, fall_root h1, fall_root h2]

theorem sum_root {rows : List (List Int)} {bs cs : List Br} {T : NT} (hm : matOk rows = true) (h1 : rdRoot (rows.length : Int) bs = some T) (h2 : rdRoot (rows.length : Int) cs = some T) : sumNum bs rows = sumNum cs rows := by
  have e : ∀ {xs : List Br}, rdRoot (rows.length : Int) xs = some T → errBoth xs rows = 0 := by
    intro xs h
    unfold errBoth okTree
    rw [if_pos hm]
    obtain ⟨l, hl, -⟩ := Option.map_eq_some_iff.1 h
    rw [hl]
    rfl
  rw [sumNum, sumNum, if_pos (e h1), if_pos (e h2)]
  exact fsum_root h1 h2 _

theorem changes_few (bs : List Br) (rows : List (List Int)) : sumNum bs rows ≤ 1000000 := by
  unfold sumNum
  split
  · rename_i h
    obtain ⟨hm, ht⟩ := errBoth_zero h
    have hf := matOk_few' hm
    have hn : bs.length ≤ 23 := by
      obtain ⟨l, hl'⟩ := Option.isSome_iff_exists.1 ht
      have := (rdTree_some hl').2.2.1
      omega
    have h1 := fsum_few rows bs (wid rows)
    have h2 : wid rows * bs.length ≤ 4096 * 23 := Nat.mul_le_mul hf.2.2 hn
    omega
  · omega

/-- What law BoundHolds asks. -/
structure HoldsOk (rows : List (List Int)) (bs : List Br) (B : NT) : Prop where
  low : lowNum rows ≤ sumNum bs rows
  le : sumNum (B.form 0) rows ≤ sumNum bs rows
  lowB : lowNum rows ≤ sumNum (B.form 0) rows
  err : errBoth (B.form 0) rows = 0
  ok : okTree (rows.length : Int) (B.form 0) = 0
  root : rdRoot (rows.length : Int) (B.form 0) = some B
  again : better (fun T => sumNum (T.form 0) rows) B = B
  few : sumNum bs rows ≤ 1000000

theorem holds_ok {rows : List (List Int)} {bs : List Br} {T : NT} (h : errBoth bs rows = 0) (hT : rdRoot (rows.length : Int) bs = some T) : HoldsOk rows bs (better (fun T => sumNum (T.form 0) rows) T) := by
  obtain ⟨hm, -⟩ := err_root h
  have hlen : 0 < rows.length ∧ rows.length ≤ 12 := by
    unfold matOk at hm
    simp at hm
    omega
  have hon := root_on hT hlen.1 hlen.2
  have hnorm := rdRoot_norm hT
  have hb := better_all (cost := fun T => sumNum (T.form 0) rows) hon hnorm
  have e1 := errBoth_on hm hb.on
  have hroot := hb.on.root
  rw [hb.norm.eq] at hroot
  have hc : sumNum (T.form 0) rows = sumNum bs rows := by
    have h1 := hon.root
    rw [hnorm.eq] at h1
    exact sum_root hm h1 hT
  refine ⟨low_sum h, by rw [← hc]; exact hb.le, low_sum e1, e1, okTree_on hb.on, hroot, hb.again, ?_⟩
  exact changes_few _ _
end Go.Proofs.Ytbmlkomfelkckaa
