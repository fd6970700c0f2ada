/- matrix.Check: rows of one length, few of them, their numbers in range. -/
import Derived.Test.YtbmlkomfelkckaaMem
namespace Go.Proofs.Ytbmlkomfelkckaa
open Go Go.RowKit
set_option maxRecDepth 100000

/-- Whole numbers at 'A', one behind the other. -/
def RdInt (w : World) (A : Option Addr) (xs : List Int) : Prop :=
  ∀ (i : Nat) (x : Int), xs[i]? = some x → ∃ ad, A = some ad ∧ w.cell? (ad.add i) = some (.int .i64 x)

/-- Rows of whole numbers. -/
def RdRows (w : World) (A : Option Addr) (rows : List (List Int)) : Prop :=
  ∀ (i : Nat) (r : List Int), rows[i]? = some r → ∃ ad A' c', A = some ad ∧ w.cell? (ad.add i) = some (.slice A' r.length c') ∧ RdInt w A' r ∧ r.length ≤ c' ∧ c' ≤ 9223372036854775807

theorem RdInt.below {w w' : World} {A : Option Addr} {xs : List Int} (h : RdInt w A xs) (hb : Below w.heap.size w w') : RdInt w' A xs := by
  intro i x hx
  obtain ⟨ad, rfl, h0⟩ := h i x hx
  exact ⟨ad, rfl, (hb.cell (World.block_lt_of_cell? w _ h0)).trans h0⟩

theorem RdRows.below {w w' : World} {A : Option Addr} {rows : List (List Int)} (h : RdRows w A rows) (hb : Below w.heap.size w w') : RdRows w' A rows := by
  intro i r hr
  obtain ⟨ad, A', c', rfl, h0, h1, h2⟩ := h i r hr
  exact ⟨ad, A', c', rfl, (hb.cell (World.block_lt_of_cell? w _ h0)).trans h0, h1.below hb, h2⟩

/-- The length of the first row. -/
def wid : List (List Int) → Nat
  | [] => 0
  | r :: _ => r.length

theorem wid_at {rows : List (List Int)} (h : 0 < rows.length) : ∃ r, rows[0]? = some r ∧ r.length = wid rows := by
  cases rows with
  | nil => simp at h
  | cons r rs => exact ⟨r, rfl, rfl⟩

def numOk (x : Int) : Bool := decide (-1 ≤ x) && decide (x < 12)
def rowOk (m : Nat) (r : List Int) : Bool := decide (r.length = m) && (decide (r.length ≤ 4096) && r.all numOk)
def matOk (rows : List (List Int)) : Bool := decide (0 < rows.length) && (decide (rows.length ≤ 12) && rows.all (rowOk (wid rows)))
def errMat (rows : List (List Int)) : Int := if matOk rows then 0 else 190

theorem matOk_few {rows : List (List Int)} (h : rows.length = 0 ∨ 12 < rows.length) : matOk rows = false := by
  unfold matOk
  rcases h with h | h
  · simp [h]
  · have : ¬ rows.length ≤ 12 := by omega
    simp [this]

theorem matOk_row {rows : List (List Int)} {i : Nat} {r : List Int} (hi : rows[i]? = some r) (h : rowOk (wid rows) r = false) : matOk rows = false := by
  unfold matOk
  have : rows.all (rowOk (wid rows)) = false := by
    rw [List.all_eq_false]
    exact ⟨r, List.mem_of_getElem? hi, by simp [h]⟩
  simp [this]

theorem rowOk_num {m : Nat} {r : List Int} {j : Nat} {x : Int} (hj : r[j]? = some x) (h : numOk x = false) : rowOk m r = false := by
  unfold rowOk
  have : r.all numOk = false := by
    rw [List.all_eq_false]
    exact ⟨x, List.mem_of_getElem? hj, by simp [h]⟩
  simp [this]

theorem matOk_all {rows : List (List Int)} (h0 : 0 < rows.length) (h1 : rows.length ≤ 12) (h : ∀ (i : Nat) (r : List Int), rows[i]? = some r → rowOk (wid rows) r = true) : matOk rows = true := by
  unfold matOk
  have : rows.all (rowOk (wid rows)) = true := by
    rw [List.all_eq_true]
    intro r hr
    obtain ⟨i, hi, rfl⟩ := List.mem_iff_getElem.1 hr
    exact h i _ (List.getElem?_eq_getElem hi)
  simp [this, h0, h1]

theorem rowOk_all {m : Nat} {r : List Int} (h0 : r.length = m) (h1 : r.length ≤ 4096) (h : ∀ (j : Nat) (x : Int), r[j]? = some x → numOk x = true) : rowOk m r = true := by
  unfold rowOk
  have : r.all numOk = true := by
    rw [List.all_eq_true]
    intro x hx
    obtain ⟨i, hi, rfl⟩ := List.mem_iff_getElem.1 hx
    exact h i _ (List.getElem?_eq_getElem hi)
  simp [this, h0]
  omega

set_option maxHeartbeats 1000000 in
theorem mcheck_calls (A : Option Addr) (n c : Nat) (rows : List (List Int)) (w : World) (hr : RdRows w A rows) (hxn : rows.length = n) (hn : n ≤ 9223372036854775807) :
    Calls Try.prog 61 #[.agg #[.slice A n c]] w fun e w' => e = .returned (.int .i64 (errMat rows)) ∧ Below w.heap.size w w' := by
  have HX := Lib.hid hxn
  by_cases h0 : n = 0
  · rw [show errMat rows = 190 by unfold errMat; rw [matOk_few (by omega)]; rfl]
    have b0 : ((n : Int) == 0) = true := by rw [beq_iff_eq]; omega
    clear h0 hxn
    go_enter Try.func61, Try.ntmps61
    go_wp2_with fail
    go_ret
    exact ⟨rfl, below_alloc _ _⟩
  · by_cases h1 : 12 < n
    · rw [show errMat rows = 190 by unfold errMat; rw [matOk_few (by omega)]; rfl]
      have b0 : ((n : Int) == 0) = false := by rw [beq_eq_false_iff_ne]; omega
      have b1 : (12 : Int) < n := by omega
      clear h0 hxn
      go_enter Try.func61, Try.ntmps61
      go_wp2_with fail
      go_ret
      exact ⟨rfl, below_alloc _ _⟩
    · have b0 : ((n : Int) == 0) = false := by rw [beq_eq_false_iff_ne]; omega
      have b1 : ¬ (12 : Int) < n := by omega
      have hpos : 0 < n := by omega
      have hfew : n ≤ 12 := by omega
      clear h0 h1 hxn
      obtain ⟨r0, hr0, hm⟩ := wid_at (rows := rows) (by have := HX.out; omega)
      obtain ⟨ad, A0, c0, rfl, d0, -, hc0, hc1⟩ := hr 0 r0 hr0
      rw [show ad.add 0 = ad by simp [Addr.add], hm] at d0
      rw [hm] at hc0
      have hlt0 := World.block_lt_of_cell? w _ d0
      obtain ⟨m, hwm⟩ : ∃ m, m = wid rows := ⟨_, rfl⟩
      rw [← hwm] at d0 hc0
      have HW := Lib.hid hwm
      clear hm hr0 hwm
      go_enter Try.func61, Try.ntmps61
      go_wp2_with fail
      go_loopg [2, 20] n (fun gk v2 v20 wr => ∃ k : Nat, v2 = .int .i64 0 ∧ v20 = .int .i64 k ∧ k ≤ n ∧ Hid (gk + k = n) ∧ wr = w.alloc (.cells #[.slice (some ad) n c] 36) ∧ Hid (∀ (i : Nat) (r : List Int), i < k → rows[i]? = some r → rowOk m r = true))
      case atStart => exact ⟨0, rfl, rfl, Nat.zero_le _, rfl, rfl, fun i r hi => by omega⟩
      case round =>
        obtain ⟨k, rfl, rfl, hk, HG, rfl, HR⟩ := hrel
        obtain ⟨g1, rfl⟩ : ∃ g1 : Nat, g1 = gk := ⟨_, rfl⟩
        by_cases hkn : k < n
        · obtain ⟨ad', A1, c1, he, d1, hrow, hk1, hk2⟩ := hr k (rows.getD k []) (by have := HX.out; rw [List.getD_eq_getElem?_getD, List.getElem?_eq_getElem (by omega)]; rfl)
          obtain rfl : ad = ad' := by simpa using he
          have hlt1 := World.block_lt_of_cell? w _ d1
          obtain ⟨r, hr'⟩ : ∃ r, rows.getD k [] = r := ⟨_, rfl⟩
          rw [hr'] at d1 hrow hk1
          have HK : Hid (rows[k]? = some r) := by
            have := HX.out
            show rows[k]? = some r
            rw [← hr', List.getD_eq_getElem?_getD, List.getElem?_eq_getElem (by omega)]; rfl
          clear hr' he
          by_cases hm : r.length = m
          · subst hm
            have b2 : ((r.length : Int) != r.length) = false := by simp
            by_cases hl : r.length ≤ 4096
            · have b3 : ¬ (4096 : Int) < r.length := by omega
              go_wp2_with fail
              go_loopg [2, 39] r.length (fun hk v2 v39 wq => ∃ j : Nat, v2 = .int .i64 0 ∧ v39 = .int .i64 j ∧ j ≤ r.length ∧ Hid (hk + j = r.length) ∧ wq = w.alloc (.cells #[.slice (some ad) n c] 36) ∧ Hid (∀ (i : Nat) (x : Int), i < j → r[i]? = some x → numOk x = true))
              case atStart => exact ⟨0, rfl, rfl, Nat.zero_le _, rfl, rfl, fun i x hi => by omega⟩
              case round =>
                obtain ⟨j, rfl, rfl, hj, HJ, rfl, HN⟩ := hrel
                by_cases hjn : j < r.length
                · obtain ⟨ad1, rfl, e1⟩ := hrow j (r[j]) (by simp [hjn])
                  have hlt2 := World.block_lt_of_cell? w _ e1
                  obtain ⟨x, hx⟩ : ∃ x, r[j] = x := ⟨_, rfl⟩
                  rw [hx] at e1
                  have HK2 : Hid (r[j]? = some x) := by show r[j]? = some x; rw [List.getElem?_eq_getElem hjn, hx]
                  clear hx
                  by_cases hx : -1 ≤ x ∧ x < 12
                  · have x0 : ¬ x < -1 := by omega
                    have x1 : ¬ 12 ≤ x := by omega
                    have HX1 : Hid (numOk x = true) := by show numOk x = true; unfold numOk; simp [hx.1, hx.2]
                    clear hx
                    go_wp2_with fail
                    go_roundg (gk - 1)
                    case measure => have := HJ.out; omega
                    case rel => exact ⟨j + 1, rfl, by go_num, by omega, by have := HJ.out; show gk - 1 + (j + 1) = r.length; omega, rfl, fun i y hi hy => by
                      rcases Nat.lt_or_ge i j with h | h
                      · exact HN.out i y h hy
                      · have : i = j := by omega
                        subst this
                        have h2 := HK2.out
                        rw [h2] at hy
                        cases hy
                        exact HX1.out⟩
                  · have HF : Hid (errMat rows = 190) := by
                      show errMat rows = 190
                      unfold errMat
                      rw [matOk_row HK.out (rowOk_num HK2.out (by unfold numOk; simp; omega))]
                      rfl
                    by_cases x0 : x < -1
                    · clear hx
                      go_wp2_with fail
                      go_ret
                      exact ⟨by rw [HF.out]; rfl, below_alloc _ _⟩
                    · have x1 : 12 ≤ x := by omega
                      clear hx
                      go_wp2_with fail
                      go_ret
                      exact ⟨by rw [HF.out]; rfl, below_alloc _ _⟩
                · have HO : Hid (rowOk r.length r = true) := rowOk_all rfl hl (fun i x hi => HN.out i x (by have := (List.getElem?_eq_some_iff.1 hi).1; omega) hi)
                  go_wp2_with fail
                  go_roundg (g1 - 1)
                  case measure => have := HG.out; omega
                  case rel => exact ⟨k + 1, rfl, by go_num, by omega, by have := HG.out; show g1 - 1 + (k + 1) = n; omega, rfl, fun i y hi hy => by
                    rcases Nat.lt_or_ge i k with h | h
                    · exact HR.out i y h hy
                    · have : i = k := by omega
                      subst this
                      have h2 := HK.out
                      rw [h2] at hy
                      cases hy
                      exact HO.out⟩
            · have b3 : (4096 : Int) < r.length := by omega
              have HF : Hid (errMat rows = 190) := by
                show errMat rows = 190
                unfold errMat
                rw [matOk_row HK.out (by rw [← HW.out]; unfold rowOk; simp; omega)]
                rfl
              go_wp2_with fail
              go_ret
              exact ⟨by rw [HF.out]; rfl, below_alloc _ _⟩
          · have b2 : ((r.length : Int) != m) = true := by rw [bne_iff_ne]; omega
            have HF : Hid (errMat rows = 190) := by
              show errMat rows = 190
              unfold errMat
              rw [matOk_row HK.out (by rw [← HW.out]; unfold rowOk; simp [hm])]
              rfl
            clear hm
            go_wp2_with fail
            go_ret
            exact ⟨by rw [HF.out]; rfl, below_alloc _ _⟩
        · have HF : Hid (errMat rows = 0) := by
            show errMat rows = 0
            unfold errMat
            have := HX.out
            rw [matOk_all (by omega) (by omega) (fun i r hi => by rw [← HW.out]; exact HR.out i r (by have := (List.getElem?_eq_some_iff.1 hi).1; omega) hi)]
            rfl
          go_wp2_with fail
          go_ret
          exact ⟨by rw [HF.out]; rfl, below_alloc _ _⟩
end Go.Proofs.Ytbmlkomfelkckaa
