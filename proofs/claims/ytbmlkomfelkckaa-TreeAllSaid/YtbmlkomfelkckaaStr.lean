/- Names: bytes of a word, a name, all names; where a name stands among them. -/
import Derived.Test.YtbmlkomfelkckaaMem
import Derived.Deep.QuietTactic
import Derived.BigQuiet
import Derived.Laws.Strings
namespace Go.Proofs.Ytbmlkomfelkckaa
open Go Go.RowKit
set_option maxRecDepth 100000

/-- Strings at 'A', one behind the other. -/
def RdStr (w : World) (A : Option Addr) (ns : List ByteArray) : Prop :=
  ∀ (i : Nat) (s : ByteArray), ns[i]? = some s → ∃ ad, A = some ad ∧ w.cell? (ad.add i) = some (.string s)

theorem RdStr.below {w w' : World} {A : Option Addr} {ns : List ByteArray} (h : RdStr w A ns) (hb : Below w.heap.size w w') : RdStr w' A ns := by
  intro i x hx
  obtain ⟨ad, rfl, h0⟩ := h i x hx
  exact ⟨ad, rfl, (hb.cell (World.block_lt_of_cell? w _ h0)).trans h0⟩

theorem RdStr.take {w : World} {A : Option Addr} {ns : List ByteArray} (h : RdStr w A ns) (k : Nat) : RdStr w A (ns.take k) := by
  intro i x hx
  rw [List.getElem?_take] at hx
  split at hx
  · exact h i x hx
  · cases hx

/-- A byte of a word. -/
def wordI (n : Int) : Bool := decide ((65 ≤ n ∧ n ≤ 90) ∨ (97 ≤ n ∧ n ≤ 122) ∨ (48 ≤ n ∧ n ≤ 57))

theorem word_cases (n : Int) : (wordI n = false ∧ n < 48) ∨ (wordI n = true ∧ 48 ≤ n ∧ n ≤ 57) ∨ (wordI n = false ∧ 57 < n ∧ n < 65) ∨ (wordI n = true ∧ 65 ≤ n ∧ n ≤ 90) ∨ (wordI n = false ∧ 90 < n ∧ n < 97) ∨
    (wordI n = true ∧ 97 ≤ n ∧ n ≤ 122) ∨ (wordI n = false ∧ 122 < n) := by
  unfold wordI
  simp only [decide_eq_true_eq, decide_eq_false_iff_not]
  omega

theorem word_calls (n : Int) (W : World) : Calls Try.prog 55 #[.int .u8 n] W fun e w' => e = .returned (.bool (wordI n)) ∧ w' = W := by
  rcases word_cases n with ⟨h, h1⟩ | ⟨h, h1, h2⟩ | ⟨h, h1, h2⟩ | ⟨h, h1, h2⟩ | ⟨h, h1, h2⟩ | ⟨h, h1, h2⟩ | ⟨h, h1⟩
  all_goals
    rw [h]
    clear h
    go_enter Try.func55, Try.ntmps55
    go_wp2_with fail
    go_ret
    exact ⟨congrArg (fun b => Ending.returned (.bool b)) (by simp <;> omega), rfl⟩

theorem rword_calls (n : Int) (W : World) : Calls Try.prog 96 #[.int .u8 n] W fun e w' => e = .returned (.bool (wordI n)) ∧ w' = W := by
  rcases word_cases n with ⟨h, h1⟩ | ⟨h, h1, h2⟩ | ⟨h, h1, h2⟩ | ⟨h, h1, h2⟩ | ⟨h, h1, h2⟩ | ⟨h, h1, h2⟩ | ⟨h, h1⟩
  all_goals
    rw [h]
    clear h
    go_enter Try.func96, Try.ntmps96
    go_wp2_with fail
    go_ret
    exact ⟨congrArg (fun b => Ending.returned (.bool b)) (by simp <;> omega), rfl⟩

/-! ### Where a name stands -/

def nameAt (ns : List ByteArray) (i : Nat) : ByteArray := ns.getD i ByteArray.empty

/-- The first place from 'k' on of these bytes. -/
def idxFrom (l : List UInt8) : Nat → List ByteArray → Option Nat
  | _, [] => none
  | k, x :: xs => if (l == x.toList) = true then some k else idxFrom l (k + 1) xs

def idx (ns : List ByteArray) (l : List UInt8) : Option Nat := idxFrom l 0 ns

def optInt : Option Nat → Int
  | some k => k
  | none => -1

theorem idxFrom_none {l : List UInt8} : ∀ {k : Nat} {ns : List ByteArray}, (∀ x ∈ ns, (l == x.toList) = false) → idxFrom l k ns = none
  | _, [], _ => rfl
  | k, x :: xs, h => by
    rw [idxFrom, h x (by simp), if_neg (by decide), idxFrom_none (fun y hy => h y (by simp [hy]))]

theorem idxFrom_some {l : List UInt8} : ∀ {k : Nat} {ns : List ByteArray} {i : Nat} {x : ByteArray}, ns[i]? = some x → (l == x.toList) = true → (∀ j y, j < i → ns[j]? = some y → (l == y.toList) = false) → idxFrom l k ns = some (k + i)
  | _, [], i, x, h, _, _ => by simp at h
  | k, y :: ys, 0, x, h, hx, _ => by
    simp at h
    subst h
    rw [idxFrom, if_pos hx]
    rfl
  | k, y :: ys, i + 1, x, h, hx, hb => by
    rw [idxFrom, hb 0 y (by omega) rfl, if_neg (by decide), idxFrom_some (i := i) (by simpa using h) hx (fun j z hj hz => hb (j + 1) z (by omega) (by simpa using hz))]
    congr 1
    omega

set_option maxHeartbeats 1000000 in
theorem index_calls (A : Option Addr) (n c : Nat) (ns : List ByteArray) (s : ByteArray) (W : World) (hr : RdStr W A ns) (hn : ns.length = n) (hcap : n ≤ 9223372036854775807) :
    Calls Try.prog 56 #[.slice A n c, .string s] W fun e w' => e = .returned (.int .i64 (optInt (idx ns s.toList))) ∧ w' = W := by
  have HN := Lib.hid hn
  have HR := Lib.hid hr
  clear hr hn
  go_enter Try.func56, Try.ntmps56
  go_wp2_with fail
  go_loopg [4, 8] n (fun gk v4 v8 wr => ∃ k : Nat, v4 = .int .i64 0 ∧ v8 = .int .i64 k ∧ k ≤ n ∧ Hid (gk + k = n) ∧ wr = W ∧ Hid (∀ j y, j < k → ns[j]? = some y → (s.toList == y.toList) = false))
  case atStart => exact ⟨0, rfl, rfl, Nat.zero_le _, rfl, rfl, fun j y hj => by omega⟩
  case round =>
    obtain ⟨k, rfl, rfl, hk, HG, rfl, HB⟩ := hrel
    by_cases hkn : k < n
    · have hkx : k < ns.length := by have := HN.out; omega
      obtain ⟨ad, rfl, d0⟩ := HR.out k ns[k] (by simp [hkx])
      generalize hx : ns[k] = x at *
      have HXK : Hid (ns[k]? = some x) := by show ns[k]? = some x; rw [List.getElem?_eq_getElem hkx, hx]
      clear hx
      cases he : (s.toList == x.toList)
      · have HE := Lib.hid he
        go_wp2_with fail
        go_roundg (gk - 1)
        case measure => have := HG.out; omega
        case rel => exact ⟨k + 1, rfl, by go_num, by omega, by have := HG.out; show gk - 1 + (k + 1) = n; omega, rfl, fun j y hj hy => by
          rcases Nat.lt_or_ge j k with h | h
          · exact HB.out j y h hy
          · obtain rfl : j = k := by omega
            have h2 := HXK.out
            rw [h2] at hy
            cases hy
            exact HE.out⟩
      · have HE : Hid (idx ns s.toList = some k) := by
          show idxFrom s.toList 0 ns = some k
          rw [idxFrom_some HXK.out he HB.out, Nat.zero_add]
        go_wp2_with fail
        go_ret
        exact ⟨by rw [HE.out]; rfl, rfl⟩
    · have HE : Hid (idx ns s.toList = none) := by
        show idxFrom s.toList 0 ns = none
        refine idxFrom_none (fun x hx => ?_)
        obtain ⟨i, hi, rfl⟩ := List.mem_iff_getElem.1 hx
        exact HB.out i _ (by have := HN.out; omega) (List.getElem?_eq_getElem hi)
      go_wp2_with fail
      go_ret
      exact ⟨by rw [HE.out]; rfl, rfl⟩

theorem optInt_nonneg (o : Option Nat) : decide (0 ≤ optInt o) = o.isSome := by
  cases o with
  | none => rfl
  | some k => simp [optInt]

set_option maxHeartbeats 400000 in
theorem contains_calls (A : Option Addr) (n c : Nat) (ns : List ByteArray) (s : ByteArray) (W : World) (hr : RdStr W A ns) (hn : ns.length = n) (hcap : n ≤ 9223372036854775807) :
    Calls Try.prog 93 #[.slice A n c, .string s] W fun e w' => e = .returned (.bool (idx ns s.toList).isSome) ∧ w' = W := by
  have HC := Lib.hid (index_calls A n c ns s W hr hn hcap)
  rw [← optInt_nonneg]
  obtain ⟨o, ho⟩ : ∃ o, optInt (idx ns s.toList) = o := ⟨_, rfl⟩
  rw [ho] at HC ⊢
  clear ho hr hn
  go_enter Try.func93, Try.ntmps93
  go_wp2_with fail
  refine HC.out.mono ?_
  rintro e w' ⟨rfl, rfl⟩
  go_wp2_with fail
  go_ret
  exact ⟨rfl, rfl⟩
end Go.Proofs.Ytbmlkomfelkckaa
