/- Laws StemmaAgreed and StemmaFewer: what trees agree on. -/
import Derived.Test.YtbmlkomfelkckaaRAgree
import Derived.Test.YtbmlkomfelkckaaBestT
namespace Go.Proofs.Ytbmlkomfelkckaa
open Go Go.RowKit Go.Lib
set_option maxRecDepth 100000

theorem RdTrees.take {w : World} {A : Option Addr} {l : List (List Br)} (h : RdTrees w A l) (n : Nat) : RdTrees w A (l.take n) := by
  intro k bs hk
  rw [List.getElem?_take] at hk
  split at hk
  · exact h k bs hk
  · cases hk

theorem agree_code (leaves : Int) (l : List (List Br)) : ((agreeOf leaves l).1 = 0 ∧ 0 < l.length ∧ okUp leaves l l.length ∧ (agreeOf leaves l).2 = agUp (clAt leaves l) (l.length - 1)) ∨ ((agreeOf leaves l).1 ≠ 0 ∧ (agreeOf leaves l).2 = []) := by
  unfold agreeOf
  split
  · exact .inr ⟨by decide, rfl⟩
  · split
    · exact .inl ⟨rfl, by omega, by assumption, rfl⟩
    · exact .inr ⟨by decide, rfl⟩

theorem agree_fewer {leaves : Int} {l : List (List Br)} {n : Nat} (h0 : 0 < n) (hn : n ≤ l.length) (h : okUp leaves l l.length) : (agreeOf leaves (l.take n)).1 = 0 ∧ (agUp (clAt leaves l) (l.length - 1)).Sublist (agreeOf leaves (l.take n)).2 := by
  have hl : (l.take n).length = n := by rw [List.length_take]; omega
  have hok : okUp leaves (l.take n) (l.take n).length := by
    rw [hl]
    intro i hi
    rw [take_getD l hi]
    exact h i (by omega)
  rw [agree_good (by omega) hok, hl]
  refine ⟨rfl, ?_⟩
  have e : agUp (clAt leaves (l.take n)) (n - 1) = agUp (clAt leaves l) (n - 1) := agUp_congr fun i hi => by
    unfold clAt
    rw [take_getD l (by omega)]
  show List.Sublist _ (agUp (clAt leaves (l.take n)) (n - 1))
  rw [e]
  exact agUp_fewer _ (by omega)

/-- The cell of an own row of rows. -/
theorem ls_cell {w : World} {base b2 n c k : Nat} {A : Option Addr} {vs : List Value} {L : List (List Int)} {x : List Int} (ho : w.ownsRow base 43 1 (.slice A n c) n vs) (hr : RowsAt w.heap.size w b2 vs L) (hk : L[k]? = some x) :
    ∃ g Ax cx, A = some ⟨g, 0, none⟩ ∧ g < w.heap.size ∧ w.cell? ⟨g, k, none⟩ = some (.slice Ax x.length cx) ∧ RdInt w Ax x ∧ x.length ≤ 9223372036854775807 := by
  obtain ⟨v, hv, hra⟩ := hr.2 k x hk
  have hmx := hra.max
  have hra' := hra
  obtain ⟨Ax, cx, rfl, -, -⟩ := hra
  have hn : 0 < n := by
    have h1 := ho.1
    have h2 := (List.getElem?_eq_some_iff.1 hv).1
    omega
  obtain ⟨g, rfl, hg, _, hc⟩ := own_at ho hn
  have e := hc k _ hv
  rw [add_plain] at e
  exact ⟨g, Ax, cx, rfl, hg, e, hra'.rd.1, hmx⟩

set_option maxHeartbeats 1000000 in
theorem lists_calls (v1 v2 : Value) (b1 b2 : Nat) (L : List (List Int)) (w : World) (h1 : LsAt w b1 v1 L) (h2 : LsAt w b2 v2 L) :
    Calls Try.prog 53 #[v1, v2] w fun e w' => e = .returned (.bool true) ∧ Below w.heap.size w w' := by
  obtain ⟨A1, c1, vs1, rfl, o1, r1⟩ := h1
  obtain ⟨A2, c2, vs2, rfl, o2, r2⟩ := h2
  obtain ⟨m, hm⟩ : ∃ m, L.length = m := ⟨_, rfl⟩
  rw [hm] at o1 o2 ⊢
  have hmx := own_max o1
  have HO1 := Lib.hid o1
  have HR1 := Lib.hid r1
  have HO2 := Lib.hid o2
  have HR2 := Lib.hid r2
  have HM := Lib.hid hm
  have f3 : ((m : Int) != (m : Int)) = false := by simp
  clear o1 o2 r1 r2 hm
  go_enter Try.func53, Try.ntmps53
  go_wp2_with fail
  go_loopg [13] m (fun gk v13 wr => ∃ k : Nat, v13 = .int .i64 k ∧ k ≤ m ∧ Hid (m - k ≤ gk) ∧ Hid (Below w.heap.size w wr))
  case atStart => exact ⟨0, rfl, Nat.zero_le _, by show m - 0 ≤ m; omega, Below.refl _ _⟩
  case round =>
    obtain ⟨k, rfl, hk, HG, HB⟩ := hrel
    by_cases hkm : k < m
    · obtain ⟨x, hx⟩ : ∃ x, L[k]? = some x := ⟨_, List.getElem?_eq_getElem (by have := HM.out; omega)⟩
      obtain ⟨g1, X1, d1, he1, hg1, e1, R1, hmx1⟩ := ls_cell HO1.out HR1.out hx
      obtain ⟨g2, X2, d2, he2, hg2, e2, R2, _⟩ := ls_cell HO2.out HR2.out hx
      subst he1
      subst he2
      obtain ⟨nx, hnx⟩ : ∃ nx, x.length = nx := ⟨_, rfl⟩
      rw [hnx] at e1 e2 hmx1
      have j1 : ∀ s : Later wr, s.W.cell? ⟨g1, k, none⟩ = some (.slice X1 nx d1) := fun s => cell_below (Below.then HB.out HB.out.size s.below) hg1 e1
      have j2 : ∀ s : Later wr, s.W.cell? ⟨g2, k, none⟩ = some (.slice X2 nx d2) := fun s => cell_below (Below.then HB.out HB.out.size s.below) hg2 e2
      have HIN := Lib.hid (fun s : Later wr => (ints_calls X1 X2 nx nx d1 d2 x x s.W (R1.below (Below.then HB.out HB.out.size s.below)) (R2.below (Below.then HB.out HB.out.size s.below)) hnx hnx hmx1 hmx1).mono (R' := fun e w' => e = .returned (.bool true) ∧ ∃ s : Later wr, w' = s.W) (fun e w' ⟨he, k, hb⟩ => ⟨by rw [he]; simp, ⟨w', Below.then s.below s.below.size (by rw [hb]; exact below_drewN _ _)⟩, rfl⟩))
      have k1 : (k : Int) < (m : Int) := by omega
      clear hx e1 e2 R1 R2 hnx
      go_wp2_with fail
      refine wp_quiet_below (w := wr) (by kernel_rfl) (by kernel_rfl) ?_
      repeat (go_big_quiet_step (exact HIN.out _))
      refine wpQuiet_nil ?_
      rintro w9 ⟨⟨_, hb9⟩, rfl⟩
      go_wp2_with fail
      go_roundg (gk - 1)
      case measure => have := HG.out; omega
      case rel => exact ⟨k + 1, by go_num, by omega, by have := HG.out; show m - (k + 1) ≤ gk - 1; omega, Below.then HB.out HB.out.size hb9⟩
    · have k1 : ¬ (k : Int) < (m : Int) := by omega
      go_wp2_with fail
      go_ret
      exact ⟨rfl, HB.out⟩

set_option maxHeartbeats 1000000 in
theorem agreed_calls (A : Option Addr) (n c : Nat) (l : List (List Br)) (leaves : Int) (w : World) (hr : RdTrees w A l) (hn : l.length = n) (hcap : n ≤ 9223372036854775807) (hl1 : -9223372036854775808 ≤ leaves) (hl2 : leaves ≤ 9223372036854775807) :
    Calls Try.prog 19 #[.slice A n c, .int .i64 leaves] w fun e w' => e = .returned (.bool true) ∧ Below w.heap.size w w' := by
  have HA := Lib.hid (awake22 w)
  have HP := Lib.hid (fun (W : World) (h : Below w.heap.size w W) => agree_calls A n c l leaves W (hr.below h) hn hcap hl1 hl2)
  have HQ := Lib.hid (fun (W : World) (h : Below w.heap.size w W) => ragree_calls A n c l leaves W (hr.below h) hn hcap)
  obtain ⟨code, L, hag⟩ : ∃ code L, agreeOf leaves l = (code, L) := ⟨_, _, rfl⟩
  rw [hag] at HP HQ
  have f1 : (code == code) = true := by simp
  clear hr hn hag
  go_enter Try.func19, Try.ntmps19
  go_wp2_with fail
  refine HA.out.mono ?_
  rintro _ w1 ⟨rfl, hb1⟩
  have HB1 := Lib.hid hb1
  clear hb1
  go_wp2_with fail
  (with_reducible refine (HP.out _ HB1.out).mono ?_)
  rintro _ w2 ⟨hb2, A2, c2, rfl, hl2⟩
  have HB2 := Lib.hid (Below.then HB1.out HB1.out.size hb2)
  obtain ⟨m, hm⟩ : ∃ m, L.length = m := ⟨_, rfl⟩
  simp only [hm] at hl2 ⊢
  have HL2 := Lib.hid hl2
  clear hb2 hl2
  go_wp2_with fail
  (with_reducible refine (HQ.out _ HB2.out).mono ?_)
  rintro _ w3 ⟨hb3, A3, c3, rfl, hl3⟩
  simp only [hm] at hl3 ⊢
  have HB3 := Lib.hid (Below.then HB2.out HB2.out.size hb3)
  have HS := Lib.hid (lists_calls _ _ _ _ L w3 (HL2.out.below hb3) hl3)
  clear hb3 hl3 hm
  go_wp2_with fail
  (with_reducible refine HS.out.mono ?_)
  rintro _ w4 ⟨rfl, hb4⟩
  go_wp2_with fail
  go_ret
  exact ⟨rfl, Below.then HB3.out HB3.out.size hb4⟩
end Go.Proofs.Ytbmlkomfelkckaa
