/- Law TreeForms: is it a tree, its form, its clades. -/
import Derived.Test.YtbmlkomfelkckaaAwk20
import Derived.Test.YtbmlkomfelkckaaRClade
import Derived.Test.YtbmlkomfelkckaaInts
import Derived.Test.YtbmlkomfelkckaaSame
import Derived.BigQuiet

namespace Go.Proofs.Ytbmlkomfelkckaa
open Go Go.RowKit
set_option maxRecDepth 100000

/-- The error of what was read or not. -/
def errOf {α : Type} (r : Option α) : Int := if r.isSome then 0 else 200

/-- The branches that Form answers. -/
def formOf : Option NT → List Br
  | none => []
  | some T => T.form 0

/-- What Form leaves, whatever it was: a row of branches to be read. -/
theorem retForm_read {w w' : World} {r : Option NT} {e : Ending} (h : RetForm w r e w') : ∃ (A : Option Addr) (c : Nat) (xs : List Br), e = .returned (.tuple #[.agg #[.slice A xs.length c], .int .i64 (errOf r)]) ∧ RdBr w' A xs ∧ xs.length ≤ 9223372036854775807 ∧ Below w.heap.size w w' ∧ xs = formOf r := by
  obtain ⟨hb, h⟩ := h
  cases r with
  | none => exact ⟨none, 0, [], h, fun i x hx => by simp at hx, by simp, hb, rfl⟩
  | some T =>
    obtain ⟨A, c, he, ho⟩ := h
    have hl : T.size ≤ 9223372036854775807 := by
      rcases ho.2 with ⟨_, h0⟩ | ⟨g, cap, cur, _, _, _, h1, h2, _⟩
      · omega
      · simp only [maxLen] at h2
        omega
    exact ⟨A, c, T.form 0, by rw [NT.form_length]; exact he, (own_rd ho).1, by rw [NT.form_length]; exact hl, hb, rfl⟩

/-- What Clades leaves, whatever it was. -/
theorem retClades_read {w w' : World} {r : Option (List (List Int))} {e : Ending} (h : RetClades w r e w') : ∃ (A : Option Addr) (c : Nat) (vs : List Value), e = .returned (.tuple #[.slice A (r.getD []).length c, .int .i64 (errOf r)]) ∧
    w'.ownsRow w.heap.size 43 1 (.slice A (r.getD []).length c) (r.getD []).length vs ∧ RowsAt w'.heap.size w' w.heap.size vs (r.getD []) ∧ Below w.heap.size w w' ∧ (r.getD []).length ≤ 9223372036854775807 := by
  obtain ⟨hb, h⟩ := h
  cases r with
  | none => exact ⟨none, 0, [], h, World.ownsRow_nil _ _ _ _, RowsAt.nil _ _ _, hb, by simp⟩
  | some L =>
    obtain ⟨A, c, vs, he, ho, hr⟩ := h
    refine ⟨A, c, vs, he, ho, hr, hb, ?_⟩
    show L.length ≤ _
    rcases ho.2 with ⟨_, h0⟩ | ⟨g, cap, cur, _, _, _, h1, h2, _⟩
    · omega
    · simp only [maxLen] at h2
      omega

/-- Two rows of the same numbers. -/
theorem ints_same {W : World} {A B : Option Addr} {n c d : Nat} {l : List Int} (hx : RdInt W A l) (hy : RdInt W B l) (hn : l.length = n) (hcn : n ≤ 9223372036854775807) :
    Calls Try.prog 50 #[.slice A n c, .slice B n d] W fun e w' => e = .returned (.bool true) ∧ Below W.heap.size W w' := by
  refine (ints_calls A B n n c d l l W hx hy hn hn hcn hcn).mono ?_
  rintro e w' ⟨rfl, k, rfl⟩
  exact ⟨by simp, below_drewN W k⟩

set_option maxHeartbeats 2000000 in
theorem forms_calls (A : Option Addr) (n c : Nat) (bs : List Br) (leaves : Int) (w : World) (hb : RdBr w A bs) (hbn : bs.length = n) (hcap : n ≤ 9223372036854775807) (hl1 : -9223372036854775808 ≤ leaves) (hl2 : leaves ≤ 9223372036854775807) :
    Calls Try.prog 18 #[.agg #[.slice A n c], .int .i64 leaves] w fun e w' => e = .returned (.bool true) ∧ Below w.heap.size w w' := by
  have HA := Lib.hid (awake20 (w.alloc (.cells #[.slice A n c] 26)))
  have HF := Lib.hid (fun (W : World) (h : Below w.heap.size w W) => form_calls A n c bs leaves W (hb.below h) hbn hcap hl1 hl2)
  have HG := Lib.hid (fun (W : World) (h : Below w.heap.size w W) => rform_calls A n c bs leaves W (hb.below h) hbn hcap)
  have HCK := Lib.hid (fun (W : World) (h : Below w.heap.size w W) => check_calls A n c bs leaves W (hb.below h) hbn hcap hl1 hl2)
  have HRC := Lib.hid (fun (W : World) (h : Below w.heap.size w W) => rcheck_calls A n c bs leaves W (hb.below h) hbn hcap)
  have HCL := Lib.hid (fun (W : World) (h : Below w.heap.size w W) => clades_calls A n c bs leaves W (hb.below h) hbn hcap hl1 hl2)
  have HDL := Lib.hid (fun (W : World) (h : Below w.heap.size w W) => rclades_calls A n c bs leaves W (hb.below h) hbn hcap)
  obtain ⟨r, hr⟩ : ∃ r, rdRoot leaves bs = r := ⟨_, rfl⟩
  obtain ⟨ok, hok⟩ : ∃ ok, okTree leaves bs = ok := ⟨_, rfl⟩
  rw [hr] at HF HG HCL HDL
  rw [hok] at HCK HRC
  have hb0 := below_alloc w (.cells #[.slice A n c] 26)
  have c0 := new_cell w #[.slice A n c] 26 0
  have hz : w.heap.size < (w.alloc (.cells #[.slice A n c] 26)).heap.size := by simp
  have HB0 := Lib.hid hb0
  clear hb hbn hb0 hr hok
  go_enter Try.func18, Try.ntmps18
  go_wp2_with fail
  refine HA.out.mono ?_
  rintro _ w1 ⟨rfl, hb1⟩
  have c0 := cell_below hb1 hz c0
  have HB1 := Lib.hid (Below.then HB0.out HB0.out.size hb1)
  have hz1 := Nat.lt_of_lt_of_le hz hb1.size
  clear hb1
  go_wp2_with fail
  refine (HF.out _ HB1.out).mono ?_
  rintro _ w2 h2
  obtain ⟨A2, c2, xs, rfl, hr2, hlen2, hb2, hx2⟩ := retForm_read h2
  have q5 := new_cell w2 #[.slice A2 xs.length c2] 26 0
  have hb3 := below_alloc w2 (.cells #[.slice A2 xs.length c2] 26)
  have c0 := cell_below hb3 (Nat.lt_of_lt_of_le hz1 hb2.size) (cell_below hb2 hz1 c0)
  have HR2 := Lib.hid (hr2.below hb3)
  have HB3 := Lib.hid (Below.then (Below.then HB1.out HB1.out.size hb2) (Nat.le_trans HB1.out.size hb2.size) hb3)
  have hz3 : w2.heap.size < (w2.alloc (.cells #[.slice A2 xs.length c2] 26)).heap.size := by simp
  have hz2 : w.heap.size < w2.heap.size := Nat.lt_of_lt_of_le hz1 hb2.size
  have HX2 := Lib.hid hx2
  clear h2 hr2 hb2 hb3 hx2
  go_wp2_with fail
  refine (HG.out _ HB3.out).mono ?_
  rintro _ w4 h4
  obtain ⟨A4, c4, ys, rfl, hr4, hlen4, hb4, hx4⟩ := retForm_read h4
  obtain rfl : ys = xs := by rw [hx4, HX2.out]
  have q7 := new_cell w4 #[.slice A4 ys.length c4] 26 0
  have hb5 := below_alloc w4 (.cells #[.slice A4 ys.length c4] 26)
  have hz4 : w2.heap.size < w4.heap.size := by have := hb4.size; simp at this; omega
  have c0 := cell_below hb5 (by omega) (cell_below hb4 (by simp; omega) c0)
  have q5 := cell_below hb5 hz4 (cell_below hb4 (by simp) q5)
  have HR4 := Lib.hid (hr4.below hb5)
  have HR2 := Lib.hid ((HR2.out.below hb4).below hb5)
  have HB5 := Lib.hid (Below.then (Below.then HB3.out HB3.out.size hb4) (Nat.le_trans HB3.out.size hb4.size) hb5)
  have hz5 : w4.heap.size < (w4.alloc (.cells #[.slice A4 ys.length c4] 26)).heap.size := by simp
  clear h4 hr4 hb4 hb5 hx4 HX2 hlen2
  go_wp2_with fail
  generalize w4.alloc (.cells #[.slice A4 ys.length c4] 26) = W5 at *
  have k0 : ∀ s : Later W5, s.W.cell? ⟨w.heap.size, 0, none⟩ = some (.slice A n c) := fun s => cell_below s.below (by omega) c0
  have k5 : ∀ s : Later W5, s.W.cell? ⟨w2.heap.size, 0, none⟩ = some (.slice A2 ys.length c2) := fun s => cell_below s.below (by omega) q5
  have k7 : ∀ s : Later W5, s.W.cell? ⟨w4.heap.size, 0, none⟩ = some (.slice A4 ys.length c4) := fun s => cell_below s.below (by omega) q7
  have HK := Lib.hid (fun s : Later W5 => (HCK.out s.W (Below.then HB5.out HB5.out.size s.below)).mono (R' := fun e w' => e = .returned (.int .i64 ok) ∧ ∃ s : Later W5, w' = s.W) (fun e w' ⟨he, hb⟩ => ⟨he, ⟨w', Below.then s.below s.below.size hb⟩, rfl⟩))
  have HL := Lib.hid (fun s : Later W5 => (HRC.out s.W (Below.then HB5.out HB5.out.size s.below)).mono (R' := fun e w' => e = .returned (.int .i64 ok) ∧ ∃ s : Later W5, w' = s.W) (fun e w' ⟨he, hb⟩ => ⟨he, ⟨w', Below.then s.below s.below.size hb⟩, rfl⟩))
  have HS := Lib.hid (fun s : Later W5 => (same_calls A2 A4 ys.length c2 c4 ys s.W (HR2.out.below s.below) (HR4.out.below s.below) rfl hlen4).mono (R' := fun e w' => e = .returned (.bool true) ∧ ∃ s : Later W5, w' = s.W) (fun e w' ⟨he, hb⟩ => ⟨he, ⟨w', Below.then s.below s.below.size hb⟩, rfl⟩))
  have f1 : (ok != ok) = false := by simp
  have f2 : (errOf r != errOf r) = false := by simp
  generalize hre : errOf r = er at *
  refine wp_quiet_below (w := W5) (by kernel_rfl) (by kernel_rfl) ?_
  repeat (go_big_quiet_step (first | exact HK.out _ | exact HL.out _ | exact HS.out _))
  refine wpQuiet_nil ?_
  rintro w6 ⟨⟨_, hb6⟩, rfl⟩
  have c0 := cell_below hb6 (by omega) c0
  have HB6 := Lib.hid (Below.then HB5.out HB5.out.size hb6)
  have hz6 : w.heap.size < w6.heap.size := by have := hb6.size; omega
  clear k0 k5 k7 hb6 q5 q7
  go_wp2_with fail
  refine (HCL.out _ HB6.out).mono ?_
  rintro _ w7 h7
  obtain ⟨A7, c7, vs, rfl, ho7, hr7, hb7, hm7⟩ := retClades_read h7
  have c0 := cell_below hb7 hz6 c0
  have HB7 := Lib.hid (Below.then HB6.out HB6.out.size hb7)
  clear h7 hb7
  have er2 : ∀ {α β : Type} (f : α → β) (r : Option α), errOf (r.map f) = errOf r := fun f r => by cases r <;> rfl
  rw [er2, hre]
  generalize hL : (r.map NT.clades).getD [] = L at *
  have HO7 := Lib.hid ho7
  have HR7 := Lib.hid hr7
  clear ho7 hr7 er2
  go_wp2_with fail
  refine (HDL.out _ HB7.out).mono ?_
  rintro _ w8 h8
  obtain ⟨A8, c8, us, rfl, ho8, hr8, hb8, hm8⟩ := retClades_read h8
  have er2 : ∀ {α β : Type} (f : α → β) (r : Option α), errOf (r.map f) = errOf r := fun f r => by cases r <;> rfl
  rw [er2, hre]
  rw [hL] at ho8 hr8 ⊢
  have HB8 := Lib.hid (Below.then HB7.out HB7.out.size hb8)
  have HO8 := Lib.hid ho8
  have HR8 := Lib.hid hr8
  have HO7 := Lib.hid (own_below HO7.out hb8)
  have HR7 := Lib.hid (HR7.out.ki (KI.below hb8 (Nat.le_refl _)))
  obtain ⟨m, hm⟩ : ∃ m, m = L.length := ⟨_, rfl⟩
  rw [← hm] at hm7 HO7 HO8 ⊢
  have f3 : ((m : Int) != (m : Int)) = false := by simp
  have HM := Lib.hid hm
  clear h8 ho8 hr8 hb8 er2 hL hm8 hm
  go_wp2_with fail
  go_loopg [70] m (fun gk v70 wr => ∃ k : Nat, v70 = .int .i64 k ∧ k ≤ m ∧ Hid (gk + k = m) ∧ Hid (Below w8.heap.size w8 wr))
  case atStart => exact ⟨0, rfl, Nat.zero_le _, rfl, Below.refl _ _⟩
  case round =>
    obtain ⟨k, rfl, hk, HG, HB⟩ := hrel
    by_cases hkm : k < m
    · obtain ⟨l, hl⟩ : ∃ l, L[k]? = some l := ⟨_, List.getElem?_eq_getElem (by have := HM.out; omega)⟩
      obtain ⟨v, hv, A1, d1, rfl, o1, -⟩ := HR7.out.2 k l hl
      obtain ⟨u, hu, A2', d2, rfl, o2, -⟩ := HR8.out.2 k l hl
      have hln : l.length ≤ 9223372036854775807 := by
        rcases o1.2 with ⟨_, h0⟩ | ⟨g, cap, cur, _, _, _, h1, h2, _⟩
        · omega
        · simp only [maxLen] at h2
          omega
      obtain ⟨g7, he7, hg7, _, hc7⟩ := own_at HO7.out (by omega)
      obtain ⟨g8, he8, hg8, _, hc8⟩ := own_at HO8.out (by omega)
      subst he7
      subst he8
      have e7 := hc7 k _ hv
      have e8 := hc8 k _ hu
      rw [add_plain] at e7 e8
      have hw1 := own_below o1 HB.out
      have hw2 := own_below o2 HB.out
      have R1 := (RowAt.new hw1).rd.1
      have R2 := (RowAt.new hw2).rd.1
      have j7 : ∀ s : Later wr, s.W.cell? ⟨g7, k, none⟩ = some (.slice A1 l.length d1) := fun s => cell_below s.below (Nat.lt_of_lt_of_le hg7 HB.out.size) (cell_below HB.out hg7 e7)
      have j8 : ∀ s : Later wr, s.W.cell? ⟨g8, k, none⟩ = some (.slice A2' l.length d2) := fun s => cell_below s.below (Nat.lt_of_lt_of_le hg8 HB.out.size) (cell_below HB.out hg8 e8)
      have HIN := Lib.hid (fun s : Later wr => (ints_same (c := d1) (d := d2) (R1.below s.below) (R2.below s.below) rfl hln).mono (R' := fun e w' => e = .returned (.bool true) ∧ ∃ s : Later wr, w' = s.W) (fun e w' ⟨he, hb⟩ => ⟨he, ⟨w', Below.then s.below s.below.size hb⟩, rfl⟩))
      have k1 : (k : Int) < (m : Int) := by omega
      clear hl hv hu o1 o2 hc7 hc8 e7 e8 hw1 hw2 R1 R2 hg7 hg8
      go_wp2_with fail
      refine wp_quiet_below (w := wr) (by kernel_rfl) (by kernel_rfl) ?_
      repeat (go_big_quiet_step (exact HIN.out _))
      refine wpQuiet_nil ?_
      rintro w9 ⟨⟨_, hb9⟩, rfl⟩
      go_wp2_with fail
      go_roundg (gk - 1)
      case measure => have := HG.out; omega
      case rel => exact ⟨k + 1, by go_num, by omega, by have := HG.out; show gk - 1 + (k + 1) = m; omega, Below.then HB.out HB.out.size hb9⟩
    · go_wp2_with fail
      go_ret
      exact ⟨rfl, Below.then HB8.out HB8.out.size HB.out⟩
end Go.Proofs.Ytbmlkomfelkckaa
