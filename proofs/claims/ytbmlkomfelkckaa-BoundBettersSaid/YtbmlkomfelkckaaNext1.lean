/- (bound.form).next's closure: one neighbour is tried. -/
import Derived.Test.YtbmlkomfelkckaaGrow
import Derived.Test.YtbmlkomfelkckaaNextP
import Derived.Test.YtbmlkomfelkckaaBox
import Derived.Deep.RegionHeld3
namespace Go.Proofs.Ytbmlkomfelkckaa
open Go Go.RowKit
set_option maxRecDepth 100000

/-- The best neighbour so far, in the two boxes of the closure. -/
def NextAt (w : World) (cost : NT → Nat) (acc : Option NT) (b6 b7 : Nat) : Prop :=
  match acc with
  | none => w.heap[b6]? = some (.cells #[.slice none 0 0] 123 (0, 0)) ∧ w.heap[b7]? = some (.cells #[.int .i64 0] 3 (0, 0))
  | some B => ∃ g c, w.heap[b6]? = some (.cells #[.slice (some ⟨g, 0, none⟩) B.size c] 123 (0, 0)) ∧ w.heap[b7]? = some (.cells #[.int .i64 (cost B : Int)] 3 (0, 0)) ∧ FAt w g c (B.form 0)

/-- A form is no box. -/
theorem FAt.box {w : World} {g c b : Nat} {xs : List Br} {v : Value} {t : TypeId} (h : FAt w g c xs) (hb : w.heap[b]? = some (.cells #[v] t (0, 0))) : g ≠ b := by
  rintro rfl
  obtain ⟨x, hx⟩ : ∃ x, xs[0]? = some x := ⟨_, List.getElem?_eq_getElem h.pos⟩
  have := h.cells 1 _ (brs_get xs 0 x hx).2.1
  rw [cell_of_row w g 1 _ _ _ hb] at this
  simp at this

/-- What the closure leaves beside the two boxes. -/
structure Tried (w w' : World) (b6 b7 : Nat) : Prop where
  below : Below b6 w w'
  cells : ∀ a : Addr, a.block < w.heap.size → a.block ≠ b6 → a.block ≠ b7 → w'.cell? a = w.cell? a

theorem FAt.tried {w w' : World} {b6 b7 g c : Nat} {xs : List Br} (h : FAt w g c xs) (k : Tried w w' b6 b7) (h6 : g ≠ b6) (h7 : g ≠ b7) : FAt w' g c xs :=
  ⟨h.cap, h.pos, Nat.lt_of_lt_of_le h.lt k.below.size, h.top, fun j u hu => (k.cells _ h.lt h6 h7).trans (h.cells j u hu)⟩

theorem FAt.put {w : World} {b g c : Nat} {xs : List Br} (h : FAt w g c xs) (hb : g ≠ b) (u : Value) : FAt (w.setCell ⟨b, 0, none⟩ u) g c xs :=
  ⟨h.cap, h.pos, by simpa using h.lt, h.top, fun j u hu => mem_ne (.inl hb) (h.cells j u hu)⟩

set_option maxHeartbeats 4000000 in
theorem try_calls (bf br b6 b7 g c p gx cx gy cy n2 c2 n : Nat) (A2 : Option Addr) (T X Y R : NT) (rows : List (List Int)) (acc : Option NT) (w : World)
    (hf : w.cell? ⟨bf, 0, none⟩ = some (.slice (some ⟨g, 0, none⟩) T.size c)) (hrw : w.cell? ⟨br, 0, none⟩ = some (.slice A2 n2 c2)) (hFT : FAt w g c (T.form 0)) (hFX : FAt w gx cx (X.form 0)) (hFY : FAt w gy cy (Y.form 0))
    (hr : RdRows w A2 rows) (hn : rows.length = n2) (hcap : n2 ≤ 9223372036854775807) (hp : p < T.size) (hT : T.size ≤ 300) (hX : X.size ≤ 100) (hY : Y.size ≤ 100)
    (hR : T.put p (.fork X Y) = R) (hon : R.On n) (hacc : NextAt w (fun T => sumNum (T.form 0) rows) acc b6 b7)
    (h67 : b6 < b7) (hbz : b7 < w.heap.size) (hbf : bf < b6) (hbr : br < b6) :
    Calls Try.prog 107 #[.int .i64 (p : Int), .slice (some ⟨gx, 0, none⟩) X.size cx, .slice (some ⟨gy, 0, none⟩) Y.size cy, .pointer (some ⟨bf, 0, none⟩), .pointer (some ⟨br, 0, none⟩), .pointer (some ⟨b6, 0, none⟩), .pointer (some ⟨b7, 0, none⟩)] w
      fun e w' => e = .returned (.tuple #[]) ∧ Tried w w' b6 b7 ∧ NextAt w' (fun T => sumNum (T.form 0) rows) (bestStep (fun T => sumNum (T.form 0) rows) acc R.norm) b6 b7 := by
  have HGLU := Lib.hid (fun (W : World) (h : Below w.heap.size w W) => (glued_calls gx cx gy cy X Y W (hFX.below h) (hFY.below h) (by omega) (by omega)).mono fun e w' h => RetN.of h)
  have HINS : Hid (∀ (W : World) (g2 c2 : Nat), Below w.heap.size w W → FAt W g2 c2 ((NT.fork X Y).form 0) → Calls Try.prog 76 #[.slice (some ⟨g, 0, none⟩) T.size c, .int .i64 (p : Int), .slice (some ⟨g2, 0, none⟩) (NT.fork X Y).size c2] W (RetN W R)) := by
    refine Lib.hid fun W g2 c2 h h2 => ?_
    have := instead_calls g c g2 c2 p T (.fork X Y) W (by omega) (by simp only [NT.size]; omega) hFT.top (by omega) (hFT.below h) h2
    rw [hR] at this
    exact this
  have HFOR := Lib.hid (fun (W : World) (g c : Nat) (h : FAt W g c (R.form 0)) => formed_calls g c n R W hon h)
  have hzR := hon.norm.size
  have hfew := hon.few
  have HCHG := Lib.hid (fun (W : World) (g c : Nat) (h : Below w.heap.size w W) (hf : FAt W g c (R.norm.form 0)) => bchanges_calls g c R.norm A2 n2 c2 rows W (by omega) hf (hr.below h) hn hcap)
  have hnil := fun (W : World) => Lib.run_eql_slice_nil (P := Try.prog) W 123 64 none 0 0 0 0 Try.underlying123
  simp only [Option.isNone_none] at hnil
  have hsl := fun (W : World) (a : Addr) (k q : Nat) => Lib.run_eql_slice_nil (P := Try.prog) W 123 64 (some a) k q 0 0 Try.underlying123
  simp only [Option.isNone_some] at hsl
  obtain ⟨sz, hsz⟩ : ∃ sz, sz = T.size := ⟨_, rfl⟩
  rw [← hsz] at hf HINS
  have HK : Hid (∀ W' : World, Below w.heap.size w W' → W'.cell? ⟨bf, 0, none⟩ = some (.slice (some ⟨g, 0, none⟩) sz c)) := Lib.hid fun W' h => cell_below h (by omega) hf
  have hd0 : Below w.heap.size w w.drew := (Below.refl _ _).drew
  have HAC := Lib.hid hacc
  have HRW := Lib.hid hrw
  clear hFT hFX hFY hr hn hcap hp hT hX hY hR hon hacc hsz hrw hzR hfew
  go_enter Try.func107, Try.ntmps107
  go_wp2_with fail
  go_region_held3 (fun w' => w'.cell? ⟨bf, 0, none⟩ = some (.slice (some ⟨g, 0, none⟩) sz c))
    (first
      | exact hf
      | exact HK.out _ hd0
      | exact HK.out _ HB5.out
      | exact HK.out _ HB6.out
      | exact HK.out _ HB7.out)
    (first
      | (go_at_call 77; (with_reducible refine (HGLU.out _ hd0).mono ?_); rintro e w5 ⟨g5, c5, rfl, hf5, hb5⟩; have HB5 := Lib.hid (Below.then hd0 hd0.size hb5))
      | (go_at_call 76; (with_reducible refine (HINS.out _ _ _ HB5.out hf5).mono ?_); rintro e w6 ⟨g6, c6, rfl, hf6, hb6⟩; have HB6 := Lib.hid (Below.then HB5.out HB5.out.size hb6))
      | (go_at_call 75; (with_reducible refine (HFOR.out _ _ _ hf6).mono ?_); rintro e w7 ⟨g7, c7, rfl, hf7, hb7⟩; have HB7 := Lib.hid (Below.then HB6.out HB6.out.size hb7)))
  have r1 := cell_below HB7.out (by omega) HRW.out
  go_wp2_with fail
  (with_reducible refine (HCHG.out _ _ _ HB7.out hf7).mono ?_)
  rintro e w8 ⟨rfl, hb8⟩
  have HB8 := Lib.hid (Below.then HB7.out HB7.out.size hb8)
  have hf8 := hf7.below hb8
  have hacc := HAC.out
  clear hb8 hf7 hf6 hf5 hb5 hb6 hb7 hd0 HK HAC HGLU HINS HFOR HB5 HB6 HB7 hf
  cases acc with
  | none =>
    obtain ⟨k6, k7⟩ := hacc
    have k6 := (HB8.out.block b6 (by omega)).trans k6
    have k7 := (HB8.out.block b7 (by omega)).trans k7
    have hz8 := HB8.out.size
    have m6 := box_cell k6
    have z6 := box_frozen k6
    have m7 := box_cell k7
    have z7 := box_frozen k7
    have h6 := one_setCell (u := .slice (some ⟨g7, 0, none⟩) R.norm.size c7) k6
    have j7 : (w8.setCell ⟨b6, 0, none⟩ (.slice (some ⟨g7, 0, none⟩) R.norm.size c7)).heap[b7]? = some (.cells #[.int .i64 0] 3 (0, 0)) := (Below.heap_setCell _ _ _ _ (by show b7 ≠ b6; omega)).trans k7
    have n7 := box_cell j7
    have y7 := box_frozen j7
    have h7 := one_setCell (u := .int .i64 (sumNum (R.norm.form 0) rows : Int)) j7
    have h6' : ((w8.setCell ⟨b6, 0, none⟩ (.slice (some ⟨g7, 0, none⟩) R.norm.size c7)).setCell ⟨b7, 0, none⟩ (.int .i64 (sumNum (R.norm.form 0) rows : Int))).heap[b6]? = _ := (Below.heap_setCell _ _ _ _ (by show b6 ≠ b7; omega)).trans h6
    have hq6 := hf8.box k6
    have hq7 := hf8.box k7
    go_wp2_with fail
    refine bodyPost_end (v := .tuple #[]) (by simp [results, Try.results107]) rfl ?_
    refine ⟨rfl, ⟨below_set (below_set (HB8.out.mono (by omega)) (Nat.le_refl _) _ _) (by omega) _ _, fun a h1 h2 h3 => ?_⟩, ?_⟩
    · refine (World.cell?_of_block (Below.heap_setCell _ _ _ _ h3)).trans ((World.cell?_of_block (Below.heap_setCell _ _ _ _ h2)).trans (HB8.out.cell h1))
    · show NextAt _ _ (some R.norm) b6 b7
      exact ⟨g7, c7, h6', h7, (hf8.put hq6 _).put hq7 _⟩
  | some B =>
    obtain ⟨gB, cB, k6, k7, hfB⟩ := hacc
    have k6 := (HB8.out.block b6 (by omega)).trans k6
    have k7 := (HB8.out.block b7 (by omega)).trans k7
    have HFB := Lib.hid (hfB.below HB8.out)
    by_cases hlt : sumNum (R.norm.form 0) rows < sumNum (B.form 0) rows
    · have hltI : (sumNum (R.norm.form 0) rows : Int) < (sumNum (B.form 0) rows : Int) := by omega
      have hz8 := HB8.out.size
      have m6 := box_cell k6
      have z6 := box_frozen k6
      have m7 := box_cell k7
      have z7 := box_frozen k7
      have h6 := one_setCell (u := .slice (some ⟨g7, 0, none⟩) R.norm.size c7) k6
      have j7 : (w8.setCell ⟨b6, 0, none⟩ (.slice (some ⟨g7, 0, none⟩) R.norm.size c7)).heap[b7]? = some (.cells #[.int .i64 (sumNum (B.form 0) rows : Int)] 3 (0, 0)) := (Below.heap_setCell _ _ _ _ (by show b7 ≠ b6; omega)).trans k7
      have n7 := box_cell j7
      have y7 := box_frozen j7
      have h7 := one_setCell (u := .int .i64 (sumNum (R.norm.form 0) rows : Int)) j7
      have h6' : ((w8.setCell ⟨b6, 0, none⟩ (.slice (some ⟨g7, 0, none⟩) R.norm.size c7)).setCell ⟨b7, 0, none⟩ (.int .i64 (sumNum (R.norm.form 0) rows : Int))).heap[b6]? = _ := (Below.heap_setCell _ _ _ _ (by show b6 ≠ b7; omega)).trans h6
      have hq6 := hf8.box k6
      have hq7 := hf8.box k7
      go_wp2_with fail
      refine bodyPost_end (v := .tuple #[]) (by simp [results, Try.results107]) rfl ?_
      refine ⟨rfl, ⟨below_set (below_set (HB8.out.mono (by omega)) (Nat.le_refl _) _ _) (by omega) _ _, fun a h1 h2 h3 => ?_⟩, ?_⟩
      · refine (World.cell?_of_block (Below.heap_setCell _ _ _ _ h3)).trans ((World.cell?_of_block (Below.heap_setCell _ _ _ _ h2)).trans (HB8.out.cell h1))
      · rw [bestStep, if_pos hlt]
        exact ⟨g7, c7, h6', h7, (hf8.put hq6 _).put hq7 _⟩
    · have hltI : ¬ (sumNum (R.norm.form 0) rows : Int) < (sumNum (B.form 0) rows : Int) := by omega
      have m6 := box_cell k6
      have m7 := box_cell k7
      go_wp2_with fail
      refine bodyPost_end (v := .tuple #[]) (by simp [results, Try.results107]) rfl ?_
      refine ⟨rfl, ⟨HB8.out.mono (by omega), fun a h1 h2 h3 => HB8.out.cell h1⟩, ?_⟩
      rw [bestStep, if_neg hlt]
      exact ⟨gB, cB, k6, k7, HFB.out⟩
end Go.Proofs.Ytbmlkomfelkckaa
