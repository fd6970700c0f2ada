/- tree.Check, tree.Form by tree.read's contract. -/
import Derived.Test.YtbmlkomfelkckaaRead
import Derived.Test.YtbmlkomfelkckaaList
namespace Go.Proofs.Ytbmlkomfelkckaa
open Go Go.RowKit
set_option maxRecDepth 100000

theorem read_all (A : Option Addr) (n c : Nat) (xs : List Br) (leaves : Int) (w : World) (hr : RdBr w A xs) (hxn : xs.length = n) (hn : n ≤ 9223372036854775807) (hl1 : -9223372036854775808 ≤ leaves) (hl2 : leaves ≤ 9223372036854775807) :
    Calls Try.prog 70 #[.agg #[.slice A n c], .int .i64 leaves] w (RetRead w (rdTree leaves xs)) := by
  by_cases h : leaves < 1 ∨ 12 < leaves ∨ (n : Int) ≠ 2 * leaves - 1
  · refine (read_guard A n c leaves w hn ⟨hl1, hl2⟩ h).mono ?_
    rintro e w' ⟨rfl, hb⟩
    have hz : rdTree leaves xs = none := by unfold rdTree; rw [hxn, if_pos h]
    rw [hz]
    exact ⟨hb, rfl⟩
  · exact read_calls A n c xs leaves w hr hxn (by omega) (by omega) (by omega)

/-- 0 or the error that a tree is none. -/
def okTree (leaves : Int) (xs : List Br) : Int := if (rdTree leaves xs).isSome then 0 else 200

set_option maxHeartbeats 400000 in
theorem check_calls (A : Option Addr) (n c : Nat) (xs : List Br) (leaves : Int) (w : World) (hr : RdBr w A xs) (hxn : xs.length = n) (hn : n ≤ 9223372036854775807) (hl1 : -9223372036854775808 ≤ leaves) (hl2 : leaves ≤ 9223372036854775807) :
    Calls Try.prog 35 #[.agg #[.slice A n c], .int .i64 leaves] w fun e w' => e = .returned (.int .i64 (okTree leaves xs)) ∧ Below w.heap.size w w' := by
  have HX := Lib.hid hxn
  clear hxn
  have hnil := fun (W : World) => Lib.run_eql_slice_nil (P := Try.prog) W 94 93 none 0 0 0 0 Try.underlying94
  simp only [Option.isNone_none] at hnil
  have hsl := fun (W : World) (a : Addr) (k q : Nat) => Lib.run_eql_slice_nil (P := Try.prog) W 94 93 (some a) k q 0 0 Try.underlying94
  simp only [Option.isNone_some] at hsl
  have hread := fun W (h : RdBr W A xs) => read_all A n c xs leaves W h HX.out hn hl1 hl2
  unfold okTree
  cases hrd : rdTree leaves xs with
  | none =>
    rw [hrd] at hread
    have HR := Lib.hid hread
    clear hrd hread
    go_enter Try.func35, Try.ntmps35
    go_wp2_with fail
    refine (HR.out _ (hr.below (below_alloc w _))).mono ?_
    rintro e w1 ⟨hb, rfl⟩
    have HB := Lib.hid (Below.trans (below_alloc w _) (hb.mono (by simp)))
    clear hb hr
    go_wp2_with fail
    go_ret
    exact ⟨rfl, HB.out⟩
  | some l =>
    rw [hrd] at hread
    have HR := Lib.hid hread
    clear hrd hread
    go_enter Try.func35, Try.ntmps35
    go_wp2_with fail
    refine (HR.out _ (hr.below (below_alloc w _))).mono ?_
    rintro e w1 ⟨hb, g, c', ps, rfl, _, _⟩
    have HB := Lib.hid (Below.trans (below_alloc w _) (hb.mono (by simp)))
    clear hb hr
    go_wp2_with fail
    go_ret
    exact ⟨rfl, HB.out⟩

/-- What tree.Form leaves. -/
def RetForm (w : World) (r : Option NT) (e : Ending) (w' : World) : Prop :=
  Below w.heap.size w w' ∧ match r with
    | none => e = .returned (.tuple #[.agg #[.slice none 0 0], .int .i64 200])
    | some T => ∃ A c, e = .returned (.tuple #[.agg #[.slice A T.size c], .int .i64 0]) ∧ w'.ownsRow w.heap.size 64 3 (.slice A T.size c) T.size (brs (T.form 0))

/-- The last one of the nodes that were read. -/
theorem RetRead.last {w W : World} {leaves : Int} {xs : List Br} {l : List NT} {e : Ending} (h : RetRead w (some l) e W) (hl : rdTree leaves xs = some l) :
    ∃ g c b : Nat, e = .returned (.slice (some ⟨g, 0, none⟩) l.length c) ∧ 0 < l.length ∧ l.length ≤ 23 ∧ W.cell? ⟨g, l.length - 1, none⟩ = some (.pointer (some ⟨b, 0, none⟩)) ∧ Nd W (l.getD (l.length - 1) (.leaf 0)) (.pointer (some ⟨b, 0, none⟩)) := by
  obtain ⟨_, g, c, ps, rfl, ho, hn⟩ := h
  obtain ⟨h1, h2, h3, h4, _⟩ := rdTree_some hl
  obtain ⟨b, hp, hnd⟩ := hn.2 (l.length - 1) (l.getD (l.length - 1) (.leaf 0)) (by rw [List.getD_eq_getElem?_getD, List.getElem?_eq_getElem (by omega)]; rfl)
  obtain ⟨A, c', he, _, hc⟩ := cells_of_own ho
  obtain ⟨g', hg, hcell⟩ := hc _ _ hp
  have : g = g' := by
    have e1 : some (⟨g, 0, none⟩ : Addr) = A := by simpa using (Value.slice.inj he).1
    rw [hg] at e1
    simpa using e1
  subst this
  exact ⟨g, c, b, rfl, by omega, by omega, hcell, hnd⟩

theorem form_box {w w1 : World} {o : Obj} {e : TypeId} (hb : Below ((w.alloc o).alloc (.cells #[.slice none 0 0] e)).heap.size ((w.alloc o).alloc (.cells #[.slice none 0 0] e)) w1) :
    Hid (Below w.heap.size w w1) ∧ w.heap.size + 1 < w1.heap.size ∧ w1.cell? ⟨w.heap.size + 1, 0, none⟩ = some (.slice none 0 0) ∧ w1.frozen? ⟨w.heap.size + 1, 0, none⟩ = false := by
  have h1 := new_cell (w.alloc o) #[.slice none 0 0] e 0
  have h2 := new_frozen (w.alloc o) #[.slice none 0 0] e 0
  rw [World.size_alloc] at h1 h2
  refine ⟨Below.trans (below_alloc w _) (Below.trans ((below_alloc _ _).mono (by simp)) (hb.mono (by simp; omega))), by have := hb.size; simp at this; omega, cell_below hb (by simp) h1, frozen_below hb (by simp) h2⟩

set_option maxHeartbeats 400000 in
theorem form_calls (A : Option Addr) (n c : Nat) (xs : List Br) (leaves : Int) (w : World) (hr : RdBr w A xs) (hxn : xs.length = n) (hn : n ≤ 9223372036854775807) (hl1 : -9223372036854775808 ≤ leaves) (hl2 : leaves ≤ 9223372036854775807) :
    Calls Try.prog 34 #[.agg #[.slice A n c], .int .i64 leaves] w (RetForm w (rdRoot leaves xs)) := by
  have HX := Lib.hid hxn
  clear hxn
  have hnil := fun (W : World) => Lib.run_eql_slice_nil (P := Try.prog) W 94 93 none 0 0 0 0 Try.underlying94
  simp only [Option.isNone_none] at hnil
  have hsl := fun (W : World) (a : Addr) (k q : Nat) => Lib.run_eql_slice_nil (P := Try.prog) W 94 93 (some a) k q 0 0 Try.underlying94
  simp only [Option.isNone_some] at hsl
  have hread := fun W (h : RdBr W A xs) => read_all A n c xs leaves W h HX.out hn hl1 hl2
  cases hrd : rdTree leaves xs with
  | none =>
    rw [show rdRoot leaves xs = none by unfold rdRoot; rw [hrd]; rfl]
    rw [hrd] at hread
    have HR := Lib.hid hread
    clear hrd hread
    go_enter Try.func34, Try.ntmps34
    go_wp2_with fail
    refine (HR.out _ ((hr.below (below_alloc w _)).below (below_alloc _ _))).mono ?_
    rintro e w1 ⟨hb, rfl⟩
    obtain ⟨HB, hz, c0, f0⟩ := form_box hb
    clear hb hr
    go_wp2_with fail
    have hcell := set_cell_eq c0 (.slice none 0 0)
    exact bodyPost_ret (v := .tuple #[.agg #[.slice none 0 0], .int .i64 200]) (by simp [results, Try.results34, hcell, go_sem]) rfl ⟨below_set HB.out (by omega) _ _, rfl⟩
  | some l =>
    have hroot : rdRoot leaves xs = some (l.getD (l.length - 1) (.leaf 0)) := by unfold rdRoot; rw [hrd]; rfl
    have hsize := rdRoot_size hroot
    rw [hroot]
    obtain ⟨T, hT⟩ : ∃ T, l.getD (l.length - 1) (.leaf 0) = T := ⟨_, rfl⟩
    rw [hT] at hsize ⊢
    have HT := Lib.hid hT
    clear hT
    rw [hrd] at hread
    have HR := Lib.hid hread
    have HD := Lib.hid hrd
    have HZ : Hid (T.size ≤ 900) := by
      show _ ≤ 900
      omega
    clear hrd hread hroot hsize
    go_enter Try.func34, Try.ntmps34
    go_wp2_with fail
    refine (HR.out _ ((hr.below (below_alloc w _)).below (below_alloc _ _))).mono ?_
    rintro e w1 hres
    obtain ⟨HB, hz, c0, f0⟩ := form_box hres.1
    obtain ⟨g, c', b, rfl, p0, p1, hc, hn'⟩ := hres.last HD.out
    rw [HT.out] at hn'
    have p2 : ((l.length : Int) - 1).toNat = l.length - 1 := by omega
    clear hr hres hnil
    go_wp2_with fail
    refine (tree_calls _ _ b hn' HZ.out).mono ?_
    rintro e w2 ⟨A2, c2, rfl, ho2, hb2⟩
    have c1 := cell_below hb2 hz c0
    have f1 := frozen_below hb2 hz f0
    have hz2 : w.heap.size + 1 < w2.heap.size := Nat.lt_of_lt_of_le hz hb2.size
    have HO := Lib.hid ho2
    have HB2 := Lib.hid (Below.then HB.out (by omega) hb2)
    clear ho2 hb2 c0 f0 hc
    go_wp2_with fail
    have hcell := set_cell_eq c1 (.slice A2 T.size c2)
    refine bodyPost_ret (v := .tuple #[.agg #[.slice A2 T.size c2], .int .i64 0]) (by simp [results, Try.results34, hcell, go_sem]) rfl ⟨below_set HB2.out (by omega) _ _, _, _, rfl, ?_⟩
    exact own_mono (ownsRow_setCell_below HO.out (by show w.heap.size + 1 < w1.heap.size; omega) _) (by omega)
end Go.Proofs.Ytbmlkomfelkckaa
