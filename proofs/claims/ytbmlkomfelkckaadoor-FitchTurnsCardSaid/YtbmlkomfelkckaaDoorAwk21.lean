/- siglumlaw21.awake answers true. -/
import Derived.Test.YtbmlkomfelkckaaDoorStates
namespace Go.Proofs.YtbmlkomfelkckaaDoor
open Go Go.RowKit
set_option maxRecDepth 100000

theorem at_old {w : World} {k : Nat} {o : Obj} (h : w.heap[k]? = some o) (o' : Obj) : (w.alloc o').heap[k]? = some o :=
  (heap_alloc_old w o' (Array.getElem?_eq_some_iff.1 h).1).trans h

theorem rdBr_block {w : World} {g : Nat} {cs : Array Value} {e : TypeId} {fr : Nat × Nat} (h : w.heap[g]? = some (.cells cs e fr)) (xs : List Br) (hc : cs.toList = brs xs) : RdBr w (some ⟨g, 0, none⟩) xs := by
  intro i x hx
  obtain ⟨h0, h1, h2⟩ := brs_get xs i x hx
  rw [← hc] at h0 h1 h2
  refine ⟨_, rfl, ?_, ?_, ?_⟩ <;> rw [add_plain, Nd.cell h, ← Array.getElem?_toList]
  · exact h0
  · exact h1
  · exact h2

theorem rdInt_block {w : World} {g : Nat} {cs : Array Value} {e : TypeId} {fr : Nat × Nat} (h : w.heap[g]? = some (.cells cs e fr)) (xs : List Int) (hc : cs.toList = xs.map (Value.int .i64)) : RdInt w (some ⟨g, 0, none⟩) xs := by
  intro i x hx
  refine ⟨_, rfl, ?_⟩
  rw [add_plain, Nd.cell h, ← Array.getElem?_toList, hc, List.getElem?_map, hx]
  rfl

/-- Two rows of one number each, in new blocks. -/
theorem rdRows_two {w : World} {g a b : Nat} {x y : Int} {e e1 e2 : TypeId} {f f1 f2 : Nat × Nat} (h : w.heap[g]? = some (.cells #[.slice (some ⟨a, 0, none⟩) 1 1, .slice (some ⟨b, 0, none⟩) 1 1] e f))
    (ha : w.heap[a]? = some (.cells #[.int .i64 x] e1 f1)) (hb : w.heap[b]? = some (.cells #[.int .i64 y] e2 f2)) : RdRows w (some ⟨g, 0, none⟩) [[x], [y]] := by
  intro i r hi
  match i, hi with
  | 0, hi =>
    simp at hi
    subst hi
    exact ⟨_, _, 1, rfl, by rw [add_plain, Nd.cell h]; rfl, rdInt_block ha [x] rfl, by simp, by omega⟩
  | 1, hi =>
    simp at hi
    subst hi
    exact ⟨_, _, 1, rfl, by rw [add_plain, Nd.cell h]; rfl, rdInt_block hb [y] rfl, by simp, by omega⟩

def awkT : List Br := [⟨0, 0, 0⟩, ⟨1, 0, 0⟩, ⟨0, 0, 1⟩]

theorem awk_site : siteErr awkT [[2], [3]] 0 = 0 ∧ siteNum awkT [[2], [3]] 0 = 1 := by decide
theorem awk_states : siteErr awkT [[-1], [3]] 0 = 0 ∧ statesOf [[-1], [3]] 0 awkT = [3, 3, 3] := by decide

theorem mat_new (W : World) (x y : Int) (a b c : Nat) (e : TypeId) (ha : a = W.heap.size) (hb : b = W.heap.size + 1) (hc : c = W.heap.size + 2) :
    RdRows (((W.alloc (.cells #[.int .i64 x] e)).alloc (.cells #[.int .i64 y] e)).alloc (.cells #[.slice (some ⟨a, 0, none⟩) 1 1, .slice (some ⟨b, 0, none⟩) 1 1] 32)) (some ⟨c, 0, none⟩) [[x], [y]] ∧
    Below W.heap.size W (((W.alloc (.cells #[.int .i64 x] e)).alloc (.cells #[.int .i64 y] e)).alloc (.cells #[.slice (some ⟨a, 0, none⟩) 1 1, .slice (some ⟨b, 0, none⟩) 1 1] 32)) := by
  subst ha hb hc
  have h1 := alloc_at W (.cells #[.int .i64 x] e)
  have h2 := alloc_at (W.alloc (.cells #[.int .i64 x] e)) (.cells #[.int .i64 y] e)
  have h3 := alloc_at ((W.alloc (.cells #[.int .i64 x] e)).alloc (.cells #[.int .i64 y] e)) (.cells #[.slice (some ⟨W.heap.size, 0, none⟩) 1 1, .slice (some ⟨W.heap.size + 1, 0, none⟩) 1 1] 32)
  rw [World.size_alloc] at h2
  rw [World.size_alloc, World.size_alloc] at h3
  exact ⟨rdRows_two h3 (at_old (at_old h1 _) _) (at_old h2 _), (((Below.refl _ _).alloc (Nat.le_refl _) _).alloc (by simp) _).alloc (by simp; omega) _⟩

theorem tm_of {w : World} {A A2 : Option Addr} {n n2 : Nat} {bs : List Br} {rows : List (List Int)} (h1 : RdBr w A bs) (h2 : RdRows w A2 rows) (h3 : bs.length = n ∧ n ≤ 1000) (h4 : rows.length = n2 ∧ n2 ≤ 1000) : TM w A n bs A2 n2 rows :=
  ⟨h1, h3.1, by omega, h2, h4.1, by omega⟩

set_option maxHeartbeats 1000000 in
theorem awake21 (w : World) (ht : Tz w) : Calls Tryd.prog 9 #[] w fun e w' => e = .returned (.bool true) ∧ Below w.heap.size w w' := by
  have HT := Lib.hid ht
  clear ht
  go_enter Tryd.func9, Tryd.ntmps9
  go_upto_region 2 with (fail)
  have b0 : Below w.heap.size w ((w.alloc (.cells #[.int .i64 0, .int .i64 0, .int .i64 0, .int .i64 1, .int .i64 0, .int .i64 0, .int .i64 0, .int .i64 0, .int .i64 1] 50)).alloc (.cells #[.slice (some ⟨w.heap.size, 0, none⟩) 3 3] 24)) :=
    ((Below.refl _ _).alloc (Nat.le_refl _) _).alloc (by simp) _
  have a0 := at_old (alloc_at w (.cells #[.int .i64 0, .int .i64 0, .int .i64 0, .int .i64 1, .int .i64 0, .int .i64 0, .int .i64 0, .int .i64 0, .int .i64 1] 50)) (.cells #[.slice (some ⟨w.heap.size, 0, none⟩) 3 3] 24)
  have a1 := new_cell (w.alloc (.cells #[.int .i64 0, .int .i64 0, .int .i64 0, .int .i64 1, .int .i64 0, .int .i64 0, .int .i64 0, .int .i64 0, .int .i64 1] 50)) #[.slice (some ⟨w.heap.size, 0, none⟩) 3 3] 24 0
  rw [World.size_alloc] at a1
  have z0 : w.heap.size + 1 < ((w.alloc (.cells #[.int .i64 0, .int .i64 0, .int .i64 0, .int .i64 1, .int .i64 0, .int .i64 0, .int .i64 0, .int .i64 0, .int .i64 1] 50)).alloc (.cells #[.slice (some ⟨w.heap.size, 0, none⟩) 3 3] 24)).heap.size := by simp
  have HBR := Lib.hid (rdBr_block a0 awkT rfl)
  have HB := Lib.hid b0
  clear a0 b0
  generalize (w.alloc (.cells #[.int .i64 0, .int .i64 0, .int .i64 0, .int .i64 1, .int .i64 0, .int .i64 0, .int .i64 0, .int .i64 0, .int .i64 1] 50)).alloc (.cells #[.slice (some ⟨w.heap.size, 0, none⟩) 3 3] 24) = wa at *
  go_wp2_with fail
  have hm := mat_new wa 2 3 wa.heap.size (wa.heap.size + 1) (wa.heap.size + 1 + 1) 3 rfl rfl rfl
  refine (site_calls _ 3 3 awkT _ 2 2 [[2], [3]] 0 _ (tm_of (HBR.out.below hm.2) hm.1 ⟨rfl, by omega⟩ ⟨rfl, by omega⟩)).mono ?_
  rintro e w1 ⟨he, hb1⟩
  rw [awk_site.1, awk_site.2] at he
  subst he
  have hb1' := Below.then hm.2 hm.2.size hb1
  have a2 := cell_below hb1' z0 a1
  have z1 := Nat.lt_of_lt_of_le z0 hb1'.size
  have HB1 := Lib.hid hb1'
  clear hb1 hb1' hm a1
  go_wp2_with fail
  have hm := mat_new w1 (-1) 3 w1.heap.size (w1.heap.size + 1) (w1.heap.size + 1 + 1) 3 rfl rfl rfl
  refine (states_calls _ 3 3 awkT _ 2 2 [[-1], [3]] 0 _ (tm_of ((HBR.out.below HB1.out).below hm.2) hm.1 ⟨rfl, by omega⟩ ⟨rfl, by omega⟩) (((HT.out.below HB.out).below HB1.out).below hm.2) awk_states.1).mono ?_
  rintro e w2 ⟨g, rfl, hrow, -, hb2⟩
  have hst : statesOf [[-1], [3]] (0 : Int).toNat awkT = [3, 3, 3] := awk_states.2
  rw [hst] at hrow
  have c0 := hrow.cell (i := 0) (by omega)
  have c2 := hrow.cell (i := 2) (by omega)
  simp at c0 c2
  have HB2 := Lib.hid (Below.then HB1.out HB1.out.size (Below.then hm.2 hm.2.size hb2))
  clear hb2 hm hrow hst a2
  go_wp2_with fail
  go_ret
  exact ⟨rfl, Below.then HB.out HB.out.size HB2.out⟩
end Go.Proofs.YtbmlkomfelkckaaDoor
