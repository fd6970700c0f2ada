/- Memory words for tree.Clades: rows of whole numbers that stand while other rows are written. No walk. -/
import Derived.Test.YtbmlkomfelkckaaConcat
import Derived.Test.YtbmlkomfelkckaaCladeP
import Derived.Shelf.Lays
import Derived.Shelf.Sort.Plain
import Derived.Lib.SortBridge
import Derived.Deep.OwnRows
namespace Go.Proofs.Ytbmlkomfelkckaa
open Go Go.RowKit Go.Sort
set_option maxRecDepth 100000

def sort_ren : Go.Shelf.Ren := ⟨fun | 189 => 83 | 125 => 111 | 257 => 110 | 128 => 125 | 129 => 126 | 294 => 116 | 295 => 117 | 296 => 118 | 297 => 119 | 298 => 120 | 299 => 121 | 216 => 122 | 300 => 123 | 301 => 124 | 328 => 128 | 329 => 129 | 330 => 130 | 331 => 131 | 332 => 132 | 215 => 133 | 343 => 134 | n => n, fun | 28 => 43 | 3 => 3 | 46 => 121 | 0 => 0 | 51 => 152 | 53 => 154 | 4 => 4 | 183 => 170 | 182 => 169 | 131 => 105 | 5 => 5 | 9 => 9 | 218 => 176 | 222 => 180 | 228 => 182 | 229 => 60 | n => n, fun | n => n⟩

theorem sort_lays : Go.Proofs.Lays.n189 Try.prog sort_ren :=
  { mixed := by kernel_rfl,
    f125 := Try.func111.trans (congrArg some (by kernel_rfl)),
    f128 := Try.func125.trans (congrArg some (by kernel_rfl)),
    f129 := Try.func126.trans (congrArg some (by kernel_rfl)),
    f189 := Try.func83.trans (congrArg some (by kernel_rfl)),
    f215 := Try.func133.trans (congrArg some (by kernel_rfl)),
    f216 := Try.func122.trans (congrArg some (by kernel_rfl)),
    f257 := Try.func110.trans (congrArg some (by kernel_rfl)),
    f294 := Try.func116.trans (congrArg some (by kernel_rfl)),
    f295 := Try.func117.trans (congrArg some (by kernel_rfl)),
    f296 := Try.func118.trans (congrArg some (by kernel_rfl)),
    f297 := Try.func119.trans (congrArg some (by kernel_rfl)),
    f298 := Try.func120.trans (congrArg some (by kernel_rfl)),
    f299 := Try.func121.trans (congrArg some (by kernel_rfl)),
    f300 := Try.func123.trans (congrArg some (by kernel_rfl)),
    f301 := Try.func124.trans (congrArg some (by kernel_rfl)),
    f328 := Try.func128.trans (congrArg some (by kernel_rfl)),
    f329 := Try.func129.trans (congrArg some (by kernel_rfl)),
    f330 := Try.func130.trans (congrArg some (by kernel_rfl)),
    f331 := Try.func131.trans (congrArg some (by kernel_rfl)),
    f332 := Try.func132.trans (congrArg some (by kernel_rfl)),
    f343 := Try.func134.trans (congrArg some (by kernel_rfl)),
    t0 := Try.underlying0,
    a0 := Try.isAgg0,
    z0 := Try.sizeOf0,
    v0 := Try.zeroValue0,
    t3 := Try.underlying3,
    a3 := Try.isAgg3,
    z3 := Try.sizeOf3,
    v3 := Try.zeroValue3,
    t4 := Try.underlying4,
    a4 := Try.isAgg4,
    z4 := Try.sizeOf4,
    v4 := Try.zeroValue4,
    t5 := Try.underlying5,
    a5 := Try.isAgg5,
    z5 := Try.sizeOf5,
    v5 := Try.zeroValue5,
    t9 := Try.underlying9,
    a9 := Try.isAgg9,
    z9 := Try.sizeOf9,
    v9 := Try.zeroValue9,
    t28 := Try.underlying43,
    a28 := Try.isAgg43,
    z28 := Try.sizeOf43,
    v28 := Try.zeroValue43,
    t46 := Try.underlying121,
    a46 := Try.isAgg121,
    z46 := Try.sizeOf121,
    v46 := Try.zeroValue121,
    t51 := Try.underlying152,
    a51 := Try.isAgg152,
    z51 := Try.sizeOf152,
    v51 := Try.zeroValue152,
    t53 := Try.underlying154,
    a53 := Try.isAgg154,
    z53 := Try.sizeOf154,
    v53 := Try.zeroValue154,
    t131 := Try.underlying105,
    a131 := Try.isAgg105,
    z131 := Try.sizeOf105,
    v131 := Try.zeroValue105,
    t182 := Try.underlying169,
    a182 := Try.isAgg169,
    z182 := Try.sizeOf169,
    v182 := Try.zeroValue169,
    t183 := Try.underlying170,
    a183 := Try.isAgg170,
    z183 := Try.sizeOf170,
    v183 := Try.zeroValue170,
    t218 := Try.underlying176,
    a218 := Try.isAgg176,
    z218 := Try.sizeOf176,
    v218 := Try.zeroValue176,
    t222 := Try.underlying180,
    a222 := Try.isAgg180,
    z222 := Try.sizeOf180,
    v222 := Try.zeroValue180,
    t228 := Try.underlying182,
    a228 := Try.isAgg182,
    z228 := Try.sizeOf182,
    v228 := Try.zeroValue182,
    t229 := Try.underlying60,
    a229 := Try.isAgg60,
    z229 := Try.sizeOf60,
    v229 := Try.zeroValue60 }

theorem own_setCells {base n c g : Nat} {e : TypeId} {size : Nat} : ∀ (vs : List Value) (o : Nat) (w : World) (xs : List Value), w.ownsRow base e size (.slice (some ⟨g, 0, none⟩) n c) n xs → o + vs.length = xs.length →
    (w.setCells g o vs).ownsRow base e size (.slice (some ⟨g, 0, none⟩) n c) n (xs.take o ++ vs) ∧ w.grownBy (w.setCells g o vs) (some g)
  | [], o, w, xs, h, hl => by
    refine ⟨?_, ⟨rfl, rfl, rfl, Nat.le_refl _, fun _ _ _ => rfl⟩⟩
    rw [List.append_nil, List.take_of_length_le (by simp at hl; omega)]
    exact h
  | v :: vs, o, w, xs, h, hl => by
    obtain ⟨h1, g1⟩ := h.stored o v
    simp only [List.length_cons] at hl
    obtain ⟨h2, g2⟩ := own_setCells vs (o + 1) _ _ h1 (by simp; omega)
    refine ⟨?_, World.grownBy.trans g1 g2⟩
    have e1 : (xs.set o v).take (o + 1) = xs.take o ++ [v] := by
      rw [List.take_succ_eq_append_getElem (by simp; omega), List.take_set_of_le (Nat.le_refl o)]
      simp
    rw [e1, List.append_assoc] at h2
    exact h2

/-- Sorted in place: the row's numbers, sorted; other blocks stand. -/
def RetSorted (w : World) (base n c : Nat) (A : Option Addr) (l : List Int) (e : Ending) (w' : World) : Prop :=
  e = .returned (.tuple #[]) ∧ w'.ownsRow base 3 1 (.slice A n c) n (intCells (sortI l)) ∧ Upd w w' (.slice A n c) (.slice A n c)

theorem sort_calls (A : Option Addr) (n c base : Nat) (l : List Int) (w : World) (o : w.ownsRow base 3 1 (.slice A n c) n (intCells l)) (h : 0 < n) (k : n ≤ 1000000000) :
    Calls Try.prog 83 #[.slice A n c] w (RetSorted w base n c A l) := by
  obtain ⟨g, rfl, hg, hb, hc⟩ := own_at o h
  have hn : l.length = n := by have := o.1; rw [intCells_length] at this; omega
  have hH : Holds (Value.int .i64) w g 0 l.toArray := by
    intro j hj
    have hj' : j < l.length := by simpa using hj
    have h1 := hc j (.int .i64 l[j]) (by simp [intCells, hj'])
    rw [add_plain] at h1
    refine ⟨?_, ?_⟩
    · rw [Nat.zero_add, h1]
      simp [hj']
    · rw [Nat.zero_add]
      rcases o.2 with ⟨h2, _⟩ | ⟨g', cap, cur, h2, _, hh, _⟩
      · cases h2
      · obtain ⟨rfl, _⟩ : g = g' ∧ c = cap := by simpa using h2
        simp [World.frozen?, hh]
  have hs := Any.slices_Sort_int sort_lays g 0 c l w hH hg (by omega)
  rw [hn] at hs
  refine Calls.mono hs ?_
  rintro e w' ⟨rfl, q, os, rfl⟩
  rw [Lib.sorted_world (Value.int .i64) w g 0 q l.toArray (l.mergeSort fun x y => decide (x ≤ y)) os hH (by simp)]
  have o1 : (w.drewN q).ownsRow base 3 1 (.slice (some ⟨g, 0, none⟩) n c) n (intCells l) := own_below o (below_drewN w q)
  obtain ⟨o2, g2⟩ := own_setCells (intCells (sortI l)) 0 _ _ o1 (by rw [intCells_length, intCells_length, sortI_length, Nat.zero_add])
  rw [List.take_zero, List.nil_append] at o2
  have hb3 : ∀ W : World, Below W.heap.size W (grow W os) := fun W => ⟨rfl, rfl, rfl, by simp, fun i hi => heap_grow_old W os hi⟩
  refine ⟨rfl, own_below o2 (hb3 _), ?_, .inl rfl⟩
  exact World.grownBy.trans (World.grownBy.trans (b := w.drewN q) ⟨rfl, rfl, rfl, Nat.le_refl _, fun _ _ _ => rfl⟩ g2) ⟨rfl, rfl, rfl, (hb3 _).size, fun i hi _ => (hb3 _).block i hi⟩
end Go.Proofs.Ytbmlkomfelkckaa

namespace Go.Proofs.Ytbmlkomfelkckaa
open Go Go.RowKit

theorem mem_ne {w : World} {b j : Nat} {u v : Value} {b' j' : Nat} (hne : b' ≠ b ∨ j' ≠ j) (h : w.cell? ⟨b', j', none⟩ = some v) : (w.setCell ⟨b, j, none⟩ u).cell? ⟨b', j', none⟩ = some v := by
  by_cases e : b' = b
  · subst e
    have hj : j ≠ j' := fun q => hne.elim (fun h1 => h1 rfl) (fun h1 => h1 q.symm)
    simp only [World.cell?, World.setCell, Array.getElem?_modify] at *
    cases hh : w.heap[b']? with
    | none => simp [hh] at h
    | some o =>
      rw [hh] at h
      cases o <;> simp at h ⊢
      rw [Array.getElem?_setIfInBounds_ne hj]
      exact h
  · exact (World.cell?_of_block (a := ⟨b', j', none⟩) (Below.heap_setCell _ _ _ _ e)).trans h

theorem oneSl (A : Option Addr) (n c : Nat) : (#[Value.slice A n c] : Array Value).size = 1 ∧ ∀ u ∈ (#[Value.slice A n c] : Array Value).toList, u.oneCell' = true := by
  refine ⟨rfl, ?_⟩
  intro u hu
  simp at hu
  subst hu
  rfl

/-- Rows of whole numbers below block B stand. -/
def KI (B : Nat) (w w' : World) : Prop := ∀ b, b < B → elemAt w b = some 3 → w'.heap[b]? = w.heap[b]?

theorem elemAt_eq {w w' : World} {b : Nat} (h : w'.heap[b]? = w.heap[b]?) : elemAt w' b = elemAt w b := by unfold elemAt; rw [h]

theorem KI.refl (B : Nat) (w : World) : KI B w w := fun _ _ _ => rfl
theorem KI.trans {B : Nat} {a b c : World} (h : KI B a b) (k : KI B b c) : KI B a c := fun i hi he => (k i hi ((elemAt_eq (h i hi he)).trans he)).trans (h i hi he)
theorem KI.below {B B' : Nat} {w w' : World} (h : Below B' w w') (hb : B ≤ B') : KI B w w' := fun i hi _ => h.block i (by omega)
theorem KI.grown {B : Nat} {w w' : World} {row : Option Nat} (h : w.grownBy w' row) (hB : B ≤ w.heap.size) (hr : ∀ k, row = some k → B ≤ k ∨ elemAt w k ≠ some 3) : KI B w w' := fun i hi he =>
  h.block i (by omega) (fun e => by
    rcases hr i e.symm with h1 | h1
    · omega
    · exact h1 he)

theorem own_KI {B : Nat} {w w' : World} {base n : Nat} {v : Value} {xs : List Value} (h : w.ownsRow base 3 1 v n xs) (hv : ∀ k, v.ownBlock = some k → k < B) (k : KI B w w') : w'.ownsRow base 3 1 v n xs := by
  refine ⟨h.1, ?_⟩
  rcases h.2 with h2 | ⟨g, cap, cur, rfl, hg, hh, r⟩
  · exact .inl h2
  · exact .inr ⟨g, cap, cur, rfl, hg, (k g (hv g rfl) (by simp [elemAt, hh])).trans hh, r⟩

/-- A row of these whole numbers, below block B. -/
def RowAt (B : Nat) (w : World) (base : Nat) (v : Value) (l : List Int) : Prop :=
  ∃ A c, v = .slice A l.length c ∧ w.ownsRow base 3 1 (.slice A l.length c) l.length (intCells l) ∧ ∀ k, v.ownBlock = some k → k < B

theorem RowAt.ki {B : Nat} {w w' : World} {base : Nat} {v : Value} {l : List Int} (h : RowAt B w base v l) (k : KI B w w') : RowAt B w' base v l := by
  obtain ⟨A, c, rfl, h1, h2⟩ := h
  exact ⟨A, c, rfl, own_KI h1 h2 k, h2⟩

theorem RowAt.mono {B B' : Nat} {w : World} {base base' : Nat} {v : Value} {l : List Int} (h : RowAt B w base v l) (hB : B ≤ B') (hb : base' ≤ base) : RowAt B' w base' v l := by
  obtain ⟨A, c, rfl, h1, h2⟩ := h
  exact ⟨A, c, rfl, own_mono h1 hb, fun k hk => by have := h2 k hk; omega⟩

theorem RowAt.new {w : World} {base n c : Nat} {A : Option Addr} {l : List Int} (h : w.ownsRow base 3 1 (.slice A n c) n (intCells l)) : RowAt w.heap.size w base (.slice A n c) l := by
  have hn : l.length = n := by have := h.1; rw [intCells_length] at this; omega
  subst hn
  exact ⟨A, c, rfl, h, fun k hk => (h.lt k hk).2⟩

theorem RowAt.rd {B : Nat} {w : World} {base : Nat} {A : Option Addr} {n c : Nat} {l : List Int} (h : RowAt B w base (.slice A n c) l) : RdInt w A l ∧ l.length = n ∧ n ≤ c := by
  obtain ⟨A', c', he, h1, _⟩ := h
  obtain ⟨rfl, rfl, rfl⟩ : A = A' ∧ n = l.length ∧ c = c' := by simpa using he
  obtain ⟨A'', c'', he, hc, hcell⟩ := cells_of_own h1
  obtain ⟨rfl, rfl⟩ : A = A'' ∧ c = c'' := by simpa using he
  refine ⟨fun i x hx => ?_, rfl, hc⟩
  obtain ⟨g, rfl, hg⟩ := hcell i (.int .i64 x) (by simp [intCells, hx])
  exact ⟨_, rfl, by rw [add_plain]; exact hg⟩

/-- Values that are rows of whole numbers, one for each list. -/
def RowsAt (B : Nat) (w : World) (base : Nat) (vs : List Value) (L : List (List Int)) : Prop :=
  vs.length = L.length ∧ ∀ (i : Nat) (l : List Int), L[i]? = some l → ∃ v, vs[i]? = some v ∧ RowAt B w base v l

theorem RowsAt.nil (B : Nat) (w : World) (base : Nat) : RowsAt B w base [] [] := ⟨rfl, fun i l h => by simp at h⟩

theorem RowsAt.ki {B : Nat} {w w' : World} {base : Nat} {vs : List Value} {L : List (List Int)} (h : RowsAt B w base vs L) (k : KI B w w') : RowsAt B w' base vs L :=
  ⟨h.1, fun i l hi => by obtain ⟨v, hv, hr⟩ := h.2 i l hi; exact ⟨v, hv, hr.ki k⟩⟩

theorem RowsAt.mono {B B' : Nat} {w : World} {base base' : Nat} {vs : List Value} {L : List (List Int)} (h : RowsAt B w base vs L) (hB : B ≤ B') (hb : base' ≤ base) : RowsAt B' w base' vs L :=
  ⟨h.1, fun i l hi => by obtain ⟨v, hv, hr⟩ := h.2 i l hi; exact ⟨v, hv, hr.mono hB hb⟩⟩

theorem RowsAt.snoc {B : Nat} {w : World} {base : Nat} {vs : List Value} {L : List (List Int)} {v : Value} {l : List Int} (h : RowsAt B w base vs L) (hv : RowAt B w base v l) : RowsAt B w base (vs ++ [v]) (L ++ [l]) := by
  refine ⟨by simp [h.1], fun i m hi => ?_⟩
  by_cases e : i < L.length
  · rw [List.getElem?_append_left e] at hi
    obtain ⟨u, hu, hr⟩ := h.2 i m hi
    exact ⟨u, by rw [List.getElem?_append_left (by rw [h.1]; exact e)]; exact hu, hr⟩
  · have hl : i = L.length := by
      have := (List.getElem?_eq_some_iff.1 hi).1
      simp at this
      omega
    subst hl
    rw [List.getElem?_append_right (Nat.le_refl _), Nat.sub_self] at hi
    obtain rfl : l = m := by simpa using hi
    exact ⟨v, by rw [List.getElem?_append_right (by rw [h.1]; exact Nat.le_refl _), h.1, Nat.sub_self]; rfl, hv⟩

/-- What holds at the head of each round, and within one: 'u' stands at k. -/
structure CInv (B : Nat) (W0 W : World) (n : Nat) (bs : List Br) (k : Nat) (v8 u : Value) : Prop where
  below : Below W0.heap.size W0 W
  size : W0.heap.size + 1 ≤ W.heap.size
  le : B ≤ W.heap.size
  row : ∃ f, W.rowIs W0.heap.size 43 n f ∧ f k = u ∧ ∀ j, j < k → RowAt B W W0.heap.size (f j) (sortI (rawAt bs j).lv)
  out : ∃ vs, W.ownsRow (W0.heap.size + 1) 43 1 v8 (clUp bs k).length vs ∧ RowsAt B W W0.heap.size vs (clUp bs k)

theorem rowIs_elem {w : World} {b : Nat} {t : TypeId} {n : Nat} {f : Nat → Value} (h : w.rowIs b t n f) : elemAt w b = some t := by
  obtain ⟨c, hc, _⟩ := h
  simp [elemAt, hc]

theorem CInv.start (W0 : World) (n : Nat) (bs : List Br) : CInv (W0.heap.size + 1) W0 (W0.alloc (.cells (madeCells #[.slice none 0 0] n) 43)) n bs 0 (.slice none 0 0) (.slice none 0 0) := by
  refine ⟨below_alloc _ _, by simp, by simp, ⟨_, World.rowIs_made W0 (.slice none 0 0) n 43, rfl, fun j hj => by omega⟩, [], ?_, ?_⟩
  · rw [clUp_zero]; exact World.ownsRow_nil _ _ _ _
  · rw [clUp_zero]; exact RowsAt.nil _ _ _

theorem CInv.mono {B B' : Nat} {W0 W : World} {n : Nat} {bs : List Br} {k : Nat} {v8 u : Value} (h : CInv B W0 W n bs k v8 u) (hB : B ≤ B') (hl : B' ≤ W.heap.size) : CInv B' W0 W n bs k v8 u := by
  obtain ⟨f, h1, h2, h3⟩ := h.row
  obtain ⟨vs, h4, h5⟩ := h.out
  exact ⟨h.below, h.size, hl, ⟨f, h1, h2, fun j hj => (h3 j hj).mono hB (Nat.le_refl _)⟩, vs, h4, h5.mono hB (Nat.le_refl _)⟩

theorem CInv.beside {B : Nat} {W0 W W' : World} {n : Nat} {bs : List Br} {k : Nat} {v8 u : Value} (h : CInv B W0 W n bs k v8 u) (hb : Below W.heap.size W W') : CInv B W0 W' n bs k v8 u := by
  obtain ⟨f, h1, h2, h3⟩ := h.row
  obtain ⟨vs, h4, h5⟩ := h.out
  have hz := h.size
  have hk : KI B W W' := KI.below hb h.le
  exact ⟨Below.then h.below (by omega) hb, Nat.le_trans hz hb.size, Nat.le_trans h.le hb.size, ⟨f, h1.of_block (hb.block _ h1.lt), h2, fun j hj => (h3 j hj).ki hk⟩, vs, own_below h4 hb, h5.ki hk⟩

theorem CInv.set {B : Nat} {W0 W : World} {n : Nat} {bs : List Br} {k : Nat} {v8 u : Value} (h : CInv B W0 W n bs k v8 u) (v : Value) : CInv B W0 (W.setCell ⟨W0.heap.size, k, none⟩ v) n bs k v8 v := by
  obtain ⟨f, h1, h2, h3⟩ := h.row
  obtain ⟨vs, h4, h5⟩ := h.out
  have hz := h.size
  have hk : KI B W (W.setCell ⟨W0.heap.size, k, none⟩ v) := fun b hb he => Below.heap_setCell _ _ _ _ (fun e => by
    have := rowIs_elem h1
    rw [← show b = W0.heap.size from e] at this
    rw [this] at he
    simp at he)
  refine ⟨below_set h.below (Nat.le_refl _) _ _, by simpa using hz, by simpa using h.le, ⟨_, h1.set k v, by simp, fun j hj => ?_⟩, vs, ownsRow_setCell_below h4 (by simp) _, h5.ki hk⟩
  have : j ≠ k := by omega
  simp only [if_neg this]
  exact (h3 j hj).ki hk

/-- A row of whole numbers from block B on is written. -/
theorem CInv.written {B : Nat} {W0 W W' : World} {n : Nat} {bs : List Br} {k : Nat} {v8 u : Value} (h : CInv B W0 W n bs k v8 u) {row : Option Nat} (hg : W.grownBy W' row) (hr : ∀ g, row = some g → B ≤ g ∧ W0.heap.size ≤ g ∧ elemAt W g = some 3) : CInv B W0 W' n bs k v8 u := by
  obtain ⟨f, h1, h2, h3⟩ := h.row
  obtain ⟨vs, h4, h5⟩ := h.out
  have hz := h.size
  have hk : KI B W W' := KI.grown hg h.le (fun g e => .inl (hr g e).1)
  refine ⟨?_, Nat.le_trans hz hg.size, Nat.le_trans h.le hg.size, ⟨f, h1.of_block (hg.block _ h1.lt (fun e => ?_)), h2, fun j hj => (h3 j hj).ki hk⟩, vs, h4.kept hg ?_, h5.ki hk⟩
  · exact h.below.trans ⟨hg.os, hg.tape, hg.output, hg.size, fun i hi => hg.block i (by omega) (fun e => by have := (hr i e.symm).2.1; omega)⟩
  · have := (hr _ e.symm).2.2
    rw [rowIs_elem h1] at this
    simp at this
  · cases hv : v8.ownBlock with
    | none => exact .inl rfl
    | some g =>
      refine .inr (fun e => ?_)
      have h6 := own_elem h4 g hv
      rw [(hr g e.symm).2.2] at h6
      simp at h6

/-- A leaf's round is over. -/
theorem CInv.leaf {B : Nat} {W0 W : World} {n : Nat} {bs : List Br} {k : Nat} {v8 u : Value} (h : CInv B W0 W n bs k v8 u) (hk : k < bs.length) (hc : (rawAt bs k).cl = []) (hu : RowAt B W W0.heap.size u (sortI (rawAt bs k).lv)) :
    ∃ u', CInv B W0 W n bs (k + 1) v8 u' := by
  obtain ⟨f, h1, h2, h3⟩ := h.row
  obtain ⟨vs, h4, h5⟩ := h.out
  refine ⟨f (k + 1), h.below, h.size, h.le, ⟨f, h1, rfl, fun j hj => ?_⟩, vs, ?_, ?_⟩
  · by_cases e : j = k
    · subst e; rw [h2]; exact hu
    · exact h3 j (by omega)
  · rw [clUp_succ _ _ hk, hc, List.append_nil]; exact h4
  · rw [clUp_succ _ _ hk, hc, List.append_nil]; exact h5

/-- A fork's round is over: the clade has been appended. -/
theorem CInv.fork {B : Nat} {W0 W W' : World} {n : Nat} {bs : List Br} {k : Nat} {v8 v8' u x : Value} {vs : List Value} {l : List Int} (h : CInv B W0 W n bs k v8 u) (hk : k < bs.length) (hl : sortI (rawAt bs k).lv = l) (hc : (rawAt bs k).cl = [l])
    (h4 : W.ownsRow (W0.heap.size + 1) 43 1 v8 (clUp bs k).length vs) (h5 : RowsAt B W W0.heap.size vs (clUp bs k)) (hu : RowAt W.heap.size W W0.heap.size u l) (hx : RowAt W.heap.size W W0.heap.size x l)
    (ho : W'.ownsRow (W0.heap.size + 1) 43 1 v8' ((clUp bs k).length + 1) (vs ++ [x])) (hup : Upd W W' v8 v8') : ∃ u', CInv W'.heap.size W0 W' n bs (k + 1) v8' u' := by
  obtain ⟨f, h1, h2, h3⟩ := h.row
  have hz := h.size
  have hki : KI W.heap.size W W' := KI.grown hup.1 (Nat.le_refl _) (fun g e => .inr (by rw [own_elem h4 g e]; simp))
  have hB := h.le
  refine ⟨f (k + 1), h.below.trans (hup.below (by omega) (fun g e => by have := own_base h4 g e; omega)), Nat.le_trans hz hup.1.size, Nat.le_refl _, ⟨f, h1.of_block (hup.1.block _ h1.lt (fun e => ?_)), rfl, fun j hj => ?_⟩, vs ++ [x], ?_, ?_⟩
  · have := own_base h4 _ e.symm
    omega
  · by_cases e : j = k
    · subst e; rw [h2, hl]; exact (hu.ki hki).mono hup.1.size (Nat.le_refl _)
    · exact (((h3 j (by omega)).mono hB (Nat.le_refl _)).ki hki).mono hup.1.size (Nat.le_refl _)
  · rw [clUp_succ _ _ hk, hc]; simpa using ho
  · rw [clUp_succ _ _ hk, hc]
    exact (((h5.mono hB (Nat.le_refl _)).snoc hx).ki hki).mono hup.1.size (Nat.le_refl _)
end Go.Proofs.Ytbmlkomfelkckaa
