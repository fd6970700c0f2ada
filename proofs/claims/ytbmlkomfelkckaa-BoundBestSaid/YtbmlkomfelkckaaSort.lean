/- slices.Sort at whole numbers, laid off the shelf, in the words of own rows. -/
import Derived.Test.YtbmlkomfelkckaaConcat
import Derived.Test.YtbmlkomfelkckaaCladeP
import Derived.Shelf.Lays
import Derived.Shelf.Sort.Plain
import Derived.Lib.SortBridge
namespace Go.Proofs.Ytbmlkomfelkckaa
open Go Go.RowKit Go.Sort
set_option maxRecDepth 100000

def sort_ren : Go.Shelf.Ren := ⟨fun | 189 => 83 | 125 => 111 | 257 => 110 | 128 => 125 | 129 => 126 | 294 => 116 | 295 => 117 | 296 => 118 | 297 => 119 | 298 => 120 | 299 => 121 | 216 => 122 | 300 => 123 | 301 => 124 | 328 => 128 | 329 => 129 | 330 => 130 | 331 => 131 | 332 => 132 | 215 => 133 | 343 => 134 | n => n, fun | 28 => 43 | 3 => 3 | 46 => 121 | 0 => 0 | 51 => 152 | 53 => 154 | 4 => 4 | 183 => 170 | 182 => 169 | 131 => 105 | 5 => 5 | 9 => 9 | 218 => 176 | 222 => 180 | 228 => 182 | 229 => 60 | n => n, fun | n => n⟩

theorem sort_lays : Go.Proofs.Lays.n189 Try.prog sort_ren :=
  { mixed := by kernel_rfl,
    f125 := Try.func111.trans (congrArg some (by kernel_rfl)),
    f128 := Try.func125.trans (congrArg some (by kernel_rfl)),
    f129 := Try.func126.trans (congrArg some (by kernel_rfl)),
    f189 := Try.func83.trans (congrArg some (by kernel_rfl)),
    f215 := Try.func133.trans (congrArg some (by kernel_rfl)),
    f216 := Try.func122.trans (congrArg some (by kernel_rfl)),
    f257 := Try.func110.trans (congrArg some (by kernel_rfl)),
    f294 := Try.func116.trans (congrArg some (by kernel_rfl)),
    f295 := Try.func117.trans (congrArg some (by kernel_rfl)),
    f296 := Try.func118.trans (congrArg some (by kernel_rfl)),
    f297 := Try.func119.trans (congrArg some (by kernel_rfl)),
    f298 := Try.func120.trans (congrArg some (by kernel_rfl)),
    f299 := Try.func121.trans (congrArg some (by kernel_rfl)),
    f300 := Try.func123.trans (congrArg some (by kernel_rfl)),
    f301 := Try.func124.trans (congrArg some (by kernel_rfl)),
    f328 := Try.func128.trans (congrArg some (by kernel_rfl)),
    f329 := Try.func129.trans (congrArg some (by kernel_rfl)),
    f330 := Try.func130.trans (congrArg some (by kernel_rfl)),
    f331 := Try.func131.trans (congrArg some (by kernel_rfl)),
    f332 := Try.func132.trans (congrArg some (by kernel_rfl)),
    f343 := Try.func134.trans (congrArg some (by kernel_rfl)),
    t0 := Try.underlying0,
    a0 := Try.isAgg0,
    z0 := Try.sizeOf0,
    v0 := Try.zeroValue0,
    t3 := Try.underlying3,
    a3 := Try.isAgg3,
    z3 := Try.sizeOf3,
    v3 := Try.zeroValue3,
    t4 := Try.underlying4,
    a4 := Try.isAgg4,
    z4 := Try.sizeOf4,
    v4 := Try.zeroValue4,
    t5 := Try.underlying5,
    a5 := Try.isAgg5,
    z5 := Try.sizeOf5,
    v5 := Try.zeroValue5,
    t9 := Try.underlying9,
    a9 := Try.isAgg9,
    z9 := Try.sizeOf9,
    v9 := Try.zeroValue9,
    t28 := Try.underlying43,
    a28 := Try.isAgg43,
    z28 := Try.sizeOf43,
    v28 := Try.zeroValue43,
    t46 := Try.underlying121,
    a46 := Try.isAgg121,
    z46 := Try.sizeOf121,
    v46 := Try.zeroValue121,
    t51 := Try.underlying152,
    a51 := Try.isAgg152,
    z51 := Try.sizeOf152,
    v51 := Try.zeroValue152,
    t53 := Try.underlying154,
    a53 := Try.isAgg154,
    z53 := Try.sizeOf154,
    v53 := Try.zeroValue154,
    t131 := Try.underlying105,
    a131 := Try.isAgg105,
    z131 := Try.sizeOf105,
    v131 := Try.zeroValue105,
    t182 := Try.underlying169,
    a182 := Try.isAgg169,
    z182 := Try.sizeOf169,
    v182 := Try.zeroValue169,
    t183 := Try.underlying170,
    a183 := Try.isAgg170,
    z183 := Try.sizeOf170,
    v183 := Try.zeroValue170,
    t218 := Try.underlying176,
    a218 := Try.isAgg176,
    z218 := Try.sizeOf176,
    v218 := Try.zeroValue176,
    t222 := Try.underlying180,
    a222 := Try.isAgg180,
    z222 := Try.sizeOf180,
    v222 := Try.zeroValue180,
    t228 := Try.underlying182,
    a228 := Try.isAgg182,
    z228 := Try.sizeOf182,
    v228 := Try.zeroValue182,
    t229 := Try.underlying60,
    a229 := Try.isAgg60,
    z229 := Try.sizeOf60,
    v229 := Try.zeroValue60 }

theorem own_setCells {base n c g : Nat} {e : TypeId} {size : Nat} : ∀ (vs : List Value) (o : Nat) (w : World) (xs : List Value), w.ownsRow base e size (.slice (some ⟨g, 0, none⟩) n c) n xs → o + vs.length = xs.length →
    (w.setCells g o vs).ownsRow base e size (.slice (some ⟨g, 0, none⟩) n c) n (xs.take o ++ vs) ∧ w.grownBy (w.setCells g o vs) (some g)
  | [], o, w, xs, h, hl => by
    refine ⟨?_, ⟨rfl, rfl, rfl, Nat.le_refl _, fun _ _ _ => rfl⟩⟩
    rw [List.append_nil, List.take_of_length_le (by simp at hl; omega)]
    exact h
  | v :: vs, o, w, xs, h, hl => by
    obtain ⟨h1, g1⟩ := h.stored o v
    simp only [List.length_cons] at hl
    obtain ⟨h2, g2⟩ := own_setCells vs (o + 1) _ _ h1 (by simp; omega)
    refine ⟨?_, World.grownBy.trans g1 g2⟩
    have e1 : (xs.set o v).take (o + 1) = xs.take o ++ [v] := by
      rw [List.take_succ_eq_append_getElem (by simp; omega), List.take_set_of_le (Nat.le_refl o)]
      simp
    rw [e1, List.append_assoc] at h2
    exact h2

/-- Sorted in place: the row's numbers, sorted; other blocks stand. -/
def RetSorted (w : World) (base n c : Nat) (A : Option Addr) (l : List Int) (e : Ending) (w' : World) : Prop :=
  e = .returned (.tuple #[]) ∧ w'.ownsRow base 3 1 (.slice A n c) n (intCells (sortI l)) ∧ Upd w w' (.slice A n c) (.slice A n c)

theorem sort_calls (A : Option Addr) (n c base : Nat) (l : List Int) (w : World) (o : w.ownsRow base 3 1 (.slice A n c) n (intCells l)) (h : 0 < n) (k : n ≤ 1000000000) :
    Calls Try.prog 83 #[.slice A n c] w (RetSorted w base n c A l) := by
  obtain ⟨g, rfl, hg, hb, hc⟩ := own_at o h
  have hn : l.length = n := by have := o.1; rw [intCells_length] at this; omega
  have hH : Holds (Value.int .i64) w g 0 l.toArray := by
    intro j hj
    have hj' : j < l.length := by simpa using hj
    have h1 := hc j (.int .i64 l[j]) (by simp [intCells, hj'])
    rw [add_plain] at h1
    refine ⟨?_, ?_⟩
    · rw [Nat.zero_add, h1]
      simp [hj']
    · rw [Nat.zero_add]
      rcases o.2 with ⟨h2, _⟩ | ⟨g', cap, cur, h2, _, hh, _⟩
      · cases h2
      · obtain ⟨rfl, _⟩ : g = g' ∧ c = cap := by simpa using h2
        simp [World.frozen?, hh]
  have hs := Any.slices_Sort_int sort_lays g 0 c l w hH hg (by omega)
  rw [hn] at hs
  refine Calls.mono hs ?_
  rintro e w' ⟨rfl, q, os, rfl⟩
  rw [Lib.sorted_world (Value.int .i64) w g 0 q l.toArray (l.mergeSort fun x y => decide (x ≤ y)) os hH (by simp)]
  have o1 : (w.drewN q).ownsRow base 3 1 (.slice (some ⟨g, 0, none⟩) n c) n (intCells l) := own_below o (below_drewN w q)
  obtain ⟨o2, g2⟩ := own_setCells (intCells (sortI l)) 0 _ _ o1 (by rw [intCells_length, intCells_length, sortI_length, Nat.zero_add])
  rw [List.take_zero, List.nil_append] at o2
  have hb3 : ∀ W : World, Below W.heap.size W (grow W os) := fun W => ⟨rfl, rfl, rfl, by simp, fun i hi => heap_grow_old W os hi⟩
  refine ⟨rfl, own_below o2 (hb3 _), ?_, .inl rfl⟩
  exact World.grownBy.trans (World.grownBy.trans (b := w.drewN q) ⟨rfl, rfl, rfl, Nat.le_refl _, fun _ _ _ => rfl⟩ g2) ⟨rfl, rfl, rfl, (hb3 _).size, fun i hi _ => (hb3 _).block i hi⟩
end Go.Proofs.Ytbmlkomfelkckaa
